import Derived.Test.YtdflfcgdfbihfaaDoorC5
import Derived.Deep.AppendLies
namespace Go.Proofs.YtdflfcgdfbihfaaDoor
open Go.RowKit CodeText
theorem noBlocks (a b : Nat) : ∀ k, (fun _ : Nat => False) k → a ≤ k ∧ k < b := fun _ h => False.elim h
theorem i9 : (Tryd.prog.info? 9).map (fun i => (i.zero, i.size, i.bytes)) = some (some (.string ⟨#[]⟩), 1, 16) := by kernel_rfl
theorem i4 : (Tryd.prog.info? 4).map (fun i => (i.zero, i.size, i.bytes)) = some (some (.bool false), 1, 1) := by kernel_rfl
theorem i3 : (Tryd.prog.info? 3).map (fun i => (i.zero, i.size, i.bytes)) = some (some (.int .i64 0), 1, 8) := by kernel_rfl
theorem i25 : (Tryd.prog.info? 25).map (fun i => (i.zero, i.size, i.bytes)) = some (some (.slice none 0 0), 1, 24) := by kernel_rfl
theorem i5 : (Tryd.prog.info? 5).map (fun i => (i.zero, i.size, i.bytes)) = some (some (.int .u8 0), 1, 1) := by kernel_rfl
theorem i54 : (Tryd.prog.info? 54).map (fun i => (i.zero, i.size, i.bytes)) = some (some (.agg #[.int .i64 0, .int .i64 0, .int .i64 0, .int .i64 0, .int .i64 0, .slice none 0 0]), 6, 64) := by kernel_rfl
theorem i35 : (Tryd.prog.info? 35).map (fun i => (i.zero, i.size, i.bytes)) = some (some (.agg #[.string ⟨#[]⟩, .slice none 0 0, .int .i64 0, .int .i64 0, .bool false, .slice none 0 0]), 6, 88) := by kernel_rfl

set_option maxRecDepth 100000 in
set_option maxHeartbeats 1600000 in
theorem some_flag (E : Addr) (R I : Nat) (s : St) (w : World) (h : Rd E R I w s) :
    Calls Tryd.prog 11 #[.pointer (some ⟨R, 0, none⟩), .func (.func 12) #[.pointer (some ⟨R, 0, none⟩)] #[]] w fun e w' => ∃ v S, e = .returned v ∧ RowV DBool 1 w' S v (rsome rflag s).1 ∧ (∀ k, S k → w.heap.size ≤ k ∧ k < w'.heap.size) ∧ Upd (RS R) w w' ∧ Rd E R I w' (rsome rflag s).2 := by
  obtain ⟨i0, hi, hz0, hz1, hz2⟩ := info_parts i4
  have hRw := h.lt
  have HR0 := Lib.hid h
  have cN := size_any E R I s w h
  have hm := rsize_le s
  have hsum : rsome rflag s = rloop rflag (rsize s).1 (rsize s).2 [] := rfl
  obtain ⟨⟨m, l, b⟩, hn⟩ : ∃ x, rsize s = x := ⟨_, rfl⟩
  rw [hn] at cN hm hsum
  simp only at cN hm hsum
  have HSUM := Lib.hid hsum
  clear hn h hsum
  go_enter Tryd.func11, Tryd.ntmps11
  go_wp2_with (with_reducible refine cN.mono ?_; rintro e w1 ⟨rfl, hsu, hr⟩; have HR := Lib.hid hr; have HU := Lib.hid hsu; have hfew := hr.few; clear hr hsu)
  go_loopw [8, 5] (fun i v wr => ∃ (j : Nat) (acc : List _) (S : Nat → Prop) (t : St), i = .int .i64 j ∧ j ≤ m ∧ acc.length = j ∧ rsome rflag s = rloop rflag (m - j) t acc ∧ OwnV DBool 1 4 w.heap.size wr S v acc ∧ Upd (RS R) w wr ∧ Rd E R I wr t) (fun i _ _ => m - (intOf i).toNat)
  case atStart =>
    have hsu := HU.out
    exact ⟨0, [], _, (l, b), rfl, by omega, rfl, by rw [HSUM.out]; rfl, OwnV.nil _ _ _ _ _, HU.out, HR.out⟩
  case round =>
    obtain ⟨j, acc, S, t, rfl, hj, hacc, hrun, hown, hsu, hr⟩ := hrel
    have hsz := hsu.size
    have HU := Lib.hid hsu
    have HR := Lib.hid hr
    have HO := Lib.hid hown
    have HRUN := Lib.hid hrun
    have HACC := Lib.hid hacc
    obtain ⟨v0, e0, k1, _, k3⟩ := hr.at_
    by_cases hlt : j < m
    · obtain ⟨d, hd⟩ : ∃ d, m - j = d + 1 := ⟨m - j - 1, by omega⟩
      obtain ⟨tl, tb⟩ := t
      cases tb with
      | true =>
        rcases k3 with ⟨k3, _⟩ | ⟨_, x, rfl⟩
        · cases k3
        have h1 : wr.cell? ⟨R, 1, none⟩ = some (.iface 78 (.agg #[.string x, short E])) := by simp [World.cell?, k1]
        have HS : Hid (rsome rflag s = ([], (tl, true))) := by
          show rsome rflag s = _
          rw [hrun, hd, rloop, if_pos rfl]
        clear hown hsu hr hrun hacc k1 hd
        go_wp2
        go_ret
        rw [HS.out]
        first | exact ⟨_, rfl, fun _ => False, RowV.nil _ _ _ _ _ _, fun _ h => h.elim, HU.out, HR.out⟩ | exact ⟨_, fun _ => False, rfl, RowV.nil _ _ _ _ _ _, fun _ h => h.elim, HU.out, HR.out⟩
      | false =>
        rcases k3 with ⟨_, rfl⟩ | ⟨k3, _⟩
        · have h1 : wr.cell? ⟨R, 1, none⟩ = some .nilIface := by simp [World.cell?, k1]
          have HS : Hid (rsome rflag s = rloop rflag (m - (j + 1)) (rflag (tl, false)).2 (acc ++ [(rflag (tl, false)).1])) := by
            show rsome rflag s = _
            rw [hrun, hd, rloop, if_neg (by simp), show m - (j + 1) = d by omega]
          have c1 := flag_any E R I (tl, false) wr HR.out
          obtain ⟨vss, g1, g2, g3, g4, g5⟩ := hown
          have hvl := fun k hk => (g3.lt k hk)
          rw [hacc] at g3
          obtain ⟨⟨x, t2⟩, hx⟩ : ∃ y, rflag (tl, false) = y := ⟨_, rfl⟩
          rw [hx] at c1 HS
          simp only at c1 HS
          have HF := Lib.hid g3
          have G1 := Lib.hid g1
          have G2 := Lib.hid g2
          have G4 := Lib.hid g4
          have G5 := Lib.hid g5
          have HV := Lib.hid hvl
          have HMJ := Lib.hid hfew
          have hjm : j ≤ 1000000 := by omega
          clear hsu hr hrun hacc k1 hd g1 g2 g3 g4 g5 hvl hx
          go_wp2_with (first | (with_reducible refine c1.mono ?_; rintro e w2 ⟨rfl, hu2, hr2⟩; have HU2 := Lib.hid hu2; have HR2 := Lib.hid hr2; have HF2 := Lib.hid (ownsRow_upd HF.out hu2 (fun k hk h0 => by have h1 := (HV.out k hk).1; unfold RS at h0; omega)); have hsz2 := hu2.size; have hS1 := Lib.hid (noBlocks wr.heap.size w2.heap.size); clear hu2 hr2) | (at_builtin; refine wpList_append_own_at _ rfl _ _ 25 rfl w.heap.size 4 i0 (.bool false) 1 1 Tryd.underlying25 hi hz0 hz1 hz2 rfl (by decide) _ _ _ rfl (HF2.out.alloc _) ⟨w2.heap.size, 0, none⟩ 1 1 [.bool x] rfl rfl ?c1 ?c2 ?c3 ?c4 ?c5 ?grow))
          case c1 => exact World.news_of_block (heap_alloc_new _ _)
          case c2 => intro u hu; simp at hu; subst hu; rfl
          case c3 => unfold maxLen; omega
          case c4 => omega
          case c5 => simp only [World.size_alloc]; omega
          case grow =>
            intro v' w3 hown1 hgrow _ hat
            have hB := HV.out
            have HO3 : Hid (OwnV DBool 1 4 w.heap.size w3 (fun k => S k ∨ (fun _ => False) k) v' (acc ++ [x])) := by
              have hg0 := hgrow
              have hua : Upd (fun _ => False) w2 (w2.alloc (.cells #[.bool x] 4)) := Upd.alloc _ _ _
              have hub := Upd.grown (S := fun k => _ = some k) hgrow (fun k hk => hk)
              refine OwnV.push (vss := vss) (w := wr) (w1 := w2.alloc (.cells #[.bool x] 4)) (vs := [.bool x]) stBool wdBool G1.out ?_ G4.out ?_ ?_ rfl ?_ hsz (fun k hk => (hB k hk).2) hub ?_ ?_
              · intro i hi
                obtain ⟨u, a1, a2, a3⟩ := G2.out i hi
                exact ⟨u, a1, a2, stBool _ _ _ _ _ _ (stBool _ _ _ _ _ _ a3 HU2.out (fun k hk _ hT => by have := (G5.out k hk).1; unfold RS at hT; omega)) hua (fun _ _ _ h => h)⟩
              · intro k hk
                have := G5.out k hk
                have h9 := HU2.out.size
                simp only [World.size_alloc]
                exact ⟨this.1, by omega⟩
              · exact stBool _ _ _ _ _ _ ((rfl : DBool w2 (fun _ => False) [.bool x] x)) hua (fun _ _ _ h => h)
              · intro k hk
                have := hS1.out k hk
                simp only [World.size_alloc]
                exact ⟨this.1, by omega⟩
              · rw [HACC.out]; exact hown1
              · rcases hat with hat | hat
                · exact .inl hat
                · exact .inr (fun k hk => by rw [hat] at hk; injection hk with hk; simp only [World.size_alloc]; omega)
            have hu3 : Upd (RS R) w w3 := by
              have hua : Upd (fun _ => False) w2 (w2.alloc (.cells #[.bool x] 4)) := Upd.alloc _ _ _
              have hub := Upd.grown (S := fun k => _ = some k) hgrow (fun k hk => hk)
              exact ((HU.out.trans HU2.out (fun _ _ h => h)).trans hua (fun _ _ h => h.elim)).trans hub (fun k hk h => by have := (hB k h).1; omega)
            have HU3 := Lib.hid hu3
            have HR3 : Hid (Rd E R I w3 t2) := by
              have hua : Upd (fun _ => False) w2 (w2.alloc (.cells #[.bool x] 4)) := Upd.alloc _ _ _
              have hub := Upd.grown (S := fun k => _ = some k) hgrow (fun k hk => hk)
              have hr0 := HR0.out
              have hIL := hr0.iL
              have h0L := World.block_lt_of_cell? _ _ hr0.glob
              exact (HR2.out.upd hua (fun h => h) (fun h => h) (fun h => h)).upd hub (fun h => by have := (hB _ h).1; omega) (fun h => by have := (hB _ h).1; omega) (fun h => by have := (hB _ h).1; simp at h0L; omega)
            clear hu3 hown1 hgrow hat hB
            go_wp2_with fail
            go_roundw
            case rel =>
              skip
              exact ⟨j + 1, acc ++ [x], _, t2, by go_num, by omega, by rw [List.length_append, HACC.out]; rfl, HS.out, HO3.out, HU3.out, HR3.out⟩
            case measure => simp [intOf]; omega
        · cases k3
    · have hj2 : j = m := by omega
      have HS : Hid (rsome rflag s = (acc, t)) := by
        show rsome rflag s = _
        rw [hrun, hj2, Nat.sub_self, rloop]
      clear hown hsu hr hrun hacc k1 k3
      go_wp2
      go_ret
      rw [HS.out]
      obtain ⟨S', a1, a2⟩ := HO.out.view wdBool
      first | exact ⟨_, rfl, S', a1, a2, HU.out, HR.out⟩ | exact ⟨_, S', rfl, a1, a2, HU.out, HR.out⟩

set_option maxRecDepth 100000 in
set_option maxHeartbeats 1600000 in
theorem some_int (E : Addr) (R I : Nat) (s : St) (w : World) (h : Rd E R I w s) :
    Calls Tryd.prog 20 #[.pointer (some ⟨R, 0, none⟩), .func (.func 17) #[.pointer (some ⟨R, 0, none⟩)] #[]] w fun e w' => ∃ v S, e = .returned v ∧ RowV DInt 1 w' S v (rsome rnum s).1 ∧ (∀ k, S k → w.heap.size ≤ k ∧ k < w'.heap.size) ∧ Upd (RS R) w w' ∧ Rd E R I w' (rsome rnum s).2 := by
  obtain ⟨i0, hi, hz0, hz1, hz2⟩ := info_parts i3
  have hRw := h.lt
  have HR0 := Lib.hid h
  have cN := size_any E R I s w h
  have hm := rsize_le s
  have hsum : rsome rnum s = rloop rnum (rsize s).1 (rsize s).2 [] := rfl
  obtain ⟨⟨m, l, b⟩, hn⟩ : ∃ x, rsize s = x := ⟨_, rfl⟩
  rw [hn] at cN hm hsum
  simp only at cN hm hsum
  have HSUM := Lib.hid hsum
  clear hn h hsum
  go_enter Tryd.func20, Tryd.ntmps20
  go_wp2_with (with_reducible refine cN.mono ?_; rintro e w1 ⟨rfl, hsu, hr⟩; have HR := Lib.hid hr; have HU := Lib.hid hsu; have hfew := hr.few; clear hr hsu)
  go_loopw [8, 5] (fun i v wr => ∃ (j : Nat) (acc : List _) (S : Nat → Prop) (t : St), i = .int .i64 j ∧ j ≤ m ∧ acc.length = j ∧ rsome rnum s = rloop rnum (m - j) t acc ∧ OwnV DInt 1 3 w.heap.size wr S v acc ∧ Upd (RS R) w wr ∧ Rd E R I wr t) (fun i _ _ => m - (intOf i).toNat)
  case atStart =>
    have hsu := HU.out
    exact ⟨0, [], _, (l, b), rfl, by omega, rfl, by rw [HSUM.out]; rfl, OwnV.nil _ _ _ _ _, HU.out, HR.out⟩
  case round =>
    obtain ⟨j, acc, S, t, rfl, hj, hacc, hrun, hown, hsu, hr⟩ := hrel
    have hsz := hsu.size
    have HU := Lib.hid hsu
    have HR := Lib.hid hr
    have HO := Lib.hid hown
    have HRUN := Lib.hid hrun
    have HACC := Lib.hid hacc
    obtain ⟨v0, e0, k1, _, k3⟩ := hr.at_
    by_cases hlt : j < m
    · obtain ⟨d, hd⟩ : ∃ d, m - j = d + 1 := ⟨m - j - 1, by omega⟩
      obtain ⟨tl, tb⟩ := t
      cases tb with
      | true =>
        rcases k3 with ⟨k3, _⟩ | ⟨_, x, rfl⟩
        · cases k3
        have h1 : wr.cell? ⟨R, 1, none⟩ = some (.iface 78 (.agg #[.string x, short E])) := by simp [World.cell?, k1]
        have HS : Hid (rsome rnum s = ([], (tl, true))) := by
          show rsome rnum s = _
          rw [hrun, hd, rloop, if_pos rfl]
        clear hown hsu hr hrun hacc k1 hd
        go_wp2
        go_ret
        rw [HS.out]
        first | exact ⟨_, rfl, fun _ => False, RowV.nil _ _ _ _ _ _, fun _ h => h.elim, HU.out, HR.out⟩ | exact ⟨_, fun _ => False, rfl, RowV.nil _ _ _ _ _ _, fun _ h => h.elim, HU.out, HR.out⟩
      | false =>
        rcases k3 with ⟨_, rfl⟩ | ⟨k3, _⟩
        · have h1 : wr.cell? ⟨R, 1, none⟩ = some .nilIface := by simp [World.cell?, k1]
          have HS : Hid (rsome rnum s = rloop rnum (m - (j + 1)) (rnum (tl, false)).2 (acc ++ [(rnum (tl, false)).1])) := by
            show rsome rnum s = _
            rw [hrun, hd, rloop, if_neg (by simp), show m - (j + 1) = d by omega]
          have c1 := num_any E R I (tl, false) wr HR.out
          obtain ⟨vss, g1, g2, g3, g4, g5⟩ := hown
          have hvl := fun k hk => (g3.lt k hk)
          rw [hacc] at g3
          obtain ⟨⟨x, t2⟩, hx⟩ : ∃ y, rnum (tl, false) = y := ⟨_, rfl⟩
          rw [hx] at c1 HS
          simp only at c1 HS
          have HF := Lib.hid g3
          have G1 := Lib.hid g1
          have G2 := Lib.hid g2
          have G4 := Lib.hid g4
          have G5 := Lib.hid g5
          have HV := Lib.hid hvl
          have HMJ := Lib.hid hfew
          have hjm : j ≤ 1000000 := by omega
          clear hsu hr hrun hacc k1 hd g1 g2 g3 g4 g5 hvl hx
          go_wp2_with (first | (with_reducible refine c1.mono ?_; rintro e w2 ⟨rfl, hu2, hr2⟩; have HU2 := Lib.hid hu2; have HR2 := Lib.hid hr2; have HF2 := Lib.hid (ownsRow_upd HF.out hu2 (fun k hk h0 => by have h1 := (HV.out k hk).1; unfold RS at h0; omega)); have hsz2 := hu2.size; have hS1 := Lib.hid (noBlocks wr.heap.size w2.heap.size); clear hu2 hr2) | (at_builtin; refine wpList_append_own_at _ rfl _ _ 52 rfl w.heap.size 3 i0 (.int .i64 0) 1 8 Tryd.underlying52 hi hz0 hz1 hz2 rfl (by decide) _ _ _ rfl (HF2.out.alloc _) ⟨w2.heap.size, 0, none⟩ 1 1 [.int .i64 x] rfl rfl ?c1 ?c2 ?c3 ?c4 ?c5 ?grow))
          case c1 => exact World.news_of_block (heap_alloc_new _ _)
          case c2 => intro u hu; simp at hu; subst hu; rfl
          case c3 => unfold maxLen; omega
          case c4 => omega
          case c5 => simp only [World.size_alloc]; omega
          case grow =>
            intro v' w3 hown1 hgrow _ hat
            have hB := HV.out
            have HO3 : Hid (OwnV DInt 1 3 w.heap.size w3 (fun k => S k ∨ (fun _ => False) k) v' (acc ++ [x])) := by
              have hg0 := hgrow
              have hua : Upd (fun _ => False) w2 (w2.alloc (.cells #[.int .i64 x] 3)) := Upd.alloc _ _ _
              have hub := Upd.grown (S := fun k => _ = some k) hgrow (fun k hk => hk)
              refine OwnV.push (vss := vss) (w := wr) (w1 := w2.alloc (.cells #[.int .i64 x] 3)) (vs := [.int .i64 x]) stInt wdInt G1.out ?_ G4.out ?_ ?_ rfl ?_ hsz (fun k hk => (hB k hk).2) hub ?_ ?_
              · intro i hi
                obtain ⟨u, a1, a2, a3⟩ := G2.out i hi
                exact ⟨u, a1, a2, stInt _ _ _ _ _ _ (stInt _ _ _ _ _ _ a3 HU2.out (fun k hk _ hT => by have := (G5.out k hk).1; unfold RS at hT; omega)) hua (fun _ _ _ h => h)⟩
              · intro k hk
                have := G5.out k hk
                have h9 := HU2.out.size
                simp only [World.size_alloc]
                exact ⟨this.1, by omega⟩
              · exact stInt _ _ _ _ _ _ ((rfl : DInt w2 (fun _ => False) [.int .i64 x] x)) hua (fun _ _ _ h => h)
              · intro k hk
                have := hS1.out k hk
                simp only [World.size_alloc]
                exact ⟨this.1, by omega⟩
              · rw [HACC.out]; exact hown1
              · rcases hat with hat | hat
                · exact .inl hat
                · exact .inr (fun k hk => by rw [hat] at hk; injection hk with hk; simp only [World.size_alloc]; omega)
            have hu3 : Upd (RS R) w w3 := by
              have hua : Upd (fun _ => False) w2 (w2.alloc (.cells #[.int .i64 x] 3)) := Upd.alloc _ _ _
              have hub := Upd.grown (S := fun k => _ = some k) hgrow (fun k hk => hk)
              exact ((HU.out.trans HU2.out (fun _ _ h => h)).trans hua (fun _ _ h => h.elim)).trans hub (fun k hk h => by have := (hB k h).1; omega)
            have HU3 := Lib.hid hu3
            have HR3 : Hid (Rd E R I w3 t2) := by
              have hua : Upd (fun _ => False) w2 (w2.alloc (.cells #[.int .i64 x] 3)) := Upd.alloc _ _ _
              have hub := Upd.grown (S := fun k => _ = some k) hgrow (fun k hk => hk)
              have hr0 := HR0.out
              have hIL := hr0.iL
              have h0L := World.block_lt_of_cell? _ _ hr0.glob
              exact (HR2.out.upd hua (fun h => h) (fun h => h) (fun h => h)).upd hub (fun h => by have := (hB _ h).1; omega) (fun h => by have := (hB _ h).1; omega) (fun h => by have := (hB _ h).1; simp at h0L; omega)
            clear hu3 hown1 hgrow hat hB
            go_wp2_with fail
            go_roundw
            case rel =>
              skip
              exact ⟨j + 1, acc ++ [x], _, t2, by go_num, by omega, by rw [List.length_append, HACC.out]; rfl, HS.out, HO3.out, HU3.out, HR3.out⟩
            case measure => simp [intOf]; omega
        · cases k3
    · have hj2 : j = m := by omega
      have HS : Hid (rsome rnum s = (acc, t)) := by
        show rsome rnum s = _
        rw [hrun, hj2, Nat.sub_self, rloop]
      clear hown hsu hr hrun hacc k1 k3
      go_wp2
      go_ret
      rw [HS.out]
      obtain ⟨S', a1, a2⟩ := HO.out.view wdInt
      first | exact ⟨_, rfl, S', a1, a2, HU.out, HR.out⟩ | exact ⟨_, S', rfl, a1, a2, HU.out, HR.out⟩

theorem text_plain (E : Addr) (R I : Nat) (s : St) (w : World) (h : Rd E R I w s) :
    Calls Tryd.prog 10 #[.pointer (some ⟨R, 0, none⟩)] w fun e w' => e = .returned (.string ⟨(rtext s).1.toArray⟩) ∧ Upd (RS R) w w' ∧ Rd E R I w' (rtext s).2 := text_any E R I s w h

set_option maxRecDepth 100000 in
set_option maxHeartbeats 1600000 in
theorem some_text (E : Addr) (R I : Nat) (s : St) (w : World) (h : Rd E R I w s) :
    Calls Tryd.prog 9 #[.pointer (some ⟨R, 0, none⟩), .func (.func 10) #[.pointer (some ⟨R, 0, none⟩)] #[]] w fun e w' => ∃ v S, e = .returned v ∧ RowV DStr 1 w' S v (rsome rtext s).1 ∧ (∀ k, S k → w.heap.size ≤ k ∧ k < w'.heap.size) ∧ Upd (RS R) w w' ∧ Rd E R I w' (rsome rtext s).2 := by
  obtain ⟨i0, hi, hz0, hz1, hz2⟩ := info_parts i9
  have hRw := h.lt
  have HR0 := Lib.hid h
  have cN := size_any E R I s w h
  have hm := rsize_le s
  have hsum : rsome rtext s = rloop rtext (rsize s).1 (rsize s).2 [] := rfl
  obtain ⟨⟨m, l, b⟩, hn⟩ : ∃ x, rsize s = x := ⟨_, rfl⟩
  rw [hn] at cN hm hsum
  simp only at cN hm hsum
  have HSUM := Lib.hid hsum
  clear hn h hsum
  go_enter Tryd.func9, Tryd.ntmps9
  go_wp2_with (with_reducible refine cN.mono ?_; rintro e w1 ⟨rfl, hsu, hr⟩; have HR := Lib.hid hr; have HU := Lib.hid hsu; have hfew := hr.few; clear hr hsu)
  go_loopw [8, 5] (fun i v wr => ∃ (j : Nat) (acc : List _) (S : Nat → Prop) (t : St), i = .int .i64 j ∧ j ≤ m ∧ acc.length = j ∧ rsome rtext s = rloop rtext (m - j) t acc ∧ OwnV DStr 1 9 w.heap.size wr S v acc ∧ Upd (RS R) w wr ∧ Rd E R I wr t) (fun i _ _ => m - (intOf i).toNat)
  case atStart =>
    have hsu := HU.out
    exact ⟨0, [], _, (l, b), rfl, by omega, rfl, by rw [HSUM.out]; rfl, OwnV.nil _ _ _ _ _, HU.out, HR.out⟩
  case round =>
    obtain ⟨j, acc, S, t, rfl, hj, hacc, hrun, hown, hsu, hr⟩ := hrel
    have hsz := hsu.size
    have HU := Lib.hid hsu
    have HR := Lib.hid hr
    have HO := Lib.hid hown
    have HRUN := Lib.hid hrun
    have HACC := Lib.hid hacc
    obtain ⟨v0, e0, k1, _, k3⟩ := hr.at_
    by_cases hlt : j < m
    · obtain ⟨d, hd⟩ : ∃ d, m - j = d + 1 := ⟨m - j - 1, by omega⟩
      obtain ⟨tl, tb⟩ := t
      cases tb with
      | true =>
        rcases k3 with ⟨k3, _⟩ | ⟨_, x, rfl⟩
        · cases k3
        have h1 : wr.cell? ⟨R, 1, none⟩ = some (.iface 78 (.agg #[.string x, short E])) := by simp [World.cell?, k1]
        have HS : Hid (rsome rtext s = ([], (tl, true))) := by
          show rsome rtext s = _
          rw [hrun, hd, rloop, if_pos rfl]
        clear hown hsu hr hrun hacc k1 hd
        go_wp2
        go_ret
        rw [HS.out]
        first | exact ⟨_, rfl, fun _ => False, RowV.nil _ _ _ _ _ _, fun _ h => h.elim, HU.out, HR.out⟩ | exact ⟨_, fun _ => False, rfl, RowV.nil _ _ _ _ _ _, fun _ h => h.elim, HU.out, HR.out⟩
      | false =>
        rcases k3 with ⟨_, rfl⟩ | ⟨k3, _⟩
        · have h1 : wr.cell? ⟨R, 1, none⟩ = some .nilIface := by simp [World.cell?, k1]
          have HS : Hid (rsome rtext s = rloop rtext (m - (j + 1)) (rtext (tl, false)).2 (acc ++ [(rtext (tl, false)).1])) := by
            show rsome rtext s = _
            rw [hrun, hd, rloop, if_neg (by simp), show m - (j + 1) = d by omega]
          have c1 := text_plain E R I (tl, false) wr HR.out
          obtain ⟨vss, g1, g2, g3, g4, g5⟩ := hown
          have hvl := fun k hk => (g3.lt k hk)
          rw [hacc] at g3
          obtain ⟨⟨x, t2⟩, hx⟩ : ∃ y, rtext (tl, false) = y := ⟨_, rfl⟩
          rw [hx] at c1 HS
          simp only at c1 HS
          have HF := Lib.hid g3
          have G1 := Lib.hid g1
          have G2 := Lib.hid g2
          have G4 := Lib.hid g4
          have G5 := Lib.hid g5
          have HV := Lib.hid hvl
          have HMJ := Lib.hid hfew
          have hjm : j ≤ 1000000 := by omega
          clear hsu hr hrun hacc k1 hd g1 g2 g3 g4 g5 hvl hx
          go_wp2_with (first | (with_reducible refine c1.mono ?_; rintro e w2 ⟨rfl, hu2, hr2⟩; have HU2 := Lib.hid hu2; have HR2 := Lib.hid hr2; have HF2 := Lib.hid (ownsRow_upd HF.out hu2 (fun k hk h0 => by have h1 := (HV.out k hk).1; unfold RS at h0; omega)); have hsz2 := hu2.size; have hS1 := Lib.hid (noBlocks wr.heap.size w2.heap.size); clear hu2 hr2) | (at_builtin; refine wpList_append_own_at _ rfl _ _ 24 rfl w.heap.size 9 i0 (.string ⟨#[]⟩) 1 16 Tryd.underlying24 hi hz0 hz1 hz2 rfl (by decide) _ _ _ rfl (HF2.out.alloc _) ⟨w2.heap.size, 0, none⟩ 1 1 [.string ⟨x.toArray⟩] rfl rfl ?c1 ?c2 ?c3 ?c4 ?c5 ?grow))
          case c1 => exact World.news_of_block (heap_alloc_new _ _)
          case c2 => intro u hu; simp at hu; subst hu; rfl
          case c3 => unfold maxLen; omega
          case c4 => omega
          case c5 => simp only [World.size_alloc]; omega
          case grow =>
            intro v' w3 hown1 hgrow _ hat
            have hB := HV.out
            have HO3 : Hid (OwnV DStr 1 9 w.heap.size w3 (fun k => S k ∨ (fun _ => False) k) v' (acc ++ [x])) := by
              have hg0 := hgrow
              have hua : Upd (fun _ => False) w2 (w2.alloc (.cells #[.string ⟨x.toArray⟩] 9)) := Upd.alloc _ _ _
              have hub := Upd.grown (S := fun k => _ = some k) hgrow (fun k hk => hk)
              refine OwnV.push (vss := vss) (w := wr) (w1 := w2.alloc (.cells #[.string ⟨x.toArray⟩] 9)) (vs := [.string ⟨x.toArray⟩]) stStr wdStr G1.out ?_ G4.out ?_ ?_ rfl ?_ hsz (fun k hk => (hB k hk).2) hub ?_ ?_
              · intro i hi
                obtain ⟨u, a1, a2, a3⟩ := G2.out i hi
                exact ⟨u, a1, a2, stStr _ _ _ _ _ _ (stStr _ _ _ _ _ _ a3 HU2.out (fun k hk _ hT => by have := (G5.out k hk).1; unfold RS at hT; omega)) hua (fun _ _ _ h => h)⟩
              · intro k hk
                have := G5.out k hk
                have h9 := HU2.out.size
                simp only [World.size_alloc]
                exact ⟨this.1, by omega⟩
              · exact stStr _ _ _ _ _ _ ((rfl : DStr w2 (fun _ => False) [.string ⟨x.toArray⟩] x)) hua (fun _ _ _ h => h)
              · intro k hk
                have := hS1.out k hk
                simp only [World.size_alloc]
                exact ⟨this.1, by omega⟩
              · rw [HACC.out]; exact hown1
              · rcases hat with hat | hat
                · exact .inl hat
                · exact .inr (fun k hk => by rw [hat] at hk; injection hk with hk; simp only [World.size_alloc]; omega)
            have hu3 : Upd (RS R) w w3 := by
              have hua : Upd (fun _ => False) w2 (w2.alloc (.cells #[.string ⟨x.toArray⟩] 9)) := Upd.alloc _ _ _
              have hub := Upd.grown (S := fun k => _ = some k) hgrow (fun k hk => hk)
              exact ((HU.out.trans HU2.out (fun _ _ h => h)).trans hua (fun _ _ h => h.elim)).trans hub (fun k hk h => by have := (hB k h).1; omega)
            have HU3 := Lib.hid hu3
            have HR3 : Hid (Rd E R I w3 t2) := by
              have hua : Upd (fun _ => False) w2 (w2.alloc (.cells #[.string ⟨x.toArray⟩] 9)) := Upd.alloc _ _ _
              have hub := Upd.grown (S := fun k => _ = some k) hgrow (fun k hk => hk)
              have hr0 := HR0.out
              have hIL := hr0.iL
              have h0L := World.block_lt_of_cell? _ _ hr0.glob
              exact (HR2.out.upd hua (fun h => h) (fun h => h) (fun h => h)).upd hub (fun h => by have := (hB _ h).1; omega) (fun h => by have := (hB _ h).1; omega) (fun h => by have := (hB _ h).1; simp at h0L; omega)
            clear hu3 hown1 hgrow hat hB
            go_wp2_with fail
            go_roundw
            case rel =>
              skip
              exact ⟨j + 1, acc ++ [x], _, t2, by go_num, by omega, by rw [List.length_append, HACC.out]; rfl, HS.out, HO3.out, HU3.out, HR3.out⟩
            case measure => simp [intOf]; omega
        · cases k3
    · have hj2 : j = m := by omega
      have HS : Hid (rsome rtext s = (acc, t)) := by
        show rsome rtext s = _
        rw [hrun, hj2, Nat.sub_self, rloop]
      clear hown hsu hr hrun hacc k1 k3
      go_wp2
      go_ret
      rw [HS.out]
      obtain ⟨S', a1, a2⟩ := HO.out.view wdStr
      first | exact ⟨_, rfl, S', a1, a2, HU.out, HR.out⟩ | exact ⟨_, S', rfl, a1, a2, HU.out, HR.out⟩

/-- The closure that reads flags. -/
theorem flags_any (E : Addr) (R I C : Nat) (s : St) (w : World) (h : Rd E R I w s) (hC : w.cell? ⟨C, 0, none⟩ = some (.pointer (some ⟨R, 0, none⟩))) :
    Calls Tryd.prog 14 #[.pointer (some ⟨C, 0, none⟩)] w fun e w' => ∃ v S, e = .returned v ∧ RowV DBool 1 w' S v (rsome rflag s).1 ∧ (∀ k, S k → w.heap.size ≤ k ∧ k < w'.heap.size) ∧ Upd (RS R) w w' ∧ Rd E R I w' (rsome rflag s).2 := by
  have c := some_flag E R I s w h
  clear h
  go_enter Tryd.func14, Tryd.ntmps14
  go_wp2_with (with_reducible refine c.mono ?_; rintro e w' ⟨v, S, rfl, h1, h2, h3, h4⟩; have H1 := Lib.hid h1; have H2 := Lib.hid h2; have H3 := Lib.hid h3; have H4 := Lib.hid h4; clear h1 h2 h3 h4)
  go_ret
  first | exact ⟨_, rfl, S, H1.out, H2.out, H3.out, H4.out⟩ | exact ⟨_, S, rfl, H1.out, H2.out, H3.out, H4.out⟩

theorem flags_sl (E : Addr) (R I C : Nat) (s : St) (w : World) (h : Rd E R I w s) (hC : w.cell? ⟨C, 0, none⟩ = some (.pointer (some ⟨R, 0, none⟩))) :
    Calls Tryd.prog 14 #[.pointer (some ⟨C, 0, none⟩)] w fun e w' => ∃ la lc S, e = .returned (.slice la (rsome rflag s).1.length lc) ∧ RowV DBool 1 w' S (.slice la (rsome rflag s).1.length lc) (rsome rflag s).1 ∧ (∀ k, S k → w.heap.size ≤ k ∧ k < w'.heap.size) ∧ Upd (RS R) w w' ∧ Rd E R I w' (rsome rflag s).2 := by
  refine (flags_any E R I C s w h hC).mono ?_
  rintro e w' ⟨v, S, rfl, ⟨la, lc, rfl, h1⟩, h2⟩
  exact ⟨la, lc, S, rfl, ⟨la, lc, rfl, h1⟩, h2⟩

set_option maxRecDepth 100000 in
set_option maxHeartbeats 1600000 in
theorem some_flags (E : Addr) (R I : Nat) (s : St) (w : World) (h : Rd E R I w s) (C : Nat) (hC : w.cell? ⟨C, 0, none⟩ = some (.pointer (some ⟨R, 0, none⟩))) (hCR : C ≠ R) :
    Calls Tryd.prog 13 #[.pointer (some ⟨R, 0, none⟩), .func (.func 14) #[] #[.pointer (some ⟨C, 0, none⟩)]] w fun e w' => ∃ v S, e = .returned v ∧ RowV DFlags 1 w' S v (rsome (rsome rflag) s).1 ∧ (∀ k, S k → w.heap.size ≤ k ∧ k < w'.heap.size) ∧ Upd (RS R) w w' ∧ Rd E R I w' (rsome (rsome rflag) s).2 := by
  obtain ⟨i0, hi, hz0, hz1, hz2⟩ := info_parts i25
  have hRw := h.lt
  have HR0 := Lib.hid h
  have cN := size_any E R I s w h
  have hm := rsize_le s
  have hsum : rsome (rsome rflag) s = rloop (rsome rflag) (rsize s).1 (rsize s).2 [] := rfl
  obtain ⟨⟨m, l, b⟩, hn⟩ : ∃ x, rsize s = x := ⟨_, rfl⟩
  rw [hn] at cN hm hsum
  simp only at cN hm hsum
  have HSUM := Lib.hid hsum
  clear hn h hsum
  go_enter Tryd.func13, Tryd.ntmps13
  go_wp2_with (with_reducible refine cN.mono ?_; rintro e w1 ⟨rfl, hsu, hr⟩; have HR := Lib.hid hr; have HU := Lib.hid hsu; have hfew := hr.few; clear hr hsu)
  go_loopw [8, 5] (fun i v wr => ∃ (j : Nat) (acc : List _) (S : Nat → Prop) (t : St), i = .int .i64 j ∧ j ≤ m ∧ acc.length = j ∧ rsome (rsome rflag) s = rloop (rsome rflag) (m - j) t acc ∧ OwnV DFlags 1 25 w.heap.size wr S v acc ∧ Upd (RS R) w wr ∧ Rd E R I wr t ∧ wr.cell? ⟨C, 0, none⟩ = some (.pointer (some ⟨R, 0, none⟩))) (fun i _ _ => m - (intOf i).toNat)
  case atStart =>
    have hsu := HU.out
    exact ⟨0, [], _, (l, b), rfl, by omega, rfl, by rw [HSUM.out]; rfl, OwnV.nil _ _ _ _ _, HU.out, HR.out, hsu.cell hC (fun h0 => hCR h0)⟩
  case round =>
    obtain ⟨j, acc, S, t, rfl, hj, hacc, hrun, hown, hsu, hr, hCw⟩ := hrel
    have hsz := hsu.size
    have HU := Lib.hid hsu
    have HR := Lib.hid hr
    have HO := Lib.hid hown
    have HRUN := Lib.hid hrun
    have HACC := Lib.hid hacc
    obtain ⟨v0, e0, k1, _, k3⟩ := hr.at_
    by_cases hlt : j < m
    · obtain ⟨d, hd⟩ : ∃ d, m - j = d + 1 := ⟨m - j - 1, by omega⟩
      obtain ⟨tl, tb⟩ := t
      cases tb with
      | true =>
        rcases k3 with ⟨k3, _⟩ | ⟨_, x, rfl⟩
        · cases k3
        have h1 : wr.cell? ⟨R, 1, none⟩ = some (.iface 78 (.agg #[.string x, short E])) := by simp [World.cell?, k1]
        have HS : Hid (rsome (rsome rflag) s = ([], (tl, true))) := by
          show rsome (rsome rflag) s = _
          rw [hrun, hd, rloop, if_pos rfl]
        clear hown hsu hr hrun hacc k1 hd
        go_wp2
        go_ret
        rw [HS.out]
        first | exact ⟨_, rfl, fun _ => False, RowV.nil _ _ _ _ _ _, fun _ h => h.elim, HU.out, HR.out⟩ | exact ⟨_, fun _ => False, rfl, RowV.nil _ _ _ _ _ _, fun _ h => h.elim, HU.out, HR.out⟩
      | false =>
        rcases k3 with ⟨_, rfl⟩ | ⟨k3, _⟩
        · have h1 : wr.cell? ⟨R, 1, none⟩ = some .nilIface := by simp [World.cell?, k1]
          have HS : Hid (rsome (rsome rflag) s = rloop (rsome rflag) (m - (j + 1)) ((rsome rflag) (tl, false)).2 (acc ++ [((rsome rflag) (tl, false)).1])) := by
            show rsome (rsome rflag) s = _
            rw [hrun, hd, rloop, if_neg (by simp), show m - (j + 1) = d by omega]
          have c1 := flags_sl E R I C (tl, false) wr HR.out hCw
          obtain ⟨vss, g1, g2, g3, g4, g5⟩ := hown
          have hvl := fun k hk => (g3.lt k hk)
          rw [hacc] at g3
          obtain ⟨⟨x, t2⟩, hx⟩ : ∃ y, (rsome rflag) (tl, false) = y := ⟨_, rfl⟩
          rw [hx] at c1 HS
          simp only at c1 HS
          have HF := Lib.hid g3
          have G1 := Lib.hid g1
          have G2 := Lib.hid g2
          have G4 := Lib.hid g4
          have G5 := Lib.hid g5
          have HV := Lib.hid hvl
          have HMJ := Lib.hid hfew
          have hjm : j ≤ 1000000 := by omega
          clear hsu hr hrun hacc k1 hd g1 g2 g3 g4 g5 hvl hx
          go_wp2_with (first | (with_reducible refine c1.mono ?_; rintro e w2 ⟨la, lc, S1, rfl, hrow, hfr, hu2, hr2⟩; have HU2 := Lib.hid hu2; have HR2 := Lib.hid hr2; have HF2 := Lib.hid (ownsRow_upd HF.out hu2 (fun k hk h0 => by have h1 := (HV.out k hk).1; unfold RS at h0; omega)); have hsz2 := hu2.size; have HL := Lib.hid hrow; have hS1 := Lib.hid hfr; clear hu2 hr2 hrow hfr) | (at_builtin; refine wpList_append_own_at _ rfl _ _ 26 rfl w.heap.size 25 i0 (.slice none 0 0) 1 24 Tryd.underlying26 hi hz0 hz1 hz2 rfl (by decide) _ _ _ rfl (HF2.out.alloc _) ⟨w2.heap.size, 0, none⟩ 1 1 [.slice la x.length lc] rfl rfl ?c1 ?c2 ?c3 ?c4 ?c5 ?grow))
          case c1 => exact World.news_of_block (heap_alloc_new _ _)
          case c2 => intro u hu; simp at hu; subst hu; rfl
          case c3 => unfold maxLen; omega
          case c4 => omega
          case c5 => simp only [World.size_alloc]; omega
          case grow =>
            intro v' w3 hown1 hgrow _ hat
            have hB := HV.out
            have HO3 : Hid (OwnV DFlags 1 25 w.heap.size w3 (fun k => S k ∨ S1 k) v' (acc ++ [x])) := by
              have hg0 := hgrow
              have hua : Upd (fun _ => False) w2 (w2.alloc (.cells #[.slice la x.length lc] 25)) := Upd.alloc _ _ _
              have hub := Upd.grown (S := fun k => _ = some k) hgrow (fun k hk => hk)
              refine OwnV.push (vss := vss) (w := wr) (w1 := w2.alloc (.cells #[.slice la x.length lc] 25)) (vs := [.slice la x.length lc]) stFlags wdFlags G1.out ?_ G4.out ?_ ?_ rfl ?_ hsz (fun k hk => (hB k hk).2) hub ?_ ?_
              · intro i hi
                obtain ⟨u, a1, a2, a3⟩ := G2.out i hi
                exact ⟨u, a1, a2, stFlags _ _ _ _ _ _ (stFlags _ _ _ _ _ _ a3 HU2.out (fun k hk _ hT => by have := (G5.out k hk).1; unfold RS at hT; omega)) hua (fun _ _ _ h => h)⟩
              · intro k hk
                have := G5.out k hk
                have h9 := HU2.out.size
                simp only [World.size_alloc]
                exact ⟨this.1, by omega⟩
              · exact stFlags _ _ _ _ _ _ ((⟨_, rfl, HL.out⟩ : DFlags w2 S1 [.slice la x.length lc] x)) hua (fun _ _ _ h => h)
              · intro k hk
                have := hS1.out k hk
                simp only [World.size_alloc]
                exact ⟨this.1, by omega⟩
              · rw [HACC.out]; exact hown1
              · rcases hat with hat | hat
                · exact .inl hat
                · exact .inr (fun k hk => by rw [hat] at hk; injection hk with hk; simp only [World.size_alloc]; omega)
            have hu3 : Upd (RS R) w w3 := by
              have hua : Upd (fun _ => False) w2 (w2.alloc (.cells #[.slice la x.length lc] 25)) := Upd.alloc _ _ _
              have hub := Upd.grown (S := fun k => _ = some k) hgrow (fun k hk => hk)
              exact ((HU.out.trans HU2.out (fun _ _ h => h)).trans hua (fun _ _ h => h.elim)).trans hub (fun k hk h => by have := (hB k h).1; omega)
            have HU3 := Lib.hid hu3
            have HR3 : Hid (Rd E R I w3 t2) := by
              have hua : Upd (fun _ => False) w2 (w2.alloc (.cells #[.slice la x.length lc] 25)) := Upd.alloc _ _ _
              have hub := Upd.grown (S := fun k => _ = some k) hgrow (fun k hk => hk)
              have hr0 := HR0.out
              have hIL := hr0.iL
              have h0L := World.block_lt_of_cell? _ _ hr0.glob
              exact (HR2.out.upd hua (fun h => h) (fun h => h) (fun h => h)).upd hub (fun h => by have := (hB _ h).1; omega) (fun h => by have := (hB _ h).1; omega) (fun h => by have := (hB _ h).1; simp at h0L; omega)
            clear hu3 hown1 hgrow hat hB
            go_wp2_with fail
            go_roundw
            case rel =>
              have hsu := HU3.out
              exact ⟨j + 1, acc ++ [x], _, t2, by go_num, by omega, by rw [List.length_append, HACC.out]; rfl, HS.out, HO3.out, HU3.out, HR3.out, hsu.cell hC (fun h0 => hCR h0)⟩
            case measure => simp [intOf]; omega
        · cases k3
    · have hj2 : j = m := by omega
      have HS : Hid (rsome (rsome rflag) s = (acc, t)) := by
        show rsome (rsome rflag) s = _
        rw [hrun, hj2, Nat.sub_self, rloop]
      clear hown hsu hr hrun hacc k1 k3
      go_wp2
      go_ret
      rw [HS.out]
      obtain ⟨S', a1, a2⟩ := HO.out.view wdFlags
      first | exact ⟨_, rfl, S', a1, a2, HU.out, HR.out⟩ | exact ⟨_, S', rfl, a1, a2, HU.out, HR.out⟩

end Go.Proofs.YtdflfcgdfbihfaaDoor
