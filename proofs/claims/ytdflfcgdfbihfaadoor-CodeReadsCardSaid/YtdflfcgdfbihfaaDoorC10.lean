import Derived.Test.YtdflfcgdfbihfaaDoorC9
namespace Go.Proofs.YtdflfcgdfbihfaaDoor
open Go.RowKit CodeText

set_option maxRecDepth 100000 in
set_option maxHeartbeats 1600000 in
theorem some_fn (E : Addr) (R I : Nat) (s : St) (w : World) (h : Rd E R I w s) (C : Nat) (hC : w.cell? ⟨C, 0, none⟩ = some (.pointer (some ⟨R, 0, none⟩))) (hCR : C ≠ R) :
    Calls Tryd.prog 15 #[.pointer (some ⟨R, 0, none⟩), .func (.func 16) #[] #[.pointer (some ⟨C, 0, none⟩)]] w fun e w' => ∃ v S, e = .returned v ∧ RowV DFn 6 w' S v (rsome rfn s).1 ∧ (∀ k, S k → w.heap.size ≤ k ∧ k < w'.heap.size) ∧ Upd (RS R) w w' ∧ Rd E R I w' (rsome rfn s).2 := by
  obtain ⟨i0, hi, hz0, hz1, hz2⟩ := info_parts i35
  have hRw := h.lt
  have HR0 := Lib.hid h
  have cN := size_any E R I s w h
  have hm := rsize_le s
  have hsum : rsome rfn s = rloop rfn (rsize s).1 (rsize s).2 [] := rfl
  obtain ⟨⟨m, l, b⟩, hn⟩ : ∃ x, rsize s = x := ⟨_, rfl⟩
  rw [hn] at cN hm hsum
  simp only at cN hm hsum
  have HSUM := Lib.hid hsum
  clear hn h hsum
  go_enter Tryd.func15, Tryd.ntmps15
  go_wp2_with (with_reducible refine cN.mono ?_; rintro e w1 ⟨rfl, hsu, hr⟩; have HR := Lib.hid hr; have HU := Lib.hid hsu; have hfew := hr.few; clear hr hsu)
  go_loopw [8, 5] (fun i v wr => ∃ (j : Nat) (acc : List _) (S : Nat → Prop) (t : St), i = .int .i64 j ∧ j ≤ m ∧ acc.length = j ∧ rsome rfn s = rloop rfn (m - j) t acc ∧ OwnV DFn 6 35 w.heap.size wr S v acc ∧ Upd (RS R) w wr ∧ Rd E R I wr t ∧ wr.cell? ⟨C, 0, none⟩ = some (.pointer (some ⟨R, 0, none⟩))) (fun i _ _ => m - (intOf i).toNat)
  case atStart =>
    have hsu := HU.out
    exact ⟨0, [], _, (l, b), rfl, by omega, rfl, by rw [HSUM.out]; rfl, OwnV.nil _ _ _ _ _, HU.out, HR.out, hsu.cell hC (fun h0 => hCR h0)⟩
  case round =>
    obtain ⟨j, acc, S, t, rfl, hj, hacc, hrun, hown, hsu, hr, hCw⟩ := hrel
    have hsz := hsu.size
    have HU := Lib.hid hsu
    have HR := Lib.hid hr
    have HO := Lib.hid hown
    have HRUN := Lib.hid hrun
    have HACC := Lib.hid hacc
    obtain ⟨v0, e0, k1, _, k3⟩ := hr.at_
    by_cases hlt : j < m
    · obtain ⟨d, hd⟩ : ∃ d, m - j = d + 1 := ⟨m - j - 1, by omega⟩
      obtain ⟨tl, tb⟩ := t
      cases tb with
      | true =>
        rcases k3 with ⟨k3, _⟩ | ⟨_, x, rfl⟩
        · cases k3
        have h1 : wr.cell? ⟨R, 1, none⟩ = some (.iface 78 (.agg #[.string x, short E])) := by simp [World.cell?, k1]
        have HS : Hid (rsome rfn s = ([], (tl, true))) := by
          show rsome rfn s = _
          rw [hrun, hd, rloop, if_pos rfl]
        clear hown hsu hr hrun hacc k1 hd
        go_wp2
        go_ret
        rw [HS.out]
        first | exact ⟨_, rfl, fun _ => False, RowV.nil _ _ _ _ _ _, fun _ h => h.elim, HU.out, HR.out⟩ | exact ⟨_, fun _ => False, rfl, RowV.nil _ _ _ _ _ _, fun _ h => h.elim, HU.out, HR.out⟩
      | false =>
        rcases k3 with ⟨_, rfl⟩ | ⟨k3, _⟩
        · have h1 : wr.cell? ⟨R, 1, none⟩ = some .nilIface := by simp [World.cell?, k1]
          have HS : Hid (rsome rfn s = rloop rfn (m - (j + 1)) (rfn (tl, false)).2 (acc ++ [(rfn (tl, false)).1])) := by
            show rsome rfn s = _
            rw [hrun, hd, rloop, if_neg (by simp), show m - (j + 1) = d by omega]
          have c1 := fn_any E R I C (tl, false) wr ⟨HR.out, hCw, hCR⟩
          obtain ⟨vss, g1, g2, g3, g4, g5⟩ := hown
          have hvl := fun k hk => (g3.lt k hk)
          rw [hacc] at g3
          obtain ⟨⟨x, t2⟩, hx⟩ : ∃ y, rfn (tl, false) = y := ⟨_, rfl⟩
          rw [hx] at c1 HS
          simp only at c1 HS
          have HF := Lib.hid g3
          have G1 := Lib.hid g1
          have G2 := Lib.hid g2
          have G4 := Lib.hid g4
          have G5 := Lib.hid g5
          have HV := Lib.hid hvl
          have HMJ := Lib.hid hfew
          have hjm : j ≤ 1000000 := by omega
          clear hsu hr hrun hacc k1 hd g1 g2 g3 g4 g5 hvl hx
          go_wp2_with (first | (with_reducible refine c1.mono ?_; rintro e w2 ⟨ra, rc, ka, kc, S1, rfl, hrow, hrow2, hfr, hu2, hr2⟩; have HU2 := Lib.hid hu2; have HR2 := Lib.hid hr2; have HF2 := Lib.hid (ownsRow_upd HF.out hu2 (fun k hk h0 => by have h1 := (HV.out k hk).1; unfold RS at h0; omega)); have hsz2 := hu2.size; have HL := Lib.hid hrow; have HL2 := Lib.hid hrow2; have hS1 := Lib.hid hfr; clear hu2 hr2 hrow hrow2 hfr) | (at_builtin; refine wpList_append_own_at _ rfl _ _ 27 rfl w.heap.size 35 i0 (.agg #[.string ⟨#[]⟩, .slice none 0 0, .int .i64 0, .int .i64 0, .bool false, .slice none 0 0]) 6 88 Tryd.underlying27 hi hz0 hz1 hz2 rfl (by decide) _ _ _ rfl (HF2.out.alloc _) ⟨w2.heap.size, 0, none⟩ 1 1 [.string ⟨x.name.toArray⟩, .slice ra x.refs.length rc, .int .i64 x.params, .int .i64 x.captures, .bool x.result, .slice ka x.code.length kc] rfl rfl ?c1 ?c2 ?c3 ?c4 ?c5 ?grow))
          case c1 => exact World.news_of_block (heap_alloc_new _ _)
          case c2 => intro u hu; simp at hu; rcases hu with rfl | rfl | rfl | rfl | rfl | rfl <;> rfl
          case c3 => unfold maxLen; omega
          case c4 => omega
          case c5 => simp only [World.size_alloc]; omega
          case grow =>
            intro v' w3 hown1 hgrow _ hat
            have hB := HV.out
            have HO3 : Hid (OwnV DFn 6 35 w.heap.size w3 (fun k => S k ∨ S1 k) v' (acc ++ [x])) := by
              have hg0 := hgrow
              have hua : Upd (fun _ => False) w2 (w2.alloc (.cells #[.string ⟨x.name.toArray⟩, .slice ra x.refs.length rc, .int .i64 x.params, .int .i64 x.captures, .bool x.result, .slice ka x.code.length kc] 35)) := Upd.alloc _ _ _
              have hub := Upd.grown (S := fun k => _ = some k) hgrow (fun k hk => hk)
              refine OwnV.push (vss := vss) (w := wr) (w1 := w2.alloc (.cells #[.string ⟨x.name.toArray⟩, .slice ra x.refs.length rc, .int .i64 x.params, .int .i64 x.captures, .bool x.result, .slice ka x.code.length kc] 35)) (vs := [.string ⟨x.name.toArray⟩, .slice ra x.refs.length rc, .int .i64 x.params, .int .i64 x.captures, .bool x.result, .slice ka x.code.length kc]) stFn wdFn G1.out ?_ G4.out ?_ ?_ rfl ?_ hsz (fun k hk => (hB k hk).2) hub ?_ ?_
              · intro i hi
                obtain ⟨u, a1, a2, a3⟩ := G2.out i hi
                exact ⟨u, a1, a2, stFn _ _ _ _ _ _ (stFn _ _ _ _ _ _ a3 HU2.out (fun k hk _ hT => by have := (G5.out k hk).1; unfold RS at hT; omega)) hua (fun _ _ _ h => h)⟩
              · intro k hk
                have := G5.out k hk
                have h9 := HU2.out.size
                simp only [World.size_alloc]
                exact ⟨this.1, by omega⟩
              · exact stFn _ _ _ _ _ _ ((⟨_, _, rfl, HL.out, HL2.out⟩ : DFn w2 S1 [.string ⟨x.name.toArray⟩, .slice ra x.refs.length rc, .int .i64 x.params, .int .i64 x.captures, .bool x.result, .slice ka x.code.length kc] x)) hua (fun _ _ _ h => h)
              · intro k hk
                have := hS1.out k hk
                simp only [World.size_alloc]
                exact ⟨this.1, by omega⟩
              · rw [HACC.out]; exact hown1
              · rcases hat with hat | hat
                · exact .inl hat
                · exact .inr (fun k hk => by rw [hat] at hk; injection hk with hk; simp only [World.size_alloc]; omega)
            have hu3 : Upd (RS R) w w3 := by
              have hua : Upd (fun _ => False) w2 (w2.alloc (.cells #[.string ⟨x.name.toArray⟩, .slice ra x.refs.length rc, .int .i64 x.params, .int .i64 x.captures, .bool x.result, .slice ka x.code.length kc] 35)) := Upd.alloc _ _ _
              have hub := Upd.grown (S := fun k => _ = some k) hgrow (fun k hk => hk)
              exact ((HU.out.trans HU2.out (fun _ _ h => h)).trans hua (fun _ _ h => h.elim)).trans hub (fun k hk h => by have := (hB k h).1; omega)
            have HU3 := Lib.hid hu3
            have HR3 : Hid (Rd E R I w3 t2) := by
              have hua : Upd (fun _ => False) w2 (w2.alloc (.cells #[.string ⟨x.name.toArray⟩, .slice ra x.refs.length rc, .int .i64 x.params, .int .i64 x.captures, .bool x.result, .slice ka x.code.length kc] 35)) := Upd.alloc _ _ _
              have hub := Upd.grown (S := fun k => _ = some k) hgrow (fun k hk => hk)
              have hr0 := HR0.out
              have hIL := hr0.iL
              have h0L := World.block_lt_of_cell? _ _ hr0.glob
              exact (HR2.out.upd hua (fun h => h) (fun h => h) (fun h => h)).upd hub (fun h => by have := (hB _ h).1; omega) (fun h => by have := (hB _ h).1; omega) (fun h => by have := (hB _ h).1; simp at h0L; omega)
            clear hu3 hown1 hgrow hat hB
            go_wp2_with fail
            go_roundw
            case rel =>
              have hsu := HU3.out
              exact ⟨j + 1, acc ++ [x], _, t2, by go_num, by omega, by rw [List.length_append, HACC.out]; rfl, HS.out, HO3.out, HU3.out, HR3.out, hsu.cell hC (fun h0 => hCR h0)⟩
            case measure => simp [intOf]; omega
        · cases k3
    · have hj2 : j = m := by omega
      have HS : Hid (rsome rfn s = (acc, t)) := by
        show rsome rfn s = _
        rw [hrun, hj2, Nat.sub_self, rloop]
      clear hown hsu hr hrun hacc k1 k3
      go_wp2
      go_ret
      rw [HS.out]
      obtain ⟨S', a1, a2⟩ := HO.out.view wdFn
      first | exact ⟨_, rfl, S', a1, a2, HU.out, HR.out⟩ | exact ⟨_, S', rfl, a1, a2, HU.out, HR.out⟩

theorem some_fn_sl (E : Addr) (R I : Nat) (s : St) (w : World) (h : Rd E R I w s) (C : Nat) (hC : w.cell? ⟨C, 0, none⟩ = some (.pointer (some ⟨R, 0, none⟩))) (hCR : C ≠ R) :
    Calls Tryd.prog 15 #[.pointer (some ⟨R, 0, none⟩), .func (.func 16) #[] #[.pointer (some ⟨C, 0, none⟩)]] w fun e w' => ∃ la lc S, e = .returned (.slice la (rsome rfn s).1.length lc) ∧ RowV DFn 6 w' S (.slice la (rsome rfn s).1.length lc) (rsome rfn s).1 ∧ (∀ k, S k → w.heap.size ≤ k ∧ k < w'.heap.size) ∧ Upd (RS R) w w' ∧ Rd E R I w' (rsome rfn s).2 := by
  refine (some_fn E R I s w h C hC hCR).mono ?_
  rintro e w' ⟨v, S, rfl, ⟨la, lc, rfl, h1⟩, h2⟩
  exact ⟨la, lc, S, rfl, ⟨la, lc, rfl, h1⟩, h2⟩

end Go.Proofs.YtdflfcgdfbihfaaDoor
