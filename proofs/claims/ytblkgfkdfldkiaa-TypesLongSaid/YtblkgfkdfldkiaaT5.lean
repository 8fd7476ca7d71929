import Derived.Test.YtblkgfkdfldkiaaT4
namespace Go.Proofs.Ytblkgfkdfldkiaa
open Go.RowKit TypesText

theorem draws_below {B : Nat} {w w' : World} (h : Below B w w') (q : Nat) : Below B w (w'.drewN q) := h.trans ⟨rfl, rfl, rfl, Nat.le_refl _, fun _ _ => rfl⟩

theorem size_extract (s : ByteArray) (n : Nat) : (s.extract n s.size).size = s.size - n := by
  rw [← tx_len, tx_from, List.length_drop, tx_len]

theorem close_any (s : ByteArray) (n : Nat) (w : World) :
    Calls Try.prog 26 #[.string (s.extract n s.size), .string ⟨#[41]⟩] w fun e w' => e = .returned (.bool (pre sClose ((tx s).drop n))) ∧ w' = w := by
  have := hasPrefix_any (s.extract n s.size) ⟨#[41]⟩ w
  rw [tx_from] at this
  exact this

theorem comma_any (s : ByteArray) (n : Nat) (w : World) :
    Calls Try.prog 26 #[.string (s.extract n s.size), .string ⟨#[44]⟩] w fun e w' => e = .returned (.bool (pre sComma ((tx s).drop n))) ∧ w' = w := by
  have := hasPrefix_any (s.extract n s.size) ⟨#[44]⟩ w
  rw [tx_from] at this
  exact this

theorem ownsRow_shape {B : Nat} {e : TypeId} {size : Nat} {v : Value} {n : Nat} {xs : List Value} {w : World} (h : w.ownsRow B e size v n xs) : ∃ a c, v = .slice a n c := by
  rcases h.2 with ⟨h1, h2⟩ | ⟨g, cap, cur, h1, _⟩
  · subst h2; exact ⟨none, 0, h1⟩
  · exact ⟨_, cap, h1⟩

set_option maxHeartbeats 1600000 in
set_option maxRecDepth 100000 in
theorem func_any (k : Nat) (hR : ReadsC k) : FuncC k := by
  intro s w hsk hsz hpre
  obtain ⟨i0, hi, hz0, hz1, hz2⟩ := info_parts Try.info9
  have hst := At.start (k := k) hpre
  have HS := Lib.hid hst
  clear hst hpre
  have HR : Hid (∀ (m : Nat) (w1 : World), 5 ≤ m → m ≤ s.size → Calls Try.prog 29 #[.string (s.extract m s.size)] w1 fun e w2 => ∃ v r, e = .returned (.tuple #[.int .i64 (typ k ((tx s).drop m) : Nat), v, r]) ∧ Below w1.heap.size w1 w2) := by
    intro m w1 h5 hm
    refine (hR (s.extract m s.size) w1 (by rw [size_extract]; omega) (by rw [size_extract]; omega)).mono ?_
    rintro e w2 ⟨v, rfl, hb, _⟩
    rw [tx_from]
    exact ⟨v, _, rfl, hb⟩
  clear hR
  have HC := Lib.hid (close_any s)
  have HM := Lib.hid (comma_any s)
  have HL := Lib.hid (fun m => typ_le k ((tx s).drop m))
  go_enter Try.func43, Try.ntmps43
  go_wp2_with fail
  go_loopw [2, 3] (fun i v wr => ∃ (n : Nat) (acc : List Bytes), i = .int .i64 n ∧ At k (tx s) n acc ∧ wr.ownsRow w.heap.size 9 1 v acc.length (acc.map strV) ∧ Below w.heap.size w wr) (fun i _ _ => s.size - (intOf i).toNat)
  case atStart => exact ⟨5, [], rfl, HS.out, World.ownsRow_nil _ _ _ _, Below.refl _ _⟩
  case round =>
    obtain ⟨n, acc, rfl, hat, hown, hbel⟩ := hrel
    have h5 := hat.from5
    have hle := hat.le
    rw [tx_len] at hle
    have hfew := hat.few
    have hsz2 := hbel.size
    obtain ⟨sa, sc, rfl⟩ := ownsRow_shape hown
    have HO := Lib.hid hown
    have HB := Lib.hid hbel
    have HAT := Lib.hid hat
    clear hown hbel hat
    have c1 := fun w1 => HC.out n w1
    cases hcl : pre sClose ((tx s).drop n) with
    | true =>
      rw [hcl] at c1
      have hn1 : n + 1 ≤ s.size := by
        have := pre_length hcl
        rw [List.length_drop, tx_len] at this
        simp [sClose] at this
        omega
      have hf := HAT.out.close hcl
      have c2 := fun w1 => HR.out (n + 1) w1 (by omega) hn1
      have hl := HL.out (n + 1)
      rw [List.length_drop, tx_len] at hl
      have hx := extract_strV s (n + 1) (n + 1 + typ k ((tx s).drop (n + 1)))
      rw [Nat.add_sub_cancel_left] at hx
      have HF := Lib.hid hf
      have HX := Lib.hid hx
      have HCL := Lib.hid hcl
      clear hf hx hcl
      obtain ⟨T, hT⟩ : ∃ T, typ k ((tx s).drop (n + 1)) = T := ⟨_, rfl⟩
      simp only [hT] at c2 hl HX HF
      clear hT
      go_wp2_with (first | (refine (c1 _).mono ?_; rintro e w' ⟨rfl, rfl⟩) | (refine (c2 _).mono ?_; rintro e w' ⟨v, r, rfl, hb⟩))
      have hq : n + 1 + T ≤ s.size := by omega
      go_quiet (fail)
      go_wp2_with fail
      go_ret3
      rw [HF.out]
      have hc : ((n + 1 + T : Nat) : Int) = n + 1 + T := by omega
      refine ⟨.slice sa acc.length sc, ?_, draws_below (HB.out.trans (hb.mono hsz2)) _, ?_⟩
      · rw [hc, ← HX.out]; rfl
      · exact ownsRow_below HO.out (draws_below hb _)
    | false =>
      rw [hcl] at c1
      by_cases ha : acc = []
      · have HM2 : Hid (acc = [] ∧ n = n ∨ acc ≠ [] ∧ pre sComma ((tx s).drop n) = true ∧ n = n + 1) := .inl ⟨ha, rfl⟩
        have c2 := fun w1 => HR.out n w1 h5 hle
        have hl := HL.out n
        rw [List.length_drop, tx_len] at hl
        have hal : acc.length = 0 := by rw [ha]; rfl
        clear ha
        obtain ⟨T, hT⟩ : ∃ T, typ k ((tx s).drop n) = T := ⟨_, rfl⟩
        have HTT := Lib.hid hT
        rw [hT] at c2 hl
        clear hT
        obtain ⟨L, hL⟩ : ∃ L, acc.length = L := ⟨_, rfl⟩
        rw [hL] at HO hfew hal ⊢
        have HLL := Lib.hid hL
        clear hL
        subst hal
        · skip
          have hq : n + T ≤ s.size := by omega
          have hx := extract_strV s (n) (n + T)
          rw [Nat.add_sub_cancel_left] at hx
          have HX := Lib.hid hx
          clear hx
          by_cases hT0 : T = 0
          · have hf := HAT.out.none hcl HM2.out (HTT.out.trans hT0)
            have HF := Lib.hid hf
            clear hf hcl
            go_wp2_with (first | (refine (c1 _).mono ?_; rintro e w' ⟨rfl, rfl⟩) | (refine (c2 _).mono ?_; rintro e w' ⟨v, r, rfl, hb⟩; have HO2 := Lib.hid (ownsRow_below HO.out hb); have HB2 := Lib.hid (HB.out.trans (hb.mono hsz2)); have hsz3 := hb.size; clear hb))
            go_ret3
            rw [HF.out]
            exact ⟨_, rfl, HB2.out, World.ownsRow_nil _ _ _ _⟩
          · have hnx := HAT.out.next hcl HM2.out (by rw [HTT.out]; exact hT0)
            rw [HTT.out] at hnx
            have HNX := Lib.hid hnx
            clear hnx hcl
            go_wp2_with (first | (refine (c1 _).mono ?_; rintro e w' ⟨rfl, rfl⟩) | (refine (c2 _).mono ?_; rintro e w' ⟨v, r, rfl, hb⟩; have HO2 := Lib.hid (ownsRow_below HO.out hb); have HB2 := Lib.hid (HB.out.trans (hb.mono hsz2)); have hsz3 := hb.size; clear hb) | (at_builtin; refine wpList_append_own _ rfl _ _ 26 rfl w.heap.size 9 i0 (.string ⟨#[]⟩) 1 16 Try.underlying26 hi hz0 hz1 hz2 rfl (by decide) _ _ _ rfl (HO2.out.alloc _) ⟨w'.heap.size, 0, none⟩ 1 1 [.string (s.extract n (n + T))] rfl rfl ?c1 ?c2 ?c3 ?c4 ?c5 ?grow))
            case c1 => intro j u hj; match j, hj with | 0, hj => simp at hj; subst hj; simp [Addr.add]
            case c2 => intro u hu; simp at hu; subst hu; rfl
            case c3 => unfold maxLen; omega
            case c4 => omega
            case c5 => simp only [World.size_alloc]; omega
            case grow =>
              intro v' w1 hown1 hgrow _
              have HO1 := Lib.hid hown1
              have HB1 := Lib.hid ((HB2.out.alloc (by omega) (.cells #[.string (s.extract n (n + T))] 9)).grown hgrow (by simp; omega) (fun k hk => (HO2.out.lt k hk).1))
              clear hown1 hgrow
              go_wp2_with fail
              go_roundw
              case rel =>
                refine ⟨n + T, acc ++ [((tx s).drop (n)).take T], by go_num, HNX.out, ?_, HB1.out⟩
                have h1 := HO1.out
                rw [HX.out] at h1
                rw [List.length_append, HLL.out, List.map_append]
                exact h1
              case measure => simp [intOf]; omega
      · have hal : 0 < acc.length := List.length_pos_iff.2 ha
        have c3 := fun w1 => HM.out n w1
        obtain ⟨L, hL⟩ : ∃ L, acc.length = L := ⟨_, rfl⟩
        rw [hL] at HO hfew hal ⊢
        have HLL := Lib.hid hL
        clear hL
        cases hcm : pre sComma ((tx s).drop n) with
        | false =>
          rw [hcm] at c3
          have hf := HAT.out.nocomma hcl ha hcm
          have HF := Lib.hid hf
          clear hf hcl hcm ha
          go_wp2_with (first | (refine (c1 _).mono ?_; rintro e w' ⟨rfl, rfl⟩) | (refine (c3 _).mono ?_; rintro e w' ⟨rfl, rfl⟩))
          go_ret3
          rw [HF.out]
          exact ⟨_, rfl, HB.out, World.ownsRow_nil _ _ _ _⟩
        | true =>
          rw [hcm] at c3
          have hn1 : n + 1 ≤ s.size := by
            have := pre_length hcm
            rw [List.length_drop, tx_len] at this
            simp [sComma] at this
            omega
          have HM2 : Hid (acc = [] ∧ n + 1 = n ∨ acc ≠ [] ∧ pre sComma ((tx s).drop n) = true ∧ n + 1 = n + 1) := .inr ⟨ha, hcm, rfl⟩
          have c2 := fun w1 => HR.out (n + 1) w1 (by omega) hn1
          have hl := HL.out (n + 1)
          rw [List.length_drop, tx_len] at hl
          clear ha hcm
          obtain ⟨T, hT⟩ : ∃ T, typ k ((tx s).drop (n + 1)) = T := ⟨_, rfl⟩
          have HTT := Lib.hid hT
          rw [hT] at c2 hl
          clear hT
          · skip
            have hq : n + 1 + T ≤ s.size := by omega
            have hx := extract_strV s (n + 1) (n + 1 + T)
            rw [Nat.add_sub_cancel_left] at hx
            have HX := Lib.hid hx
            clear hx
            by_cases hT0 : T = 0
            · have hf := HAT.out.none hcl HM2.out (HTT.out.trans hT0)
              have HF := Lib.hid hf
              clear hf hcl
              go_wp2_with (first | (refine (c1 _).mono ?_; rintro e w' ⟨rfl, rfl⟩) | (refine (c3 _).mono ?_; rintro e w' ⟨rfl, rfl⟩) | (refine (c2 _).mono ?_; rintro e w' ⟨v, r, rfl, hb⟩; have HO2 := Lib.hid (ownsRow_below HO.out hb); have HB2 := Lib.hid (HB.out.trans (hb.mono hsz2)); have hsz3 := hb.size; clear hb))
              go_ret3
              rw [HF.out]
              exact ⟨_, rfl, HB2.out, World.ownsRow_nil _ _ _ _⟩
            · have hnx := HAT.out.next hcl HM2.out (by rw [HTT.out]; exact hT0)
              rw [HTT.out] at hnx
              have HNX := Lib.hid hnx
              clear hnx hcl
              go_wp2_with (first | (refine (c1 _).mono ?_; rintro e w' ⟨rfl, rfl⟩) | (refine (c3 _).mono ?_; rintro e w' ⟨rfl, rfl⟩) | (refine (c2 _).mono ?_; rintro e w' ⟨v, r, rfl, hb⟩; have HO2 := Lib.hid (ownsRow_below HO.out hb); have HB2 := Lib.hid (HB.out.trans (hb.mono hsz2)); have hsz3 := hb.size; clear hb) | (at_builtin; refine wpList_append_own _ rfl _ _ 26 rfl w.heap.size 9 i0 (.string ⟨#[]⟩) 1 16 Try.underlying26 hi hz0 hz1 hz2 rfl (by decide) _ _ _ rfl (HO2.out.alloc _) ⟨w'.heap.size, 0, none⟩ 1 1 [.string (s.extract (n + 1) (n + 1 + T))] rfl rfl ?c1 ?c2 ?c3 ?c4 ?c5 ?grow))
              case c1 => intro j u hj; match j, hj with | 0, hj => simp at hj; subst hj; simp [Addr.add]
              case c2 => intro u hu; simp at hu; subst hu; rfl
              case c3 => unfold maxLen; omega
              case c4 => omega
              case c5 => simp only [World.size_alloc]; omega
              case grow =>
                intro v' w1 hown1 hgrow _
                have HO1 := Lib.hid hown1
                have HB1 := Lib.hid ((HB2.out.alloc (by omega) (.cells #[.string (s.extract (n + 1) (n + 1 + T))] 9)).grown hgrow (by simp; omega) (fun k hk => (HO2.out.lt k hk).1))
                clear hown1 hgrow
                go_wp2_with fail
                go_roundw
                case rel =>
                  refine ⟨n + 1 + T, acc ++ [((tx s).drop (n + 1)).take T], by go_num, HNX.out, ?_, HB1.out⟩
                  have h1 := HO1.out
                  rw [HX.out] at h1
                  rw [List.length_append, HLL.out, List.map_append]
                  exact h1
                case measure => simp [intOf]; omega
end Go.Proofs.Ytblkgfkdfldkiaa
