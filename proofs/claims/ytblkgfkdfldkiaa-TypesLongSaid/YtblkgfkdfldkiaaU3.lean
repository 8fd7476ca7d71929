import Derived.Test.YtblkgfkdfldkiaaU2
namespace Go.Proofs.Ytblkgfkdfldkiaa
open Go.RowKit TypesText

theorem nam_eq (s : Bytes) : nam s = if run s = 0 ∨ 24 < run s ∨ (s.head?.map letter).getD false = false ∨ inList (32 :: flat words) (s.take (run s)) = true then 0 else run s := by
  rw [inWords _ (run_clean s _ (Nat.le_refl _))]
  unfold nam
  by_cases h0 : run s = 0
  · simp [h0]
  · obtain ⟨c, l, rfl, hc⟩ := run_pos_head h0
    have : ((List.head? (c :: l)).map digit).getD false = true ↔ ((List.head? (c :: l)).map letter).getD false = false := by
      simp only [List.head?_cons, Option.map_some, Option.getD_some]
      constructor
      · intro h
        rw [Bool.eq_false_iff]
        intro h2
        rw [digit_iff] at h
        rw [letter_iff] at h2
        omega
      · intro h
        rw [alnum_iff] at hc
        rcases hc with h2 | h2
        · rw [h] at h2; cases h2
        · exact h2
    simp only [this]

def named (s : Bytes) (at_ : Nat) : Int := if nam (s.drop at_) = 0 then -1 else ((at_ + nam (s.drop at_) : Nat) : Int)

set_option maxHeartbeats 1600000 in
set_option maxRecDepth 100000 in
theorem named_any (s : ByteArray) (k : Nat) (w : World) (hk : k ≤ s.size) (hs : s.size ≤ 4000000) :
    Calls Try.prog 45 #[.string s, .int .i64 k] w fun e w' => e = .returned (.int .i64 (named (tx s) k)) ∧ w' = w := by
  have cL := Lib.hid (fun (c : UInt8) w1 => letter_any c w1)
  have cI : Hid (∀ (x L : ByteArray) (w1 : World), x.size ≤ 4000000 → tx L = 32 :: flat words ∧ L.size ≤ 4000000 → Calls Try.prog 48 #[.string x, .string L] w1 fun e w' => e = .returned (.bool (inList (32 :: flat words) (tx x))) ∧ w' = w1) :=
    fun x L w1 h hL => by rw [← hL.1]; exact in_any x L w1 h hL.2
  go_enter Try.func45, Try.ntmps45
  go_wp2_with fail
  go_loopw [5] (fun i wr => ∃ n : Nat, i = .int .i64 n ∧ k ≤ n ∧ n ≤ s.size ∧ run ((tx s).drop k) = n - k + run ((tx s).drop n) ∧ wr = w) (fun i _ => s.size - (intOf i).toNat)
  case atStart => exact ⟨k, rfl, Nat.le_refl _, hk, by omega, rfl⟩
  case round =>
    obtain ⟨n, rfl, hkn, hn, hrun, rfl⟩ := hrel
    have HR := Lib.hid hrun
    clear hrun
    by_cases hlt : n < s.size
    · have ht := tx_at s n hlt
      have hl := letter_iff s[n]
      have hd := digit_iff s[n]
      obtain ⟨c, hc⟩ : ∃ c, s[n] = c := ⟨_, rfl⟩
      rw [hc] at ht hl hd
      have HT := Lib.hid ht
      clear ht
      cases hL : letter c with
      | true =>
        have HN : Hid (alnum c = true) := (alnum_iff _).2 (.inl hL)
        clear hl hd
        go_wp2_with (refine (cL.out _ _).mono ?_; rintro e w' ⟨rfl, rfl⟩)
        go_roundw
        case rel =>
          refine ⟨n + 1, by go_num, by omega, by omega, ?_, by trivial⟩
          have := HR.out
          rw [HT.out, run_cons, if_pos HN.out] at this
          omega
        case measure => simp [intOf]; omega
      | false =>
        cases hD : digit c with
        | true =>
          have HN : Hid (alnum c = true) := (alnum_iff _).2 (.inr hD)
          have hlo := (hd.1 hD).1
          have hhi := (hd.1 hD).2
          clear hl hd hD
          go_wp2_with (refine (cL.out _ _).mono ?_; rintro e w' ⟨rfl, rfl⟩)
          go_roundw
          case rel =>
            refine ⟨n + 1, by go_num, by omega, by omega, ?_, by trivial⟩
            have := HR.out
            rw [HT.out, run_cons, if_pos HN.out] at this
            omega
          case measure => simp [intOf]; omega
        | false =>
          have hno : ¬ (48 ≤ (c.toNat : Int) ∧ (c.toNat : Int) ≤ 57) := fun h => by have := hd.2 h; rw [hD] at this; cases this
          have HN : Hid (run ((tx s).drop n) = 0) := by
            show run ((tx s).drop n) = 0
            rw [HT.out, run_cons, if_neg]
            rw [alnum_iff, hL, hD]
            simp
          clear hl hd hD
          have HRK : Hid (run ((tx s).drop k) = n - k) := by
            show run ((tx s).drop k) = n - k
            have := HR.out
            rw [HN.out] at this
            omega
          have hnm := nam_eq ((tx s).drop k)
          rw [HRK.out] at hnm
          by_cases hz : k = n
          · subst hz
            rw [if_pos (.inl (Nat.sub_self k))] at hnm
            have HM : Hid (named (tx s) k = -1) := by
              show named (tx s) k = -1
              unfold named
              rw [if_pos hnm]
            clear hnm
            go_wp2_with (first | (refine (cL.out _ _).mono ?_; rintro e w' ⟨rfl, rfl⟩))
            all_goals go_ret
            all_goals rw [HM.out]
            all_goals first | exact ⟨rfl, rfl⟩ | (exfalso; rename_i hx; rw [beq_iff_eq] at hx; omega)
          · have hks : k < s.size := by omega
            have hat := tx_at s k hks
            obtain ⟨d, hd⟩ : ∃ d, s[k] = d := ⟨_, rfl⟩
            rw [hd] at hat
            have hhead : (((tx s).drop k).head?.map letter).getD false = letter d := by rw [hat]; rfl
            rw [hhead] at hnm
            have hxt : ((tx s).drop k).take (n - k) = tx (s.extract k n) := (tx_part s k n).symm
            rw [hxt] at hnm
            skip
            have c3 := fun L w1 hL => cI.out (s.extract k n) L w1 (by rw [← tx_len, tx_part]; simp; omega) hL
            clear hat hhead hxt
            obtain ⟨D, hD⟩ : ∃ D, letter d = D := ⟨_, rfl⟩
            obtain ⟨I, hI⟩ : ∃ I, inList (32 :: flat words) (tx (s.extract k n)) = I := ⟨_, rfl⟩
            simp only [hD] at hnm
            simp only [hI] at c3 hnm
            clear hI
            by_cases h24 : 24 < n - k
            · rw [if_pos (.inr (.inl h24))] at hnm
              have HM : Hid (named (tx s) k = -1) := by
                show named (tx s) k = -1
                unfold named
                rw [if_pos hnm]
              clear hnm
              go_wp2_with (first | (refine (cL.out _ _).mono ?_; rintro e w' ⟨rfl, rfl⟩))
              all_goals go_ret
              all_goals rw [HM.out]
              all_goals first | exact ⟨rfl, rfl⟩ | (exfalso; rename_i hx; rw [beq_iff_eq] at hx; omega)
            · cases D with
              | false =>
                rw [if_pos (.inr (.inr (.inl rfl)))] at hnm
                have HM : Hid (named (tx s) k = -1) := by
                  show named (tx s) k = -1
                  unfold named
                  rw [if_pos hnm]
                clear hnm
                go_wp2_with (first | (refine (cL.out _ _).mono ?_; rintro e w' ⟨rfl, rfl⟩))
                all_goals go_ret
                all_goals rw [HM.out]
                all_goals first | exact ⟨rfl, rfl⟩ | (exfalso; rename_i hx; rw [beq_iff_eq] at hx; omega)
              | true =>
                cases I with
                | true =>
                  rw [if_pos (.inr (.inr (.inr rfl)))] at hnm
                  have HM : Hid (named (tx s) k = -1) := by
                    show named (tx s) k = -1
                    unfold named
                    rw [if_pos hnm]
                  clear hnm
                  go_wp2_with (first | (refine (cL.out _ _).mono ?_; rintro e w' ⟨rfl, rfl⟩) | (refine (c3 _ _ (by decide)).mono ?_; rintro e w' ⟨rfl, rfl⟩))
                  all_goals go_ret
                  all_goals rw [HM.out]
                  all_goals first | exact ⟨rfl, rfl⟩ | (exfalso; rename_i hx; rw [beq_iff_eq] at hx; omega)
                | false =>
                  rw [if_neg (by rintro (h | h | h | h); exact hz (by omega); exact h24 h; cases h; cases h)] at hnm
                  have HM : Hid (named (tx s) k = n) := by
                    show named (tx s) k = n
                    unfold named
                    rw [if_neg (by omega), hnm]
                    omega
                  clear hnm
                  go_wp2_with (first | (refine (cL.out _ _).mono ?_; rintro e w' ⟨rfl, rfl⟩) | (refine (c3 _ _ (by decide)).mono ?_; rintro e w' ⟨rfl, rfl⟩))
                  all_goals go_ret
                  all_goals rw [HM.out]
                  all_goals first | exact ⟨rfl, rfl⟩ | (exfalso; rename_i hx; rw [beq_iff_eq] at hx; omega)
    · have hns : n = s.size := by omega
      have HN : Hid (run ((tx s).drop n) = 0) := by
        show run ((tx s).drop n) = 0
        rw [List.drop_of_length_le (by rw [tx_len]; omega)]
        rfl
      clear hns
      have HRK : Hid (run ((tx s).drop k) = n - k) := by
        show run ((tx s).drop k) = n - k
        have := HR.out
        rw [HN.out] at this
        omega
      have hnm := nam_eq ((tx s).drop k)
      rw [HRK.out] at hnm
      by_cases hz : k = n
      · subst hz
        rw [if_pos (.inl (Nat.sub_self k))] at hnm
        have HM : Hid (named (tx s) k = -1) := by
          show named (tx s) k = -1
          unfold named
          rw [if_pos hnm]
        clear hnm
        go_wp2_with (first | fail)
        all_goals go_ret
        all_goals rw [HM.out]
        all_goals first | exact ⟨rfl, rfl⟩ | (exfalso; rename_i hx; rw [beq_iff_eq] at hx; omega)
      · have hks : k < s.size := by omega
        have hat := tx_at s k hks
        obtain ⟨d, hd⟩ : ∃ d, s[k] = d := ⟨_, rfl⟩
        rw [hd] at hat
        have hhead : (((tx s).drop k).head?.map letter).getD false = letter d := by rw [hat]; rfl
        rw [hhead] at hnm
        have hxt : ((tx s).drop k).take (n - k) = tx (s.extract k n) := (tx_part s k n).symm
        rw [hxt] at hnm
        skip
        have c3 := fun L w1 hL => cI.out (s.extract k n) L w1 (by rw [← tx_len, tx_part]; simp; omega) hL
        clear hat hhead hxt
        obtain ⟨D, hD⟩ : ∃ D, letter d = D := ⟨_, rfl⟩
        obtain ⟨I, hI⟩ : ∃ I, inList (32 :: flat words) (tx (s.extract k n)) = I := ⟨_, rfl⟩
        simp only [hD] at hnm
        simp only [hI] at c3 hnm
        clear hI
        by_cases h24 : 24 < n - k
        · rw [if_pos (.inr (.inl h24))] at hnm
          have HM : Hid (named (tx s) k = -1) := by
            show named (tx s) k = -1
            unfold named
            rw [if_pos hnm]
          clear hnm
          go_wp2_with (first | fail)
          all_goals go_ret
          all_goals rw [HM.out]
          all_goals first | exact ⟨rfl, rfl⟩ | (exfalso; rename_i hx; rw [beq_iff_eq] at hx; omega)
        · cases D with
          | false =>
            rw [if_pos (.inr (.inr (.inl rfl)))] at hnm
            have HM : Hid (named (tx s) k = -1) := by
              show named (tx s) k = -1
              unfold named
              rw [if_pos hnm]
            clear hnm
            go_wp2_with (first | fail | (refine (cL.out _ _).mono ?_; rintro e w' ⟨rfl, rfl⟩))
            all_goals go_ret
            all_goals rw [HM.out]
            all_goals first | exact ⟨rfl, rfl⟩ | (exfalso; rename_i hx; rw [beq_iff_eq] at hx; omega)
          | true =>
            cases I with
            | true =>
              rw [if_pos (.inr (.inr (.inr rfl)))] at hnm
              have HM : Hid (named (tx s) k = -1) := by
                show named (tx s) k = -1
                unfold named
                rw [if_pos hnm]
              clear hnm
              go_wp2_with (first | fail | (refine (cL.out _ _).mono ?_; rintro e w' ⟨rfl, rfl⟩) | (refine (c3 _ _ (by decide)).mono ?_; rintro e w' ⟨rfl, rfl⟩))
              all_goals go_ret
              all_goals rw [HM.out]
              all_goals first | exact ⟨rfl, rfl⟩ | (exfalso; rename_i hx; rw [beq_iff_eq] at hx; omega)
            | false =>
              rw [if_neg (by rintro (h | h | h | h); exact hz (by omega); exact h24 h; cases h; cases h)] at hnm
              have HM : Hid (named (tx s) k = n) := by
                show named (tx s) k = n
                unfold named
                rw [if_neg (by omega), hnm]
                omega
              clear hnm
              go_wp2_with (first | fail | (refine (cL.out _ _).mono ?_; rintro e w' ⟨rfl, rfl⟩) | (refine (c3 _ _ (by decide)).mono ?_; rintro e w' ⟨rfl, rfl⟩))
              all_goals go_ret
              all_goals rw [HM.out]
              all_goals first | exact ⟨rfl, rfl⟩ | (exfalso; rename_i hx; rw [beq_iff_eq] at hx; omega)
end Go.Proofs.Ytblkgfkdfldkiaa
