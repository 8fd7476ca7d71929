/- A part of the proof of TypesWrittenSaid. No condition. -/
import Derived.Test.YtoaodlfmhioigaaM36
import Derived.Test.YtoaodlfmhioigaaM37
import Derived.Laws.RangeAny
set_option linter.unusedSimpArgs false
set_option linter.unusedVariables false
section
namespace Go.Proofs.Ytoaodlfmhioigaa.TS
open Go.RowKit TypesText

theorem tx_at (s : ByteArray) (i : Nat) (h : i < s.size) : (tx s).drop i = s[i] :: (tx s).drop (i + 1) := by
  have h2 : i < (tx s).length := by rw [tx_len]; exact h
  rw [List.drop_eq_getElem_cons h2]
  congr 1

theorem run_cons (c : UInt8) (l : Bytes) : run (c :: l) = if alnum c = true then run l + 1 else 0 := by
  unfold run
  rw [List.takeWhile_cons]
  split <;> rfl

theorem idx_run (s : ByteArray) : ∀ (f pos : Nat), s.size ≤ pos + f → pos ≤ s.size →
    Lib.idxFuncFrom stops true s f pos = if pos + run ((tx s).drop pos) = s.size then -1 else ((pos + run ((tx s).drop pos) : Nat) : Int)
  | 0, pos, hf, hp => by
    have : pos = s.size := by omega
    subst this
    rw [List.drop_of_length_le (by rw [tx_len]; omega)]
    simp [Lib.idxFuncFrom, run]
  | f + 1, pos, hf, hp => by
    unfold Lib.idxFuncFrom
    by_cases h : pos < s.size
    · rw [if_pos h, tx_at s pos h, run_cons]
      by_cases ha : s[pos].toNat < 128
      · rw [decode_ascii s pos h ha, stops_byte]
        by_cases hb : alnum s[pos] = true
        · simp only [hb, Bool.not_true, Bool.false_eq_true, if_false, if_true]
          rw [idx_run s f (pos + 1) (by omega) (by omega)]
          rw [show pos + 1 + run ((tx s).drop (pos + 1)) = pos + (run ((tx s).drop (pos + 1)) + 1) by omega]
        · simp only [Bool.not_eq_true] at hb
          simp only [hb, Bool.not_false, if_true, Bool.false_eq_true, if_false]
          rw [if_neg (by omega)]
          simp
      · have hd := decode_high s pos h (by omega)
        have hb : alnum s[pos] = false := by
          rw [Bool.eq_false_iff]
          intro hx
          rw [alnum_iff, letter_iff, digit_iff] at hx
          omega
        have hs : stops (Utf8.decode s pos).1 = true := by
          unfold stops
          rw [Bool.not_eq_true', Bool.eq_false_iff]
          intro hx
          simp only [Bool.or_eq_true, Bool.and_eq_true, decide_eq_true_eq] at hx
          omega
        rw [if_pos hs]
        simp only [hb, Bool.false_eq_true, if_false]
        rw [if_neg (by omega)]
        simp
    · have : pos = s.size := by omega
      subst this
      rw [if_neg h, List.drop_of_length_le (by rw [tx_len]; omega)]
      simp [run]

theorem idx_name (s : ByteArray) : Lib.idxFunc stops true s = if run (tx s) = s.size then -1 else ((run (tx s) : Nat) : Int) := by
  have := idx_run s s.size 0 (by omega) (by omega)
  simpa [Lib.idxFunc] using this

theorem stops_runes (w : World) : PredAtRunes Try.prog 54 #[] stops w := fun W x hx _ =>
  (stops_any x W hx).mono (by rintro e w' ⟨rfl, rfl⟩; exact ⟨rfl, 0, rfl⟩)

theorem run_pos_head {s : Bytes} (h : run s ≠ 0) : ∃ c l, s = c :: l ∧ alnum c = true := by
  cases s with
  | nil => simp [run] at h
  | cons c l =>
    rw [run_cons] at h
    by_cases hc : alnum c = true
    · exact ⟨c, l, rfl, hc⟩
    · rw [if_neg hc] at h; exact absurd rfl h

set_option maxHeartbeats 1000000 in
theorem name_any (s : ByteArray) (w : World) :
    Calls Try.prog 37 #[.string s] w fun e w' => e = .returned (.int .i64 (nam (tx s) : Nat)) ∧ Below w.heap.size w w' := by
  have cI := Try.strings_IndexFunc_runes 54 #[] (enters_of Try.func54 (by kernel_rfl) rfl) stops s w (stops_runes w)
  rw [idx_name] at cI
  have hle : run (tx s) ≤ s.size := by rw [← tx_len]; exact run_le _
  have hn : nam (tx s) = if run (tx s) = 0 ∨ 24 < run (tx s) ∨ ((tx s).head?.map digit).getD false = true ∨ words.contains ((tx s).take (run (tx s))) = true then 0 else run (tx s) := rfl
  have hh : run (tx s) ≠ 0 → ∃ h : 0 < s.size, ((tx s).head?.map digit).getD false = digit s[0] := by
    intro h
    have h0 : 0 < s.size := by omega
    refine ⟨h0, ?_⟩
    have := tx_at s 0 h0
    rw [List.drop_zero] at this
    rw [this]
    rfl
  have cW : ∀ x w, Calls Try.prog 55 #[.string x] w _ := fun x w => isWord_any x w
  have hw : tx (s.extract 0 (run (tx s))) = (tx s).take (run (tx s)) := by rw [tx_part]; simp
  obtain ⟨N, hN⟩ : ∃ N, nam (tx s) = N := ⟨_, rfl⟩
  rw [hN] at hn ⊢
  obtain ⟨R, hR⟩ : ∃ R, run (tx s) = R := ⟨_, rfl⟩
  rw [hR] at hn hh hw cI hle
  obtain ⟨D, hD⟩ : ∃ D, ((tx s).head?.map digit).getD false = D := ⟨_, rfl⟩
  rw [hD] at hn hh
  obtain ⟨T, hT⟩ : ∃ T, (tx s).take R = T := ⟨_, rfl⟩
  rw [hT] at hn hw
  clear hN hR hD hT
  by_cases h0 : R = 0
  · rw [if_pos (.inl h0)] at hn
    subst hn
    subst h0
    by_cases hz : 0 = s.size
    · rw [if_pos hz] at cI
      have hz' := hz.symm
      clear hz hh hw
      go_enter Try.func37, Try.ntmps37
      go_wp2_with (first | (refine cI.mono ?_; rintro e w' ⟨rfl, hb⟩))
      all_goals (go_ret; exact ⟨rfl, hb⟩)
    · rw [if_neg hz] at cI
      clear hz hh hw
      go_enter Try.func37, Try.ntmps37
      go_wp2_with (first | (refine cI.mono ?_; rintro e w' ⟨rfl, hb⟩))
      all_goals (go_ret; exact ⟨rfl, hb⟩)
  obtain ⟨hp, hd⟩ := hh h0
  by_cases h24 : 24 < R
  · rw [if_pos (.inr (.inl h24))] at hn
    subst hn
    have h24' : ((R : Int) > 24) := by omega
    by_cases hz : R = s.size
    · rw [if_pos hz] at cI
      subst hz
      go_enter Try.func37, Try.ntmps37
      go_wp2_with (first | (refine cI.mono ?_; rintro e w' ⟨rfl, hb⟩))
      all_goals (go_ret; exact ⟨rfl, hb⟩)
    · rw [if_neg hz] at cI
      go_enter Try.func37, Try.ntmps37
      go_wp2_with (first | (refine cI.mono ?_; rintro e w' ⟨rfl, hb⟩))
      all_goals (go_ret; exact ⟨rfl, hb⟩)
  have h24' : ¬ ((R : Int) > 24) := by omega
  have hdg := digit_iff s[0]
  rw [← hd] at hdg
  clear hd hh
  cases D with
  | true =>
    rw [if_pos (.inr (.inr (.inl rfl)))] at hn
    subst hn
    have hlo := (hdg.1 rfl).1
    have hhi := (hdg.1 rfl).2
    clear hdg hw
    by_cases hz : R = s.size
    · rw [if_pos hz] at cI
      subst hz
      go_enter Try.func37, Try.ntmps37
      go_wp2_with (first | (refine cI.mono ?_; rintro e w' ⟨rfl, hb⟩))
      all_goals (go_ret; exact ⟨rfl, hb⟩)
    · rw [if_neg hz] at cI
      go_enter Try.func37, Try.ntmps37
      go_wp2_with (first | (refine cI.mono ?_; rintro e w' ⟨rfl, hb⟩))
      all_goals (go_ret; exact ⟨rfl, hb⟩)
  | false =>
    have hno : ¬ (48 ≤ ((s[0]).toNat : Int) ∧ ((s[0]).toNat : Int) ≤ 57) := fun h => by have := hdg.2 h; cases this
    clear hdg
    have cI2 := cW (s.extract 0 R)
    rw [hw] at cI2
    clear cW hw
    by_cases hW : words.contains T = true
    · rw [if_pos (.inr (.inr (.inr hW)))] at hn
      rw [hW] at cI2
      subst hn
      by_cases hz : R = s.size
      · rw [if_pos hz] at cI
        subst hz
        go_enter Try.func37, Try.ntmps37
        go_wp2_with (first | (refine cI.mono ?_; rintro e w' ⟨rfl, hb⟩) | (rw [ByteArray.extract_zero_size] at cI2; refine (cI2 _).mono ?_; rintro e w' ⟨rfl, rfl⟩))
        all_goals (go_ret; exact ⟨rfl, hb⟩)
      · rw [if_neg hz] at cI
        go_enter Try.func37, Try.ntmps37
        go_wp2_with (first | (refine cI.mono ?_; rintro e w' ⟨rfl, hb⟩) | (refine (cI2 _).mono ?_; rintro e w' ⟨rfl, rfl⟩))
        all_goals (go_ret; exact ⟨rfl, hb⟩)
    · rw [if_neg (by rintro (h | h | h | h); exact h0 h; exact h24 h; cases h; exact hW h)] at hn
      rw [Bool.not_eq_true] at hW
      rw [hW] at cI2
      rw [hn]
      clear hn
      by_cases hz : R = s.size
      · rw [if_pos hz] at cI
        subst hz
        go_enter Try.func37, Try.ntmps37
        go_wp2_with (first | (refine cI.mono ?_; rintro e w' ⟨rfl, hb⟩) | (rw [ByteArray.extract_zero_size] at cI2; refine (cI2 _).mono ?_; rintro e w' ⟨rfl, rfl⟩))
        all_goals first | (go_ret; exact ⟨rfl, hb⟩) | (exfalso; rename_i hx; rw [beq_iff_eq] at hx; omega)
      · rw [if_neg hz] at cI
        go_enter Try.func37, Try.ntmps37
        go_wp2_with (first | (refine cI.mono ?_; rintro e w' ⟨rfl, hb⟩) | (refine (cI2 _).mono ?_; rintro e w' ⟨rfl, rfl⟩))
        all_goals first | (go_ret; exact ⟨rfl, hb⟩) | (exfalso; rename_i hx; rw [beq_iff_eq] at hx; omega)
end Go.Proofs.Ytoaodlfmhioigaa.TS
end
