import Derived.Test.YtblkgfkdfldkiaaT1
namespace Go.Proofs.Ytblkgfkdfldkiaa
open Go.RowKit TypesText

theorem letter_iff (c : UInt8) : letter c = true ↔ (97 ≤ (c.toNat : Int) ∧ (c.toNat : Int) ≤ 122) ∨ (65 ≤ (c.toNat : Int) ∧ (c.toNat : Int) ≤ 90) ∨ (c.toNat : Int) = 95 := by
  unfold letter
  simp only [UInt8.le_iff_toNat_le, ← UInt8.toNat_inj, Bool.or_eq_true, Bool.and_eq_true, decide_eq_true_eq, beq_iff_eq, UInt8.reduceToNat]
  omega

theorem digit_iff (c : UInt8) : digit c = true ↔ 48 ≤ (c.toNat : Int) ∧ (c.toNat : Int) ≤ 57 := by
  unfold digit
  simp only [UInt8.le_iff_toNat_le, Bool.and_eq_true, decide_eq_true_eq, UInt8.reduceToNat]
  omega

theorem alnum_iff (c : UInt8) : alnum c = true ↔ letter c = true ∨ digit c = true := by simp [alnum]

theorem letter_any (c : UInt8) (w : World) :
    Calls Try.prog 62 #[.int .u8 (c.toNat : Int)] w fun e w' => e = .returned (.bool (letter c)) ∧ w' = w := by
  have E := Lib.hid (letter_iff c)
  go_enter Try.func62, Try.ntmps62
  go_wp2
  all_goals go_ret
  all_goals refine ⟨?_, rfl⟩
  all_goals refine congrArg (fun b => Ending.returned (.bool b)) ?_
  all_goals rw [Bool.eq_iff_iff, E.out]
  all_goals simp only [decide_eq_true_eq, Bool.or_eq_true, beq_iff_eq, true_iff]
  all_goals omega

set_option maxHeartbeats 1000000 in
theorem isWord_any (s : ByteArray) (w : World) :
    Calls Try.prog 61 #[.string s] w fun e w' => e = .returned (.bool (words.contains (tx s))) ∧ w' = w := by
  go_enter Try.func61, Try.ntmps61
  go_wp2
  all_goals go_ret
  all_goals refine ⟨?_, rfl⟩
  all_goals (rename_i a b; first | exact absurd (a.symm.trans b) (by decide) | (rw [show tx s = _ from Eq.trans (Lib.toList_data s).symm (eq_of_beq b)]; rfl) | skip)
  all_goals refine congrArg (fun b => Ending.returned (.bool b)) ?_
  all_goals simp only [Lib.toList_data, ← tx.eq_def] at *
  all_goals simp_all [words]

/-- What a name's rune is not. -/
def stops (r : Nat) : Bool := !((decide (97 ≤ r) && decide (r ≤ 122)) || (decide (65 ≤ r) && decide (r ≤ 90)) || decide (r = 95) || (decide (48 ≤ r) && decide (r ≤ 57)))

theorem stops_byte (c : UInt8) : stops c.toNat = !alnum c := by
  unfold stops
  refine congrArg not ?_
  rw [Bool.eq_iff_iff, alnum_iff, letter_iff, digit_iff]
  simp only [decide_eq_true_eq, Bool.or_eq_true, Bool.and_eq_true]
  omega

theorem stops_any (r : Nat) (w : World) (hr : r ≤ 1114111) :
    Calls Try.prog 60 #[.int .i32 (r : Int)] w fun e w' => e = .returned (.bool (stops r)) ∧ w' = w := by
  have E : stops r = true ↔ ¬ ((97 ≤ (r : Int) ∧ (r : Int) ≤ 122) ∨ (65 ≤ (r : Int) ∧ (r : Int) ≤ 90) ∨ (r : Int) = 95 ∨ 48 ≤ (r : Int) ∧ (r : Int) ≤ 57) := by
    rw [← Bool.not_eq_false]
    refine not_congr ?_
    unfold stops
    simp only [Bool.not_eq_false', Bool.or_eq_true, Bool.and_eq_true, decide_eq_true_eq]
    omega
  have H := Lib.hid E
  clear E
  go_enter Try.func60, Try.ntmps60
  go_wp2
  all_goals go_ret
  all_goals refine ⟨?_, rfl⟩
  all_goals refine congrArg (fun b => Ending.returned (.bool b)) ?_
  all_goals rw [Bool.eq_iff_iff, H.out]
  all_goals simp only [decide_eq_false_iff_not, beq_eq_false_iff_ne, ne_eq, Bool.not_eq_true', Bool.and_eq_true, Bool.false_eq_true, false_iff]
  all_goals omega

end Go.Proofs.Ytblkgfkdfldkiaa
