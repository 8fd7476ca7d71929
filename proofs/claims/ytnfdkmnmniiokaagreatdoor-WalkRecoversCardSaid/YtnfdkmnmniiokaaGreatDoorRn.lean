import Derived.Test.YtnfdkmnmniiokaaGreatDoorGS
set_option linter.unusedVariables false
set_option linter.unusedSimpArgs false
namespace Go.Proofs.YtnfdkmnmniiokaaGreatDoor
open Go.RowKit
open Go.Proofs.Tryz (prog)

/-- The functions, so deep. -/
noncomputable def Rn (n : Nat) : Rec := Nat.rec (motive := fun _ => Rec) rec0 (fun _ r => step r) n
theorem Rn_ok : ∀ n, CallS prog η0 (toCall (Rn n))
  | 0 => rec0_ok
  | n + 1 => step_ok _ (Rn_ok n)
def isT (r : EV) : Bool := match r with | .bool b => b | _ => false
def tk : KV := fun r _ _ => isT r
theorem isT_eq {r : EV} (h : isT r = true) : r = .bool true := by
  cases r <;> first | (cases h; done) | skip
  rename_i b
  cases b
  · cases h
  · rfl
theorem hr_nil (η : Nat → Value) (w : World) : HR w.heap.size (fun _ => none) η .nil 0 w :=
  ⟨Nat.le_refl _, fun _ _ h => (by cases h), fun _ _ => rfl, fun _ _ h => (by cases h), fun _ _ _ _ _ _ h => (by cases h)⟩
theorem true_of {f : FuncId} {args : List EV} {us : List Value} (hg : Good f args .nil 0 tk) (w : World) (hv : VL (fun _ => none) η0 args us) :
    Calls prog f us.toArray w fun e w' => e = .returned (.bool true) ∧ Below w.heap.size w w' := by
  refine (hg.2.2 w.heap.size (fun _ => none) w us (hr_nil _ w) hv).mono ?_
  rintro e w' ⟨r, hp', nx', v, ρ', hk, rfl, hgo, hr⟩
  obtain rfl := isT_eq hk
  obtain rfl : v = .bool true := hr
  exact ⟨rfl, hgo.below⟩
end Go.Proofs.YtnfdkmnmniiokaaGreatDoor
