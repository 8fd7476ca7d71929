import Derived.Test.YtnfdkmnmniiokaaGreatDoorY4
import Derived.Recover
set_option linter.unusedVariables false
set_option linter.unusedSimpArgs false
namespace Go.Proofs.YtnfdkmnmniiokaaGreatDoor
open Go.RowKit

section
variable {P : Program} {η : Nat → Value} {O : Orc P η}
/-- Code with a table that grows, in frames with calls deferred. -/
theorem code_sound (D : List Deferred) (hη : Ones η) (hm : P.follows .mixedOrders = true) {call : CallK} (hcall : CallS P η call) {pl : Nat → Option Plan} {n : Nat} {root : Code} {an : An2} {k0 : KX} (hok : codeOk pl root = true)
    (tab : Nat → List (List Bool × (List EV → Hp → Nat → Bool))) (h0 : TabOk (fun _ _ _ _ => false) (tab 0))
    (hs : ∀ m, TabOk (evU P O call pl n (jt (tab m)) (root, an) k0) (tab (m + 1))) {N : Nat} {fr : List EV} {hp : Hp} {nx : Nat}
    (h : evM P O call pl n (jt (tab N)) [] root an fr hp nx k0 = true) : TrX P D η root fr hp nx (fun e fr hp nx => k0 e fr hp nx = true) := by
  have hjs := jump_sound (O := O) (D := D) (K0 := fun e fr hp nx => k0 e fr hp nx = true) (k0 := k0) (n := n) (root := (root, an)) (Jn := fun m => jt (tab m)) hη hm hcall hok (fun _ _ _ _ q => q)
    (fun p vs hp nx => by
      cases hq : jt (tab 0) p vs hp nx with
      | false => rfl
      | true => exact absurd (h0.jt hq) (by simp))
    (fun m p vs hp nx q => (hs m).jt q) N
  have hlk := link_of_facts hjs root [] an rfl
  exact evM_sound hη hm hcall _ _ _ _ hp nx _ _ hok hlk (fun _ _ _ _ q => q) h
/-- Code without places that are jumped to. -/
theorem code_sound0 (D : List Deferred) (hη : Ones η) (hm : P.follows .mixedOrders = true) {call : CallK} (hcall : CallS P η call) {pl : Nat → Option Plan} {n : Nat} {root : Code} {k0 : KX} (hok : codeOk pl root = true)
    {fr : List EV} {hp : Hp} {nx : Nat} (h : evM P O call pl n (jt []) [] root .leaf fr hp nx k0 = true) : TrX P D η root fr hp nx (fun e fr hp nx => k0 e fr hp nx = true) :=
  code_sound (O := O) D hη hm hcall hok (fun _ => []) trivial (fun _ => trivial) (N := 0) h
end
end Go.Proofs.YtnfdkmnmniiokaaGreatDoor
