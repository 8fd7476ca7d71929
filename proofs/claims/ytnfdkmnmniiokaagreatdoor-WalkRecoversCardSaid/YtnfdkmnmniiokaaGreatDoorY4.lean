import Derived.Test.YtnfdkmnmniiokaaGreatDoorY3
import Derived.KernelRfl
set_option linter.unusedVariables false
set_option linter.unusedSimpArgs false
namespace Go.Proofs.YtnfdkmnmniiokaaGreatDoor
open Go.RowKit

/-! What the jump forms of functions are put together with. -/
/-- A table of functions, by their numbers. -/
inductive BT (α : Type) where
  | nil
  | node (l : BT α) (n : Nat) (x : α) (r : BT α)
def BT.find {α : Type} : BT α → Nat → Option α
  | .nil, _ => none
  | .node l n x r, m => match Nat.beq m n with
    | true => some x
    | false => match Nat.blt m n with
      | true => l.find m
      | false => r.find m
abbrev CallF := List EV → Hp → Nat → KV → Bool
def callT (t : BT CallF) : CallK := fun f args h n k => match t.find f with
  | some g => g args h n k
  | none => false
def alcB (P : Program) (t : TypeId) (len : Nat) (parts : List (Nat × EV)) : Option (EO × (Nat → EV)) := match bsCells P t len parts with
  | some (e, sz, cs) => some (.cells e cs, fun o => .slc o 0 len sz 0)
  | none => none
def alcM : Option (EO × (Nat → EV)) := some (.map [], fun o => .mp o)

section
variable (P : Program) (η : Nat → Value)
/-- What is said of a call that is answered with true. -/
def GoodC (f : FuncId) (args : List EV) (h : Hp) (n : Nat) (k : KV) : Prop := plainF P f = true ∧ (∃ r h' n', k r h' n' = true) ∧ CallW P η f args h n k
def BT.All : BT CallF → Prop
  | .nil => True
  | .node l f g r => All l ∧ (∀ args h n k, g args h n k = true → GoodC P η f args h n k) ∧ All r
end
theorem callT_sound {P : Program} {η : Nat → Value} (t : BT CallF) (h : BT.All P η t) : CallS P η (callT t) := by
  intro f args hp nx k q
  have key : ∀ t, BT.All P η t → ∀ g, BT.find t f = some g → g args hp nx k = true → GoodC P η f args hp nx k := by
    intro t
    induction t with
    | nil => intro _ g hg; cases hg
    | node l n x r ihl ihr =>
      intro ha g hg hq
      unfold BT.find at hg
      split at hg
      · rename_i hb
        rw [Nat.beq_eq] at hb
        subst hb
        injection hg with hg
        subst hg
        exact ha.2.1 _ _ _ _ hq
      · split at hg
        · exact ihl ha.1 g hg hq
        · exact ihr ha.2.2 g hg hq
  unfold callT at q
  split at q
  · rename_i g hg
    exact key t h g hg q
  · cases q
def ap0 (g : Hp → Nat → KV → Bool) : CallF := fun args h n k => match args with
  | [] => g h n k
  | _ => false
theorem ap0_ok {P : Program} {η : Nat → Value} {f : FuncId} {g : Hp → Nat → KV → Bool} (hg : ∀ (h : Hp) (n : Nat) (k : KV), g h n k = true → GoodC P η f [] h n k) (args : List EV) (h : Hp) (n : Nat) (k : KV) (q : ap0 g args h n k = true) : GoodC P η f args h n k := by
  unfold ap0 at q
  split at q
  · exact hg _ _ _ q
  · cases q
def ap1 (g : EV → Hp → Nat → KV → Bool) : CallF := fun args h n k => match args with
  | [a0] => g a0 h n k
  | _ => false
theorem ap1_ok {P : Program} {η : Nat → Value} {f : FuncId} {g : EV → Hp → Nat → KV → Bool} (hg : ∀ (a0 : EV) (h : Hp) (n : Nat) (k : KV), g a0 h n k = true → GoodC P η f [a0] h n k) (args : List EV) (h : Hp) (n : Nat) (k : KV) (q : ap1 g args h n k = true) : GoodC P η f args h n k := by
  unfold ap1 at q
  split at q
  · exact hg _ _ _ _ q
  · cases q
def ap2 (g : EV → EV → Hp → Nat → KV → Bool) : CallF := fun args h n k => match args with
  | [a0, a1] => g a0 a1 h n k
  | _ => false
theorem ap2_ok {P : Program} {η : Nat → Value} {f : FuncId} {g : EV → EV → Hp → Nat → KV → Bool} (hg : ∀ (a0 a1 : EV) (h : Hp) (n : Nat) (k : KV), g a0 a1 h n k = true → GoodC P η f [a0, a1] h n k) (args : List EV) (h : Hp) (n : Nat) (k : KV) (q : ap2 g args h n k = true) : GoodC P η f args h n k := by
  unfold ap2 at q
  split at q
  · exact hg _ _ _ _ _ q
  · cases q
def ap3 (g : EV → EV → EV → Hp → Nat → KV → Bool) : CallF := fun args h n k => match args with
  | [a0, a1, a2] => g a0 a1 a2 h n k
  | _ => false
theorem ap3_ok {P : Program} {η : Nat → Value} {f : FuncId} {g : EV → EV → EV → Hp → Nat → KV → Bool} (hg : ∀ (a0 a1 a2 : EV) (h : Hp) (n : Nat) (k : KV), g a0 a1 a2 h n k = true → GoodC P η f [a0, a1, a2] h n k) (args : List EV) (h : Hp) (n : Nat) (k : KV) (q : ap3 g args h n k = true) : GoodC P η f args h n k := by
  unfold ap3 at q
  split at q
  · exact hg _ _ _ _ _ _ q
  · cases q
def ap4 (g : EV → EV → EV → EV → Hp → Nat → KV → Bool) : CallF := fun args h n k => match args with
  | [a0, a1, a2, a3] => g a0 a1 a2 a3 h n k
  | _ => false
theorem ap4_ok {P : Program} {η : Nat → Value} {f : FuncId} {g : EV → EV → EV → EV → Hp → Nat → KV → Bool} (hg : ∀ (a0 a1 a2 a3 : EV) (h : Hp) (n : Nat) (k : KV), g a0 a1 a2 a3 h n k = true → GoodC P η f [a0, a1, a2, a3] h n k) (args : List EV) (h : Hp) (n : Nat) (k : KV) (q : ap4 g args h n k = true) : GoodC P η f args h n k := by
  unfold ap4 at q
  split at q
  · exact hg _ _ _ _ _ _ _ q
  · cases q
def ap5 (g : EV → EV → EV → EV → EV → Hp → Nat → KV → Bool) : CallF := fun args h n k => match args with
  | [a0, a1, a2, a3, a4] => g a0 a1 a2 a3 a4 h n k
  | _ => false
theorem ap5_ok {P : Program} {η : Nat → Value} {f : FuncId} {g : EV → EV → EV → EV → EV → Hp → Nat → KV → Bool} (hg : ∀ (a0 a1 a2 a3 a4 : EV) (h : Hp) (n : Nat) (k : KV), g a0 a1 a2 a3 a4 h n k = true → GoodC P η f [a0, a1, a2, a3, a4] h n k) (args : List EV) (h : Hp) (n : Nat) (k : KV) (q : ap5 g args h n k = true) : GoodC P η f args h n k := by
  unfold ap5 at q
  split at q
  · exact hg _ _ _ _ _ _ _ _ q
  · cases q
def ap6 (g : EV → EV → EV → EV → EV → EV → Hp → Nat → KV → Bool) : CallF := fun args h n k => match args with
  | [a0, a1, a2, a3, a4, a5] => g a0 a1 a2 a3 a4 a5 h n k
  | _ => false
theorem ap6_ok {P : Program} {η : Nat → Value} {f : FuncId} {g : EV → EV → EV → EV → EV → EV → Hp → Nat → KV → Bool} (hg : ∀ (a0 a1 a2 a3 a4 a5 : EV) (h : Hp) (n : Nat) (k : KV), g a0 a1 a2 a3 a4 a5 h n k = true → GoodC P η f [a0, a1, a2, a3, a4, a5] h n k) (args : List EV) (h : Hp) (n : Nat) (k : KV) (q : ap6 g args h n k = true) : GoodC P η f args h n k := by
  unfold ap6 at q
  split at q
  · exact hg _ _ _ _ _ _ _ _ _ q
  · cases q
def ap7 (g : EV → EV → EV → EV → EV → EV → EV → Hp → Nat → KV → Bool) : CallF := fun args h n k => match args with
  | [a0, a1, a2, a3, a4, a5, a6] => g a0 a1 a2 a3 a4 a5 a6 h n k
  | _ => false
theorem ap7_ok {P : Program} {η : Nat → Value} {f : FuncId} {g : EV → EV → EV → EV → EV → EV → EV → Hp → Nat → KV → Bool} (hg : ∀ (a0 a1 a2 a3 a4 a5 a6 : EV) (h : Hp) (n : Nat) (k : KV), g a0 a1 a2 a3 a4 a5 a6 h n k = true → GoodC P η f [a0, a1, a2, a3, a4, a5, a6] h n k) (args : List EV) (h : Hp) (n : Nat) (k : KV) (q : ap7 g args h n k = true) : GoodC P η f args h n k := by
  unfold ap7 at q
  split at q
  · exact hg _ _ _ _ _ _ _ _ _ _ q
  · cases q
def ap8 (g : EV → EV → EV → EV → EV → EV → EV → EV → Hp → Nat → KV → Bool) : CallF := fun args h n k => match args with
  | [a0, a1, a2, a3, a4, a5, a6, a7] => g a0 a1 a2 a3 a4 a5 a6 a7 h n k
  | _ => false
theorem ap8_ok {P : Program} {η : Nat → Value} {f : FuncId} {g : EV → EV → EV → EV → EV → EV → EV → EV → Hp → Nat → KV → Bool} (hg : ∀ (a0 a1 a2 a3 a4 a5 a6 a7 : EV) (h : Hp) (n : Nat) (k : KV), g a0 a1 a2 a3 a4 a5 a6 a7 h n k = true → GoodC P η f [a0, a1, a2, a3, a4, a5, a6, a7] h n k) (args : List EV) (h : Hp) (n : Nat) (k : KV) (q : ap8 g args h n k = true) : GoodC P η f args h n k := by
  unfold ap8 at q
  split at q
  · exact hg _ _ _ _ _ _ _ _ _ _ _ q
  · cases q
def ap9 (g : EV → EV → EV → EV → EV → EV → EV → EV → EV → Hp → Nat → KV → Bool) : CallF := fun args h n k => match args with
  | [a0, a1, a2, a3, a4, a5, a6, a7, a8] => g a0 a1 a2 a3 a4 a5 a6 a7 a8 h n k
  | _ => false
theorem ap9_ok {P : Program} {η : Nat → Value} {f : FuncId} {g : EV → EV → EV → EV → EV → EV → EV → EV → EV → Hp → Nat → KV → Bool} (hg : ∀ (a0 a1 a2 a3 a4 a5 a6 a7 a8 : EV) (h : Hp) (n : Nat) (k : KV), g a0 a1 a2 a3 a4 a5 a6 a7 a8 h n k = true → GoodC P η f [a0, a1, a2, a3, a4, a5, a6, a7, a8] h n k) (args : List EV) (h : Hp) (n : Nat) (k : KV) (q : ap9 g args h n k = true) : GoodC P η f args h n k := by
  unfold ap9 at q
  split at q
  · exact hg _ _ _ _ _ _ _ _ _ _ _ _ q
  · cases q
def ap10 (g : EV → EV → EV → EV → EV → EV → EV → EV → EV → EV → Hp → Nat → KV → Bool) : CallF := fun args h n k => match args with
  | [a0, a1, a2, a3, a4, a5, a6, a7, a8, a9] => g a0 a1 a2 a3 a4 a5 a6 a7 a8 a9 h n k
  | _ => false
theorem ap10_ok {P : Program} {η : Nat → Value} {f : FuncId} {g : EV → EV → EV → EV → EV → EV → EV → EV → EV → EV → Hp → Nat → KV → Bool} (hg : ∀ (a0 a1 a2 a3 a4 a5 a6 a7 a8 a9 : EV) (h : Hp) (n : Nat) (k : KV), g a0 a1 a2 a3 a4 a5 a6 a7 a8 a9 h n k = true → GoodC P η f [a0, a1, a2, a3, a4, a5, a6, a7, a8, a9] h n k) (args : List EV) (h : Hp) (n : Nat) (k : KV) (q : ap10 g args h n k = true) : GoodC P η f args h n k := by
  unfold ap10 at q
  split at q
  · exact hg _ _ _ _ _ _ _ _ _ _ _ _ _ q
  · cases q
def ap11 (g : EV → EV → EV → EV → EV → EV → EV → EV → EV → EV → EV → Hp → Nat → KV → Bool) : CallF := fun args h n k => match args with
  | [a0, a1, a2, a3, a4, a5, a6, a7, a8, a9, a10] => g a0 a1 a2 a3 a4 a5 a6 a7 a8 a9 a10 h n k
  | _ => false
theorem ap11_ok {P : Program} {η : Nat → Value} {f : FuncId} {g : EV → EV → EV → EV → EV → EV → EV → EV → EV → EV → EV → Hp → Nat → KV → Bool} (hg : ∀ (a0 a1 a2 a3 a4 a5 a6 a7 a8 a9 a10 : EV) (h : Hp) (n : Nat) (k : KV), g a0 a1 a2 a3 a4 a5 a6 a7 a8 a9 a10 h n k = true → GoodC P η f [a0, a1, a2, a3, a4, a5, a6, a7, a8, a9, a10] h n k) (args : List EV) (h : Hp) (n : Nat) (k : KV) (q : ap11 g args h n k = true) : GoodC P η f args h n k := by
  unfold ap11 at q
  split at q
  · exact hg _ _ _ _ _ _ _ _ _ _ _ _ _ _ q
  · cases q
def ap12 (g : EV → EV → EV → EV → EV → EV → EV → EV → EV → EV → EV → EV → Hp → Nat → KV → Bool) : CallF := fun args h n k => match args with
  | [a0, a1, a2, a3, a4, a5, a6, a7, a8, a9, a10, a11] => g a0 a1 a2 a3 a4 a5 a6 a7 a8 a9 a10 a11 h n k
  | _ => false
theorem ap12_ok {P : Program} {η : Nat → Value} {f : FuncId} {g : EV → EV → EV → EV → EV → EV → EV → EV → EV → EV → EV → EV → Hp → Nat → KV → Bool} (hg : ∀ (a0 a1 a2 a3 a4 a5 a6 a7 a8 a9 a10 a11 : EV) (h : Hp) (n : Nat) (k : KV), g a0 a1 a2 a3 a4 a5 a6 a7 a8 a9 a10 a11 h n k = true → GoodC P η f [a0, a1, a2, a3, a4, a5, a6, a7, a8, a9, a10, a11] h n k) (args : List EV) (h : Hp) (n : Nat) (k : KV) (q : ap12 g args h n k = true) : GoodC P η f args h n k := by
  unfold ap12 at q
  split at q
  · exact hg _ _ _ _ _ _ _ _ _ _ _ _ _ _ _ q
  · cases q
end Go.Proofs.YtnfdkmnmniiokaaGreatDoor
