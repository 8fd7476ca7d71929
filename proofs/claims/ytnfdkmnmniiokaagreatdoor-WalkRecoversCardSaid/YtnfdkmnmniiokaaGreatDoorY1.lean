import Derived.Test.YtnfdkmnmniiokaaGreatDoorX9
set_option linter.unusedVariables false
set_option linter.unusedSimpArgs false
namespace Go.Proofs.YtnfdkmnmniiokaaGreatDoor
open Go.RowKit

/-! The engine once more: what follows stands once, and what several ways lead to is jumped to. -/
noncomputable section
def optK (o : Option EV) (k : EV → Bool) : Bool := Option.rec (motive := fun _ => Bool) false k o
def optS (o : Option EV) (k : EV → Bool) : Bool := Option.rec (motive := fun _ => Bool) false (fun x => sure x && k x) o
def optW (o : Option (EV × Hp × Nat)) (k : KV) : Bool := Option.rec (motive := fun _ => Bool) false (fun x => Prod.rec (motive := fun _ => Bool) (fun r y => Prod.rec (motive := fun _ => Bool) (fun h n => k r h n) y) x) o
/-- What is made of a value that is of one sort: of nothing else anything. -/
def onBool {α : Type} (d : α) (f : Bool → α) (x : EV) : α :=
  EV.rec (motive_1 := fun _ => α) (motive_2 := fun _ => Unit) f (fun _ _ => d) (fun _ _ => d) (fun _ => d) (fun _ _ => d) (fun _ _ _ _ _ => d) (fun _ => d) (fun _ _ _ _ _ => d) (fun _ _ _ => d) (fun _ _ _ => d) (fun _ _ => d) (fun _ _ => d) (fun _ => d) d () (fun _ _ _ _ => ()) x
def callV (P : Program) (call : CallK) (x : EV) (args : List EV) (h : Hp) (nx : Nat) (k : KV) : Bool :=
  match x with
  | .fn f first cap => call f (first ++ args ++ cap) h nx k
  | .mfn m x => methK P call m x args h nx k
  | _ => false
def condS (x : EV) (a b : Bool) : Bool := onBool false (fun t => Bool.rec (motive := fun _ => Bool) b a t) x
theorem condS_eq (x : EV) (a b : Bool) : condS x a b = match x with
  | .bool t => match t with
    | true => a
    | false => b
  | _ => false := by
  cases x <;> first | rfl | (rename_i t; cases t <;> rfl)
def resK (o : Option (List EV)) (h : Hp) (nx : Nat) (k : KV) : Bool := match o with | some vs => k (oneOf vs) h nx | none => false
def chkE (o : Option EV) (r : EV) : Bool := match o with | some r' => eqEV r r' | none => false
def gK (w : Option Bool) (act : KV → Bool) (j : KV) (h : Hp) (nx : Nat) : Bool :=
  Option.rec (motive := fun _ => Bool) false (fun b => Bool.rec (motive := fun _ => Bool) (j (.val (.tuple ⟨[]⟩)) h nx) (act j) b) w
def gD (w : Option Bool) (act : (EV → (List Hp → Bool) → Bool) → Bool) (j : EV → (List Hp → Bool) → Bool) : Bool :=
  Option.rec (motive := fun _ => Bool) false (fun b => Bool.rec (motive := fun _ => Bool) (j (.val (.tuple ⟨[]⟩)) (fun _ => true)) (act j) b) w
def guardK (ops : Array Oper) (fr : List EV) (g : Option (Nat × Bool)) (act : KV → Bool) (j : KV) (h : Hp) (nx : Nat) : Bool :=
  Option.rec (motive := fun _ => Bool) (act j) (fun g => gK (wantG (yieldE ops fr g.1) g.2) act j h nx) g
def guardD (ops : Array Oper) (fr : List EV) (g : Option (Nat × Bool)) (act : (EV → (List Hp → Bool) → Bool) → Bool) (j : EV → (List Hp → Bool) → Bool) : Bool :=
  Option.rec (motive := fun _ => Bool) (act j) (fun g => gD (wantG (yieldE ops fr g.1) g.2) act j) g
def optA (o : Option (EO × (Nat → EV))) (k : EO → (Nat → EV) → Bool) : Bool := Option.rec (motive := fun _ => Bool) false (fun x => Prod.rec (motive := fun _ => Bool) (fun a b => k a b) x) o

theorem optK_eq (o : Option EV) (k : EV → Bool) : optK o k = match o with | some x => k x | none => false := by cases o <;> rfl
theorem optS_eq (o : Option EV) (k : EV → Bool) : optS o k = match o with | some x => sure x && k x | none => false := by cases o <;> rfl
theorem optW_eq (o : Option (EV × Hp × Nat)) (k : KV) : optW o k = match o with | some (r, h, n) => k r h n | none => false := by rcases o with _ | ⟨r, h, n⟩ <;> rfl
theorem optA_eq (o : Option (EO × (Nat → EV))) (k : EO → (Nat → EV) → Bool) : optA o k = match o with | some (x, q) => k x q | none => false := by rcases o with _ | ⟨r, h⟩ <;> rfl
theorem gK_eq (w : Option Bool) (act : KV → Bool) (j : KV) (h : Hp) (nx : Nat) : gK w act j h nx = match w with
  | some true => act j
  | some false => j (.val undef) h nx
  | none => false := by rcases w with _ | (_ | _) <;> rfl
theorem gD_eq (w : Option Bool) (act : (EV → (List Hp → Bool) → Bool) → Bool) (j : EV → (List Hp → Bool) → Bool) : gD w act j = match w with
  | some true => act j
  | some false => j (.val undef) (fun _ => true)
  | none => false := by rcases w with _ | (_ | _) <;> rfl

section
variable (P : Program) {η : Nat → Value} (O : Orc P η)
theorem guardK_eq (ops : Array Oper) (fr : List EV) (g : Option (Nat × Bool)) (act : KV → Bool) (j : KV) (h : Hp) (nx : Nat) : guardK ops fr g act j h nx = match wantE ops fr g with
  | some true => act j
  | some false => j (.val undef) h nx
  | none => false := by
  rcases g with _ | ⟨i, w⟩
  · rfl
  · exact gK_eq _ _ _ _ _
theorem guardD_eq (ops : Array Oper) (fr : List EV) (g : Option (Nat × Bool)) (act : (EV → (List Hp → Bool) → Bool) → Bool) (j : EV → (List Hp → Bool) → Bool) : guardD ops fr g act j = match wantE ops fr g with
  | some true => act j
  | some false => j (.val undef) (fun _ => true)
  | none => false := by
  rcases g with _ | ⟨i, w⟩
  · rfl
  · exact gD_eq _ _ _
def evL2 (call : CallK) (ops : Array Oper) : List Oper → List EV → Hp → Nat → KF → Bool
  | [], fr, hp, nx, k => k fr hp nx
  | o :: rest, fr, hp, nx, k => guardK ops fr o.guard (ev1 P O call o fr hp nx) (fun r hp nx => evL2 call ops rest (putE fr o.dst r) hp nx k) hp nx
def evD2 (call : CallK) (ops : Array Oper) : Plan → List EV → Hp → Nat → KD → Bool
  | .fin, fr, hp, nx, k => k fr hp nx []
  | .first i m rest, fr, hp, nx, k =>
    match ops[i]? with
    | some o => match reads o.op && Nat.blt 1 m with
      | true => guardD ops fr o.guard (fun j => optS (pop P O hp fr o.op) fun r => j r fun pts => (pts.take (m - 1)).all fun h => chkE (pop P O h fr o.op) r)
        fun r chk => evD2 call ops rest (putE fr o.dst r) hp nx fun fr' hp' nx' pts => chk pts && k fr' hp' nx' pts
      | false => guardK ops fr o.guard (fun j => optS (pop P O hp fr o.op) fun r => j r hp nx) (fun r h n => evD2 call ops rest (putE fr o.dst r) h n k) hp nx
    | none => false
  | .only i rest, fr, hp, nx, k =>
    match ops[i]? with
    | some o => guardK ops fr o.guard (ev1 P O call o fr hp nx) (fun r hp2 nx2 => evD2 call ops rest (putE fr o.dst r) hp2 nx2 fun fr' hp' nx' pts => k fr' hp' nx' (hp2 :: pts)) hp nx
    | none => false
  | .two i j p q, fr, hp, nx, k =>
    (match ops[i]? with
    | some o => guardK ops fr o.guard (ev1 P O call o fr hp nx) (fun r hp2 nx2 => evD2 call ops p (putE fr o.dst r) hp2 nx2 fun fr' hp' nx' pts => k fr' hp' nx' (hp2 :: pts)) hp nx
    | none => false) &&
    (match ops[j]? with
    | some o => guardK ops fr o.guard (ev1 P O call o fr hp nx) (fun r hp2 nx2 => evD2 call ops q (putE fr o.dst r) hp2 nx2 fun fr' hp' nx' pts => k fr' hp' nx' (hp2 :: pts)) hp nx
    | none => false)
  | .swap i j p, fr, hp, nx, k =>
    match ops[i]?, ops[j]? with
    | some o, some oj => match oj.guard, wantE ops fr o.guard with
      | none, some true => ev1 P O call o fr hp nx fun r hp2 nx2 => optA (alcE P fr oj.op) fun x res =>
          evD2 call ops p (putE (putE fr o.dst r) oj.dst (res nx2)) (hp2.set nx2 (some x)) (nx2 + 1) fun fr' hp' nx' pts => k fr' hp' nx' (hp2 :: (hp2.set nx2 (some x)) :: pts)
      | _, _ => false
    | _, _ => false

theorem evL2_eq (call : CallK) (ops : Array Oper) : ∀ (l : List Oper) (fr : List EV) (hp : Hp) (nx : Nat) (k : KF), evL2 P O call ops l fr hp nx k = evL P O call ops l fr hp nx k
  | [], fr, hp, nx, k => rfl
  | o :: rest, fr, hp, nx, k => by
    have ih := fun fr hp nx => evL2_eq call ops rest fr hp nx k
    simp only [evL2, evL, guardK_eq, ih]
    rcases wantE ops fr o.guard with _ | (_ | _) <;> rfl
theorem evD2_eq (call : CallK) (ops : Array Oper) : ∀ (p : Plan) (fr : List EV) (hp : Hp) (nx : Nat) (k : KD), evD2 P O call ops p fr hp nx k = evD P O call [] ops p fr hp nx k
  | .fin, fr, hp, nx, k => rfl
  | .first i m rest, fr, hp, nx, k => by
    have ih := fun fr hp nx k => evD2_eq call ops rest fr hp nx k
    simp only [evD2, evD, guardD_eq, guardK_eq, optS_eq, ih]
    rcases ops[i]? with _ | o
    · rfl
    simp only
    by_cases hc : reads o.op && Nat.blt 1 m
    · have hr : reads o.op = true := by simp only [Bool.and_eq_true] at hc; exact hc.1
      rw [hc]
      simp only [hr, Bool.not_true, Bool.false_or]
      rcases wantE ops fr o.guard with _ | (_ | _)
      · rfl
      · simp only [Bool.true_and]
      · simp only
        rcases pop P O hp fr o.op with _ | r <;> rfl
    · rw [Bool.not_eq_true] at hc
      rw [hc]
      have key : ∀ (pts : List Hp) (f : Hp → Bool), (!reads o.op || (pts.take (m - 1)).all f) = true := by
        intro pts f
        rcases hr : reads o.op with _ | _
        · rfl
        · rw [hr, Bool.true_and] at hc
          have : m - 1 = 0 := by
            rcases m with _ | _ | m
            · rfl
            · rfl
            · exfalso
              have : Nat.blt 1 (m + 2) = true := by simp [Nat.blt, Nat.ble_eq]
              rw [this] at hc
              cases hc
          rw [this]
          simp
      simp only [key, Bool.true_and]
      rcases wantE ops fr o.guard with _ | (_ | _)
      · rfl
      · rfl
      · simp only
        rcases pop P O hp fr o.op with _ | r <;> rfl
  | .only i rest, fr, hp, nx, k => by
    have ih := fun fr hp nx k => evD2_eq call ops rest fr hp nx k
    simp only [evD2, evD, guardK_eq, ih]
    rcases ops[i]? with _ | o
    · rfl
    simp only
    rcases wantE ops fr o.guard with _ | (_ | _) <;> rfl
  | .two i j p q, fr, hp, nx, k => by
    have ih := fun fr hp nx k => evD2_eq call ops p fr hp nx k
    have ih2 := fun fr hp nx k => evD2_eq call ops q fr hp nx k
    simp only [evD2, evD, guardK_eq, ih, ih2]
    congr 1
  | .swap i j p, fr, hp, nx, k => by
    have ih := fun fr hp nx k => evD2_eq call ops p fr hp nx k
    simp only [evD2, evD, optA_eq, ih]
    rcases ops[i]? with _ | o
    · rfl
    rcases ops[j]? with _ | oj
    · rfl
    simp only
    rcases oj.guard with _ | g
    · rcases wantE ops fr o.guard with _ | (_ | _) <;> rfl
    · rfl
end
end
end Go.Proofs.YtnfdkmnmniiokaaGreatDoor
