import Derived.Test.YtnfdkmnmniiokaaGreatDoorX7
set_option linter.unusedVariables false
set_option linter.unusedSimpArgs false
namespace Go.Proofs.YtnfdkmnmniiokaaGreatDoor
open Go.RowKit

/-! Two things held against each other. -/
def eqNil : Value → Value → Bool
  | .pointer none, .pointer none => true
  | .slice none 0 0, .slice none 0 0 => true
  | .map none, .map none => true
  | .nilFunc, .nilFunc => true
  | .nilIface, .nilIface => true
  | .tuple ⟨[]⟩, .tuple ⟨[]⟩ => true
  | _, _ => false
theorem eqNil_eq {u v : Value} (h : eqNil u v = true) : u = v := by
  unfold eqNil at h
  split at h <;> first | rfl | cases h
mutual
def eqEV : EV → EV → Bool
  | .bool a, .bool b => a == b
  | .int k n, .int k' m => decide (k = k') && decide (n = m)
  | .str l v, .str l' v' => Nat.beq l l' && Nat.beq v v'
  | .val u, .val v => eqNil u v
  | .ptr o a, .ptr o' a' => Nat.beq o o' && Nat.beq a a'
  | .slc o a n z b, .slc o' a' n' z' b' => Nat.beq o o' && Nat.beq a a' && Nat.beq n n' && Nat.beq z z' && Nat.beq b b'
  | .mp o, .mp o' => Nat.beq o o'
  | .fn f a b, .fn f' a' b' => Nat.beq f f' && eqL a a' && eqL b b'
  | .ifc t x, .ifc t' x' => Nat.beq t t' && eqEV x x'
  | .mfn t x, .mfn t' x' => decide (t = t') && eqEV x x'
  | .agg a, .agg b => eqL a b
  | .tup a, .tup b => eqL a b
  | .sym i, .sym j => Nat.beq i j
  | _, _ => false
def eqL : List EV → List EV → Bool
  | [], [] => true
  | x :: xs, y :: ys => eqEV x y && eqL xs ys
  | _, _ => false
end
mutual
theorem eqEV_eq : ∀ {x y : EV}, eqEV x y = true → x = y
  | .bool a, y, h => by cases y <;> simp_all [eqEV]
  | .int k n, y, h => by cases y <;> simp_all [eqEV]
  | .str l v, y, h => by cases y <;> simp_all [eqEV]
  | .val u, y, h => by
    cases y <;> simp only [eqEV, Bool.false_eq_true] at h
    rw [eqNil_eq h]
  | .ptr o a, y, h => by cases y <;> simp_all [eqEV]
  | .slc o a n z b, y, h => by cases y <;> simp_all [eqEV]
  | .mp o, y, h => by cases y <;> simp_all [eqEV]
  | .fn f a b, y, h => by
    cases y <;> simp only [eqEV, Bool.false_eq_true, Bool.and_eq_true, Nat.beq_eq] at h
    obtain ⟨⟨rfl, h1⟩, h2⟩ := h
    rw [eqL_eq h1, eqL_eq h2]
  | .ifc t x, y, h => by
    cases y <;> simp only [eqEV, Bool.false_eq_true, Bool.and_eq_true, Nat.beq_eq] at h
    obtain ⟨rfl, h1⟩ := h
    rw [eqEV_eq h1]
  | .mfn t x, y, h => by
    cases y <;> simp only [eqEV, Bool.false_eq_true, Bool.and_eq_true, decide_eq_true_eq] at h
    obtain ⟨rfl, h1⟩ := h
    rw [eqEV_eq h1]
  | .agg a, y, h => by
    cases y <;> simp only [eqEV, Bool.false_eq_true] at h
    rw [eqL_eq h]
  | .tup a, y, h => by
    cases y <;> simp only [eqEV, Bool.false_eq_true] at h
    rw [eqL_eq h]
  | .sym i, y, h => by cases y <;> simp_all [eqEV]
theorem eqL_eq : ∀ {x y : List EV}, eqL x y = true → x = y
  | [], [], _ => rfl
  | x :: xs, y :: ys, h => by
    simp only [eqL, Bool.and_eq_true] at h
    rw [eqEV_eq h.1, eqL_eq h.2]
  | [], _ :: _, h => by simp [eqL] at h
  | _ :: _, [], h => by simp [eqL] at h
end

inductive EX | nrm | ex (id : Nat) | ret
def EX.out : EX → Exit
  | .nrm => .normal
  | .ex id => .exit id
  | .ret => .ret

abbrev KX := EX → List EV → Hp → Nat → Bool
abbrev KV := EV → Hp → Nat → Bool
abbrev KF := List EV → Hp → Nat → Bool
/-- Calls: of a function, with arguments. -/
abbrev CallK := FuncId → List EV → Hp → Nat → KV → Bool

def putE (fr : List EV) (dst : Option Tmp) (r : EV) : List EV := match dst with | some d => fr.set d r | none => fr

/-- Is an operation wanted? -/
def yieldE (ops : Array Oper) (fr : List EV) (j : Nat) : Option EV := ((ops[j]?).bind (·.dst)).bind (fr[·]?)
def wantG (y : Option EV) (want : Bool) : Option Bool :=
  match y with
  | some (.bool b) => some (b == want)
  | some (.val (.tuple ⟨[]⟩)) => some false
  | _ => none
def wantE (ops : Array Oper) (fr : List EV) : Option (Nat × Bool) → Option Bool
  | none => some true
  | some (j, want) => wantG (yieldE ops fr j) want

/-- What is kept of a frame: the rest is forgotten. -/
def keepE : List Bool → List EV → List EV
  | [], fr => fr
  | _, [] => []
  | b :: m, x :: fr => (match b with | true => x | false => .any) :: keepE m fr

section
variable (P : Program) {η : Nat → Value} (O : Orc P η)

/-- A method of what stands in an interface. -/
def methK (call : CallK) (m : String) (x : EV) (args : List EV) (hp : Hp) (nx : Nat) (k : KV) : Bool :=
  match x with
  | .ifc t v => match mthA P t m with
    | some f => call f (v :: args) hp nx k
    | none => false
  | _ => false
def ev1 (call : CallK) (o : Oper) (fr : List EV) (hp : Hp) (nx : Nat) (k : KV) : Bool :=
  match o.op with
  | .call { callee := .value c, args := args, argTypes := _ } => match evO fr c with
    | .fn f first cap => call f (first ++ args.toList.map (evO fr) ++ cap) hp nx k
    | .mfn m x => methK P call m x (args.toList.map (evO fr)) hp nx k
    | _ => false
  | .call { callee := .invoke x m, args := args, argTypes := _ } => methK P call m (evO fr x) (args.toList.map (evO fr)) hp nx k
  | op => match pop P O hp fr op with
    | some r => k r hp nx
    | none => match wop P hp nx fr op with
      | some (r, hp', nx') => k r hp' nx'
      | none => false

def evL (call : CallK) (ops : Array Oper) : List Oper → List EV → Hp → Nat → KF → Bool
  | [], fr, hp, nx, k => k fr hp nx
  | o :: rest, fr, hp, nx, k =>
    match wantE ops fr o.guard with
    | some true => ev1 P O call o fr hp nx fun r hp nx => evL call ops rest (putE fr o.dst r) hp nx k
    | some false => evL call ops rest (putE fr o.dst (.val undef)) hp nx k
    | none => false

/-- Does an operation look at the objects? -/
def reads : Op → Bool
  | .load _ _ => true
  | .convert _ _ _ => true
  | .lookup _ _ _ _ => true
  | _ => false

/-- How a region that draws its order is gone through: 'first i m p': i is taken first, for it only reads, and reads the same at the next m points (behind them something that waits for it has come up); 'only i p': no other may come up; 'two i j p q': one of two comes up; 'swap i j p': j only makes an object of what it is handed, and comes up ahead of i or behind it. -/
inductive Plan where
  | fin
  | first (i m : Nat) (p : Plan)
  | only (i : Nat) (p : Plan)
  | two (i j : Nat) (p q : Plan)
  | swap (i j : Nat) (p : Plan)
abbrev KD := List EV → Hp → Nat → List Hp → Bool
def evD (call : CallK) (mk : List Bool) (ops : Array Oper) : Plan → List EV → Hp → Nat → KD → Bool
  | .fin, fr, hp, nx, k => k (keepE mk fr) hp nx []
  | .first i m rest, fr, hp, nx, k =>
    match ops[i]? with
    | some o => match wantE ops fr o.guard with
      | some true => match pop P O hp fr o.op with
        | some r => sure r && evD call mk ops rest (putE fr o.dst r) hp nx fun fr' hp' nx' pts =>
            (!reads o.op || (pts.take (m - 1)).all fun h => match pop P O h fr o.op with | some r' => eqEV r r' | none => false) && k fr' hp' nx' pts
        | none => false
      | some false => evD call mk ops rest (putE fr o.dst (.val undef)) hp nx k
      | none => false
    | none => false
  | .only i rest, fr, hp, nx, k =>
    match ops[i]? with
    | some o => match wantE ops fr o.guard with
      | some true => ev1 P O call o fr hp nx fun r hp2 nx2 => evD call mk ops rest (putE fr o.dst r) hp2 nx2 fun fr' hp' nx' pts => k fr' hp' nx' (hp2 :: pts)
      | some false => evD call mk ops rest (putE fr o.dst (.val undef)) hp nx fun fr' hp' nx' pts => k fr' hp' nx' (hp :: pts)
      | none => false
    | none => false
  | .two i j p q, fr, hp, nx, k =>
    (match ops[i]? with
    | some o => match wantE ops fr o.guard with
      | some true => ev1 P O call o fr hp nx fun r hp2 nx2 => evD call mk ops p (putE fr o.dst r) hp2 nx2 fun fr' hp' nx' pts => k fr' hp' nx' (hp2 :: pts)
      | some false => evD call mk ops p (putE fr o.dst (.val undef)) hp nx fun fr' hp' nx' pts => k fr' hp' nx' (hp :: pts)
      | none => false
    | none => false) &&
    (match ops[j]? with
    | some o => match wantE ops fr o.guard with
      | some true => ev1 P O call o fr hp nx fun r hp2 nx2 => evD call mk ops q (putE fr o.dst r) hp2 nx2 fun fr' hp' nx' pts => k fr' hp' nx' (hp2 :: pts)
      | some false => evD call mk ops q (putE fr o.dst (.val undef)) hp nx fun fr' hp' nx' pts => k fr' hp' nx' (hp :: pts)
      | none => false
    | none => false)
  | .swap i j p, fr, hp, nx, k =>
    match ops[i]?, ops[j]? with
    | some o, some oj => match oj.guard, wantE ops fr o.guard with
      | none, some true => ev1 P O call o fr hp nx fun r hp2 nx2 => match alcE P fr oj.op with
        | some (x, res) => evD call mk ops p (putE (putE fr o.dst r) oj.dst (res nx2)) (hp2.set nx2 (some x)) (nx2 + 1) fun fr' hp' nx' pts => k fr' hp' nx' (hp2 :: (hp2.set nx2 (some x)) :: pts)
        | none => false
      | _, _ => false
    | _, _ => false

def resE (hp : Hp) (fr : List EV) : List ResultVar → Option (List EV)
  | [] => some []
  | .tmp t :: rs => match resE hp fr rs with | some vs => some (evO fr (.tmp t) :: vs) | none => none
  | .cell t ty :: rs => match loadA P hp ty (evO fr (.tmp t)), resE hp fr rs with | some v, some vs => some (v :: vs) | _, _ => none
def oneOf : List EV → EV
  | [x] => x
  | xs => .tup xs

abbrev Pls := Nat → Nat → Option Plan

def plainF (f : FuncId) : Bool :=
  match P.funcs[f]? with
  | some fn => fn.body.isSome && fn.name != "runtime.NumGoroutine"
  | none => false

def endE (fn : Func) (k : KV) (e : EX) (fr : List EV) (hp : Hp) (nx : Nat) : Bool :=
  match e with
  | .ex _ => false
  | _ => match resE P hp fr fn.results.toList with
    | some vs => k (oneOf vs) hp nx
    | none => false
def kSeq (m : List Bool) (again : List EV → Hp → Nat → Bool) (k : KX) : KX := fun e fr hp nx =>
  match e with
  | .nrm => again (keepE m fr) hp nx
  | .ex j => k (.ex j) fr hp nx
  | .ret => k .ret fr hp nx
def kBlock (id : Nat) (k : KX) : KX := fun e fr hp nx =>
  match e with
  | .nrm => k .nrm fr hp nx
  | .ex j => if Nat.beq j id then k .nrm fr hp nx else k (.ex j) fr hp nx
  | .ret => k .ret fr hp nx
def loopE (m : List Bool) (body : List EV → Hp → Nat → KX → Bool) : Nat → List EV → Hp → Nat → KX → Bool
  | 0, _, _, _, _ => false
  | n + 1, fr, hp, nx, k => body fr hp nx (kSeq m (fun fr hp nx => loopE m body n fr hp nx k) k)
/-- What is to be kept, along the code. -/
inductive Ann where
  | leaf
  | seq (m : List Bool) (a b : Ann)
  | cond (m n : List Bool) (a b : Ann)
  | block (a : Ann)
  | loop (m : List Bool) (a : Ann)
  | reg (m : List Bool)
def Ann.m1 : Ann → List Bool | .seq m _ _ => m | .cond m _ _ _ => m | .loop m _ => m | .reg m => m | _ => []
def Ann.m2 : Ann → List Bool | .cond _ n _ _ => n | _ => []
def Ann.l : Ann → Ann | .seq _ a _ => a | .cond _ _ a _ => a | .block a => a | .loop _ a => a | _ => .leaf
def Ann.r : Ann → Ann | .seq _ _ b => b | .cond _ _ _ b => b | _ => .leaf
/-- Code: 'call' makes the calls, a loop goes round at most lf times. -/
def evC (call : CallK) (lf : Nat) (pl : Nat → Option Plan) : Code → Ann → List EV → Hp → Nat → KX → Bool
  | .skip, _, fr, hp, nx, k => k .nrm fr hp nx
  | .label _, _, fr, hp, nx, k => k .nrm fr hp nx
  | .exit id, _, fr, hp, nx, k => k (.ex id) fr hp nx
  | .ret, _, fr, hp, nx, k => k .ret fr hp nx
  | .seq x y, an, fr, hp, nx, k => evC call lf pl x an.l fr hp nx (kSeq an.m1 (fun fr hp nx => evC call lf pl y an.r fr hp nx k) k)
  | .cond c x y, an, fr, hp, nx, k =>
    match evO fr c with
    | .bool t => match t with
      | true => evC call lf pl x an.l (keepE an.m1 fr) hp nx k
      | false => evC call lf pl y an.r (keepE an.m2 fr) hp nx k
    | _ => false
  | .block id c, an, fr, hp, nx, k => evC call lf pl c an.l fr hp nx (kBlock id k)
  | .loop c, an, fr, hp, nx, k => loopE an.m1 (evC call lf pl c an.l) lf (keepE an.m1 fr) hp nx k
  | .region id ops draw, an, fr, hp, nx, k =>
    match draw with
    | true => match pl id with
      | some p => evD P O call an.m1 ops p fr hp nx fun fr hp nx _ => k .nrm fr hp nx
      | none => false
    | false => evL P O call ops ops.toList fr hp nx fun fr hp nx => k .nrm (keepE an.m1 fr) hp nx
  | _, _, _, _, _, _ => false

/-- A function's body, its calls made by 'call'. -/
def bodyE (call : CallK) (lf : Nat) (pl : Pls) (an : Nat → Ann) : CallK := fun f args hp nx k =>
  match plainF P f with
  | true => match P.funcs[f]? with
    | some fn => match fn.body with
      | some c => evC P O call lf (pl f) c (an f) (args ++ List.replicate (fn.ntmps - args.length) (.val undef)) hp nx (endE P fn k)
      | none => false
    | none => false
  | false => false
/-- Calls so deep. -/
def evF (lf : Nat) (pl : Pls) (an : Nat → Ann) : Nat → CallK
  | 0 => fun _ _ _ _ _ => false
  | n + 1 => bodyE P O (evF lf pl an n) lf pl an
end

/-! The plans are right. -/
/-- Does an operation that has not come up wait for i, or for one that waits for it? -/
def waitsOn (ops : Array Oper) (l : Array Bool) (i : Nat) : Nat → Nat → Bool
  | 0, _ => false
  | d + 1, e => !l.getD e true && match ops[e]? with
    | some o => o.after.any fun x => Region.binds .any x && (Nat.beq x.on i || waitsOn ops l i d x.on)
    | none => false
def lateOk (ops : Array Oper) (l : Array Bool) (i : Nat) : Nat → Plan → Bool
  | _, .fin => true
  | m, .first _ _ p => lateOk ops l i m p
  | m, .only e p => if Nat.ble m 1 then waitsOn ops l i 8 e else lateOk ops l i (m - 1) p
  | m, .two a b p q => if Nat.ble m 1 then waitsOn ops l i 8 a && waitsOn ops l i 8 b else lateOk ops l i (m - 1) p && lateOk ops l i (m - 1) q
  | m, .swap a b p => if Nat.ble m 1 then waitsOn ops l i 8 a else if Nat.ble m 2 then waitsOn ops l i 8 b else lateOk ops l i (m - 2) p
def planOk (ops : Array Oper) : Plan → Nat → Array Bool → Bool
  | .fin, _, l => (Region.ready .any ops l).isEmpty
  | .first i m p, n + 1, l => Region.free .any ops l i && (Region.ready .any ops l).contains i && Nat.ble 1 m && lateOk ops l i m p && planOk ops p n (l.setIfInBounds i true)
  | .only i p, n + 1, l => Region.ready .any ops l == [i] && planOk ops p n (l.setIfInBounds i true)
  | .swap i j p, n + 2, l => Region.ready .any ops l == [i, j] && Region.ready .any ops (l.setIfInBounds i true) == [j] && Region.ready .any ops (l.setIfInBounds j true) == [i] &&
    (match ops[i]?, ops[j]? with | some o, some oj => oj.apart ops o | _, _ => false) && planOk ops p n ((l.setIfInBounds i true).setIfInBounds j true)
  | .two i j p q, n + 1, l => Region.ready .any ops l == [i, j] && planOk ops p n (l.setIfInBounds i true) && planOk ops q n (l.setIfInBounds j true)
  | _, _, _ => false
def codeOk (pl : Nat → Option Plan) : Code → Bool
  | .seq x y => codeOk pl x && codeOk pl y
  | .cond _ x y => codeOk pl x && codeOk pl y
  | .block _ c => codeOk pl c
  | .loop c => codeOk pl c
  | .region id ops true => match pl id with
    | some p => Region.noSelect ops && planOk ops p ops.size (Array.replicate ops.size false)
    | none => true
  | _ => true

end Go.Proofs.YtnfdkmnmniiokaaGreatDoor
