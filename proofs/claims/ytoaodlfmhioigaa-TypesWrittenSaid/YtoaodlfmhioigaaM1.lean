/- A part of the proof of TypesWrittenSaid. No condition. -/
import Derived.WalkKit
import Derived.Maps.AppendAt
import Derived.Below
import Derived.Laws.CopyRow
import Derived.Deep.AppendLies
import Derived.Lib.AppendStr
set_option linter.unusedSimpArgs false
set_option linter.unusedVariables false
section
namespace Go.Proofs.Ytoaodlfmhioigaa

/-- Abstract values: memory that nobody writes any more stands within them. -/
inductive AV where
  | val (v : Value)
  | ref (o off g : Nat)
  | dat (cs : List AV)
  | vec (sz n : Nat) (cs : List AV)
  | row (o sz off n g : Nat)
  | fn (f : Fn) (first captured : List AV)
  | ifc (t : TypeId) (x : AV)
  | agg (cs : List AV)
  | tup (cs : List AV)
  | any

/-- What an abstract value is held against. -/
structure Env where
  dom : Nat → Nat → Prop
  cur : Nat → Option (Nat × Nat)
  data : Nat → Prop
  cell : Nat → Nat → Option Value
  size : Nat → Option Nat

/-- No object may be named. -/
def Env.nr (E : Env) : Env := { E with dom := fun _ _ => False }

mutual
def VR (E : Env) : AV → Value → Prop
  | .val v, u => u = v
  | .ref o off g, u => E.dom o g ∧ u.oneCell' = true ∧ ∀ b, E.cur o = some (b, g) → u = .pointer (some ⟨b, off, none⟩)
  | .dat cs, u => ∃ b off, u = .pointer (some ⟨b, off, none⟩) ∧ E.data b ∧ VC E.nr b off cs
  | .vec sz n cs, u => ∃ a c, u = .slice a n c ∧ n ≤ c ∧ c ≤ maxLen ∧ n * sz = cs.length ∧ (cs ≠ [] → ∃ b off, a = some ⟨b, off, none⟩ ∧ E.data b ∧ VC E.nr b off cs)
  | .row o sz off n g, u => E.dom o g ∧ u.oneCell' = true ∧ ∀ b, E.cur o = some (b, g) → ∃ c p, u = .slice (some ⟨b, p, none⟩) n c ∧ (p = off * sz ∨ n = 0 ∧ off ≠ 0) ∧ n ≤ c ∧ off + c ≤ maxLen ∧ E.size b = some ((off + c) * sz)
  | .fn f fs cs, u => ∃ us vs, u = .func f us vs ∧ VL E fs us.toList ∧ VL E cs vs.toList
  | .ifc t x, u => ∃ v, u = .iface t v ∧ VR E x v
  | .agg cs, u => ∃ us, u = .agg us ∧ VL E cs us.toList
  | .tup cs, u => ∃ us, u = .tuple us ∧ VL E cs us.toList
  | .any, _ => True
def VC (E : Env) (b : Nat) : Nat → List AV → Prop
  | _, [] => True
  | off, x :: xs => (∃ v, E.cell b off = some v ∧ VR E x v) ∧ VC E b (off + 1) xs
def VL (E : Env) : List AV → List Value → Prop
  | [], [] => True
  | x :: xs, u :: us => VR E x u ∧ VL E xs us
  | [], _ :: _ => False
  | _ :: _, [] => False
end

/-- The world goes on: what was data stays as it is; an object that is the same is where it was. -/
structure Env.Le (E E' : Env) : Prop where
  dom : ∀ o g, E.dom o g → E'.dom o g
  cur : ∀ o b g, E.dom o g → E'.cur o = some (b, g) → E.cur o = some (b, g) ∧ E'.size b = E.size b
  data : ∀ b, E.data b → E'.data b
  cell : ∀ b i, E.data b → E'.cell b i = E.cell b i

theorem Env.Le.refl (E : Env) : E.Le E := ⟨fun _ _ h => h, fun _ _ _ _ h => ⟨h, rfl⟩, fun _ h => h, fun _ _ _ => rfl⟩
theorem Env.Le.trans {E F G : Env} (h : E.Le F) (k : F.Le G) : E.Le G :=
  ⟨fun o g d => k.dom o g (h.dom o g d), fun o b g d e => by
    obtain ⟨e1, s1⟩ := k.cur o b g (h.dom o g d) e
    obtain ⟨e2, s2⟩ := h.cur o b g d e1
    exact ⟨e2, s1.trans s2⟩, fun b d => k.data b (h.data b d), fun b i d => (k.cell b i (h.data b d)).trans (h.cell b i d)⟩

theorem Env.Le.nr {E F : Env} (h : E.Le F) : E.nr.Le F.nr := ⟨fun _ _ h => h, fun _ _ _ h => h.elim, h.data, h.cell⟩
theorem Env.nr_le (E : Env) : E.nr.Le E := ⟨fun _ _ h => h.elim, fun _ _ _ h => h.elim, fun _ h => h, fun _ _ _ => rfl⟩

mutual
theorem VR.le {E E' : Env} (l : E.Le E') : ∀ (x : AV) (u : Value), VR E x u → VR E' x u
  | .val _, _, h => h
  | .ref o off g, _, ⟨d, s, h⟩ => ⟨l.dom o g d, s, fun b e => h b (l.cur o b g d e).1⟩
  | .dat cs, _, ⟨b, off, e, d, h⟩ => ⟨b, off, e, l.data b d, VC.le l.nr cs b off d h⟩
  | .vec sz n cs, _, ⟨a, c, e, h1, h2, h3, h4⟩ => ⟨a, c, e, h1, h2, h3, fun hne => by
      obtain ⟨b, off, e, d, h⟩ := h4 hne
      exact ⟨b, off, e, l.data b d, VC.le l.nr cs b off d h⟩⟩
  | .row o sz off n g, _, ⟨d, s, h⟩ => ⟨l.dom o g d, s, fun b e => by
      obtain ⟨e1, hs⟩ := l.cur o b g d e
      obtain ⟨c, p, h1, hp, h2, h3, h4⟩ := h b e1
      exact ⟨c, p, h1, hp, h2, h3, hs.trans h4⟩⟩
  | .fn f fs cs, _, ⟨us, vs, e, h1, h2⟩ => ⟨us, vs, e, VL.le l fs _ h1, VL.le l cs _ h2⟩
  | .ifc t x, _, ⟨v, e, h⟩ => ⟨v, e, VR.le l x v h⟩
  | .agg cs, _, ⟨us, e, h⟩ => ⟨us, e, VL.le l cs _ h⟩
  | .tup cs, _, ⟨us, e, h⟩ => ⟨us, e, VL.le l cs _ h⟩
  | .any, _, _ => trivial
theorem VC.le {E E' : Env} (l : E.Le E') : ∀ (cs : List AV) (b off : Nat), E.data b → VC E b off cs → VC E' b off cs
  | [], _, _, _, _ => trivial
  | x :: xs, b, off, d, ⟨⟨v, e, h⟩, hs⟩ => ⟨⟨v, (l.cell b off d).trans e, VR.le l x v h⟩, VC.le l xs b (off + 1) d hs⟩
theorem VL.le {E E' : Env} (l : E.Le E') : ∀ (cs : List AV) (us : List Value), VL E cs us → VL E' cs us
  | [], [], _ => trivial
  | x :: xs, u :: us, ⟨h, hs⟩ => ⟨VR.le l x u h, VL.le l xs us hs⟩
  | [], _ :: _, h => h.elim
  | _ :: _, [], h => h.elim
end

theorem VL.length {E : Env} : ∀ {cs : List AV} {us : List Value}, VL E cs us → us.length = cs.length
  | [], [], _ => rfl
  | _ :: _, _ :: _, ⟨_, h⟩ => by simp [VL.length h]
  | [], _ :: _, h => h.elim
  | _ :: _, [], h => h.elim
theorem VL.get {E : Env} : ∀ {cs : List AV} {us : List Value} (i : Nat) {x : AV}, VL E cs us → cs[i]? = some x → ∃ u, us[i]? = some u ∧ VR E x u
  | [], _, _, _, _, h => by simp at h
  | _ :: _, [], _, _, h, _ => h.elim
  | y :: ys, u :: us, 0, x, ⟨h, _⟩, e => by simp at e; subst e; exact ⟨u, rfl, h⟩
  | y :: ys, u :: us, i + 1, x, ⟨_, h⟩, e => by simpa using VL.get i h (by simpa using e)
theorem VL.append {E : Env} : ∀ {cs ds : List AV} {us vs : List Value}, VL E cs us → VL E ds vs → VL E (cs ++ ds) (us ++ vs)
  | [], _, [], _, _, k => k
  | _ :: _, _, _ :: _, _, ⟨h, hs⟩, k => ⟨h, VL.append hs k⟩
  | [], _, _ :: _, _, h, _ => h.elim
  | _ :: _, _, [], _, h, _ => h.elim
theorem VL.take {E : Env} : ∀ {cs : List AV} {us : List Value} (n : Nat), VL E cs us → VL E (cs.take n) (us.take n)
  | [], [], n, _ => by simp [VL]
  | _ :: _, _ :: _, 0, _ => by simp [VL]
  | _ :: _, _ :: _, n + 1, ⟨h, hs⟩ => ⟨h, VL.take n hs⟩
  | [], _ :: _, _, h => h.elim
  | _ :: _, [], _, h => h.elim
theorem VL.drop {E : Env} : ∀ {cs : List AV} {us : List Value} (n : Nat), VL E cs us → VL E (cs.drop n) (us.drop n)
  | [], [], n, _ => by simp [VL]
  | _ :: _, _ :: _, 0, h => h
  | _ :: _, _ :: _, n + 1, ⟨_, hs⟩ => VL.drop n hs
  | [], _ :: _, _, h => h.elim
  | _ :: _, [], _, h => h.elim
theorem VL.set {E : Env} : ∀ {cs : List AV} {us : List Value} (i : Nat) {x : AV} {u : Value}, VL E cs us → VR E x u → VL E (cs.set i x) (us.set i u)
  | [], [], _, _, _, _, _ => by simp [VL]
  | _ :: _, _ :: _, 0, _, _, ⟨_, hs⟩, k => ⟨k, hs⟩
  | _ :: _, _ :: _, i + 1, _, _, ⟨h, hs⟩, k => ⟨h, VL.set i hs k⟩
  | [], _ :: _, _, _, _, h, _ => h.elim
  | _ :: _, [], _, _, _, h, _ => h.elim
/-- Cells in a row, as a list. -/
theorem VC.get {E : Env} {b : Nat} : ∀ {cs : List AV} {off : Nat} (i : Nat) {x : AV}, VC E b off cs → cs[i]? = some x → ∃ v, E.cell b (off + i) = some v ∧ VR E x v
  | [], _, _, _, _, h => by simp at h
  | y :: ys, off, 0, x, ⟨h, _⟩, e => by simp at e; subst e; simpa using h
  | y :: ys, off, i + 1, x, ⟨_, h⟩, e => by
    obtain ⟨v, h1, h2⟩ := VC.get i h (by simpa using e)
    exact ⟨v, by rw [show off + (i + 1) = off + 1 + i by omega]; exact h1, h2⟩
theorem VC.drop {E : Env} {b : Nat} : ∀ {cs : List AV} {off : Nat} (i : Nat), VC E b off cs → VC E b (off + i) (cs.drop i)
  | [], _, _, _ => by simp [VC]
  | _ :: _, off, 0, h => h
  | _ :: ys, off, i + 1, ⟨_, h⟩ => by
    have := VC.drop i h
    rw [show off + (i + 1) = off + 1 + i by omega]
    exact this
theorem VC.take {E : Env} {b : Nat} : ∀ {cs : List AV} {off : Nat} (i : Nat), VC E b off cs → VC E b off (cs.take i)
  | [], _, _, _ => by simp [VC]
  | _ :: _, off, 0, _ => by simp [VC]
  | _ :: ys, off, i + 1, ⟨h, hs⟩ => ⟨h, VC.take i hs⟩
theorem VC.list {E : Env} {b : Nat} : ∀ {cs : List AV} {off : Nat}, VC E b off cs → ∃ us : List Value, VL E cs us ∧ ∀ i u, us[i]? = some u → E.cell b (off + i) = some u
  | [], _, _ => ⟨[], trivial, fun _ _ h => by simp at h⟩
  | x :: xs, off, ⟨⟨v, e, h⟩, hs⟩ => by
    obtain ⟨us, k1, k2⟩ := VC.list hs
    refine ⟨v :: us, ⟨h, k1⟩, fun i u hi => ?_⟩
    cases i with
    | zero => simp at hi; subst hi; exact e
    | succ i =>
      rw [show off + (i + 1) = off + 1 + i by omega]
      exact k2 i u (by simpa using hi)
theorem VC.of_list {E : Env} {b : Nat} : ∀ {cs : List AV} {us : List Value} {off : Nat}, VL E cs us → (∀ i u, us[i]? = some u → E.cell b (off + i) = some u) → VC E b off cs
  | [], [], _, _, _ => trivial
  | x :: xs, u :: us, off, ⟨h, hs⟩, k => ⟨⟨u, by simpa using k 0 u rfl, h⟩, VC.of_list hs (fun i v hi => by
      have := k (i + 1) v (by simpa using hi)
      rw [show off + 1 + i = off + (i + 1) by omega]; exact this)⟩
  | [], _ :: _, _, h, _ => h.elim
  | _ :: _, [], _, h, _ => h.elim

/-- Other names for the objects. -/
def Env.pull (E : Env) (σ : Nat → Nat) : Env := { E with dom := fun o g => E.dom (σ o) g, cur := fun o => E.cur (σ o) }

mutual
def AV.ren (σ : Nat → Nat) : AV → AV
  | .val v => .val v
  | .ref o off g => .ref (σ o) off g
  | .dat cs => .dat cs
  | .vec sz n cs => .vec sz n cs
  | .row o sz off n g => .row (σ o) sz off n g
  | .fn f fs cs => .fn f (AV.renL σ fs) (AV.renL σ cs)
  | .ifc t x => .ifc t (x.ren σ)
  | .agg cs => .agg (AV.renL σ cs)
  | .tup cs => .tup (AV.renL σ cs)
  | .any => .any
def AV.renL (σ : Nat → Nat) : List AV → List AV
  | [] => []
  | x :: xs => x.ren σ :: AV.renL σ xs
end

theorem Env.pull_nr (E : Env) (σ : Nat → Nat) : (E.pull σ).nr.Le E.nr := ⟨fun _ _ h => h.elim, fun _ _ _ h => h.elim, fun _ h => h, fun _ _ _ => rfl⟩
theorem Env.nr_pull (E : Env) (σ : Nat → Nat) : E.nr.Le (E.pull σ).nr := ⟨fun _ _ h => h.elim, fun _ _ _ h => h.elim, fun _ h => h, fun _ _ _ => rfl⟩

mutual
theorem VR.pull {E : Env} {σ : Nat → Nat} : ∀ (x : AV) (u : Value), VR E (x.ren σ) u → VR (E.pull σ) x u
  | .val _, _, h => h
  | .ref _ _ _, _, h => h
  | .dat cs, _, ⟨b, off, e, d, h⟩ => ⟨b, off, e, d, VC.le (E.nr_pull σ) cs b off d h⟩
  | .vec sz n cs, _, ⟨a, c, e, h1, h2, h3, h4⟩ => ⟨a, c, e, h1, h2, h3, fun hne => by
      obtain ⟨b, off, e, d, h⟩ := h4 hne
      exact ⟨b, off, e, d, VC.le (E.nr_pull σ) cs b off d h⟩⟩
  | .row _ _ _ _ _, _, h => h
  | .fn f fs cs, _, ⟨us, vs, e, h1, h2⟩ => ⟨us, vs, e, VL.pull fs _ h1, VL.pull cs _ h2⟩
  | .ifc t x, _, ⟨v, e, h⟩ => ⟨v, e, VR.pull x v h⟩
  | .agg cs, _, ⟨us, e, h⟩ => ⟨us, e, VL.pull cs _ h⟩
  | .tup cs, _, ⟨us, e, h⟩ => ⟨us, e, VL.pull cs _ h⟩
  | .any, _, _ => trivial
theorem VL.pull {E : Env} {σ : Nat → Nat} : ∀ (cs : List AV) (us : List Value), VL E (AV.renL σ cs) us → VL (E.pull σ) cs us
  | [], [], _ => trivial
  | x :: xs, u :: us, ⟨h, hs⟩ => ⟨VR.pull x u h, VL.pull xs us hs⟩
  | [], _ :: _, h => h.elim
  | _ :: _, [], h => h.elim
end

mutual
theorem VR.push {E : Env} {σ : Nat → Nat} : ∀ (x : AV) (u : Value), VR (E.pull σ) x u → VR E (x.ren σ) u
  | .val _, _, h => h
  | .ref _ _ _, _, h => h
  | .dat cs, _, ⟨b, off, e, d, h⟩ => ⟨b, off, e, d, VC.le (E.pull_nr σ) cs b off d h⟩
  | .vec sz n cs, _, ⟨a, c, e, h1, h2, h3, h4⟩ => ⟨a, c, e, h1, h2, h3, fun hne => by
      obtain ⟨b, off, e, d, h⟩ := h4 hne
      exact ⟨b, off, e, d, VC.le (E.pull_nr σ) cs b off d h⟩⟩
  | .row _ _ _ _ _, _, h => h
  | .fn f fs cs, _, ⟨us, vs, e, h1, h2⟩ => ⟨us, vs, e, VL.push fs _ h1, VL.push cs _ h2⟩
  | .ifc t x, _, ⟨v, e, h⟩ => ⟨v, e, VR.push x v h⟩
  | .agg cs, _, ⟨us, e, h⟩ => ⟨us, e, VL.push cs _ h⟩
  | .tup cs, _, ⟨us, e, h⟩ => ⟨us, e, VL.push cs _ h⟩
  | .any, _, _ => trivial
theorem VL.push {E : Env} {σ : Nat → Nat} : ∀ (cs : List AV) (us : List Value), VL (E.pull σ) cs us → VL E (AV.renL σ cs) us
  | [], [], _ => trivial
  | x :: xs, u :: us, ⟨h, hs⟩ => ⟨VR.push x u h, VL.push xs us hs⟩
  | [], _ :: _, h => h.elim
  | _ :: _, [], h => h.elim
end

/- Only these objects are named. -/
mutual
@[simp] def AV.closed (C : Nat → Bool) : AV → Bool
  | .val _ => true
  | .ref o _ _ => C o
  | .dat _ => true
  | .vec _ _ _ => true
  | .row o _ _ _ _ => C o
  | .fn _ fs cs => AV.closedL C fs && AV.closedL C cs
  | .ifc _ x => x.closed C
  | .agg cs => AV.closedL C cs
  | .tup cs => AV.closedL C cs
  | .any => true
@[simp] def AV.closedL (C : Nat → Bool) : List AV → Bool
  | [] => true
  | x :: xs => x.closed C && AV.closedL C xs
end

structure Env.LeC (C : Nat → Bool) (E E' : Env) : Prop where
  dom : ∀ o g, C o = true → E.dom o g → E'.dom o g
  cur : ∀ o b g, C o = true → E.dom o g → E'.cur o = some (b, g) → E.cur o = some (b, g) ∧ E'.size b = E.size b
  data : ∀ b, E.data b → E'.data b
  cell : ∀ b i, E.data b → E'.cell b i = E.cell b i
theorem Env.LeC.nr {C : Nat → Bool} {E F : Env} (h : Env.LeC C E F) : E.nr.Le F.nr := ⟨fun _ _ h => h, fun _ _ _ h => h.elim, h.data, h.cell⟩

mutual
theorem VR.leC {C : Nat → Bool} {E E' : Env} (l : Env.LeC C E E') : ∀ (x : AV) (u : Value), x.closed C = true → VR E x u → VR E' x u
  | .val _, _, _, h => h
  | .ref o off g, _, c, ⟨d, s, h⟩ => ⟨l.dom o g c d, s, fun b e => h b (l.cur o b g c d e).1⟩
  | .dat cs, _, _, ⟨b, off, e, d, h⟩ => ⟨b, off, e, l.data b d, VC.le l.nr cs b off d h⟩
  | .vec sz n cs, _, _, ⟨a, c, e, h1, h2, h3, h4⟩ => ⟨a, c, e, h1, h2, h3, fun hne => by
      obtain ⟨b, off, e, d, h⟩ := h4 hne
      exact ⟨b, off, e, l.data b d, VC.le l.nr cs b off d h⟩⟩
  | .row o sz off n g, _, c, ⟨d, s, h⟩ => ⟨l.dom o g c d, s, fun b e => by
      obtain ⟨e1, hs⟩ := l.cur o b g c d e
      obtain ⟨c, p, h1, hp, h2, h3, h4⟩ := h b e1
      exact ⟨c, p, h1, hp, h2, h3, hs.trans h4⟩⟩
  | .fn f fs cs, _, c, ⟨us, vs, e, h1, h2⟩ => by
      simp only [AV.closed, Bool.and_eq_true] at c
      exact ⟨us, vs, e, VL.leC l fs _ c.1 h1, VL.leC l cs _ c.2 h2⟩
  | .ifc t x, _, c, ⟨v, e, h⟩ => ⟨v, e, VR.leC l x v c h⟩
  | .agg cs, _, c, ⟨us, e, h⟩ => ⟨us, e, VL.leC l cs _ c h⟩
  | .tup cs, _, c, ⟨us, e, h⟩ => ⟨us, e, VL.leC l cs _ c h⟩
  | .any, _, _, _ => trivial
theorem VL.leC {C : Nat → Bool} {E E' : Env} (l : Env.LeC C E E') : ∀ (cs : List AV) (us : List Value), AV.closedL C cs = true → VL E cs us → VL E' cs us
  | [], [], _, _ => trivial
  | x :: xs, u :: us, c, ⟨h, hs⟩ => by
      simp only [AV.closedL, Bool.and_eq_true] at c
      exact ⟨VR.leC l x u c.1 h, VL.leC l xs us c.2 hs⟩
  | [], _ :: _, _, h => h.elim
  | _ :: _, [], _, h => h.elim
end

/-- No object at all is named: then it holds without any. -/
theorem Env.leC_nr (E : Env) : Env.LeC (fun _ => false) E E.nr := ⟨fun _ _ h => (by cases h), fun _ _ _ h => (by cases h), fun _ h => h, fun _ _ _ => rfl⟩

end Go.Proofs.Ytoaodlfmhioigaa
end

section
namespace Go.Proofs.Ytoaodlfmhioigaa
open Go.RowKit

/-- What has been turned: only blocks in S; new blocks come behind. -/
structure Upd (S : Nat → Prop) (w w' : World) : Prop where
  os : w'.os = w.os
  tape : w'.tape = w.tape
  output : w'.output = w.output
  size : w.heap.size ≤ w'.heap.size
  block : ∀ k, k < w.heap.size → ¬ S k → w'.heap[k]? = w.heap[k]?

theorem Upd.refl (S : Nat → Prop) (w : World) : Upd S w w := ⟨rfl, rfl, rfl, Nat.le_refl _, fun _ _ _ => rfl⟩
theorem Upd.trans {S T : Nat → Prop} {a b c : World} (h : Upd S a b) (k : Upd T b c) (hs : ∀ k, k < a.heap.size → T k → S k) : Upd S a c :=
  ⟨k.os.trans h.os, k.tape.trans h.tape, k.output.trans h.output, Nat.le_trans h.size k.size,
    fun i hi hn => (k.block i (Nat.lt_of_lt_of_le hi h.size) (fun s => hn (hs i hi s))).trans (h.block i hi hn)⟩
theorem Upd.wide {S T : Nat → Prop} {w w' : World} (h : Upd S w w') (hs : ∀ k, k < w.heap.size → S k → T k) : Upd T w w' :=
  ⟨h.os, h.tape, h.output, h.size, fun k hk hn => h.block k hk (fun s => hn (hs k hk s))⟩
theorem Upd.alloc (S : Nat → Prop) (w : World) (o : Obj) : Upd S w (w.alloc o) :=
  ⟨rfl, rfl, rfl, by simp, fun k hk _ => Below.heap_alloc w o k hk⟩
theorem Upd.setCell {S : Nat → Prop} (w : World) (a : Addr) (v : Value) (h : S a.block) : Upd S w (w.setCell a v) :=
  ⟨rfl, rfl, rfl, by simp [World.setCell], fun k _ hn => Below.heap_setCell w a v k (fun e => hn (e ▸ h))⟩
theorem Upd.drew (S : Nat → Prop) (w : World) : Upd S w w.drew := ⟨rfl, rfl, rfl, Nat.le_refl _, fun _ _ _ => rfl⟩
theorem Upd.grown {S : Nat → Prop} {w w' : World} {row : Option Nat} (h : w.grownBy w' row) (hr : ∀ k, row = some k → S k) : Upd S w w' :=
  ⟨h.os, h.tape, h.output, h.size, fun k hk hn => h.block k hk (fun e => hn (hr k e.symm))⟩
theorem Upd.toBelow {S : Nat → Prop} {B : Nat} {w w' : World} (h : Upd S w w') (hB : B ≤ w.heap.size) (hs : ∀ k, S k → B ≤ k) : Below B w w' :=
  ⟨h.os, h.tape, h.output, h.size, fun k hk => h.block k (by omega) (fun s => by have := hs k s; omega)⟩
theorem Upd.setRow {S : Nat → Prop} (w : World) (g : Nat) (cur : Array Value) (h : S g) : Upd S w (w.setRow g cur) :=
  ⟨rfl, rfl, rfl, by simp [World.setRow], fun k _ hn => setRow_other w g k cur (fun e => hn (e ▸ h))⟩

/-- An abstract object: a variable, or a row of things ('sz' cells each) that may grow. -/
structure AO where
  live : Bool
  g : Nat
  sz : Option Nat
  ty : TypeId
  cells : List AV

def curOf (ρ : List Nat) (os : List AO) (o : Nat) : Option (Nat × Nat) :=
  match os[o]?, ρ[o]? with
  | some a, some b => if a.live then some (b, a.g) else none
  | _, _ => none

/-- The blocks of objects that live. -/
def Lv (ρ : List Nat) (os : List AO) (b : Nat) : Prop := ∃ o g, curOf ρ os o = some (b, g)

def sizeAt (w : World) (b : Nat) : Option Nat :=
  match w.heap[b]? with
  | some (.cells arr _ _) => some arr.size
  | _ => none

def envOf (X : Nat → Prop) (ρ : List Nat) (w : World) (os : List AO) : Env where
  dom o g := ∃ a, os[o]? = some a ∧ g ≤ a.g
  cur := curOf ρ os
  data b := b < w.heap.size ∧ ¬ Lv ρ os b ∧ ¬ X b
  cell b i := w.cell? ⟨b, i, none⟩
  size b := sizeAt w b

def ObjOk (a : AO) (arr : Array Value) : Prop :=
  match a.sz with
  | none => arr.size = a.cells.length
  | some sz => 0 < sz ∧ a.cells.length ≤ arr.size ∧ (∃ n, a.cells.length = n * sz) ∧ ∃ cap, cap ≤ maxLen ∧ arr.size = cap * sz

/-- An object stands in its block. -/
def Stands (X : Nat → Prop) (ρ : List Nat) (w : World) (os : List AO) (a : AO) (b : Nat) : Prop :=
  ∃ arr, w.heap[b]? = some (.cells arr a.ty (0, 0)) ∧ ObjOk a arr ∧ VL (envOf X ρ w os) a.cells (arr.toList.take a.cells.length)

structure SR (X : Nat → Prop) (ρ : List Nat) (w : World) (os : List AO) : Prop where
  len : ρ.length = os.length
  apart : ∀ b, Lv ρ os b → ¬ X b
  xlt : ∀ b, X b → b < w.heap.size
  inj : ∀ o o' b g g', curOf ρ os o = some (b, g) → curOf ρ os o' = some (b, g') → o = o'
  obj : ∀ (o : Nat) (a : AO) (b : Nat), os[o]? = some a → a.live = true → ρ[o]? = some b → Stands X ρ w os a b

theorem curOf_some {ρ : List Nat} {os : List AO} {o b g : Nat} (h : curOf ρ os o = some (b, g)) : ∃ a, os[o]? = some a ∧ ρ[o]? = some b ∧ a.live = true ∧ a.g = g := by
  unfold curOf at h
  split at h
  · rename_i a b' h1 h2
    split at h
    · rename_i hl
      simp only [Option.some.injEq, Prod.mk.injEq] at h
      exact ⟨a, h1, by rw [h2, h.1], hl, h.2⟩
    · cases h
  · cases h
theorem curOf_mk {ρ : List Nat} {os : List AO} {o b : Nat} {a : AO} (h1 : os[o]? = some a) (h2 : ρ[o]? = some b) (hl : a.live = true) : curOf ρ os o = some (b, a.g) := by
  unfold curOf
  rw [h1, h2]
  simp [hl]

theorem SR.block {X : Nat → Prop} {ρ : List Nat} {w : World} {os : List AO} (h : SR X ρ w os) {o : Nat} {a : AO} (ho : os[o]? = some a) : ∃ b, ρ[o]? = some b := by
  have hlt := (List.getElem?_eq_some_iff.1 ho).1
  rw [← h.len] at hlt
  exact ⟨ρ[o], List.getElem?_eq_getElem hlt⟩

theorem SR.lt {X : Nat → Prop} {ρ : List Nat} {w : World} {os : List AO} (h : SR X ρ w os) {b : Nat} (hb : Lv ρ os b) : b < w.heap.size := by
  obtain ⟨o, g, hc⟩ := hb
  obtain ⟨a, h1, h2, h3, _⟩ := curOf_some hc
  obtain ⟨arr, h4, _⟩ := h.obj o a b h1 h3 h2
  exact (Array.getElem?_eq_some_iff.1 h4).1

theorem sizeAt_block {w w' : World} {b : Nat} (h : w'.heap[b]? = w.heap[b]?) : sizeAt w' b = sizeAt w b := by unfold sizeAt; rw [h]
theorem cell_block {w w' : World} {b i : Nat} (h : w'.heap[b]? = w.heap[b]?) : w'.cell? ⟨b, i, none⟩ = w.cell? ⟨b, i, none⟩ := by simp [World.cell?, h]

/-- One object is turned (in its block, or in a new one), or one is new: all else stands. -/
theorem SR.turn {X : Nat → Prop} {ρ ρ' : List Nat} {w w' : World} {os os' : List AO} (h : SR X ρ w os) (o : Nat) (a' : AO) (b' : Nat)
    (hu : Upd (fun k => ∃ g, curOf ρ os o = some (k, g)) w w') (hlen : ρ'.length = os'.length) (hlo : os.length ≤ os'.length)
    (hos : ∀ (i : Nat), i ≠ o → os'[i]? = os[i]?) (hρ : ∀ (i : Nat), i ≠ o → ρ'[i]? = ρ[i]?) (hoo : os'[o]? = some a') (hρo : ρ'[o]? = some b')
    (hb : (∃ g, curOf ρ os o = some (b', g)) ∨ w.heap.size ≤ b')
    (hg : ∀ a, os[o]? = some a → a.g ≤ a'.g) (hgs : ∀ b, curOf ρ os o = some (b, a'.g) → a'.live = true → b' = b ∧ sizeAt w' b = sizeAt w b)
    (hgd : ∀ a, os[o]? = some a → a.g = a'.g → a'.live = true → a.live = true)
    (hst : a'.live = true → (envOf X ρ w os).Le (envOf X ρ' w' os') → ∃ arr, w'.heap[b']? = some (.cells arr a'.ty (0, 0)) ∧ ObjOk a' arr ∧ VL (envOf X ρ' w' os') a'.cells (arr.toList.take a'.cells.length)) :
    SR X ρ' w' os' ∧ (envOf X ρ w os).Le (envOf X ρ' w' os') ∧ ∀ i b g, curOf ρ' os' i = some (b, g) → (∃ g', curOf ρ os i = some (b, g')) ∨ w.heap.size ≤ b := by
  have hcur : ∀ i, i ≠ o → curOf ρ' os' i = curOf ρ os i := fun i hi => by unfold curOf; rw [hos i hi, hρ i hi]
  have hcuro : ∀ b g, curOf ρ' os' o = some (b, g) → b = b' ∧ g = a'.g ∧ a'.live = true := fun b g hc => by
    obtain ⟨x, h1, h2, h3, h4⟩ := curOf_some hc
    rw [hoo] at h1; rw [hρo] at h2
    injection h1 with h1; injection h2 with h2
    subst h1
    exact ⟨h2.symm, h4.symm, h3⟩
  have hobj : ∀ i b g, curOf ρ' os' i = some (b, g) → (∃ g', curOf ρ os i = some (b, g')) ∨ w.heap.size ≤ b := by
    intro i b g hc
    by_cases hi : i = o
    · subst hi
      obtain ⟨rfl, _, _⟩ := hcuro b g hc
      rcases hb with ⟨g', hb⟩ | hb
      · exact .inl ⟨g', hb⟩
      · exact .inr hb
    · rw [hcur i hi] at hc
      exact .inl ⟨g, hc⟩
  have hlv : ∀ b, Lv ρ' os' b → Lv ρ os b ∨ w.heap.size ≤ b := by
    rintro b ⟨i, g, hc⟩
    rcases hobj i b g hc with ⟨g', h1⟩ | h1
    · exact .inl ⟨i, g', h1⟩
    · exact .inr h1
  have hle : (envOf X ρ w os).Le (envOf X ρ' w' os') := by
    refine ⟨?_, ?_, ?_, ?_⟩
    · rintro i g ⟨x, hx, hgx⟩
      by_cases hi : i = o
      · subst hi
        exact ⟨a', hoo, Nat.le_trans hgx (hg x hx)⟩
      · exact ⟨x, by rw [hos i hi]; exact hx, hgx⟩
    · rintro i b g ⟨x, hx, hgx⟩ hc
      by_cases hi : i = o
      · subst hi
        obtain ⟨rfl, rfl, hl⟩ := hcuro b g hc
        have hgg : x.g = a'.g := Nat.le_antisymm (hg x hx) hgx
        obtain ⟨b0, hb0⟩ := h.block hx
        have hc0 := curOf_mk hx hb0 (hgd x hx hgg hl)
        rw [hgg] at hc0
        obtain ⟨e1, e2⟩ := hgs b0 hc0 hl
        subst e1
        exact ⟨hc0, e2⟩
      · have hc' : curOf ρ os i = some (b, g) := (hcur i hi).symm.trans hc
        refine ⟨hc', ?_⟩
        refine sizeAt_block (hu.block b (h.lt ⟨i, g, hc'⟩) ?_)
        rintro ⟨g', hk⟩
        exact hi (h.inj i o b g g' hc' hk)
    · rintro b ⟨hb1, hb2, hb3⟩
      refine ⟨Nat.lt_of_lt_of_le hb1 hu.size, fun hl => ?_, hb3⟩
      rcases hlv b hl with hl | hl
      · exact hb2 hl
      · omega
    · rintro b i ⟨hb1, hb2, _⟩
      exact cell_block (hu.block b hb1 (fun ⟨g, hk⟩ => hb2 ⟨o, g, hk⟩))
  have hap : ∀ b, Lv ρ' os' b → ¬ X b := fun b hl hx => by
    rcases hlv b hl with h1 | h1
    · exact h.apart b h1 hx
    · have := h.xlt b hx; omega
  refine ⟨⟨hlen, hap, fun b hx => Nat.lt_of_lt_of_le (h.xlt b hx) hu.size, ?_, ?_⟩, hle, hobj⟩
  · intro i j b g g' hi hj
    by_cases h1 : i = o
    · by_cases h2 : j = o
      · rw [h1, h2]
      · subst h1
        obtain ⟨rfl, _, hl⟩ := hcuro b g hi
        rw [hcur j h2] at hj
        rcases hb with ⟨g2, hb⟩ | hb
        · exact h.inj _ _ _ _ _ hb hj
        · have := h.lt ⟨j, g', hj⟩
          omega
    · rw [hcur i h1] at hi
      by_cases h2 : j = o
      · subst h2
        obtain ⟨rfl, _, hl⟩ := hcuro b g' hj
        rcases hb with ⟨g2, hb⟩ | hb
        · exact h.inj _ _ _ _ _ hi hb
        · have := h.lt ⟨i, g, hi⟩
          omega
      · rw [hcur j h2] at hj
        exact h.inj _ _ _ _ _ hi hj
  · intro i x b hx hl hb2
    by_cases hi : i = o
    · subst hi
      rw [hoo] at hx; rw [hρo] at hb2
      injection hx with hx; injection hb2 with hb2
      subst hx; subst hb2
      exact hst hl hle
    · rw [hos i hi] at hx
      rw [hρ i hi] at hb2
      obtain ⟨arr, h1, h2, h3⟩ := h.obj i x b hx hl hb2
      have hc := curOf_mk hx hb2 hl
      refine ⟨arr, ?_, h2, VL.le hle _ _ h3⟩
      rw [hu.block b (h.lt ⟨i, _, hc⟩) (fun ⟨g', hk⟩ => hi (h.inj _ _ _ _ _ hc hk))]
      exact h1

end Go.Proofs.Ytoaodlfmhioigaa
end

section
namespace Go.Proofs.Ytoaodlfmhioigaa
open Go.RowKit

/-- Blocks of the objects that may be written. -/
def Lw (W : Nat → Prop) (ρ : List Nat) (os : List AO) (b : Nat) : Prop := ∃ o g, W o ∧ curOf ρ os o = some (b, g)

/-- What a step keeps. -/
structure Goes (X W : Nat → Prop) (ρ ρ' : List Nat) (w w' : World) (os os' : List AO) : Prop where
  sr : SR X ρ' w' os'
  le : (envOf X ρ w os).Le (envOf X ρ' w' os')
  upd : Upd (Lw W ρ os) w w'
  obj : ∀ i b g, curOf ρ' os' i = some (b, g) → (∃ g', curOf ρ os i = some (b, g')) ∨ w.heap.size ≤ b

theorem Goes.lv {X W : Nat → Prop} {ρ ρ' : List Nat} {w w' : World} {os os' : List AO} (h : Goes X W ρ ρ' w w' os os') : ∀ b, Lv ρ' os' b → Lv ρ os b ∨ w.heap.size ≤ b := by
  rintro b ⟨i, g, hc⟩
  rcases h.obj i b g hc with ⟨g', h1⟩ | h1
  · exact .inl ⟨i, g', h1⟩
  · exact .inr h1
theorem Goes.updL {X W : Nat → Prop} {ρ ρ' : List Nat} {w w' : World} {os os' : List AO} (h : Goes X W ρ ρ' w w' os os') : Upd (Lv ρ os) w w' := h.upd.wide fun _ _ ⟨o, g, _, hc⟩ => ⟨o, g, hc⟩
theorem Goes.wide {X W W' : Nat → Prop} {ρ ρ' : List Nat} {w w' : World} {os os' : List AO} (h : Goes X W ρ ρ' w w' os os') (hw : ∀ o, W o → W' o) : Goes X W' ρ ρ' w w' os os' :=
  ⟨h.sr, h.le, h.upd.wide fun _ _ ⟨o, g, k, hc⟩ => ⟨o, g, hw o k, hc⟩, h.obj⟩
theorem Goes.refl {X W : Nat → Prop} {ρ : List Nat} {w : World} {os : List AO} (h : SR X ρ w os) : Goes X W ρ ρ w w os os := ⟨h, Env.Le.refl _, Upd.refl _ _, fun _ _ g h => .inl ⟨g, h⟩⟩
theorem Goes.trans {X W : Nat → Prop} {ρ ρ1 ρ2 : List Nat} {w w1 w2 : World} {os os1 os2 : List AO} (h : Goes X W ρ ρ1 w w1 os os1) (k : Goes X W ρ1 ρ2 w1 w2 os1 os2) : Goes X W ρ ρ2 w w2 os os2 := by
  refine ⟨k.sr, h.le.trans k.le, h.upd.trans k.upd ?_, fun i b g hc => ?_⟩
  · rintro b hb ⟨o, g, hw, hc⟩
    rcases h.obj o b g hc with ⟨g', h1⟩ | h1
    · exact ⟨o, g', hw, h1⟩
    · omega
  · rcases k.obj i b g hc with ⟨g', h1⟩ | h1
    · exact h.obj i b g' h1
    · exact .inr (Nat.le_trans h.upd.size h1)

theorem SR.new {X W : Nat → Prop} {ρ : List Nat} {w : World} {os : List AO} (h : SR X ρ w os) (a : AO) (arr : Array Value) (hl : a.live = true) (hok : ObjOk a arr)
    (hv : VL (envOf X ρ w os) a.cells (arr.toList.take a.cells.length)) :
    Goes X W ρ (ρ ++ [w.heap.size]) w (w.alloc (.cells arr a.ty)) os (os ++ [a]) ∧ curOf (ρ ++ [w.heap.size]) (os ++ [a]) os.length = some (w.heap.size, a.g) := by
  have hno : ∀ b g, curOf ρ os os.length ≠ some (b, g) := fun b g hc => by
    obtain ⟨x, h1, _⟩ := curOf_some hc
    simp at h1
  have hlen := h.len
  have hnew : (w.alloc (.cells arr a.ty)).heap[w.heap.size]? = some (.cells arr a.ty (0, 0)) := heap_alloc_new w _
  have e1 : (os ++ [a])[os.length]? = some a := by simp
  have e2 : (ρ ++ [w.heap.size])[os.length]? = some w.heap.size := by rw [← hlen]; simp
  have hget : ∀ i : Nat, i ≠ os.length → (os ++ [a])[i]? = os[i]? := fun i hi => by
    rcases Nat.lt_or_ge i os.length with h | h
    · exact List.getElem?_append_left h
    · rw [List.getElem?_eq_none (by simp; omega), List.getElem?_eq_none (by omega)]
  have hgetρ : ∀ i : Nat, i ≠ os.length → (ρ ++ [w.heap.size])[i]? = ρ[i]? := fun i hi => by
    rcases Nat.lt_or_ge i ρ.length with h | h
    · exact List.getElem?_append_left h
    · rw [List.getElem?_eq_none (by simp; omega), List.getElem?_eq_none (by omega)]
  have ht := h.turn (ρ' := ρ ++ [w.heap.size]) (os' := os ++ [a]) (w' := w.alloc (.cells arr a.ty)) os.length a w.heap.size (Upd.alloc _ _ _) (by simp [hlen]) (by simp) hget hgetρ e1 e2 (.inr (Nat.le_refl _))
    (fun x hx => by simp at hx) (fun b hc => absurd hc (hno b _)) (fun x hx => by simp at hx) (fun _ hle => ⟨arr, hnew, hok, VL.le hle _ _ hv⟩)
  exact ⟨⟨ht.1, ht.2.1, Upd.alloc _ _ _, ht.2.2⟩, curOf_mk e1 e2 hl⟩

theorem SR.at {X : Nat → Prop} {ρ : List Nat} {w : World} {os : List AO} (h : SR X ρ w os) {o b g : Nat} (hc : curOf ρ os o = some (b, g)) :
    ∃ a arr, os[o]? = some a ∧ a.live = true ∧ a.g = g ∧ ρ[o]? = some b ∧ w.heap[b]? = some (.cells arr a.ty (0, 0)) ∧ ObjOk a arr ∧ VL (envOf X ρ w os) a.cells (arr.toList.take a.cells.length) := by
  obtain ⟨a, h1, h2, h3, h4⟩ := curOf_some hc
  obtain ⟨arr, k1, k2, k3⟩ := h.obj o a b h1 h3 h2
  exact ⟨a, arr, h1, h3, h4, h2, k1, k2, k3⟩

theorem SR.cur {X : Nat → Prop} {ρ : List Nat} {w : World} {os : List AO} (h : SR X ρ w os) {o : Nat} {a : AO} (ho : os[o]? = some a) (hl : a.live = true) : ∃ b, curOf ρ os o = some (b, a.g) := by
  obtain ⟨b, hb⟩ := h.block ho
  exact ⟨b, curOf_mk ho hb hl⟩

/-- The cells of an object, in memory. -/
theorem SR.cells {X : Nat → Prop} {ρ : List Nat} {w : World} {os : List AO} (h : SR X ρ w os) {o b g : Nat} {a : AO} (hc : curOf ρ os o = some (b, g)) (ho : os[o]? = some a) (off n : Nat) (hn : off + n ≤ a.cells.length) :
    ∃ us : List Value, us.length = n ∧ VL (envOf X ρ w os) ((a.cells.drop off).take n) us ∧ ∀ i u, us[i]? = some u → w.cell? ⟨b, off + i, none⟩ = some u := by
  obtain ⟨a', arr, h1, h2, h3, h4, h5, h6, h7⟩ := h.at hc
  rw [ho] at h1; injection h1 with h1; subst h1
  refine ⟨((arr.toList.take a.cells.length).drop off).take n, ?_, (h7.drop off).take n, ?_⟩
  · have := VL.length h7
    simp only [List.length_take, List.length_drop] at this ⊢
    omega
  · intro i u hi
    rw [List.getElem?_take] at hi
    split at hi
    · rw [List.getElem?_drop, List.getElem?_take] at hi
      split at hi
      · simp only [World.cell?, h5]
        simpa using hi
      · cases hi
    · cases hi

@[simp] def splice {α : Type} (cs : List α) (off : Nat) (xs : List α) : List α := cs.take off ++ xs ++ cs.drop (off + xs.length)
theorem splice_length {α : Type} {cs : List α} {off : Nat} {xs : List α} (h : off + xs.length ≤ cs.length) : (splice cs off xs).length = cs.length := by
  simp [splice]; omega

theorem store_cells {E : Env} {cs xs : List AV} {us : List Value} {arr : Array Value} {off : Nat} (hn : off + xs.length ≤ cs.length) (hus : us.length = xs.length) (hal : cs.length ≤ arr.size)
    (k : VL E cs (arr.toList.take cs.length)) (hv : VL E xs us) :
    VL E (splice cs off xs) ((arr.toList.take off ++ us ++ arr.toList.drop (off + us.length)).toArray.toList.take (splice cs off xs).length) := by
  have e : ((arr.toList.take off ++ us ++ arr.toList.drop (off + us.length)).toArray.toList.take (splice cs off xs).length) = (arr.toList.take cs.length).take off ++ us ++ (arr.toList.take cs.length).drop (off + us.length) := by
    rw [splice_length hn, List.take_take, Nat.min_eq_left (by omega)]
    simp only [List.toList_toArray]
    rw [List.take_append, List.take_append, List.take_take, Nat.min_eq_right (by omega : off ≤ cs.length), List.drop_take]
    simp only [List.length_take, List.length_append, Array.length_toList]
    rw [List.take_of_length_le (by omega : us.length ≤ cs.length - min off arr.size)]
    congr 2
    omega
  rw [e]
  unfold splice
  rw [← hus]
  exact ((k.take off).append hv).append (k.drop _)

/-- Cells of an object are written. -/
theorem SR.store {X W : Nat → Prop} {ρ : List Nat} {w : World} {os : List AO} (h : SR X ρ w os) {o b g : Nat} (hW : W o) {a : AO} (hc : curOf ρ os o = some (b, g)) (ho : os[o]? = some a) (off : Nat) (xs : List AV) (us : List Value)
    (hn : off + xs.length ≤ a.cells.length) (hv : VL (envOf X ρ w os) xs us) :
    ∃ arr, w.heap[b]? = some (.cells arr a.ty (0, 0)) ∧ off + us.length ≤ arr.size ∧
      Goes X W ρ ρ w (w.setRow b (arr.toList.take off ++ us ++ arr.toList.drop (off + us.length)).toArray) os (os.set o { a with cells := splice a.cells off xs }) := by
  obtain ⟨a', arr, h1, h2, h3, h4, h5, h6, h7⟩ := h.at hc
  rw [ho] at h1; injection h1 with h1; subst h1
  have hus := VL.length hv
  have hlt := (List.getElem?_eq_some_iff.1 ho).1
  have hal : a.cells.length ≤ arr.size := by have := VL.length h7; simp at this; omega
  have hsz : (arr.toList.take off ++ us ++ arr.toList.drop (off + us.length)).length = arr.size := by simp; omega
  refine ⟨arr, h5, by omega, ?_⟩
  have hu : Upd (fun k => ∃ g, curOf ρ os o = some (k, g)) w (w.setRow b (arr.toList.take off ++ us ++ arr.toList.drop (off + us.length)).toArray) := Upd.setRow _ _ _ ⟨g, hc⟩
  have hheap := setRow_heap w b arr (arr.toList.take off ++ us ++ arr.toList.drop (off + us.length)).toArray a.ty (0, 0) h5
  have ht := h.turn (ρ' := ρ) (os' := os.set o { a with cells := splice a.cells off xs }) (w' := w.setRow b (arr.toList.take off ++ us ++ arr.toList.drop (off + us.length)).toArray)
    o { a with cells := splice a.cells off xs } b hu (by simp [h.len]) (by simp) (fun i hi => by rw [List.getElem?_set]; simp [Ne.symm hi]) (fun _ _ => rfl) (by simp [hlt]) h4 (.inl ⟨g, hc⟩)
    (fun x hx => by rw [ho] at hx; injection hx with hx; subst hx; exact Nat.le_refl _)
    (fun b2 hc2 _ => by
      have : b2 = b := by
        obtain ⟨x, _, e, _⟩ := curOf_some hc2
        rw [h4] at e; injection e with e; exact e.symm
      subst this
      refine ⟨rfl, ?_⟩
      unfold sizeAt; rw [hheap, h5]; simp only [List.size_toArray, hsz])
    (fun x hx _ hl => by rw [ho] at hx; injection hx with hx; subst hx; exact hl)
    (fun _ hle => by
      refine ⟨_, hheap, ?_, ?_⟩
      · unfold ObjOk at h6 ⊢
        cases hz : a.sz with
        | none =>
          rw [hz] at h6
          simp only [List.size_toArray, hsz, splice_length hn] at h6 ⊢
          exact h6
        | some z =>
          rw [hz] at h6
          simp only [List.size_toArray, hsz, splice_length hn] at h6 ⊢
          exact h6
      · exact store_cells hn hus hal (VL.le hle _ _ h7) (VL.le hle _ _ hv))
  exact ⟨ht.1, ht.2.1, hu.wide (fun k _ ⟨g, hk⟩ => ⟨o, g, hW, hk⟩), ht.2.2⟩

end Go.Proofs.Ytoaodlfmhioigaa
end

section
namespace Go.Proofs.Ytoaodlfmhioigaa
open Go.RowKit

theorem own_len {w : World} {e : TypeId} {sz : Nat} {v : Value} {n : Nat} {xs : List Value} (h : w.ownsRow 0 e sz v n xs) {b : Nat} (hb : v.ownBlock = some b) :
    ∃ cap cur, v = .slice (some ⟨b, 0, none⟩) n cap ∧ w.heap[b]? = some (.cells cur e (0, 0)) ∧ n ≤ cap ∧ cap ≤ maxLen ∧ cur.size = cap * sz ∧ cur.toList.take xs.length = xs := by
  rcases h.2 with ⟨rfl, _⟩ | ⟨g, cap, cur, rfl, _, hg, h1, h2, h3, h4⟩
  · cases hb
  · simp only [Value.ownBlock, Option.some.injEq] at hb
    subst hb
    exact ⟨cap, cur, rfl, hg, h1, h2, h3, by rw [h.1]; exact h4⟩

/-- A row that was made: a new object. -/
theorem SR.made {X W : Nat → Prop} {ρ : List Nat} {w w' : World} {os : List AO} (h : SR X ρ w os) (e : TypeId) (sz : Nat) (hsz : 0 < sz) (v : Value) (n : Nat) (ys : List AV) (news : List Value)
    (hn : ys.length = n * sz) (hv : VL (envOf X ρ w os) ys news) (hg : w.grownBy w' none) (hown : w'.ownsRow 0 e sz v n news) (hb : v.ownBlock = some w.heap.size) :
    Goes X W ρ (ρ ++ [w.heap.size]) w w' os (os ++ [⟨true, 0, some sz, e, ys⟩]) ∧ VR (envOf X (ρ ++ [w.heap.size]) w' (os ++ [⟨true, 0, some sz, e, ys⟩])) (.row os.length sz 0 n 0) v := by
  obtain ⟨cap, cur, rfl, hheap, h1, h2, h3, h4⟩ := own_len hown hb
  have hnl := VL.length hv
  have hno : ∀ b g, curOf ρ os os.length ≠ some (b, g) := fun b g hc => by
    obtain ⟨x, h1, _⟩ := curOf_some hc
    simp at h1
  have hlen := h.len
  have e1 : (os ++ [(⟨true, 0, some sz, e, ys⟩ : AO)])[os.length]? = some ⟨true, 0, some sz, e, ys⟩ := by simp
  have e2 : (ρ ++ [w.heap.size])[os.length]? = some w.heap.size := by rw [← hlen]; simp
  have hget : ∀ i : Nat, i ≠ os.length → (os ++ [(⟨true, 0, some sz, e, ys⟩ : AO)])[i]? = os[i]? := fun i hi => by
    rcases Nat.lt_or_ge i os.length with h | h
    · exact List.getElem?_append_left h
    · rw [List.getElem?_eq_none (by simp; omega), List.getElem?_eq_none (by omega)]
  have hgetρ : ∀ i : Nat, i ≠ os.length → (ρ ++ [w.heap.size])[i]? = ρ[i]? := fun i hi => by
    rcases Nat.lt_or_ge i ρ.length with h | h
    · exact List.getElem?_append_left h
    · rw [List.getElem?_eq_none (by simp; omega), List.getElem?_eq_none (by omega)]
  have hu : Upd (fun _ => False) w w' := Upd.grown hg (fun _ h => by cases h)
  have ht := h.turn (ρ' := ρ ++ [w.heap.size]) (os' := os ++ [⟨true, 0, some sz, e, ys⟩]) (w' := w') os.length ⟨true, 0, some sz, e, ys⟩ w.heap.size (hu.wide (fun _ _ h => h.elim)) (by simp [hlen]) (by simp) hget hgetρ e1 e2 (.inr (Nat.le_refl _))
    (fun x hx => by simp at hx) (fun b hc => absurd hc (hno b _)) (fun x hx => by simp at hx)
    (fun _ hle => ⟨cur, hheap, ⟨hsz, by
        have := Nat.mul_le_mul_right sz h1
        show ys.length ≤ cur.size
        omega, ⟨n, hn⟩, cap, h2, h3⟩, by
      show VL _ ys _
      rw [← hnl, h4]
      exact VL.le hle _ _ hv⟩)
  refine ⟨⟨ht.1, ht.2.1, hu.wide (fun _ _ h => h.elim), ht.2.2⟩, ⟨_, e1, Nat.le_refl _⟩, rfl, fun b hc => ?_⟩
  have hc2 := curOf_mk e1 e2 rfl
  rw [show (envOf X (ρ ++ [w.heap.size]) w' (os ++ [⟨true, 0, some sz, e, ys⟩])).cur os.length = curOf (ρ ++ [w.heap.size]) (os ++ [⟨true, 0, some sz, e, ys⟩]) os.length from rfl, hc2] at hc
  simp only [Option.some.injEq, Prod.mk.injEq] at hc
  obtain ⟨rfl, _⟩ := hc
  refine ⟨cap, 0, rfl, .inl (by simp), h1, by omega, ?_⟩
  show sizeAt w' _ = _
  unfold sizeAt
  rw [hheap, Nat.zero_add]
  exact congrArg some h3

/-- A row that has grown, where it was or elsewhere. -/
theorem SR.grew {X W : Nat → Prop} {ρ : List Nat} {w w' : World} {os : List AO} (h : SR X ρ w os) {o b g : Nat} (hW : W o) {a : AO} (hc : curOf ρ os o = some (b, g)) (ho : os[o]? = some a) (sz : Nat) (hsz : 0 < sz) (v : Value) (n m : Nat) (ys : List AV) (xs news : List Value)
    (hz : a.sz = some sz) (hn : n * sz ≤ a.cells.length) (hx : xs.length = n * sz) (hm : ys.length = m * sz) (hvx : VL (envOf X ρ w os) (a.cells.take (n * sz)) xs) (hv : VL (envOf X ρ w os) ys news) (hg : w.grownBy w' (some b)) (hown : w'.ownsRow 0 a.ty sz v (n + m) (xs ++ news))
    (hb : v.ownBlock = some b ∨ v.ownBlock = some w.heap.size) :
    ∃ ρ', Goes X W ρ ρ' w w' os (os.set o { a with g := a.g + 1, cells := a.cells.take (n * sz) ++ ys }) ∧ VR (envOf X ρ' w' (os.set o { a with g := a.g + 1, cells := a.cells.take (n * sz) ++ ys })) (.row o sz 0 (n + m) (a.g + 1)) v := by
  obtain ⟨b', hb'⟩ : ∃ b', v.ownBlock = some b' := by rcases hb with h | h <;> exact ⟨_, h⟩
  obtain ⟨cap, cur, rfl, hheap, h1, h2, h3, h4⟩ := own_len hown hb'
  obtain ⟨a', arr, k1, k2, k3, k4, k5, k6, k7⟩ := h.at hc
  rw [ho] at k1; injection k1 with k1; subst k1
  have hbb : (∃ g, curOf ρ os o = some (b', g)) ∨ w.heap.size ≤ b' := by
    rcases hb with h | h <;> rw [hb'] at h <;> injection h with h
    · exact .inl ⟨g, by rw [h]; exact hc⟩
    · exact .inr (by omega)
  have hnl := VL.length hv
  have hlt := (List.getElem?_eq_some_iff.1 ho).1
  have hltρ := (List.getElem?_eq_some_iff.1 k4).1
  have hu : Upd (fun k => ∃ g, curOf ρ os o = some (k, g)) w w' := Upd.grown hg (fun k h => by injection h with h; subst h; exact ⟨g, hc⟩)
  have e1 : (os.set o { a with g := a.g + 1, cells := a.cells.take (n * sz) ++ ys })[o]? = some { a with g := a.g + 1, cells := a.cells.take (n * sz) ++ ys } := by simp [hlt]
  have e2 : (ρ.set o b')[o]? = some b' := by simp [hltρ]
  have hnew : ∀ b2, curOf ρ os o ≠ some (b2, a.g + 1) := fun b2 hc2 => by
    obtain ⟨x, q1, _, _, q2⟩ := curOf_some hc2
    rw [ho] at q1; injection q1 with q1; subst q1; omega
  have hlc : (a.cells.take (n * sz) ++ ys).length = (n + m) * sz := by rw [List.length_append, List.length_take, Nat.min_eq_left hn, hm, Nat.add_mul]
  have ht := h.turn (ρ' := ρ.set o b') (os' := os.set o { a with g := a.g + 1, cells := a.cells.take (n * sz) ++ ys }) (w' := w') o { a with g := a.g + 1, cells := a.cells.take (n * sz) ++ ys } b' hu (by simp [h.len]) (by simp)
    (fun i hi => by rw [List.getElem?_set]; simp [Ne.symm hi]) (fun i hi => by rw [List.getElem?_set]; simp [Ne.symm hi]) e1 e2 hbb
    (fun x hx => by rw [ho] at hx; injection hx with hx; subst hx; exact Nat.le_succ _) (fun b2 hc2 => absurd hc2 (hnew b2)) (fun x hx _ _ => by rw [ho] at hx; injection hx with hx; subst hx; exact k2)
    (fun _ hle => ⟨cur, hheap, by
      unfold ObjOk
      rw [show ({ a with g := a.g + 1, cells := a.cells.take (n * sz) ++ ys } : AO).sz = some sz from hz]
      refine ⟨hsz, ?_, ⟨n + m, hlc⟩, cap, h2, h3⟩
      have := Nat.mul_le_mul_right sz h1
      show (a.cells.take (n * sz) ++ ys).length ≤ cur.size
      omega, by
      show VL _ (a.cells.take (n * sz) ++ ys) (cur.toList.take (a.cells.take (n * sz) ++ ys).length)
      rw [show (a.cells.take (n * sz) ++ ys).length = (xs ++ news).length by rw [hlc, List.length_append, hx, hnl, hm, Nat.add_mul], h4]
      exact (VL.le hle _ _ hvx).append (VL.le hle _ _ hv)⟩)
  refine ⟨ρ.set o b', ⟨ht.1, ht.2.1, hu.wide (fun k _ ⟨g, hk⟩ => ⟨o, g, hW, hk⟩), ht.2.2⟩, ⟨_, e1, Nat.le_refl _⟩, rfl, fun b2 hc2 => ?_⟩
  have hc3 := curOf_mk e1 e2 (by exact k2)
  rw [show (envOf X (ρ.set o b') w' (os.set o { a with g := a.g + 1, cells := a.cells.take (n * sz) ++ ys })).cur o = curOf (ρ.set o b') (os.set o { a with g := a.g + 1, cells := a.cells.take (n * sz) ++ ys }) o from rfl, hc3] at hc2
  simp only [Option.some.injEq, Prod.mk.injEq] at hc2
  obtain ⟨rfl, _⟩ := hc2
  refine ⟨cap, 0, rfl, .inl (by simp), h1, by omega, ?_⟩
  show sizeAt w' _ = _
  unfold sizeAt
  rw [hheap, Nat.zero_add]
  exact congrArg some h3

/-- An object's end: its block is data from now on. -/
theorem SR.kill {X W : Nat → Prop} {ρ : List Nat} {w : World} {os : List AO} (h : SR X ρ w os) {o : Nat} {a : AO} (ho : os[o]? = some a) : Goes X W ρ ρ w w os (os.set o { a with live := false }) := by
  have hlt := (List.getElem?_eq_some_iff.1 ho).1
  obtain ⟨b, hb⟩ := h.block ho
  have hlen := h.len
  by_cases hl : a.live = true
  · have hc := curOf_mk ho hb hl
    have ht := h.turn (ρ' := ρ) (os' := os.set o { a with live := false }) (w' := w) o { a with live := false } b (Upd.refl _ _) (by simp [hlen]) (by simp) (fun i hi => by rw [List.getElem?_set]; simp [Ne.symm hi]) (fun _ _ => rfl) (by simp [hlt]) hb (.inl ⟨_, hc⟩)
      (fun x hx => by rw [ho] at hx; injection hx with hx; subst hx; exact Nat.le_refl _) (fun _ _ h => by cases h) (fun _ _ _ h => by cases h) (fun h => by cases h)
    exact ⟨ht.1, ht.2.1, Upd.refl _ _, ht.2.2⟩
  · have e : ({ a with live := false } : AO) = a := by
      cases a
      simp only [AO.mk.injEq, and_true, true_and]
      simpa using hl
    have e2 : os.set o { a with live := false } = os := by
      rw [e]
      apply List.ext_getElem?
      intro i
      rw [List.getElem?_set]
      split
      · rename_i h; subst h; simp [hlt]; exact (List.getElem?_eq_some_iff.1 ho).2.symm
      · rfl
    rw [e2]
    exact Goes.refl h

end Go.Proofs.Ytoaodlfmhioigaa
end

section
namespace Go.Proofs.Ytoaodlfmhioigaa
open Go.RowKit

@[simp] def frzV : Value → AV
  | .slice none 0 0 => .vec 0 0 []
  | v => .val v
theorem frzV_sound (E : Env) (u : Value) : VR E (frzV u) u := by
  unfold frzV
  split
  · exact ⟨none, 0, rfl, Nat.le_refl _, Nat.zero_le _, rfl, fun h => absurd rfl h⟩
  · exact rfl

/-- What nobody writes any more is data: rows of objects in K are written out. -/
@[simp] def frz (os : List AO) (K : Nat → Bool) : Nat → AV → AV
  | 0, x => x
  | _ + 1, .val v => frzV v
  | _ + 1, .ref o off g => .ref o off g
  | _ + 1, .dat cs => .dat cs
  | _ + 1, .vec sz n cs => .vec sz n cs
  | d + 1, .row o sz off n g =>
    match os[o]? with
    | some a =>
      if K o && a.live && a.g == g && a.sz == some sz && decide (off * sz + n * sz ≤ a.cells.length) then
        if n = 0 then .vec 0 0 []
        else if AV.closedL (fun _ => false) (((a.cells.drop (off * sz)).take (n * sz)).map (frz os K d)) then .vec sz n (((a.cells.drop (off * sz)).take (n * sz)).map (frz os K d))
        else .row o sz off n g
      else .row o sz off n g
    | none => .row o sz off n g
  | d + 1, .fn f fs cs => .fn f (fs.map (frz os K d)) (cs.map (frz os K d))
  | d + 1, .ifc t x => .ifc t (frz os K d x)
  | d + 1, .agg cs => .agg (cs.map (frz os K d))
  | d + 1, .tup cs => .tup (cs.map (frz os K d))
  | _ + 1, .any => .any

theorem VL.map {E E' : Env} {f : AV → AV} (h : ∀ x u, VR E x u → VR E' (f x) u) : ∀ {cs : List AV} {us : List Value}, VL E cs us → VL E' (cs.map f) us
  | [], [], _ => trivial
  | _ :: _, _ :: _, ⟨h1, hs⟩ => ⟨h _ _ h1, VL.map h hs⟩
  | [], _ :: _, k => k.elim
  | _ :: _, [], k => k.elim

theorem frz_sound {X : Nat → Prop} {ρ : List Nat} {w : World} {os : List AO} (h : SR X ρ w os) (K : Nat → Bool) {E' : Env} (hle : (envOf X ρ w os).Le E')
    (hd : ∀ o b g, K o = true → curOf ρ os o = some (b, g) → E'.data b ∧ ∀ i, E'.cell b i = w.cell? ⟨b, i, none⟩) :
    ∀ (d : Nat) (x : AV) (u : Value), VR (envOf X ρ w os) x u → VR E' (frz os K d x) u
  | 0, x, u, hv => VR.le hle x u hv
  | d + 1, x, u, hv => by
    have ih := frz_sound h K hle hd d
    cases x with
    | val v =>
      have hu : u = v := hv
      subst hu
      exact frzV_sound E' u
    | ref o off g => exact VR.le hle _ u hv
    | dat cs => exact VR.le hle _ u hv
    | vec sz n cs => exact VR.le hle _ u hv
    | fn f fs cs =>
      obtain ⟨us, vs, e, h1, h2⟩ := hv
      exact ⟨us, vs, e, VL.map ih h1, VL.map ih h2⟩
    | ifc t x =>
      obtain ⟨v, e, h1⟩ := hv
      exact ⟨v, e, ih _ _ h1⟩
    | agg cs =>
      obtain ⟨us, e, h1⟩ := hv
      exact ⟨us, e, VL.map ih h1⟩
    | tup cs =>
      obtain ⟨us, e, h1⟩ := hv
      exact ⟨us, e, VL.map ih h1⟩
    | any => trivial
    | row o sz off n g =>
      have hv0 := VR.le hle _ u hv
      simp only [frz]
      cases ho : os[o]? with
      | none => exact hv0
      | some a =>
        simp only
        split
        · rename_i hcond
          simp only [Bool.and_eq_true, beq_iff_eq, decide_eq_true_eq] at hcond
          obtain ⟨⟨⟨⟨hK, hl⟩, hg⟩, hz⟩, hlen⟩ := hcond
          obtain ⟨b, hc⟩ := h.cur ho hl
          rw [hg] at hc
          obtain ⟨_, _, hh⟩ := hv
          obtain ⟨c, p, rfl, hp, h1, h2, h3⟩ := hh b hc
          split
          · rename_i hn
            subst hn
            exact ⟨_, c, rfl, h1, by omega, rfl, fun h => absurd rfl h⟩
          · split
            · rename_i hn hcl
              obtain rfl : p = off * sz := hp.resolve_right (fun q => hn q.1)
              obtain ⟨us, k1, k2, k3⟩ := h.cells hc ho (off * sz) (n * sz) hlen
              obtain ⟨hdb, hcell⟩ := hd o b g hK hc
              refine ⟨_, c, rfl, h1, by omega, ?_, fun _ => ⟨b, off * sz, rfl, hdb, ?_⟩⟩
              · simp only [List.length_map, List.length_take, List.length_drop]
                omega
              · exact VC.of_list (VL.leC (Env.leC_nr E') _ _ hcl (VL.map ih k2)) (fun i u hi => (hcell _).trans (k3 i u hi))
            · exact hv0
        · exact hv0

/-- The objects in K end. -/
@[simp] def ends (K : Nat → Bool) (os : List AO) : List AO := os.mapIdx fun i a => if K i then { a with live := false } else a

theorem ends_get (K : Nat → Bool) (os : List AO) (o : Nat) : (ends K os)[o]? = os[o]?.map fun a => if K o then { a with live := false } else a := by
  simp [ends, List.getElem?_mapIdx]
theorem ends_length (K : Nat → Bool) (os : List AO) : (ends K os).length = os.length := by simp [ends]
theorem curOf_ends (K : Nat → Bool) (ρ : List Nat) (os : List AO) (o : Nat) : curOf ρ (ends K os) o = if K o then none else curOf ρ os o := by
  unfold curOf
  rw [ends_get]
  cases h : os[o]? with
  | none => simp
  | some a =>
    cases h2 : ρ[o]? with
    | none => simp
    | some b =>
      simp only [Option.map_some]
      by_cases hk : K o = true
      · simp [hk]
      · simp [hk]

theorem SR.ends {X W : Nat → Prop} {ρ : List Nat} {w : World} {os : List AO} (h : SR X ρ w os) (K : Nat → Bool) : Goes X W ρ ρ w w os (ends K os) := by
  have hlv : ∀ b, Lv ρ (Ytoaodlfmhioigaa.ends K os) b → Lv ρ os b := fun b ⟨o, g, hc⟩ => by
    rw [curOf_ends] at hc
    split at hc
    · cases hc
    · exact ⟨o, g, hc⟩
  have hle : (envOf X ρ w os).Le (envOf X ρ w (Ytoaodlfmhioigaa.ends K os)) := by
    refine ⟨?_, ?_, fun b hb => ⟨hb.1, fun hl => hb.2.1 (hlv b hl), hb.2.2⟩, fun _ _ _ => rfl⟩
    · rintro o g ⟨a, ha, hg⟩
      refine ⟨if K o then { a with live := false } else a, by rw [ends_get, ha]; rfl, ?_⟩
      split <;> exact hg
    · intro o b g _ hc
      have hc2 : curOf ρ (Ytoaodlfmhioigaa.ends K os) o = some (b, g) := hc
      rw [curOf_ends] at hc2
      split at hc2
      · cases hc2
      · exact ⟨hc2, rfl⟩
  refine ⟨⟨by rw [ends_length]; exact h.len, fun b hl => h.apart b (hlv b hl), h.xlt, ?_, ?_⟩, hle, Upd.refl _ _, fun i b g hc => .inl ⟨g, by rw [curOf_ends] at hc; split at hc; (· cases hc); exact hc⟩⟩
  · intro o o' b g g' h1 h2
    rw [curOf_ends] at h1 h2
    split at h1
    · cases h1
    · split at h2
      · cases h2
      · exact h.inj o o' b g g' h1 h2
  · intro o a b ho hl hb
    rw [ends_get] at ho
    cases hx : os[o]? with
    | none => rw [hx] at ho; cases ho
    | some x =>
      rw [hx] at ho
      simp only [Option.map_some, Option.some.injEq] at ho
      by_cases hk : K o = true
      · rw [if_pos hk] at ho
        subst ho
        cases hl
      · rw [if_neg hk] at ho
        subst ho
        obtain ⟨arr, h1, h2, h3⟩ := h.obj o x b hx hl hb
        exact ⟨arr, h1, h2, VL.le hle _ _ h3⟩

/-- Freezing: rows of K are written out, K ends. -/
theorem SR.freeze {X : Nat → Prop} {ρ : List Nat} {w : World} {os : List AO} (h : SR X ρ w os) (K : Nat → Bool) (d : Nat) (x : AV) (u : Value) (hv : VR (envOf X ρ w os) x u) :
    VR (envOf X ρ w (Ytoaodlfmhioigaa.ends K os)) (frz os K d x) u :=
  frz_sound h K (h.ends (W := fun _ => False) K).le (fun o b g hk hc => ⟨⟨h.lt ⟨o, g, hc⟩, fun ⟨o', g', hc'⟩ => by
    rw [curOf_ends] at hc'
    split at hc'
    · cases hc'
    · rename_i hn
      have := h.inj o o' b g g' hc hc'
      subst this
      exact hn hk, h.apart b ⟨o, g, hc⟩⟩, fun _ => rfl⟩) d x u hv
theorem SR.freezeL {X : Nat → Prop} {ρ : List Nat} {w : World} {os : List AO} (h : SR X ρ w os) (K : Nat → Bool) (d : Nat) (xs : List AV) (us : List Value) (hv : VL (envOf X ρ w os) xs us) :
    VL (envOf X ρ w (Ytoaodlfmhioigaa.ends K os)) (xs.map (frz os K d)) us :=
  VL.map (fun x u hx => h.freeze K d x u hx) hv

/-- The cells of an object that lives are frozen, too. -/
@[simp] def frzO (os : List AO) (K : Nat → Bool) (d : Nat) (a : AO) : AO := { a with cells := a.cells.map (frz os K d) }

/-- Only the first k objects are told of. -/
theorem SR.cut {X : Nat → Prop} {ρ : List Nat} {w : World} {os : List AO} (h : SR X ρ w os) (k : Nat) (hk : k ≤ os.length)
    (hcl : ∀ (o : Nat) (a : AO), o < k → os[o]? = some a → a.live = true → AV.closedL (fun o => decide (o < k)) a.cells = true) :
    SR X (ρ.take k) w (os.take k) ∧ Env.LeC (fun o => decide (o < k)) (envOf X ρ w os) (envOf X (ρ.take k) w (os.take k)) ∧ (∀ b, Lv (ρ.take k) (os.take k) b → Lv ρ os b) := by
  have hget : ∀ o : Nat, (os.take k)[o]? = if o < k then os[o]? else none := fun o => by rw [List.getElem?_take]
  have hgetρ : ∀ o : Nat, (ρ.take k)[o]? = if o < k then ρ[o]? else none := fun o => by rw [List.getElem?_take]
  have hcur : ∀ o, curOf (ρ.take k) (os.take k) o = if o < k then curOf ρ os o else none := fun o => by
    unfold curOf
    rw [hget, hgetρ]
    by_cases ho : o < k
    · simp only [if_pos ho]
    · simp only [if_neg ho]
  have hlv : ∀ b, Lv (ρ.take k) (os.take k) b → Lv ρ os b := fun b ⟨o, g, hc⟩ => by
    rw [hcur] at hc
    split at hc
    · exact ⟨o, g, hc⟩
    · cases hc
  have hle : Env.LeC (fun o => decide (o < k)) (envOf X ρ w os) (envOf X (ρ.take k) w (os.take k)) := by
    refine ⟨?_, ?_, fun b hb => ⟨hb.1, fun hl => hb.2.1 (hlv b hl), hb.2.2⟩, fun _ _ _ => rfl⟩
    · rintro o g ho ⟨a, ha, hg⟩
      simp only [decide_eq_true_eq] at ho
      exact ⟨a, by rw [hget, if_pos ho]; exact ha, hg⟩
    · intro o b g ho _ hc
      have hc2 : curOf (ρ.take k) (os.take k) o = some (b, g) := hc
      simp only [decide_eq_true_eq] at ho
      rw [hcur, if_pos ho] at hc2
      exact ⟨hc2, rfl⟩
  refine ⟨⟨by simp [h.len], fun b hl => h.apart b (hlv b hl), h.xlt, ?_, ?_⟩, hle, hlv⟩
  · intro o o' b g g' h1 h2
    rw [hcur] at h1 h2
    split at h1
    · split at h2
      · exact h.inj o o' b g g' h1 h2
      · cases h2
    · cases h1
  · intro o a b ho hl hb
    rw [hget] at ho
    rw [hgetρ] at hb
    split at ho
    · rename_i hlt
      rw [if_pos hlt] at hb
      obtain ⟨arr, h1, h2, h3⟩ := h.obj o a b ho hl hb
      exact ⟨arr, h1, h2, VL.leC hle _ _ (hcl o a hlt ho hl) h3⟩
    · cases ho

end Go.Proofs.Ytoaodlfmhioigaa
end
