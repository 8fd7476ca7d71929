import Derived.Test.YtnfdkmnmniiokaaGreatDoorX1
set_option linter.unusedVariables false
set_option linter.unusedSimpArgs false
namespace Go.Proofs.YtnfdkmnmniiokaaGreatDoor
open Go.RowKit

/-- What has been turned: only blocks in S; new blocks come behind. -/
structure Upd (S : Nat → Prop) (w w' : World) : Prop where
  os : w'.os = w.os
  tape : w'.tape = w.tape
  output : w'.output = w.output
  size : w.heap.size ≤ w'.heap.size
  block : ∀ k, k < w.heap.size → ¬ S k → w'.heap[k]? = w.heap[k]?
theorem Upd.refl (S : Nat → Prop) (w : World) : Upd S w w := ⟨rfl, rfl, rfl, Nat.le_refl _, fun _ _ _ => rfl⟩
theorem Upd.trans {S T : Nat → Prop} {a b c : World} (h : Upd S a b) (k : Upd T b c) (hs : ∀ k, k < a.heap.size → T k → S k) : Upd S a c :=
  ⟨k.os.trans h.os, k.tape.trans h.tape, k.output.trans h.output, Nat.le_trans h.size k.size,
    fun i hi hn => (k.block i (Nat.lt_of_lt_of_le hi h.size) (fun s => hn (hs i hi s))).trans (h.block i hi hn)⟩
theorem Upd.wide {S T : Nat → Prop} {w w' : World} (h : Upd S w w') (hs : ∀ k, k < w.heap.size → S k → T k) : Upd T w w' :=
  ⟨h.os, h.tape, h.output, h.size, fun k hk hn => h.block k hk (fun s => hn (hs k hk s))⟩
theorem Upd.alloc (S : Nat → Prop) (w : World) (o : Obj) : Upd S w (w.alloc o) :=
  ⟨rfl, rfl, rfl, by simp, fun k hk _ => Below.heap_alloc w o k hk⟩
theorem Upd.drew (S : Nat → Prop) (w : World) : Upd S w w.drew := ⟨rfl, rfl, rfl, Nat.le_refl _, fun _ _ _ => rfl⟩
theorem Upd.setRow {S : Nat → Prop} (w : World) (g : Nat) (cur : Array Value) (h : S g) : Upd S w (w.setRow g cur) :=
  ⟨rfl, rfl, rfl, by simp [World.setRow], fun k _ hn => setRow_other w g k cur (fun e => hn (e ▸ h))⟩

/-- A tree of things, by numbers. -/
inductive T (α : Type) where
  | nil
  | node (v : Option α) (l r : T α)
namespace T
variable {α : Type}
def get : T α → Nat → Option α
  | .nil, _ => none
  | .node v l r, n => match n with
    | 0 => v
    | n + 1 => if n % 2 = 0 then l.get (n / 2) else r.get (n / 2)
def put (x : Option α) : Nat → T α → Nat → T α
  | 0, t, _ => t
  | f + 1, .nil, n => match n with
    | 0 => .node x .nil .nil
    | n + 1 => if n % 2 = 0 then .node none (put x f .nil (n / 2)) .nil else .node none .nil (put x f .nil (n / 2))
  | f + 1, .node v l r, n => match n with
    | 0 => .node x l r
    | n + 1 => if n % 2 = 0 then .node v (put x f l (n / 2)) r else .node v l (put x f r (n / 2))
def set (t : T α) (n : Nat) (x : Option α) : T α := put x (n + 1) t n
theorem get_put (x : Option α) : ∀ (f : Nat) (t : T α) (n m : Nat), n < f → (put x f t n).get m = if m = n then x else t.get m
  | 0, _, _, _, h => by omega
  | f + 1, .nil, 0, m, _ => by
    cases m with
    | zero => rfl
    | succ m => simp [put, get]
  | f + 1, .nil, n + 1, m, h => by
    have ih := get_put x f .nil (n / 2)
    unfold put
    by_cases he : n % 2 = 0
    · simp only [he, if_true]
      cases m with
      | zero => simp [get]
      | succ m =>
        simp only [get]
        by_cases hm : m % 2 = 0
        · rw [if_pos hm, ih _ (by omega)]
          by_cases e : m = n
          · subst e; simp
          · rw [if_neg (by omega), if_neg (by omega)]; simp [get]
        · rw [if_neg hm, if_neg (by intro q; omega)]
    · simp only [he, if_false]
      cases m with
      | zero => simp [get]
      | succ m =>
        simp only [get]
        by_cases hm : m % 2 = 0
        · rw [if_pos hm, if_neg (by intro q; omega)]
        · rw [if_neg hm, ih _ (by omega)]
          by_cases e : m = n
          · subst e; simp
          · rw [if_neg (by omega), if_neg (by omega)]; simp [get]
  | f + 1, .node v l r, 0, m, _ => by
    cases m with
    | zero => rfl
    | succ m => simp [put, get]
  | f + 1, .node v l r, n + 1, m, h => by
    have ih1 := get_put x f l (n / 2)
    have ih2 := get_put x f r (n / 2)
    unfold put
    by_cases he : n % 2 = 0
    · simp only [he, if_true]
      cases m with
      | zero => simp [get]
      | succ m =>
        simp only [get]
        by_cases hm : m % 2 = 0
        · rw [if_pos hm, if_pos hm, ih1 _ (by omega)]
          by_cases e : m = n
          · subst e; simp
          · rw [if_neg (by omega), if_neg (by omega)]
        · rw [if_neg hm, if_neg hm, if_neg (by intro q; omega)]
    · simp only [he, if_false]
      cases m with
      | zero => simp [get]
      | succ m =>
        simp only [get]
        by_cases hm : m % 2 = 0
        · rw [if_pos hm, if_pos hm, if_neg (by intro q; omega)]
        · rw [if_neg hm, if_neg hm, ih2 _ (by omega)]
          by_cases e : m = n
          · subst e; simp
          · rw [if_neg (by omega), if_neg (by omega)]
theorem get_set (t : T α) (n : Nat) (x : Option α) (m : Nat) : (t.set n x).get m = if m = n then x else t.get m := get_put x (n + 1) t n m (Nat.lt_succ_self n)
end T

/-- An object: cells; a map's entries; how far a text has been gone through. -/
inductive EO where
  | cells (ty : TypeId) (cs : List EV)
  | map (es : List (EV × EV))
  | iter (l v pos : Nat)

abbrev Hp := T EO

def ME (ρ : Pl) (η : Nat → Value) : List (EV × EV) → List MapEntry → Prop
  | [], [] => True
  | (k, v) :: es, m :: ms => VR ρ η k m.key ∧ VR ρ η v m.val ∧ ME ρ η es ms
  | _, _ => False
theorem ME.le {ρ ρ' : Pl} {η : Nat → Value} (l : ρ.Le ρ') : ∀ {es : List (EV × EV)} {ms : List MapEntry}, ME ρ η es ms → ME ρ' η es ms
  | [], [], h => h
  | (k, v) :: es, m :: ms, ⟨h1, h2, h3⟩ => ⟨VR.le l _ _ h1, VR.le l _ _ h2, ME.le l h3⟩
  | [], _ :: _, h => h.elim
  | _ :: _, [], h => h.elim

/-- An object stands in its block. -/
def St (ρ : Pl) (η : Nat → Value) (w : World) (p : Nat × Nat × Nat) : EO → Prop
  | .cells ty cs => ∃ arr, w.heap[p.1]? = some (.cells arr ty (0, 0)) ∧ arr.size = p.2.2 ∧ p.2.1 + cs.length ≤ arr.size ∧ VL ρ η cs ((arr.toList.drop p.2.1).take cs.length)
  | .map es => ∃ ms clock, w.heap[p.1]? = some (.map ms clock) ∧ ME ρ η es ms.toList
  | .iter l v pos => ∃ s, w.heap[p.1]? = some (.stringIter s pos) ∧ s.size = l ∧ bnum s = v ∧ p.2.1 = 0
theorem St.le {ρ ρ' : Pl} {η : Nat → Value} {w w' : World} {p : Nat × Nat × Nat} {x : EO} (l : ρ.Le ρ') (h : St ρ η w p x) (hb : w'.heap[p.1]? = w.heap[p.1]?) : St ρ' η w' p x := by
  cases x with
  | cells ty cs =>
    obtain ⟨arr, h1, h2, h3, h4⟩ := h
    exact ⟨arr, hb.trans h1, h2, h3, VL.le l _ _ h4⟩
  | map es =>
    obtain ⟨ms, c, h1, h2⟩ := h
    exact ⟨ms, c, hb.trans h1, h2.le l⟩
  | iter a v pos =>
    obtain ⟨s, h1, h2⟩ := h
    exact ⟨s, hb.trans h1, h2⟩
theorem St.lt {ρ : Pl} {η : Nat → Value} {w : World} {p : Nat × Nat × Nat} {x : EO} (h : St ρ η w p x) : p.1 < w.heap.size := by
  have key : ∀ o, w.heap[p.1]? = some o → p.1 < w.heap.size := fun o e => (Array.getElem?_eq_some_iff.1 e).1
  cases x with
  | cells ty cs => obtain ⟨arr, h1, _⟩ := h; exact key _ h1
  | map es => obtain ⟨ms, c, h1, _⟩ := h; exact key _ h1
  | iter a v pos => obtain ⟨s, h1, _⟩ := h; exact key _ h1

/-- The engine's objects stand in the world. -/
structure HR (B : Nat) (ρ : Pl) (η : Nat → Value) (h : Hp) (nx : Nat) (w : World) : Prop where
  base : B ≤ w.heap.size
  fresh : ∀ o p, ρ o = some p → B ≤ p.1 ∧ p.1 < w.heap.size
  out : ∀ o, nx ≤ o → ρ o = none
  obj : ∀ o x, h.get o = some x → ∃ p, ρ o = some p ∧ St ρ η w p x
  inj : ∀ o o' x x' p p', h.get o = some x → h.get o' = some x' → ρ o = some p → ρ o' = some p' → p.1 = p'.1 → o = o'

def Pl.ext (ρ : Pl) (i : Nat) (p : Nat × Nat × Nat) : Pl := fun o => if o = i then some p else ρ o
theorem Pl.le_ext {ρ : Pl} {i : Nat} (p : Nat × Nat × Nat) (h : ρ i = none) : ρ.Le (ρ.ext i p) := fun o x e => by
  unfold Pl.ext
  by_cases q : o = i
  · subst q; rw [h] at e; cases e
  · rw [if_neg q]; exact e
theorem Pl.ext_same (ρ : Pl) (i : Nat) (p : Nat × Nat × Nat) : ρ.ext i p i = some p := by simp [Pl.ext]
theorem Pl.ext_ne (ρ : Pl) {i o : Nat} (p : Nat × Nat × Nat) (h : o ≠ i) : ρ.ext i p o = ρ o := by simp [Pl.ext, h]

section
variable {B : Nat} {ρ : Pl} {η : Nat → Value} {h : Hp} {nx : Nat} {w w' : World}
theorem HR.drew (H : HR B ρ η h nx w) : HR B ρ η h nx w.drew := ⟨H.base, H.fresh, H.out, H.obj, H.inj⟩

/-- What one step of the engine leaves. -/
structure Go1 (B : Nat) (η : Nat → Value) (ρ ρ' : Pl) (h' : Hp) (nx' : Nat) (w w' : World) : Prop where
  le : ρ.Le ρ'
  hr : HR B ρ' η h' nx' w'
  below : Below B w w'
  keep : ∀ k, k < w.heap.size → (∀ o p, ρ o = some p → p.1 ≠ k) → w'.heap[k]? = w.heap[k]?
  rng : ∀ o p, ρ' o = some p → (∃ o' p', ρ o' = some p' ∧ p'.1 = p.1) ∨ w.heap.size ≤ p.1
theorem Go1.refl (H : HR B ρ η h nx w) : Go1 B η ρ ρ h nx w w := ⟨Pl.Le.refl _, H, ⟨rfl, rfl, rfl, Nat.le_refl _, fun _ _ => rfl⟩, fun _ _ _ => rfl, fun o p h => .inl ⟨o, p, h, rfl⟩⟩
theorem Go1.trans {ρ' ρ'' : Pl} {h' h'' : Hp} {nx' nx'' : Nat} {w'' : World} (a : Go1 B η ρ ρ' h' nx' w w') (b : Go1 B η ρ' ρ'' h'' nx'' w' w'') : Go1 B η ρ ρ'' h'' nx'' w w'' :=
  ⟨a.le.trans b.le, b.hr, ⟨b.below.os.trans a.below.os, b.below.tape.trans a.below.tape, b.below.output.trans a.below.output, Nat.le_trans a.below.size b.below.size, fun k hk => (b.below.block k hk).trans (a.below.block k hk)⟩,
    fun k hk hu => (b.keep k (Nat.lt_of_lt_of_le hk a.below.size) fun o p e => by
      rcases a.rng o p e with ⟨o', p', h1, h2⟩ | h1
      · rw [← h2]; exact hu o' p' h1
      · omega).trans (a.keep k hk hu),
    fun o p e => by
      rcases b.rng o p e with ⟨o', p', h1, h2⟩ | h1
      · rcases a.rng o' p' h1 with ⟨o2, p2, h3, h4⟩ | h3
        · exact .inl ⟨o2, p2, h3, h4.trans h2⟩
        · exact .inr (by rw [← h2]; exact h3)
      · exact .inr (Nat.le_trans a.below.size h1)⟩
theorem below_of {S : Nat → Prop} (hu : Upd S w w') (hB : B ≤ w.heap.size) (hs : ∀ k, S k → B ≤ k) : Below B w w' :=
  ⟨hu.os, hu.tape, hu.output, hu.size, fun k hk => hu.block k (by omega) (fun s => by have := hs k s; omega)⟩
theorem Go1.drew (H : HR B ρ η h nx w) : Go1 B η ρ ρ h nx w w.drew := ⟨Pl.Le.refl _, H.drew, below_of (Upd.drew (fun _ => False) w) H.base (fun _ h => h.elim), fun _ _ _ => rfl, fun o p h => .inl ⟨o, p, h, rfl⟩⟩

/-- An object is told anew in its block. -/
theorem HR.setO (H : HR B ρ η h nx w) {o : Nat} {x x' : EO} {p : Nat × Nat × Nat} (ho : h.get o = some x) (hρ : ρ o = some p) (hu : Upd (· = p.1) w w') (hst : St ρ η w' p x') :
    Go1 B η ρ ρ (h.set o (some x')) nx w w' := by
  refine ⟨Pl.Le.refl _, ⟨Nat.le_trans H.base hu.size, fun o q e => ⟨(H.fresh o q e).1, Nat.lt_of_lt_of_le (H.fresh o q e).2 hu.size⟩, H.out, fun o' y hy => ?_, fun o1 o2 x1 x2 p1 p2 h1 h2 r1 r2 e => ?_⟩, below_of hu H.base (fun k e => by rw [e]; exact (H.fresh o p hρ).1), fun k hk hun => hu.block k hk (fun e => hun o p hρ e.symm), fun o p h => .inl ⟨o, p, h, rfl⟩⟩
  · rw [T.get_set] at hy
    by_cases q : o' = o
    · subst q
      rw [if_pos rfl] at hy
      injection hy with hy
      subst hy
      exact ⟨p, hρ, hst⟩
    · rw [if_neg q] at hy
      obtain ⟨p', k1, k2⟩ := H.obj o' y hy
      refine ⟨p', k1, k2.le (Pl.Le.refl _) (hu.block _ k2.lt fun e => q ?_)⟩
      exact H.inj o' o y x p' p hy ho k1 hρ e
  · have live : ∀ i y, (h.set o (some x')).get i = some y → ∃ z, h.get i = some z := fun i y e => by
      rw [T.get_set] at e
      by_cases q : i = o
      · subst q; exact ⟨x, ho⟩
      · rw [if_neg q] at e; exact ⟨y, e⟩
    obtain ⟨z1, g1⟩ := live o1 x1 h1
    obtain ⟨z2, g2⟩ := live o2 x2 h2
    exact H.inj o1 o2 z1 z2 p1 p2 g1 g2 r1 r2 e

/-- A new object; an old one may end. -/
theorem HR.newO (H : HR B ρ η h nx w) (kill : Option Nat) {p : Nat × Nat × Nat} {x : EO} {S : Nat → Prop} (hu : Upd S w w')
    (hS : ∀ k, S k → ∃ o y q, kill = some o ∧ h.get o = some y ∧ ρ o = some q ∧ q.1 = k)
    (hp : p.1 < w'.heap.size) (hp2 : w.heap.size ≤ p.1 ∨ ∃ o y q, kill = some o ∧ h.get o = some y ∧ ρ o = some q ∧ q.1 = p.1) (hst : St (ρ.ext nx p) η w' p x) :
    Go1 B η ρ (ρ.ext nx p) ((match kill with | some o => h.set o none | none => h).set nx (some x)) (nx + 1) w w' := by
  have hle : ρ.Le (ρ.ext nx p) := Pl.le_ext p (H.out nx (Nat.le_refl _))
  have hBp : B ≤ p.1 := by
    rcases hp2 with q | ⟨o, y, q, _, _, h3, h4⟩
    · exact Nat.le_trans H.base q
    · rw [← h4]; exact (H.fresh o q h3).1
  have hget : ∀ i y, ((match kill with | some o => h.set o none | none => h).set nx (some x)).get i = some y → i = nx ∧ y = x ∨ i ≠ nx ∧ h.get i = some y ∧ kill ≠ some i := fun i y e => by
    rw [T.get_set] at e
    by_cases q : i = nx
    · rw [if_pos q] at e; injection e with e; exact .inl ⟨q, e.symm⟩
    · rw [if_neg q] at e
      refine .inr ⟨q, ?_⟩
      cases kill with
      | none => exact ⟨e, by simp⟩
      | some o =>
        simp only at e
        rw [T.get_set] at e
        by_cases q2 : i = o
        · rw [if_pos q2] at e; cases e
        · rw [if_neg q2] at e; exact ⟨e, fun h => q2 (by injection h with h; exact h.symm)⟩
  have apart : ∀ i y q, h.get i = some y → kill ≠ some i → ρ i = some q → q.1 ≠ p.1 ∧ ¬ S q.1 := fun i y q e hk hq => by
    constructor
    · intro e2
      rcases hp2 with h1 | ⟨o, y', q', k1, k2, k3, k4⟩
      · have := (H.fresh i q hq).2; omega
      · exact hk (by rw [H.inj i o y y' q q' e k2 hq k3 (e2.trans k4.symm)]; exact k1)
    · intro hs
      obtain ⟨o, y', q', k1, k2, k3, k4⟩ := hS _ hs
      exact hk (by rw [H.inj i o y y' q q' e k2 hq k3 k4.symm]; exact k1)
  refine ⟨hle, ⟨Nat.le_trans H.base hu.size, fun o q e => ?_, fun o ho => ?_, fun i y hy => ?_, fun o1 o2 x1 x2 p1 p2 h1 h2 r1 r2 e => ?_⟩, below_of hu H.base (fun k hs => ?_), fun k hk hun => hu.block k hk (fun hs => ?_), fun o q e => ?_⟩
  · unfold Pl.ext at e
    by_cases q2 : o = nx
    · rw [if_pos q2] at e; injection e with e; subst e; exact ⟨hBp, hp⟩
    · rw [if_neg q2] at e; exact ⟨(H.fresh o q e).1, Nat.lt_of_lt_of_le (H.fresh o q e).2 hu.size⟩
  · rw [Pl.ext_ne ρ p (by omega)]; exact H.out o (by omega)
  · rcases hget i y hy with ⟨rfl, rfl⟩ | ⟨hne, hg, hk⟩
    · exact ⟨p, Pl.ext_same ρ _ p, hst⟩
    · obtain ⟨q, k1, k2⟩ := H.obj i y hg
      exact ⟨q, hle _ _ k1, k2.le hle (hu.block _ k2.lt (apart i y q hg hk k1).2)⟩
  · rcases hget o1 x1 h1 with ⟨rfl, _⟩ | ⟨n1, g1, k1⟩ <;> rcases hget o2 x2 h2 with ⟨rfl, _⟩ | ⟨n2, g2, k2⟩
    · rfl
    · rw [Pl.ext_same] at r1; injection r1 with r1; subst r1
      rw [Pl.ext_ne ρ p n2] at r2
      exact absurd e.symm (apart o2 x2 p2 g2 k2 r2).1
    · rw [Pl.ext_same] at r2; injection r2 with r2; subst r2
      rw [Pl.ext_ne ρ p n1] at r1
      exact absurd e (apart o1 x1 p1 g1 k1 r1).1
    · rw [Pl.ext_ne ρ p n1] at r1
      rw [Pl.ext_ne ρ p n2] at r2
      exact H.inj o1 o2 x1 x2 p1 p2 g1 g2 r1 r2 e
  · obtain ⟨o, y, q, _, _, k3, k4⟩ := hS k hs
    rw [← k4]; exact (H.fresh o q k3).1
  · obtain ⟨o, y, q, _, _, k3, k4⟩ := hS k hs
    exact hun o q k3 k4
  · unfold Pl.ext at e
    by_cases q2 : o = nx
    · rw [if_pos q2] at e; injection e with e; subst e
      rcases hp2 with h1 | ⟨o', y, q', _, _, k3, k4⟩
      · exact .inr h1
      · exact .inl ⟨o', q', k3, k4⟩
    · rw [if_neg q2] at e; exact .inl ⟨o, q, e, rfl⟩

/-- A block that nobody is told of. -/
theorem HR.alloc (H : HR B ρ η h nx w) (o : Obj) : HR B ρ η h nx (w.alloc o) := by
  have hb := (Upd.alloc (fun _ => False) w o)
  exact ⟨Nat.le_trans H.base hb.size, fun i p e => ⟨(H.fresh i p e).1, Nat.lt_of_lt_of_le (H.fresh i p e).2 hb.size⟩, H.out, fun i x hx => by
    obtain ⟨p, k1, k2⟩ := H.obj i x hx
    exact ⟨p, k1, k2.le (Pl.Le.refl _) (hb.block _ k2.lt (fun h => h))⟩, H.inj⟩
/-- A block that lay there untold is told of. -/
theorem HR.place (H : HR B ρ η h nx w) {b N : Nat} (hB : B ≤ b) (hb : b < w.heap.size) (hun : ∀ o p, ρ o = some p → p.1 ≠ b) {x : EO} (hst : St (ρ.ext nx (b, 0, N)) η w (b, 0, N) x) :
    HR B (ρ.ext nx (b, 0, N)) η (h.set nx (some x)) (nx + 1) w := by
  have hle : ρ.Le (ρ.ext nx (b, 0, N)) := Pl.le_ext _ (H.out nx (Nat.le_refl _))
  have hget : ∀ i y, (h.set nx (some x)).get i = some y → i = nx ∧ y = x ∨ i ≠ nx ∧ h.get i = some y := fun i y e => by
    rw [T.get_set] at e
    by_cases q : i = nx
    · rw [if_pos q] at e; injection e with e; exact .inl ⟨q, e.symm⟩
    · rw [if_neg q] at e; exact .inr ⟨q, e⟩
  refine ⟨H.base, fun o q e => ?_, fun o ho => ?_, fun i y hy => ?_, fun o1 o2 x1 x2 p1 p2 h1 h2 r1 r2 e => ?_⟩
  · unfold Pl.ext at e
    by_cases q2 : o = nx
    · rw [if_pos q2] at e; injection e with e; subst e; exact ⟨hB, hb⟩
    · rw [if_neg q2] at e; exact H.fresh o q e
  · rw [Pl.ext_ne ρ _ (by omega)]; exact H.out o (by omega)
  · rcases hget i y hy with ⟨rfl, rfl⟩ | ⟨hne, hg⟩
    · exact ⟨_, Pl.ext_same ρ _ _, hst⟩
    · obtain ⟨q, k1, k2⟩ := H.obj i y hg
      exact ⟨q, hle _ _ k1, k2.le hle rfl⟩
  · rcases hget o1 x1 h1 with ⟨rfl, _⟩ | ⟨n1, g1⟩ <;> rcases hget o2 x2 h2 with ⟨rfl, _⟩ | ⟨n2, g2⟩
    · rfl
    · rw [Pl.ext_same] at r1; injection r1 with r1; subst r1
      rw [Pl.ext_ne ρ _ n2] at r2
      exact absurd e.symm (hun o2 p2 r2)
    · rw [Pl.ext_same] at r2; injection r2 with r2; subst r2
      rw [Pl.ext_ne ρ _ n1] at r1
      exact absurd e (hun o1 p1 r1)
    · rw [Pl.ext_ne ρ _ n1] at r1
      rw [Pl.ext_ne ρ _ n2] at r2
      exact H.inj o1 o2 x1 x2 p1 p2 g1 g2 r1 r2 e

/-- Cells that stand in an object, in the world. -/
theorem St.cellsAt {p : Nat × Nat × Nat} {ty : TypeId} {cs : List EV} (hs : St ρ η w p (.cells ty cs)) (off n : Nat) (hn : off + n ≤ cs.length) :
    ∃ us : List Value, us.length = n ∧ VL ρ η ((cs.drop off).take n) us ∧ ∀ i u, us[i]? = some u → w.cell? ⟨p.1, p.2.1 + off + i, none⟩ = some u := by
  obtain ⟨arr, h1, h2, h3, h4⟩ := hs
  have hl := VL.length h4
  refine ⟨(((arr.toList.drop p.2.1).take cs.length).drop off).take n, ?_, (h4.drop off).take n, fun i u hi => ?_⟩
  · rw [List.length_take, List.length_drop, hl]; omega
  · simp only [World.cell?, h1, Option.isSome_none, Bool.false_eq_true, if_false]
    rw [List.getElem?_take] at hi
    split at hi
    · rw [List.getElem?_drop, List.getElem?_take] at hi
      split at hi
      · rw [List.getElem?_drop] at hi
        rw [← Array.getElem?_toList, show p.2.1 + off + i = p.2.1 + (off + i) by omega]
        exact hi
      · cases hi
    · cases hi
end

end Go.Proofs.YtnfdkmnmniiokaaGreatDoor
