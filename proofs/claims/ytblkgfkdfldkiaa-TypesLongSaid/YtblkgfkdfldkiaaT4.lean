import Derived.Test.YtblkgfkdfldkiaaT3
import Derived.OwnWalk
namespace TypesText

/-- A function type's params, and its result. -/
def parts : Nat → Bytes → List Bytes × Bytes
  | 0, _ => ([], [])
  | k + 1, s =>
    if pre sFunc s = true then
      match pars (typ k) (s.length + 1) s 5 [] with
      | none => ([], [])
      | some (n, ps) => (ps, (s.drop n).take (typ k (s.drop n)))
    else ([], [])

/-- What a function's type is, from its first byte on: its length, its params, its result. -/
def func (rec : Bytes → Nat) (s : Bytes) : Nat × List Bytes × Bytes :=
  match pars rec (s.length + 1) s 5 [] with
  | none => (0, [], [])
  | some (n, ps) => (n + rec (s.drop n), ps, (s.drop n).take (rec (s.drop n)))

end TypesText
namespace Go.Proofs.Ytblkgfkdfldkiaa
open Go.RowKit TypesText

theorem Try.info9 : (Try.prog.info? 9).map (fun i => (i.zero, i.size, i.bytes)) = some (some (.string ⟨#[]⟩), 1, 16) := by kernel_rfl

/-- A text as a value. -/
def strV (b : Bytes) : Value := .string ⟨b.toArray⟩

theorem extract_strV (s : ByteArray) (a c : Nat) : Value.string (s.extract a c) = strV (((tx s).drop a).take (c - a)) := by
  rw [← tx_part]
  rfl

theorem ownsRow_below {B : Nat} {e : TypeId} {size : Nat} {v : Value} {n : Nat} {xs : List Value} {w w' : World} (h : w.ownsRow B e size v n xs) (hb : Below w.heap.size w w') : w'.ownsRow B e size v n xs := by
  refine ⟨h.1, ?_⟩
  rcases h.2 with h2 | ⟨g, cap, cur, h1, h2, h3, h4⟩
  · exact .inl h2
  · refine .inr ⟨g, cap, cur, h1, h2, ?_, h4⟩
    rw [hb.block g ?_]
    · exact h3
    · exact (Array.getElem?_eq_some_iff.1 h3).1

/-- What read gives. -/
def ReadsC (k : Nat) : Prop := ∀ (s : ByteArray) (w : World), s.size < k → s.size ≤ 4000000 →
  Calls Try.prog 29 #[.string s] w fun e w' => ∃ v, e = .returned (.tuple #[.int .i64 (typ k (tx s) : Nat), v, strV (parts k (tx s)).2]) ∧ Below w.heap.size w w' ∧
    w'.ownsRow w.heap.size 9 1 v (parts k (tx s)).1.length ((parts k (tx s)).1.map strV)

/-- What function gives. -/
def FuncC (k : Nat) : Prop := ∀ (s : ByteArray) (w : World), s.size < k + 1 → s.size ≤ 4000000 → pre sFunc (tx s) = true →
  Calls Try.prog 43 #[.string s] w fun e w' => ∃ v, e = .returned (.tuple #[.int .i64 ((func (typ k) (tx s)).1 : Nat), v, strV (func (typ k) (tx s)).2.2]) ∧ Below w.heap.size w w' ∧
    w'.ownsRow w.heap.size 9 1 v (func (typ k) (tx s)).2.1.length ((func (typ k) (tx s)).2.1.map strV)

/-- Where a loop over a function's params stands. -/
structure At (k : Nat) (s : Bytes) (n : Nat) (acc : List Bytes) : Prop where
  from5 : 5 ≤ n
  le : n ≤ s.length
  few : acc.length ≤ n
  same : ∃ f, s.length + 1 ≤ n + f ∧ pars (typ k) f s n acc = pars (typ k) (s.length + 1) s 5 []

theorem At.start {k : Nat} {s : Bytes} (h : pre sFunc s = true) : At k s 5 [] := by
  have := pre_length h
  simp [sFunc] at this
  exact ⟨Nat.le_refl _, this, by simp, s.length + 1, by omega, rfl⟩

theorem At.step {k : Nat} {s : Bytes} {n : Nat} {acc : List Bytes} (h : At k s n acc) : ∃ f, s.length ≤ n + f ∧
    (if pre sClose (s.drop n) = true then some (n + 1, acc)
    else if acc ≠ [] ∧ pre sComma (s.drop n) = false then none
    else
      let m := if acc = [] then n else n + 1
      if typ k (s.drop m) = 0 then none else pars (typ k) f s (m + typ k (s.drop m)) (acc ++ [(s.drop m).take (typ k (s.drop m))])) = pars (typ k) (s.length + 1) s 5 [] := by
  obtain ⟨f, hf, hs⟩ := h.same
  cases f with
  | zero => have := h.le; omega
  | succ f => exact ⟨f, by omega, by rw [← hs]; rfl⟩

theorem At.close {k : Nat} {s : Bytes} {n : Nat} {acc : List Bytes} (h : At k s n acc) (hc : pre sClose (s.drop n) = true) :
    func (typ k) s = (n + 1 + typ k (s.drop (n + 1)), acc, (s.drop (n + 1)).take (typ k (s.drop (n + 1)))) := by
  obtain ⟨f, _, hs⟩ := h.step
  rw [if_pos hc] at hs
  unfold func
  rw [← hs]

theorem At.nocomma {k : Nat} {s : Bytes} {n : Nat} {acc : List Bytes} (h : At k s n acc) (hc : pre sClose (s.drop n) = false) (ha : acc ≠ []) (hm : pre sComma (s.drop n) = false) :
    func (typ k) s = (0, [], []) := by
  obtain ⟨f, _, hs⟩ := h.step
  rw [if_neg (by rw [hc]; simp), if_pos ⟨ha, hm⟩] at hs
  unfold func
  rw [← hs]

theorem At.none {k : Nat} {s : Bytes} {n m : Nat} {acc : List Bytes} (h : At k s n acc) (hc : pre sClose (s.drop n) = false) (hm : acc = [] ∧ m = n ∨ acc ≠ [] ∧ pre sComma (s.drop n) = true ∧ m = n + 1) (h0 : typ k (s.drop m) = 0) :
    func (typ k) s = (0, [], []) := by
  obtain ⟨f, _, hs⟩ := h.step
  have hm2 : (if acc = [] then n else n + 1) = m := by
    rcases hm with ⟨h1, h2⟩ | ⟨h1, _, h2⟩
    · rw [if_pos h1, h2]
    · rw [if_neg h1, h2]
  rw [if_neg (by rw [hc]; simp), if_neg (by rcases hm with ⟨h1, _⟩ | ⟨_, h2, _⟩ <;> simp_all)] at hs
  simp only [hm2, h0, if_true] at hs
  unfold func
  rw [← hs]

theorem At.next {k : Nat} {s : Bytes} {n m : Nat} {acc : List Bytes} (h : At k s n acc) (hc : pre sClose (s.drop n) = false) (hm : acc = [] ∧ m = n ∨ acc ≠ [] ∧ pre sComma (s.drop n) = true ∧ m = n + 1) (h0 : typ k (s.drop m) ≠ 0) :
    At k s (m + typ k (s.drop m)) (acc ++ [(s.drop m).take (typ k (s.drop m))]) := by
  obtain ⟨f, hf, hs⟩ := h.step
  have hm2 : (if acc = [] then n else n + 1) = m := by
    rcases hm with ⟨h1, h2⟩ | ⟨h1, _, h2⟩
    · rw [if_pos h1, h2]
    · rw [if_neg h1, h2]
  rw [if_neg (by rw [hc]; simp), if_neg (by rcases hm with ⟨h1, _⟩ | ⟨_, h2, _⟩ <;> simp_all)] at hs
  simp only [hm2, h0, if_false] at hs
  have h5 := h.from5
  have hl := h.few
  have hd := typ_le k (s.drop m)
  rw [List.length_drop] at hd
  have hnm : n ≤ m := by rcases hm with ⟨_, h2⟩ | ⟨_, _, h2⟩ <;> omega
  refine ⟨by omega, by omega, by simp; omega, f, by omega, hs⟩

end Go.Proofs.Ytblkgfkdfldkiaa
