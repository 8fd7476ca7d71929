import Derived.Test.YtdflfcgdfbihfaaDoorC4
import Derived.OwnWalk
import Derived.Maps.AppendAt
namespace Go.Proofs.YtdflfcgdfbihfaaDoor
open Go.RowKit CodeText

/-- How cells stand for a thing, with memory in the blocks of a set. -/
abbrev DT (α : Type) := World → (Nat → Prop) → List Value → α → Prop

def Stable {α : Type} (D : DT α) : Prop := ∀ (w w' : World) (S T : Nat → Prop) (vs : List Value) (x : α), D w S vs x → Upd T w w' → (∀ k, S k → k < w.heap.size → ¬ T k) → D w' S vs x
def Widens {α : Type} (D : DT α) : Prop := ∀ (w : World) (S T : Nat → Prop) (vs : List Value) (x : α), D w S vs x → (∀ k, S k → T k) → D w T vs x

/-- A slice that reads as a list of things of 'sz' cells each. -/
def RowV {α : Type} (D : DT α) (sz : Nat) (w : World) (S : Nat → Prop) (v : Value) (xs : List α) : Prop :=
  ∃ a c, v = .slice a xs.length c ∧ (xs ≠ [] → ∃ g, S g ∧ g < w.heap.size ∧ a = some ⟨g, 0, none⟩ ∧
    ∀ i (h : i < xs.length), ∃ vs : List Value, vs.length = sz ∧ (∀ j u, vs[j]? = some u → w.cell? ⟨g, i * sz + j, none⟩ = some u) ∧ D w S vs xs[i])

def DStr : DT Bytes := fun _ _ vs x => vs = [strV x]
def DBool : DT Bool := fun _ _ vs x => vs = [.bool x]
def DInt : DT Int := fun _ _ vs x => vs = [.int .i64 x]
def DFlags : DT (List Bool) := fun w S vs x => ∃ v, vs = [v] ∧ RowV DBool 1 w S v x
def DIns : DT Ins := fun w S vs x => ∃ lv, vs = [.int .i64 x.op, .int .i64 x.a, .int .i64 x.b, .int .i64 x.c, .int .i64 x.d, lv] ∧ RowV DInt 1 w S lv x.list
def DFn : DT Fnc := fun w S vs x => ∃ rv kv, vs = [strV x.name, rv, .int .i64 x.params, .int .i64 x.captures, .bool x.result, kv] ∧ RowV DBool 1 w S rv x.refs ∧ RowV DIns 6 w S kv x.code
def DPg : DT Pg := fun w S vs x => ∃ tv gv sv fv, vs = [tv, gv, sv, fv, .int .i64 x.main] ∧ RowV DStr 1 w S tv x.texts ∧ RowV DBool 1 w S gv x.globals ∧ RowV DFlags 1 w S sv x.structs ∧ RowV DFn 6 w S fv x.funcs

theorem RowV.upd {α : Type} {D : DT α} (hD : Stable D) {sz : Nat} {w w' : World} {S T : Nat → Prop} {v : Value} {xs : List α} (h : RowV D sz w S v xs) (hu : Upd T w w') (hs : ∀ k, S k → k < w.heap.size → ¬ T k) : RowV D sz w' S v xs := by
  obtain ⟨a, c, rfl, h⟩ := h
  refine ⟨a, c, rfl, fun hne => ?_⟩
  obtain ⟨g, h1, h2, rfl, h3⟩ := h hne
  refine ⟨g, h1, Nat.lt_of_lt_of_le h2 hu.size, rfl, fun i hi => ?_⟩
  obtain ⟨vs, h4, h5, h6⟩ := h3 i hi
  exact ⟨vs, h4, fun j u hj => hu.cell (h5 j u hj) (hs g h1 h2), hD _ _ _ _ _ _ h6 hu hs⟩

theorem RowV.widen {α : Type} {D : DT α} (hD : Widens D) {sz : Nat} {w : World} {S T : Nat → Prop} {v : Value} {xs : List α} (h : RowV D sz w S v xs) (hs : ∀ k, S k → T k) : RowV D sz w T v xs := by
  obtain ⟨a, c, rfl, h⟩ := h
  refine ⟨a, c, rfl, fun hne => ?_⟩
  obtain ⟨g, h1, h2, rfl, h3⟩ := h hne
  refine ⟨g, hs g h1, h2, rfl, fun i hi => ?_⟩
  obtain ⟨vs, h4, h5, h6⟩ := h3 i hi
  exact ⟨vs, h4, h5, hD _ _ _ _ _ h6 hs⟩

theorem RowV.nil {α : Type} (D : DT α) (sz : Nat) (w : World) (S : Nat → Prop) (a : Option Addr) (c : Nat) : RowV D sz w S (.slice a 0 c) [] := ⟨a, c, rfl, fun h => absurd rfl h⟩

theorem stStr : Stable DStr := fun _ _ _ _ _ _ h _ _ => h
theorem stBool : Stable DBool := fun _ _ _ _ _ _ h _ _ => h
theorem stInt : Stable DInt := fun _ _ _ _ _ _ h _ _ => h
theorem wdStr : Widens DStr := fun _ _ _ _ _ h _ => h
theorem wdBool : Widens DBool := fun _ _ _ _ _ h _ => h
theorem wdInt : Widens DInt := fun _ _ _ _ _ h _ => h
theorem stFlags : Stable DFlags := by
  rintro w w' S T vs x ⟨v, rfl, h⟩ hu hs
  exact ⟨v, rfl, h.upd stBool hu hs⟩
theorem wdFlags : Widens DFlags := by
  rintro w S T vs x ⟨v, rfl, h⟩ hs
  exact ⟨v, rfl, h.widen wdBool hs⟩
theorem stIns : Stable DIns := by
  rintro w w' S T vs x ⟨v, rfl, h⟩ hu hs
  exact ⟨v, rfl, h.upd stInt hu hs⟩
theorem wdIns : Widens DIns := by
  rintro w S T vs x ⟨v, rfl, h⟩ hs
  exact ⟨v, rfl, h.widen wdInt hs⟩
theorem stFn : Stable DFn := by
  rintro w w' S T vs x ⟨v, u, rfl, h, k⟩ hu hs
  exact ⟨v, u, rfl, h.upd stBool hu hs, k.upd stIns hu hs⟩
theorem wdFn : Widens DFn := by
  rintro w S T vs x ⟨v, u, rfl, h, k⟩ hs
  exact ⟨v, u, rfl, h.widen wdBool hs, k.widen wdIns hs⟩
theorem stPg : Stable DPg := by
  rintro w w' S T vs x ⟨a, b, c, d, rfl, h1, h2, h3, h4⟩ hu hs
  exact ⟨a, b, c, d, rfl, h1.upd stStr hu hs, h2.upd stBool hu hs, h3.upd stFlags hu hs, h4.upd stFn hu hs⟩

/-- A row that is being built: its own, and its things elsewhere. -/
def OwnV {α : Type} (D : DT α) (sz : Nat) (et : TypeId) (B : Nat) (w : World) (S : Nat → Prop) (v : Value) (xs : List α) : Prop :=
  ∃ vss : List (List Value), vss.length = xs.length ∧ (∀ (i : Nat) (h : i < xs.length), ∃ vs, vss[i]? = some vs ∧ vs.length = sz ∧ D w S vs xs[i]) ∧ w.ownsRow B et sz v xs.length vss.flatten ∧
    (∀ k, v.ownBlock = some k → ¬ S k) ∧ (∀ k, S k → B ≤ k ∧ k < w.heap.size)

theorem OwnV.nil {α : Type} (D : DT α) (sz : Nat) (et : TypeId) (B : Nat) (w : World) : OwnV D sz et B w (fun _ => False) (.slice none 0 0) [] :=
  ⟨[], rfl, fun i h => absurd h (by simp), World.ownsRow_nil _ _ _ _, fun _ _ h => h, fun _ h => h.elim⟩

theorem ownsRow_upd {S : Nat → Prop} {w w' : World} {B e z n : Nat} {v : Value} {xs : List Value} (h : w.ownsRow B e z v n xs) (hu : Upd S w w') (hs : ∀ k, v.ownBlock = some k → ¬ S k) : w'.ownsRow B e z v n xs := by
  refine ⟨h.1, ?_⟩
  rcases h.2 with hn | ⟨g, cap, cur, rfl, hb, hg, rest⟩
  · exact .inl hn
  · refine .inr ⟨g, cap, cur, rfl, hb, ?_, rest⟩
    rw [hu.block g (Array.getElem?_eq_some_iff.1 hg).1 (hs g rfl)]
    exact hg

theorem OwnV.upd {α : Type} {D : DT α} (hD : Stable D) {sz : Nat} {et : TypeId} {B : Nat} {w w' : World} {S T : Nat → Prop} {v : Value} {xs : List α} (h : OwnV D sz et B w S v xs) (hu : Upd T w w') (hT : ∀ k, B ≤ k → k < w.heap.size → ¬ T k) : OwnV D sz et B w' S v xs := by
  obtain ⟨vss, h1, h2, h3, h4, h5⟩ := h
  refine ⟨vss, h1, ?_, ownsRow_upd h3 hu (fun k hk => hT k (h3.lt k hk).1 (h3.lt k hk).2), h4, fun k hk => ⟨(h5 k hk).1, Nat.lt_of_lt_of_le (h5 k hk).2 hu.size⟩⟩
  intro i hi
  obtain ⟨vs, k1, k2, k3⟩ := h2 i hi
  exact ⟨vs, k1, k2, hD _ _ _ _ _ _ k3 hu (fun k hk hlt => hT k (h5 k hk).1 hlt)⟩

theorem flatten_at {sz : Nat} : ∀ (vss : List (List Value)) (i j : Nat) (vs : List Value) (u : Value), (∀ x ∈ vss, x.length = sz) → vss[i]? = some vs → vs[j]? = some u → vss.flatten[i * sz + j]? = some u
  | [], i, j, vs, u, _, h, _ => by simp at h
  | y :: l, 0, j, vs, u, hl, h, hu => by
    simp at h
    subst h
    have hj : j < y.length := (List.getElem?_eq_some_iff.1 hu).1
    rw [List.flatten_cons, Nat.zero_mul, Nat.zero_add, List.getElem?_append_left hj]
    exact hu
  | y :: l, i + 1, j, vs, u, hl, h, hu => by
    have hy := hl y (by simp)
    rw [List.flatten_cons, List.getElem?_append_right (by rw [hy, Nat.succ_mul]; omega), hy, show (i + 1) * sz + j - sz = i * sz + j by rw [Nat.succ_mul]; omega]
    exact flatten_at l i j vs u (fun x hx => hl x (List.mem_cons_of_mem _ hx)) (by simpa using h) hu

/-- A row that is built reads as the list. -/
theorem OwnV.view {α : Type} {D : DT α} (hD : Widens D) {sz : Nat} {et : TypeId} {B : Nat} {w : World} {S : Nat → Prop} {v : Value} {xs : List α} (h : OwnV D sz et B w S v xs) :
    ∃ S', RowV D sz w S' v xs ∧ (∀ k, S' k → B ≤ k ∧ k < w.heap.size) := by
  obtain ⟨vss, h1, h2, h3, h4, h5⟩ := h
  refine ⟨fun k => S k ∨ v.ownBlock = some k, ?_, fun k hk => hk.elim (h5 k) (fun h => h3.lt k h)⟩
  rcases h3.2 with ⟨rfl, hn⟩ | ⟨g, cap, cur, rfl, hb, hg, rest⟩
  · obtain rfl : xs = [] := List.length_eq_zero_iff.1 hn
    exact RowV.nil _ _ _ _ _ _
  · refine ⟨_, cap, rfl, fun hne => ⟨g, .inr rfl, (Array.getElem?_eq_some_iff.1 hg).1, rfl, fun i hi => ?_⟩⟩
    obtain ⟨vs, k1, k2, k3⟩ := h2 i hi
    refine ⟨vs, k2, ?_, hD _ _ _ _ _ k3 (fun k hk => .inl hk)⟩
    intro j u hj
    have hall : ∀ x ∈ vss, x.length = sz := by
      intro x hx
      obtain ⟨m, hm, hx2⟩ := List.mem_iff_getElem.1 hx
      obtain ⟨vs', e1, e2, _⟩ := h2 m (by omega)
      rw [List.getElem?_eq_getElem hm, hx2] at e1
      injection e1 with e1
      rw [e1]; exact e2
    have := h3.cells (g := g) rfl (i * sz + j) u (flatten_at vss i j vs u hall k1 hj)
    rw [Addr.add_lit] at this
    simpa using this

/-- One thing more. -/
theorem OwnV.push {α : Type} {D : DT α} (hD : Stable D) (hW : Widens D) {sz : Nat} {et : TypeId} {B : Nat} {w w1 w2 : World} {S S1 : Nat → Prop} {v v' : Value} {xs : List α} {x : α} {vss : List (List Value)} {vs : List Value}
    (h1 : vss.length = xs.length) (h2 : ∀ (i : Nat) (h : i < xs.length), ∃ vs, vss[i]? = some vs ∧ vs.length = sz ∧ D w1 S vs xs[i]) (h4 : ∀ k, v.ownBlock = some k → ¬ S k) (h5 : ∀ k, S k → B ≤ k ∧ k < w1.heap.size)
    (hx : D w1 S1 vs x) (hl : vs.length = sz) (hS1 : ∀ k, S1 k → w.heap.size ≤ k ∧ k < w1.heap.size) (hB : B ≤ w.heap.size) (hv : ∀ k, v.ownBlock = some k → k < w.heap.size)
    (hu : Upd (fun k => v.ownBlock = some k) w1 w2) (hown : w2.ownsRow B et sz v' (xs.length + 1) (vss.flatten ++ vs)) (hat : v'.ownBlock = v.ownBlock ∨ ∀ k, v'.ownBlock = some k → w1.heap.size ≤ k) :
    OwnV D sz et B w2 (fun k => S k ∨ S1 k) v' (xs ++ [x]) := by
  refine ⟨vss ++ [vs], by simp [h1], ?_, by simpa using hown, ?_, ?_⟩
  · intro i hi
    rw [List.length_append] at hi
    simp only [List.length_cons, List.length_nil] at hi
    by_cases hlt : i < xs.length
    · obtain ⟨u, k1, k2, k3⟩ := h2 i hlt
      refine ⟨u, by rw [List.getElem?_append_left (by omega)]; exact k1, k2, ?_⟩
      rw [List.getElem_append_left hlt]
      exact hW _ _ _ _ _ (hD _ _ _ _ _ _ k3 hu (fun k hk _ hT => h4 k hT hk)) (fun k hk => .inl hk)
    · obtain rfl : i = xs.length := by omega
      refine ⟨vs, by rw [List.getElem?_append_right (by omega), h1]; simp, hl, ?_⟩
      rw [List.getElem_append_right (by omega)]
      simp only [Nat.sub_self, List.getElem_cons_zero]
      refine hW _ _ _ _ _ (hD _ _ _ _ _ _ hx hu (fun k hk _ hT => ?_)) (fun k hk => .inr hk)
      have a := (hS1 k hk).1
      have b := hv k hT
      omega
  · intro k hk hS
    rcases hat with hat | hat
    · rw [hat] at hk
      rcases hS with hS | hS
      · exact h4 k hk hS
      · have a := (hS1 k hS).1
        have b := hv k hk
        omega
    · have a := hat k hk
      rcases hS with hS | hS
      · have := (h5 k hS).2; omega
      · have := (hS1 k hS).2; omega
  · intro k hk
    have hsz := hu.size
    rcases hk with hk | hk
    · have := h5 k hk; exact ⟨this.1, by omega⟩
    · have := hS1 k hk; exact ⟨by omega, by omega⟩

end Go.Proofs.YtdflfcgdfbihfaaDoor
