import Derived.Test.YtdbbalcicgllhaaGreatDoorA16
import Derived.Test.YtdbbalcicgllhaaGreatDoorA5
import Derived.Lib.OthersKept
namespace Go.Proofs.YtdbbalcicgllhaaGreatDoor
open Go.RowKit

/-- An instruction, a function, a program. -/
structure Ins where
  op : Int
  a : Int
  b : Int
  c : Int
  d : Int
  list : List Int
structure Fnc where
  name : Bytes
  refs : List Bool
  params : Int
  captures : Int
  result : Bool
  code : List Ins
structure Pg where
  texts : List Bytes
  globals : List Bool
  structs : List (List Bool)
  funcs : List Fnc
  main : Int

/-- How cells stand for a thing, with memory in the blocks of a set. -/
abbrev DT (α : Type) := World → (Nat → Prop) → List Value → α → Prop

def Stable {α : Type} (D : DT α) : Prop := ∀ (w w' : World) (S T : Nat → Prop) (vs : List Value) (x : α), D w S vs x → Upd T w w' → (∀ k, S k → k < w.heap.size → ¬ T k) → D w' S vs x
def Widens {α : Type} (D : DT α) : Prop := ∀ (w : World) (S T : Nat → Prop) (vs : List Value) (x : α), D w S vs x → (∀ k, S k → T k) → D w T vs x

/-- A slice that reads as a list of things of 'sz' cells each. -/
def RowV {α : Type} (D : DT α) (sz : Nat) (w : World) (S : Nat → Prop) (v : Value) (xs : List α) : Prop :=
  ∃ a c, v = .slice a xs.length c ∧ (xs ≠ [] → ∃ g o, S g ∧ g < w.heap.size ∧ a = some ⟨g, o, none⟩ ∧
    ∀ i (h : i < xs.length), ∃ vs : List Value, vs.length = sz ∧ (∀ j u, vs[j]? = some u → w.cell? ⟨g, o + i * sz + j, none⟩ = some u) ∧ D w S vs xs[i])

def DStr : DT Bytes := fun _ _ vs x => vs = [.string ⟨x.toArray⟩]
def DBool : DT Bool := fun _ _ vs x => vs = [.bool x]
def DInt : DT Int := fun _ _ vs x => vs = [.int .i64 x]
def DFlags : DT (List Bool) := fun w S vs x => ∃ v, vs = [v] ∧ RowV DBool 1 w S v x
def DIns : DT Ins := fun w S vs x => ∃ lv, vs = [.int .i64 x.op, .int .i64 x.a, .int .i64 x.b, .int .i64 x.c, .int .i64 x.d, lv] ∧ RowV DInt 1 w S lv x.list
def DFn : DT Fnc := fun w S vs x => ∃ rv kv, vs = [(.string ⟨x.name.toArray⟩), rv, .int .i64 x.params, .int .i64 x.captures, .bool x.result, kv] ∧ RowV DBool 1 w S rv x.refs ∧ RowV DIns 6 w S kv x.code
def DPg : DT Pg := fun w S vs x => ∃ tv gv sv fv, vs = [tv, gv, sv, fv, .int .i64 x.main] ∧ RowV DStr 1 w S tv x.texts ∧ RowV DBool 1 w S gv x.globals ∧ RowV DFlags 1 w S sv x.structs ∧ RowV DFn 6 w S fv x.funcs

theorem RowV.upd {α : Type} {D : DT α} (hD : Stable D) {sz : Nat} {w w' : World} {S T : Nat → Prop} {v : Value} {xs : List α} (h : RowV D sz w S v xs) (hu : Upd T w w') (hs : ∀ k, S k → k < w.heap.size → ¬ T k) : RowV D sz w' S v xs := by
  obtain ⟨a, c, rfl, h⟩ := h
  refine ⟨a, c, rfl, fun hne => ?_⟩
  obtain ⟨g, o, h1, h2, rfl, h3⟩ := h hne
  refine ⟨g, o, h1, Nat.lt_of_lt_of_le h2 hu.size, rfl, fun i hi => ?_⟩
  obtain ⟨vs, h4, h5, h6⟩ := h3 i hi
  exact ⟨vs, h4, fun j u hj => hu.cell (h5 j u hj) (hs g h1 h2), hD _ _ _ _ _ _ h6 hu hs⟩

theorem RowV.widen {α : Type} {D : DT α} (hD : Widens D) {sz : Nat} {w : World} {S T : Nat → Prop} {v : Value} {xs : List α} (h : RowV D sz w S v xs) (hs : ∀ k, S k → T k) : RowV D sz w T v xs := by
  obtain ⟨a, c, rfl, h⟩ := h
  refine ⟨a, c, rfl, fun hne => ?_⟩
  obtain ⟨g, o, h1, h2, rfl, h3⟩ := h hne
  refine ⟨g, o, hs g h1, h2, rfl, fun i hi => ?_⟩
  obtain ⟨vs, h4, h5, h6⟩ := h3 i hi
  exact ⟨vs, h4, h5, hD _ _ _ _ _ h6 hs⟩

theorem RowV.nil {α : Type} (D : DT α) (sz : Nat) (w : World) (S : Nat → Prop) (a : Option Addr) (c : Nat) : RowV D sz w S (.slice a 0 c) [] := ⟨a, c, rfl, fun h => absurd rfl h⟩

theorem stStr : Stable DStr := fun _ _ _ _ _ _ h _ _ => h
theorem stBool : Stable DBool := fun _ _ _ _ _ _ h _ _ => h
theorem stInt : Stable DInt := fun _ _ _ _ _ _ h _ _ => h
theorem wdStr : Widens DStr := fun _ _ _ _ _ h _ => h
theorem wdBool : Widens DBool := fun _ _ _ _ _ h _ => h
theorem wdInt : Widens DInt := fun _ _ _ _ _ h _ => h
theorem stFlags : Stable DFlags := by
  rintro w w' S T vs x ⟨v, rfl, h⟩ hu hs
  exact ⟨v, rfl, h.upd stBool hu hs⟩
theorem wdFlags : Widens DFlags := by
  rintro w S T vs x ⟨v, rfl, h⟩ hs
  exact ⟨v, rfl, h.widen wdBool hs⟩
theorem stIns : Stable DIns := by
  rintro w w' S T vs x ⟨v, rfl, h⟩ hu hs
  exact ⟨v, rfl, h.upd stInt hu hs⟩
theorem wdIns : Widens DIns := by
  rintro w S T vs x ⟨v, rfl, h⟩ hs
  exact ⟨v, rfl, h.widen wdInt hs⟩
theorem stFn : Stable DFn := by
  rintro w w' S T vs x ⟨v, u, rfl, h, k⟩ hu hs
  exact ⟨v, u, rfl, h.upd stBool hu hs, k.upd stIns hu hs⟩
theorem wdFn : Widens DFn := by
  rintro w S T vs x ⟨v, u, rfl, h, k⟩ hs
  exact ⟨v, u, rfl, h.widen wdBool hs, k.widen wdIns hs⟩
theorem stPg : Stable DPg := by
  rintro w w' S T vs x ⟨a, b, c, d, rfl, h1, h2, h3, h4⟩ hu hs
  exact ⟨a, b, c, d, rfl, h1.upd stStr hu hs, h2.upd stBool hu hs, h3.upd stFlags hu hs, h4.upd stFn hu hs⟩


theorem RowV.dest {α : Type} {D : DT α} {sz : Nat} {w : World} {S : Nat → Prop} {a : Option Addr} {n c : Nat} {xs : List α} (h : RowV D sz w S (.slice a n c) xs) (i : Nat) (hi : i < xs.length) :
    ∃ (g o : Nat) (vs : List Value), a = some ⟨g, o, none⟩ ∧ vs.length = sz ∧ (∀ j u, vs[j]? = some u → w.cell? ⟨g, o + i * sz + j, none⟩ = some u) ∧ D w S vs xs[i] := by
  obtain ⟨a', c', hv, hr⟩ := h
  injection hv with h1 h2 h3
  subst h1 h3
  obtain ⟨g, o, _, _, rfl, h4⟩ := hr (by intro h0; rw [h0] at hi; exact absurd hi (by simp))
  obtain ⟨vs, k1, k2, k3⟩ := h4 i hi
  exact ⟨g, o, vs, rfl, k1, k2, k3⟩
theorem RowV.len {α : Type} {D : DT α} {sz : Nat} {w : World} {S : Nat → Prop} {v : Value} {xs : List α} (h : RowV D sz w S v xs) : ∃ a c, v = .slice a xs.length c := by
  obtain ⟨a, c, rfl, _⟩ := h
  exact ⟨a, c, rfl⟩

/-- What lies in no row of bytes is not the builder's. -/
theorem Bd.not_ws2 {T : TypeId} {ex : List Value} {b : Nat} {w : World} {out : Bytes} (h : Bd T ex b w out) {k : Nat} {o : Obj} (hc : w.heap[k]? = some o) (ho : ∀ cs, o ≠ .cells cs 5 (0, 0)) (hk : k ≠ b) : ¬ WS b w k := by
  obtain ⟨p, v, h1, h2, h3, h4⟩ := h.at_
  rintro (e | ⟨v', hv', ho'⟩)
  · exact hk e
  · have : v' = v := by simpa [World.cell?, h1] using hv'.symm
    subst this
    rcases h3.2 with ⟨rfl, _⟩ | ⟨g, cap, cur, rfl, _, hg, _⟩
    · simp [Value.ownBlock] at ho'
    · simp [Value.ownBlock] at ho'
      subst ho'
      rw [hc] at hg
      exact ho cur (Option.some.inj hg)

/-- Where the writing stands: from 'w0' on. -/
structure St (b : Nat) (w0 w : World) (out : Bytes) : Prop where
  bd : Bd 49 [] b w out
  st : WStep b w0 w
  tab : Tab w
  nz : ¬ WS b w 0

theorem Tab.lt {w : World} (h : Tab w) : 0 < w.heap.size := by
  unfold Tab Lib.TabIs World.var? at h
  rw [g0] at h
  simp only [Option.bind_some] at h
  rcases Nat.eq_zero_or_pos w.heap.size with h0 | h0
  · have : w.heap[0]? = none := Array.getElem?_eq_none (by omega)
    rw [this] at h
    simp at h
  · exact h0

/-- A block that is not the writer's stays so. -/
theorem WStep.not {b : Nat} {w w' : World} (h : WStep b w w') {k : Nat} (hk : k < w.heap.size) (hn : ¬ WS b w k) : ¬ WS b w' k := fun hs => hs.elim (fun e => hn (.inl e)) fun ho => hn (.inr (h.own k hk ho))

theorem St.step {b : Nat} {w0 w w' : World} {out out' : Bytes} (h : St b w0 w out) (hs : WStep b w w') (hb : Bd 49 [] b w' out') : St b w0 w' out' :=
  ⟨hb, h.st.trans hs, h.tab.ws hs h.nz, hs.not h.tab.lt h.nz⟩
theorem St.new {b : Nat} {w0 w w' : World} {out : Bytes} (h : St b w0 w out) (hu : Upd (fun _ => False) w w') : St b w0 w' out :=
  h.step (WStep.new h.bd.lt hu) (h.bd.new hu)

/-- What is said is made on the way. -/
theorem say_new {b : Nat} {w0 w : World} {out : Bytes} (h : St b w0 w out) (xs : List Part) (n : Nat) (hn : xs.length = n) (hfew : out.length + (ptxt xs).length ≤ 1000000000) (hl : n ≤ 1000000000) (hok : ∀ x ∈ xs, x.ok) :
    Calls Tryz.prog 14 #[.pointer (some ⟨b, 0, none⟩), .slice (some ⟨w.heap.size, 0, none⟩) n n] (w.alloc (.cells (xs.map Part.v).toArray 20)) fun e w' => e = .returned (.tuple #[]) ∧ WStep b w w' ∧ St b w0 w' (out ++ ptxt xs) := by
  subst hn
  have h1 := h.new (Upd.alloc (fun _ => False) w (.cells (xs.map Part.v).toArray 20))
  have hs0 := WStep.new h.bd.lt (Upd.alloc (fun _ => False) w (.cells (xs.map Part.v).toArray 20))
  refine (say_a b w.heap.size xs _ out h1.bd (heap_alloc_new w _) (by have := h.bd.lt; omega) h1.tab h1.nz xs.length hfew hl hok).mono ?_
  rintro e w' ⟨rfl, hb, hs⟩
  exact ⟨rfl, hs0.trans hs, h1.step hs hb⟩
end Go.Proofs.YtdbbalcicgllhaaGreatDoor
