import Derived.Test.YtdbbalcicgllhaaGreatDoorA29
import Derived.Deep.Slices
import Derived.ChangeArms
namespace Go.Proofs.YtdbbalcicgllhaaGreatDoor
open Go.RowKit Go.ChangeShapes Go.WideShapes Go.Deep

/-! What is read of a program that is handed in. -/
section
variable {H : Type} {enc : TypeId × Value → H} {W : World} {held : Bool}

abbrev Old (W : World) : Nat → Prop := fun k => k < W.heap.size

theorem bulk_sum {α : Type} (μ : α → Nat) (V : Nat → α) (D : Nat → DataW H) : ∀ (l : List Nat), (∀ i ∈ l, μ (V i) ≤ Rows.uptoBulk (D i)) → ((l.map V).map μ).sum ≤ Rows.uptoBulkAll (l.map D)
  | [], _ => by simp [Rows.uptoBulkAll]
  | i :: l, h => by
    have h1 := h i (by simp)
    have h2 := bulk_sum μ V D l (fun j hj => h j (by simp [hj]))
    simp only [List.map_cons, List.sum_cons, Rows.uptoBulkAll]
    omega

theorem row_of {α : Type} [Inhabited α] (D : DT α) (μ : α → Nat) (ok : α → Prop) {t e : TypeId} (sz : Nat) (hsz : 0 < sz) (ht : Tryz.prog.underlying t = some (.slice e)) (hc : Tryz.prog.cellsOf e = sz) {fuel : Nat} {cs : List Value} {x : DataW H × List MemPlace}
    (hx : DataW.trod enc Tryz.prog W 0 (fun _ => true) held fuel t cs = some x)
    (hel : ∀ (n : Nat) (cs' : List Value) (y : DataW H × List MemPlace), DataW.trod enc Tryz.prog W 0 (fun _ => true) held n e cs' = some y → ∃ z, D W (Old W) cs' z ∧ μ z ≤ Rows.uptoBulk y.1 ∧ ok z) :
    ∃ (a : Option Addr) (c : Nat) (zs : List α), cs = [.slice a zs.length c] ∧ RowV D sz W (Old W) (.slice a zs.length c) zs ∧ (zs.map μ).sum + 1 ≤ Rows.uptoBulk x.1 ∧ ∀ z ∈ zs, ok z := by
  rcases open_slice ht hx with ⟨rfl, rfl⟩ | ⟨a, len, cap, m, n, Dt, Pl, rfl, _, hl, _, hm, rfl, hall⟩
  · exact ⟨none, 0, [], rfl, RowV.nil _ _ _ _ _ _, by simp [Rows.uptoBulk], fun z hz => by simp at hz⟩
  · have hm : m = cap := by simpa using hm
    rw [hc] at hall
    obtain ⟨V, hV⟩ := choose_lt (α := α) (n := len) (p := fun i z => ∃ cs', W.cells? 0 (a.add (i * sz)) sz = some cs' ∧ D W (Old W) cs' z ∧ μ z ≤ Rows.uptoBulk (Dt i) ∧ ok z) (fun i hi => by
      obtain ⟨cs', h1, h2⟩ := hall i (by omega)
      obtain ⟨z, k1, k2, k3⟩ := hel _ _ _ h2
      exact ⟨z, cs', h1, k1, k2, k3⟩)
    have hlen : ((List.range len).map V).length = len := by simp
    refine ⟨some a, cap, (List.range len).map V, by rw [hlen], ⟨some a, cap, rfl, fun hne => ?_⟩, ?_, ?_⟩
    · have hpos : 0 < len := by
        rcases Nat.eq_zero_or_pos len with h0 | h0
        · subst h0
          exact absurd rfl hne
        · exact h0
      obtain ⟨cs0, h1, _⟩ := hV 0 hpos
      obtain ⟨_, hl0, hc0⟩ := World.cells?_some h1
      have hcell : ∃ u, W.cell? a = some u := by
        have h3 := hc0 0 hsz
        have e1 : (a.add (0 * sz)).add 0 = a := by simp [Addr.add]
        rw [e1, List.getElem?_eq_getElem (by omega)] at h3
        exact ⟨_, h3⟩
      obtain ⟨u, hu⟩ := hcell
      have hlt := World.block_lt_of_cell? _ _ hu
      have hspot := World.cell?_spot hu
      obtain ⟨g, o, spot⟩ := a
      simp only at hspot hlt
      subst hspot
      refine ⟨g, o, hlt, hlt, rfl, fun i hi => ?_⟩
      rw [hlen] at hi
      obtain ⟨cs', h1, h2, _⟩ := hV i hi
      obtain ⟨_, hl1, hc1⟩ := World.cells?_some h1
      refine ⟨cs', hl1, fun j u hj => ?_, ?_⟩
      · have hj' : j < sz := by rw [← hl1]; exact (List.getElem?_eq_some_iff.1 hj).1
        have h3 := hc1 j hj'
        rw [Addr.add_lit, Addr.add_lit, hj] at h3
        exact h3
      · rw [List.getElem_map, List.getElem_range]
        exact h2
    · have h1 := bulk_sum μ V Dt (List.range len) (fun i hi => by
        obtain ⟨_, _, _, k, _⟩ := hV i (List.mem_range.1 hi)
        exact k)
      simp only [Rows.uptoBulk]
      omega
    · intro z hz
      obtain ⟨i, hi, rfl⟩ := List.mem_map.1 hz
      obtain ⟨_, _, _, _, k⟩ := hV i (List.mem_range.1 hi)
      exact k

instance : Inhabited Ins := ⟨⟨0, 0, 0, 0, 0, []⟩⟩
instance : Inhabited Fnc := ⟨⟨[], [], 0, 0, false, []⟩⟩

def I64 (z : Int) : Prop := -9223372036854775808 ≤ z ∧ z ≤ 9223372036854775807
theorem wf_i64 {z : Int} (h : (Lit.int .i64 z).wf = true) : I64 z := by
  unfold I64
  simp [Lit.wf, IntKind.min, IntKind.max, IntKind.bits, IntKind.signed] at h
  omega

theorem rd_int {n : Nat} {cs : List Value} {y : DataW H × List MemPlace} (h : DataW.trod enc Tryz.prog W 0 (fun _ => true) held n 3 cs = some y) : ∃ z : Int, DInt W (Old W) cs z ∧ 1 ≤ Rows.uptoBulk y.1 ∧ I64 z := by
  obtain ⟨z, rfl, rfl, hw⟩ := DataW.trod_int Tryz.underlying3 h
  exact ⟨z, rfl, by simp [Rows.uptoBulk], wf_i64 hw⟩
theorem rd_bool {n : Nat} {cs : List Value} {y : DataW H × List MemPlace} (h : DataW.trod enc Tryz.prog W 0 (fun _ => true) held n 4 cs = some y) : ∃ z : Bool, DBool W (Old W) cs z ∧ 1 ≤ Rows.uptoBulk y.1 ∧ True := by
  obtain ⟨z, rfl, rfl⟩ := DataW.trod_bool Tryz.underlying4 h
  exact ⟨z, rfl, by simp [Rows.uptoBulk], trivial⟩
theorem rd_str {n : Nat} {cs : List Value} {y : DataW H × List MemPlace} (h : DataW.trod enc Tryz.prog W 0 (fun _ => true) held n 9 cs = some y) : ∃ z : Bytes, DStr W (Old W) cs z ∧ z.length + 1 ≤ Rows.uptoBulk y.1 ∧ True := by
  obtain ⟨s, rfl, rfl, _⟩ := DataW.trod_string Tryz.underlying9 h
  refine ⟨s.data.toList, ?_, by simp [Rows.uptoBulk], trivial⟩
  show [Value.string s] = [.string ⟨s.data.toList.toArray⟩]
  rw [Array.toArray_toList]
end
end Go.Proofs.YtdbbalcicgllhaaGreatDoor
