import Derived.Test.YtdbbalcicgllhaaGreatDoorA15
namespace Go.Proofs.YtdbbalcicgllhaaGreatDoor
open Go.RowKit

/-- What an instruction is named, and what it uses. -/
def entry (z : Int) : Bytes × Bytes := if 1 ≤ z ∧ z ≤ 56 then tbl.getD z.toNat ([], []) else ([63], [])
def nameOf (z : Int) : Bytes := (entry z).1
def useOf (z : Int) : Bytes := (entry z).2

theorem tbl_at (k : Nat) (h : k < 57) : tbl[k]? = some (tbl.getD k ([], [])) := by
  have hl : tbl.length = 57 := rfl
  rw [List.getD, List.getElem?_eq_getElem (by omega)]
  rfl

theorem tblCells_at (k : Nat) (h : k < 57) : tblCells[k * 2]? = some (.string ⟨(tbl.getD k ([], [])).1.toArray⟩) ∧ tblCells[k * 2 + 1]? = some (.string ⟨(tbl.getD k ([], [])).2.toArray⟩) := by
  unfold tblCells
  rw [List.getElem?_toArray, List.getElem?_toArray]
  exact flat2 tbl k _ (tbl_at k h)

set_option maxRecDepth 100000 in
set_option maxHeartbeats 1600000 in
theorem Name_any (z : Int) (h0 : -9223372036854775808 ≤ z) (h1 : z ≤ 9223372036854775807) (w : World) :
    Calls Tryz.prog 11 #[.int .i64 z] w fun e w' => e = .returned (.string ⟨(nameOf z).toArray⟩) ∧ Upd (fun _ => False) w w' := by
  have hc := names_any w
  obtain ⟨A, hA⟩ : ∃ A, w.alloc (.cells tblCells 59) = A := ⟨_, rfl⟩
  have hn := heap_alloc_new w (.cells tblCells 59)
  rw [hA] at hn hc
  have HU : Hid (Upd (fun _ => False) w A) := hA ▸ Upd.alloc _ w _
  clear hA
  by_cases hz : 1 ≤ z ∧ z ≤ 56
  · obtain ⟨k, rfl⟩ : ∃ k : Nat, z = k := ⟨z.toNat, by omega⟩
    have hk1 : 1 ≤ k := by omega
    have hk2 : k ≤ 56 := by omega
    have hN : nameOf (k : Int) = (tbl.getD k ([], [])).1 := by
      unfold nameOf entry
      rw [if_pos hz]
      rfl
    have hcell : A.cell? ⟨w.heap.size, k * 2, none⟩ = some (.string ⟨(nameOf (k : Int)).toArray⟩) := by
      rw [hN]
      simp only [World.cell?, hn]
      exact (tblCells_at k (by omega)).1
    obtain ⟨T, hT⟩ : ∃ T, nameOf (k : Int) = T := ⟨_, rfl⟩
    rw [hT] at hcell ⊢
    have g1 : ¬ (k : Int) < 1 := by omega
    have g2 : ¬ (57 : Int) ≤ k := by omega
    clear hn hN hT hz
    go_enter Tryz.func11, Tryz.ntmps11
    go_wp2_with (go_at_call 13; refine hc.mono ?_; rintro e w1 ⟨rfl, rfl⟩)
    go_ret
    exact ⟨rfl, HU.out⟩
  · have hN : nameOf z = [63] := by
      unfold nameOf entry
      rw [if_neg hz]
    rw [hN]
    clear hn hN
    by_cases hz1 : z < 1
    · clear hz
      go_enter Tryz.func11, Tryz.ntmps11
      go_wp2_with (go_at_call 13; refine hc.mono ?_; rintro e w1 ⟨rfl, rfl⟩)
      go_ret
      exact ⟨rfl, HU.out⟩
    · have g2 : (57 : Int) ≤ z := by omega
      clear hz
      go_enter Tryz.func11, Tryz.ntmps11
      go_wp2_with (go_at_call 13; refine hc.mono ?_; rintro e w1 ⟨rfl, rfl⟩)
      go_ret
      exact ⟨rfl, HU.out⟩
end Go.Proofs.YtdbbalcicgllhaaGreatDoor
