import Derived.Test.YtdbbalcicgllhaaGreatDoorA21
namespace Go.Proofs.YtdbbalcicgllhaaGreatDoor
open Go.RowKit

def lawTbl : List (Bytes × Bytes) := ([63], []) :: tbl.tail
def lawT1 : Array Value := (lawTbl.map fun p => Value.string ⟨p.1.toArray⟩).toArray
def lawT2 : Array Value := (lawTbl.map fun p => Value.string ⟨p.2.toArray⟩).toArray

set_option maxRecDepth 100000 in
set_option maxHeartbeats 1600000 in
theorem table_any (w : World) :
    Calls Tryz.prog 10 #[] w fun e w' => e = .returned (.tuple #[.slice (some ⟨w.heap.size, 0, none⟩) 57 57, .slice (some ⟨w.heap.size + 1, 0, none⟩) 57 57]) ∧ w' = (w.alloc (.cells lawT1 9)).alloc (.cells lawT2 9) := by
  go_enter Tryz.func10, Tryz.ntmps10
  go_wp2
  go_ret2
  refine ⟨rfl, ?_⟩
  kernel_rfl

def p0 : Pg := { texts := [[97]], globals := [], structs := [], funcs := [{ name := [109, 97, 105, 110], refs := [true], params := 0, captures := 0, result := false, code := [{ op := 2, a := 0, b := 0, c := 0, d := 0, list := [] }, { op := 48, a := -1, b := 0, c := 0, d := 0, list := [] }] }], main := 1 }

theorem p0_ok : p0.ok := by
  refine ⟨by decide, ?_, ?_, by decide, by decide⟩
  · intro f hf
    simp [p0] at hf
    subst hf
    refine ⟨by decide, by decide, ?_, by decide, by decide⟩
    intro x hx
    simp at hx
    rcases hx with rfl | rfl
    · exact ⟨⟨by decide, by decide, by decide, by decide, by decide, by simp⟩, by decide⟩
    · exact ⟨⟨by decide, by decide, by decide, by decide, by decide, by simp⟩, by decide⟩
  · intro t ht
    simp [p0] at ht
    subst ht
    decide
end Go.Proofs.YtdbbalcicgllhaaGreatDoor
