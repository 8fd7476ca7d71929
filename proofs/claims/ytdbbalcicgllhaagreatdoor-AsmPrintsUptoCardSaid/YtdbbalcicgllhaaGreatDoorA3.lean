import Derived.Test.YtdbbalcicgllhaaGreatDoorA2
import Derived.Test.YtdbbalcicgllhaaGreatDoorShelf
namespace Go.Proofs.YtdbbalcicgllhaaGreatDoor
open Go.RowKit

/-- The library's table of powers of ten stands. -/
def Tab (w : World) : Prop := Lib.TabIs Tryz.prog w "internal/strconv.uint64pow10" .u64 Lib.pow10Tab
theorem g0 : Tryz.prog.globalNamed "internal/strconv.uint64pow10" = some 0 := by kernel_rfl
theorem Tab.upd {S : Nat → Prop} {w w' : World} (h : Tab w) (hu : Upd S w w') (hn : ¬ S 0) : Tab w' := by
  unfold Tab Lib.TabIs World.var? at h ⊢
  rw [g0] at h ⊢
  simp only [Option.bind_some] at h ⊢
  have hlt : 0 < w.heap.size := by
    rcases Nat.eq_zero_or_pos w.heap.size with h0 | h0
    · have : w.heap[0]? = none := Array.getElem?_eq_none (by omega)
      rw [this] at h
      simp at h
    · exact h0
  rw [hu.block 0 hlt hn]
  exact h

theorem upd_grow (S : Nat → Prop) (w : World) (n : Nat) (os : Array Obj) : Upd S w (Sort.grow (w.drewN n) os) :=
  ⟨rfl, rfl, rfl, by simp [Sort.grow, World.drewN], fun k hk _ => by
    show (w.heap ++ os)[k]? = w.heap[k]?
    exact Array.getElem?_append_left hk⟩

theorem itoa_any (n : Int) (h0 : -9223372036854775808 ≤ n) (h1 : n ≤ 9223372036854775807) (w : World) (ht : Tab w) :
    Calls Tryz.prog 19 #[.int .i64 n] w fun e w' => e = .returned (.string ⟨(Lib.itoa n).toArray⟩) ∧ Upd (fun _ => False) w w' := by
  refine (Tryz.strconv_Itoa n h0 h1 w ht).mono ?_
  rintro e w' ⟨rfl, k, os, rfl⟩
  exact ⟨rfl, upd_grow _ _ _ _⟩

set_option maxRecDepth 100000 in
theorem str_any {T : TypeId} {ex : List Value} {b : Nat} {w : World} {out : Bytes} (h : Bd T ex b w out) (h0 : out ≠ []) :
    Calls Tryz.prog 17 #[.pointer (some ⟨b, 0, none⟩)] w fun e w' => e = .returned (.string ⟨out.toArray⟩) ∧ Upd (WS b w) w w' := by
  obtain ⟨p, v, hbk, hp, hown, hne⟩ := h.at_
  have hl0 : out.length ≠ 0 := by simpa using h0
  obtain ⟨g, cap, cur, rfl, hg, hnc, hcm, hcs, htake⟩ : ∃ g cap cur, v = .slice (some ⟨g, 0, none⟩) out.length cap ∧ w.heap[g]? = some (.cells cur 5 (0, 0)) ∧ out.length ≤ cap ∧ cap ≤ maxLen ∧ cur.size = cap * 1 ∧ cur.toList.take (out.length * 1) = Lib.byteCells out := by
    rcases hown.2 with ⟨_, hz⟩ | ⟨g, cap, cur, hv, _, r⟩
    · exact absurd hz hl0
    · exact ⟨g, cap, cur, hv, r⟩
  have c1 : w.drew.cell? ⟨b, 1, none⟩ = some (.slice (some ⟨g, 0, none⟩) out.length cap) := by
    have : w.drew.heap[b]? = some (.cells (p :: .slice (some ⟨g, 0, none⟩) out.length cap :: ex).toArray T (0, 0)) := hbk
    simp [World.cell?, this]
  have hSD : (Builtin.unsafeSliceData_ #[43] 69 #[.slice (some ⟨g, 0, none⟩) out.length cap]).run Tryz.prog w.drew = .ok (.pointer (some ⟨g, 0, none⟩)) w.drew :=
    Lib.run_unsafeSliceData_row _ _ _ _ _ _ (by omega)
  have hUS : (Builtin.unsafeString_ #[69, 3] 9 #[.pointer (some ⟨g, 0, none⟩), .int .i64 out.length]).run Tryz.prog w.drew = .ok (.string ⟨out.toArray⟩) (w.drew.freeze ⟨g, 0, none⟩ out.length) := by
    refine Lib.run_unsafeString_row w.drew 69 3 9 5 Tryz.underlying69 c5 g cur.size (by have hg' : w.drew.heap[g]? = some (.cells cur 5 (0, 0)) := hg; simp [World.shape?, hg']) out h0 (by omega) (by unfold maxLen at hcm; omega) ?_
    intro j x hx
    have := hown.cells (g := g) rfl j (.int .u8 x.toNat) (by simp [Lib.byteCells, hx])
    exact this
  have hup : Upd (WS b w) w (w.drew.freeze ⟨g, 0, none⟩ out.length) := by
    have hfb := Lib.below_freeze (Below.refl g w.drew) (p := ⟨g, 0, none⟩) (Nat.le_refl _) out.length
    refine ⟨hfb.os, hfb.tape, hfb.output, hfb.size, fun k hk hn => ?_⟩
    have hkg : k ≠ g := fun e => hn (.inr ⟨_, c1, by rw [e]; rfl⟩)
    unfold World.freeze
    split
    · rfl
    · simp only [Array.getElem?_modify]
      rw [if_neg (fun e => hkg e.symm)]
      rfl
  have HUP := Lib.hid hup
  clear hup hown hbk h
  go_enter Tryz.func17, Tryz.ntmps17
  go_wp2
  go_region
  all_goals (go_wp2; go_ret; exact ⟨rfl, HUP.out⟩)
end Go.Proofs.YtdbbalcicgllhaaGreatDoor
