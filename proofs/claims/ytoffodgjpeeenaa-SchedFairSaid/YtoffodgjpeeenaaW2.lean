import Derived.Test.YtoffodgjpeeenaaW1
import Derived.Test.YtoffodgjpeeenaaShelf
import Derived.Lib.Hide
namespace Go.Proofs.Ytoffodgjpeeenaa
open Go.RowKit

theorem Try.info3 : (Try.prog.info? 3).map (fun i => (i.zero, i.size, i.bytes)) = some (some (.int .i64 0), 1, 8) := by kernel_rfl

theorem setCells_row {g : Nat} {e : TypeId} : ∀ (vs : List Value) (o : Nat) (w : World) (cur : Array Value), w.heap[g]? = some (.cells cur e (0, 0)) → o + vs.length ≤ cur.size →
    ∃ cur', (w.setCells g o vs).heap[g]? = some (.cells cur' e (0, 0)) ∧ cur'.size = cur.size ∧ cur'.toList = cur.toList.take o ++ vs ++ cur.toList.drop (o + vs.length)
  | [], o, w, cur, h, _ => ⟨cur, h, rfl, by simp⟩
  | v :: vs, o, w, cur, h, hl => by
    have h1 : (w.setCell ⟨g, o, none⟩ v).heap[g]? = some (.cells (cur.setIfInBounds o v) e (0, 0)) := by
      simp only [World.setCell, Array.getElem?_modify, h]; simp
    obtain ⟨cur', h2, h3, h4⟩ := setCells_row vs (o + 1) (w.setCell ⟨g, o, none⟩ v) _ h1 (by simp at hl ⊢; omega)
    refine ⟨cur', h2, by simpa using h3, ?_⟩
    rw [h4]
    have ho : o < cur.toList.length := by simp at hl ⊢; omega
    have e1 : (cur.setIfInBounds o v).toList = cur.toList.take o ++ v :: cur.toList.drop (o + 1) := by
      rw [Array.toList_setIfInBounds, List.set_eq_take_append_cons_drop, if_pos ho]
    rw [e1]
    have hto : (cur.toList.take o).length = o := by simp at ho ⊢; omega
    have e2 : (cur.toList.take o ++ v :: cur.toList.drop (o + 1)).take (o + 1) = cur.toList.take o ++ [v] := by
      rw [List.take_append, hto, show o + 1 - o = 1 by omega, List.take_of_length_le (by rw [hto]; omega)]; simp
    have e3 : (cur.toList.take o ++ v :: cur.toList.drop (o + 1)).drop (o + 1 + vs.length) = cur.toList.drop (o + (v :: vs).length) := by
      rw [List.drop_append, hto, show o + 1 + vs.length - o = vs.length + 1 by omega, List.drop_eq_nil_of_le (by rw [hto]; omega)]
      simp only [List.nil_append, List.drop_succ_cons, List.drop_drop, List.length_cons]
      congr 1; omega
    rw [e2, e3]; simp

theorem Upd.setCells {S : Nat → Prop} (g : Nat) (hS : S g) : ∀ (vs : List Value) (o : Nat) (w : World), Upd S w (w.setCells g o vs)
  | [], _, w => Upd.refl S w
  | v :: vs, o, w => (Upd.setCell (S := S) w ⟨g, o, none⟩ v hS).trans (Upd.setCells g hS vs (o + 1) _) (fun _ _ h => h)

/-- slices.Clone, of whatever reads as numbers. -/
theorem clone_view (v : Value) (xs : List Int) (w : World) (h : View w v xs) (hl : xs.length ≤ 1000000) :
    Calls Try.prog 18 #[v] w fun e w' => ∃ v', e = .returned v' ∧ w'.ownsRow w.heap.size 3 1 v' xs.length (xs.map (.int .i64)) ∧ Below w.heap.size w w' := by
  obtain ⟨a, c, rfl, hlc, hcell⟩ := h
  cases xs with
  | nil =>
    cases a with
    | none =>
      refine (Try.slices_Clone_int_nil 0 c w).mono ?_
      rintro e w' ⟨rfl, rfl⟩
      exact ⟨_, rfl, World.ownsRow_nil _ _ _ _, Below.refl _ _⟩
    | some a =>
      refine (Try.slices_Clone_int_zero a c w).mono ?_
      rintro e w' ⟨v', rfl, ho, _, hb⟩
      exact ⟨_, rfl, ho, hb⟩
  | cons x t =>
    obtain ⟨b, o, rfl, hc⟩ := hcell (by simp)
    refine (Try.slices_Clone_int b o (x :: t).length c (x :: t) w (Nat.le_refl _) (by omega) (fun j hj => ?_)).mono ?_
    · rw [hc j hj]; simp [List.getD, List.getElem?_eq_getElem hj]
    · rintro e w' ⟨v', rfl, ho, _, hb⟩
      rw [List.take_length] at ho
      exact ⟨_, rfl, ho, hb⟩

/-- slices.Delete of one, of a row of the call's own. -/
theorem delete_own (B : Nat) (v : Value) (xs : List Int) (k : Nat) (w : World) (h : w.ownsRow B 3 1 v xs.length (xs.map (.int .i64))) (hk : k < xs.length) :
    Calls Try.prog 23 #[v, .int .i64 k, .int .i64 ((k : Int) + 1)] w fun e w' => ∃ g cap, v.ownBlock = some g ∧ e = .returned (.slice (some ⟨g, 0, none⟩) (xs.eraseIdx k).length cap) ∧
      w'.ownsRow B 3 1 (.slice (some ⟨g, 0, none⟩) (xs.eraseIdx k).length cap) (xs.eraseIdx k).length ((xs.eraseIdx k).map (.int .i64)) ∧ Upd (fun k => k = g) w w' := by
  rcases h.2 with ⟨rfl, hn⟩ | ⟨g, cap, cur, rfl, hb, hg, hc, hm, hs, ht⟩
  · omega
  have hcell := h.cells (g := g) rfl
  have hle : (xs.eraseIdx k).length = xs.length - 1 := by rw [List.length_eraseIdx, if_pos hk]
  refine (Try.slices_Delete_int_cells g 0 xs.length cap k (k + 1) xs w (Nat.le_refl _) hc (by unfold maxLen at hm; exact hm) (by omega) (by omega) (fun j hj => ?_) (fun j hj => ?_)).mono ?_
  · have := hcell j (.int .i64 xs[j]) (by simp [List.getElem?_eq_getElem hj])
    rw [Addr.add_lit] at this
    rw [this]; simp [List.getD, List.getElem?_eq_getElem hj]
  · simp [World.frozen?, hg]
  · rintro e w' ⟨rfl, q, rfl⟩
    obtain ⟨cur', h2, h3, h4⟩ := setCells_row (((xs.take xs.length).take k ++ (xs.take xs.length).drop (k + 1) ++ List.replicate (k + 1 - k) 0).map (Value.int .i64)) 0 (w.drewN q) cur hg (by
      have : cur.size = cap := by omega
      simp; omega)
    have e1 : xs.take k ++ xs.drop (k + 1) = xs.eraseIdx k := (List.eraseIdx_eq_take_drop_succ xs k).symm
    simp only [List.take_length, show k + 1 - k = 1 by omega, e1] at h2 h4 ⊢
    have e2 : xs.length - 1 = (xs.eraseIdx k).length := hle.symm
    refine ⟨g, cap, rfl, by rw [e2], ⟨by simp, .inr ⟨g, cap, cur', rfl, hb, h2, by omega, hm, by rw [h3, hs], ?_⟩⟩, ?_⟩
    · rw [h4]; simp
    · exact (Upd.drewN _ w q).trans (Upd.setCells (S := fun k => k = g) g rfl _ _ _) (fun _ _ h => h)

end Go.Proofs.Ytoffodgjpeeenaa
