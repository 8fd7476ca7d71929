import Derived.Test.YtoffodgjpeeenaaP1
namespace Go.Proofs.Ytoffodgjpeeenaa
open Go.RowKit

/-- The document's queue is made beside the other. -/
theorem pair_init {B b : Nat} {w0 w : World} {scr S : List Int} {Sv : Value} (h : Own B b w0 w scr []) (hv : View w Sv S) (hS : S.length ≤ 1000) (htop : ∀ x ∈ S, x ≤ 9223372036854775807) (hx : S ≠ [] → ∀ k, Sv.ownBlock = some k → k < B) :
    Pair B w0 (w.alloc (.cells #[Sv, .int .i64 0, .slice none 0 0] 28)) b w.heap.size scr [] S [] := by
  obtain ⟨hb, hu, hB, sv, lv, hq⟩ := h
  have hua : Upd (fun _ => False) w (w.alloc (.cells #[Sv, .int .i64 0, .slice none 0 0] 28)) := Upd.alloc _ w _
  have hlt := hq.lt
  refine ⟨hb, hu.next (UpB.none hua), Nat.le_trans hB hua.size, by omega, sv, lv, Sv, .slice none 0 0, S, 0, rfl, hS, hq.upd hua (fun h => h) (fun _ _ h => h) (fun _ _ h => h), ⟨heap_alloc_new w _, hv.upd hua (fun _ _ h => h), by omega, World.ownsRow_nil _ _ _ _, by simp [Value.ownBlock], hB, htop, hx⟩, ?_, by simp [Value.ownBlock], by simp [Value.ownBlock], ?_, by simp [Value.ownBlock], fun _ _ h => by cases h⟩
  · intro e; have := (own_lt hq.ol _ e).2; omega
  · intro e; have := hq.sx _ e; omega

theorem nextList_len (scr l : List Int) : (nextList scr l).length ≤ l.length := by
  unfold nextList
  split
  · simp
  · exact List.length_eraseIdx_le _ _

theorem nextList_lt (scr l : List Int) (h : l ≠ []) : (nextList scr l).length + 1 ≤ l.length := by
  unfold nextList
  rw [if_neg h]
  have hp := List.length_pos_iff.2 h
  rw [List.length_eraseIdx, if_pos (by unfold nextAt; exact Nat.mod_lt _ hp)]
  omega

theorem yieldList_len (scr l : List Int) (x : Int) : (yieldList scr l x).length ≤ l.length + 1 := by
  unfold yieldList
  split
  · omega
  · have := List.length_eraseIdx_le (l ++ [x]) (yieldAt scr l)
    simp at this ⊢; omega

theorem tail_len (scr : List Int) : scr.tail.length ≤ scr.length := by simp

theorem View.up {w w' : World} {v : Value} {xs : List Int} (h : View w v xs) (hu : UpB w.heap.size w w') : View w' v xs := by
  refine h.updne hu (fun hne k hk => ?_)
  obtain ⟨a, c, rfl, hl, hc⟩ := h
  obtain ⟨b, o, rfl, hcell⟩ := hc hne
  have := World.block_lt_of_cell? _ _ (hcell 0 (List.length_pos_iff.2 hne))
  simp [Value.ownBlock] at hk
  simp at this
  omega

/-- The two lists at the end. -/
theorem pair_both {B : Nat} {w0 w : World} {b rb : Nat} {scr l : List Int} {scr2 : List Int} {p : Nat} {bx : Option (Nat × Obj)} (h : PairX bx B w0 w b rb scr l scr2 l) (hp : l.length = p) (hl : p ≤ 1000000) :
    ∃ ra rc, w.cell? ⟨rb, 2, none⟩ = some (.slice ra p rc) ∧ Hid (Calls Try.prog 10 #[.pointer (some ⟨b, 0, none⟩)] w fun e w' => ∃ a c, e = .returned (.slice a p c) ∧ w'.cell? ⟨rb, 2, none⟩ = some (.slice ra p rc) ∧
      Hid (View w' (.slice a p c) l) ∧ Hid (View w' (.slice ra p rc) l) ∧ Hid (PairX bx B w0 w' b rb scr l scr2 l)) := by
  obtain ⟨ra, rc, hrl, hrv⟩ := pair_rlist h
  subst hp
  refine ⟨ra, rc, hrl, (pair_list h hl).mono ?_⟩
  rintro e w' ⟨v, rfl, h4⟩
  obtain ⟨ho, hb, hp⟩ := h4.out
  have hrb : rb < w.heap.size := World.block_lt_of_cell? _ _ hrl
  obtain ⟨a, c, rfl, _⟩ := ownsRow_view ho
  exact ⟨a, c, rfl, (hb.cell (p := ⟨rb, 2, none⟩) hrb).trans hrl, ownsRow_view ho, hrv.up (Upd.below hb), hp⟩

theorem pair_both2 {B : Nat} {w0 w : World} {b rb : Nat} {scr l : List Int} {scr2 : List Int} {p : Nat} {bx : Option (Nat × Obj)} {ra : Option Addr} {rc : Nat} (h : PairX bx B w0 w b rb scr l scr2 l) (hp : l.length = p) (hl : p ≤ 1000000) (hc : w.cell? ⟨rb, 2, none⟩ = some (.slice ra p rc)) :
    Hid (Calls Try.prog 10 #[.pointer (some ⟨b, 0, none⟩)] w fun e w' => ∃ a c, e = .returned (.slice a p c) ∧ w'.cell? ⟨rb, 2, none⟩ = some (.slice ra p rc) ∧
      Hid (View w' (.slice a p c) l) ∧ Hid (View w' (.slice ra p rc) l) ∧ Hid (PairX bx B w0 w' b rb scr l scr2 l)) ∧
    Hid (Calls Try.prog 16 #[.pointer (some ⟨b, 0, none⟩)] w fun e w' => e = .returned (.int .i64 p) ∧ w' = w) := by
  obtain ⟨ra', rc', hc', H⟩ := pair_both h hp hl
  rw [hc] at hc'
  injection hc' with hc'
  injection hc' with e1 _ e3
  subst e1; subst e3
  refine ⟨H, ?_⟩
  subst hp
  exact pair_len h

end Go.Proofs.Ytoffodgjpeeenaa
