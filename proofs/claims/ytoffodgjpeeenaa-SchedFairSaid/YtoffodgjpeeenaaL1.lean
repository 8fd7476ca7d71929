import Derived.Test.YtoffodgjpeeenaaR4
namespace Go.Proofs.Ytoffodgjpeeenaa
open Go.RowKit

/-- Nothing below 'B' has turned. -/
abbrev UpB (B : Nat) (w w' : World) : Prop := Upd (fun k => B ≤ k) w w'

theorem UpB.refl (B : Nat) (w : World) : UpB B w w := Upd.refl _ w
theorem UpB.next {B : Nat} {a b c : World} (h : UpB B a b) (k : UpB B b c) : UpB B a c := h.trans k (fun _ _ h => h)
theorem UpB.none {B : Nat} {a b : World} (h : Upd (fun _ => False) a b) : UpB B a b := h.mono (fun _ _ h => h.elim)
theorem UpB.row {B b : Nat} {lv : Value} {n : Nat} {xs : List Value} {a c : World} (h : Upd (QS b lv) a c) (hb : B ≤ b) (ho : a.ownsRow B 3 1 lv n xs) : UpB B a c :=
  h.mono (fun k _ h => by
    rcases h with h | h
    · omega
    · exact (own_lt ho k h).1)
theorem UpB.at {B b : Nat} {a c : World} (h : Upd (fun k => k = b) a c) (hb : B ≤ b) : UpB B a c := h.mono (fun k _ h => by omega)
theorem UpB.toBelow {B : Nat} {w w' : World} (h : UpB B w w') (hB : B ≤ w.heap.size) : Below B w w' :=
  ⟨h.os, h.tape, h.output, h.size, fun k hk => h.block k (by omega) (by omega)⟩

/-- A queue of the call's own, and what has been written. -/
def Own (B b : Nat) (w0 w : World) (scr l : List Int) : Prop := B ≤ b ∧ UpB B w0 w ∧ B ≤ w.heap.size ∧ ∃ sv lv, Que B w b sv lv scr l

theorem Own.after {B b : Nat} {w0 w w' : World} {sv lv : Value} {scr l scr' l' : List Int} (hb : B ≤ b) (hu : UpB B w0 w) (hB : B ≤ w.heap.size) (h : Que B w b sv lv scr l) (ha : After B b sv lv w w' scr' l') : Own B b w0 w' scr' l' := by
  obtain ⟨sv', lv', hq, hu2, _, _⟩ := ha
  exact ⟨hb, hu.next (UpB.row hu2 hb h.ol), Nat.le_trans hB hu2.size, sv', lv', hq⟩

theorem own_new (B : Nat) (v : Value) (scr : List Int) (w0 w : World) (h : View w v scr) (hs : scr.length ≤ 1000000) (htop : ∀ x ∈ scr, x ≤ 9223372036854775807) (hB : B ≤ w.heap.size) (hu : UpB B w0 w) :
    Calls Try.prog 8 #[v] w fun e w' => ∃ b, e = .returned (.pointer (some ⟨b, 0, none⟩)) ∧ Hid (Own B b w0 w' scr [] ∧ w.heap.size ≤ b) := by
  refine (new_q B v scr w h hs htop).mono ?_
  rintro e w' ⟨b, sv, rfl, hq, hu2, hb, _⟩
  exact ⟨b, rfl, ⟨Nat.le_trans hB hb, hu.next (UpB.none hu2), Nat.le_trans hB hu2.size, sv, _, hq⟩, hb⟩

theorem own_push {B b : Nat} {w0 w : World} {scr l : List Int} (id : Int) (h : Own B b w0 w scr l) (hl : l.length ≤ 1000000) :
    Calls Try.prog 9 #[.pointer (some ⟨b, 0, none⟩), .int .i64 id] w fun e w' => e = .returned (.tuple #[]) ∧ Hid (Own B b w0 w' scr (l ++ [id])) := by
  obtain ⟨hb, hu, hB, sv, lv, hq⟩ := h
  refine (push_q B b sv lv scr l id w hq hl hB).mono ?_
  rintro e w' ⟨rfl, lv', hq2, hu2, hf⟩
  exact ⟨rfl, Own.after hb hu hB hq ⟨sv, lv', hq2, hu2, hf, rfl⟩⟩

theorem own_number {B b : Nat} {w0 w : World} {scr l : List Int} (h : Own B b w0 w scr l) (hs : scr.length ≤ 1000000) :
    Calls Try.prog 17 #[.pointer (some ⟨b, 0, none⟩)] w fun e w' => e = .returned (.int .i64 (numOf scr)) ∧ Hid (Own B b w0 w' scr.tail l) := by
  obtain ⟨hb, hu, hB, sv, lv, hq⟩ := h
  refine (number B b sv lv scr l w hq hs).mono ?_
  rintro e w' ⟨rfl, sv', hq2, hu2, _⟩
  exact ⟨rfl, hb, hu.next (UpB.at hu2 hb), Nat.le_trans hB hu2.size, sv', lv, hq2⟩

theorem own_next {B b : Nat} {w0 w : World} {scr l : List Int} (h : Own B b w0 w scr l) (hs : scr.length ≤ 1000000) (hl : l.length ≤ 1000000) :
    Calls Try.prog 11 #[.pointer (some ⟨b, 0, none⟩)] w fun e w' => e = .returned (.tuple #[.int .i64 (nextVal scr l), .bool (decide (l ≠ []))]) ∧ Hid (Own B b w0 w' scr.tail (nextList scr l)) := by
  obtain ⟨hb, hu, hB, sv, lv, hq⟩ := h
  refine (next_q B b sv lv scr l w hq hs hl hB).mono ?_
  rintro e w' ⟨rfl, ha⟩
  exact ⟨rfl, Own.after hb hu hB hq ha⟩

theorem own_yield {B b : Nat} {w0 w : World} {scr l : List Int} (now : Int) (h : Own B b w0 w scr l) (hs : scr.length ≤ 1000000) (hl : l.length < 1000000) :
    Calls Try.prog 15 #[.pointer (some ⟨b, 0, none⟩), .int .i64 now] w fun e w' => e = .returned (.int .i64 (yieldVal scr l now)) ∧ Hid (Own B b w0 w' scr.tail (yieldList scr l now)) := by
  obtain ⟨hb, hu, hB, sv, lv, hq⟩ := h
  refine (yield_q B b sv lv scr l now w hq hs hl hB).mono ?_
  rintro e w' ⟨rfl, ha⟩
  exact ⟨rfl, Own.after hb hu hB hq ha⟩

theorem own_len {B b : Nat} {w0 w : World} {scr l : List Int} (h : Own B b w0 w scr l) :
    Calls Try.prog 16 #[.pointer (some ⟨b, 0, none⟩)] w fun e w' => e = .returned (.int .i64 l.length) ∧ w' = w := by
  obtain ⟨_, _, _, sv, lv, hq⟩ := h
  exact len_q B b sv lv scr l w hq

theorem own_list {B b : Nat} {w0 w : World} {scr l : List Int} (h : Own B b w0 w scr l) (hl : l.length ≤ 1000000) :
    Calls Try.prog 10 #[.pointer (some ⟨b, 0, none⟩)] w fun e w' => ∃ v, e = .returned v ∧ Hid (w'.ownsRow w.heap.size 3 1 v l.length (l.map (.int .i64)) ∧ Below w.heap.size w w' ∧ Own B b w0 w' scr l) := by
  obtain ⟨hb, hu, hB, sv, lv, hq⟩ := h
  refine (list_q B b sv lv scr l w hq hl).mono ?_
  rintro e w' ⟨v, rfl, ho, hbel⟩
  have hu2 : Upd (fun k => w.heap.size ≤ k) w w' := Upd.below hbel
  refine ⟨v, rfl, ho, hbel, hb, hu.next (hu2.mono (fun k _ h => Nat.le_trans hB h)), Nat.le_trans hB hu2.size, sv, lv, hq.upd hu2 ?_ ?_ ?_⟩
  · have := hq.lt; omega
  · intro k hk; have := hq.sx k hk; omega
  · intro k hk; have := (own_lt hq.ol k hk).2; omega

set_option maxHeartbeats 1600000 in
/-- The document's example holds. -/
theorem anchor_any (w : World) : Calls Try.prog 7 #[] w fun e w' => e = .returned (.bool true) ∧ Hid (UpB w.heap.size w w') := by
  have HN := Lib.hid (fun (w1 : World) h hu => own_new w.heap.size (.slice (some ⟨w.heap.size, 0, none⟩) 2 2) [3, 1] w w1 h (by simp) (by simp) (by have : w.heap.size ≤ w1.heap.size := Upd.size hu; exact this) hu)
  have ha : View (w.alloc (.cells #[.int .i64 3, .int .i64 1] 3)) (.slice (some ⟨w.heap.size, 0, none⟩) 2 2) [3, 1] :=
    ⟨_, 2, rfl, by simp, fun _ => ⟨_, 0, rfl, fun i hi => by
      match i, hi with
      | 0, _ => unfold World.cell?; rw [heap_alloc_new]; rfl
      | 1, _ => unfold World.cell?; rw [heap_alloc_new]; rfl⟩⟩
  have HA := Lib.hid ha
  clear ha
  go_enter Try.func7, Try.ntmps7
  go_wp2_with fail
  refine (HN.out _ HA.out (Upd.alloc _ w _)).mono ?_
  rintro e w1 ⟨b, rfl, h1⟩
  go_wp2_with fail
  refine (own_push 7 h1.out.1 (by simp)).mono ?_
  rintro e w2 ⟨rfl, h2⟩
  go_wp2_with fail
  refine (own_push 8 h2.out (by simp)).mono ?_
  rintro e w3 ⟨rfl, h3⟩
  go_wp2_with fail
  refine (own_yield 9 h3.out (by simp) (by simp)).mono ?_
  rintro e w4 ⟨rfl, h4⟩
  have e4 : yieldVal [3, 1] ([] ++ [7] ++ [8]) 9 = 8 ∧ yieldList [3, 1] ([] ++ [7] ++ [8]) 9 = [7, 9] := by decide
  rw [e4.1]
  rw [e4.2] at h4
  clear e4
  go_wp2_with fail
  refine (own_next h4.out (by simp) (by simp)).mono ?_
  rintro e w5 ⟨rfl, h5⟩
  have e5 : nextVal [3, 1].tail [7, 9] = 9 ∧ nextList [3, 1].tail [7, 9] = [7] := by decide
  rw [e5.1]
  rw [e5.2] at h5
  clear e5
  go_wp2_with fail
  refine (own_next h5.out (by simp) (by simp)).mono ?_
  rintro e w6 ⟨rfl, h6⟩
  have e6 : nextVal [3, 1].tail.tail [7] = 7 ∧ nextList [3, 1].tail.tail [7] = [] := by decide
  rw [e6.1]
  rw [e6.2] at h6
  clear e6
  go_wp2_with fail
  refine (own_next h6.out (by simp) (by simp)).mono ?_
  rintro e w7 ⟨rfl, h7⟩
  go_wp2
  go_ret
  exact ⟨rfl, h7.out.2.1⟩

end Go.Proofs.Ytoffodgjpeeenaa
