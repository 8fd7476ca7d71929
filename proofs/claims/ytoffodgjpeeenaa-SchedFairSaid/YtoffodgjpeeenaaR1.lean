import Derived.Test.YtoffodgjpeeenaaW6
import Derived.RegionTactic
import Derived.ChangeAlike
import Derived.Deep.QuietTactic
import Derived.BigQuiet
import Derived.Deep.LoopGhost
namespace Go.Proofs.Ytoffodgjpeeenaa
open Go.RowKit

/-- The document's queue at block 'b'. -/
structure RQ (B : Nat) (w : World) (b : Nat) (sv lv : Value) (S : List Int) (at_ : Nat) (l : List Int) : Prop where
  hb : w.heap[b]? = some (.cells #[sv, .int .i64 at_, lv] 28 (0, 0))
  vs : View w sv S
  le : at_ ≤ S.length
  ol : w.ownsRow B 3 1 lv l.length (l.map (.int .i64))
  nb : lv.ownBlock ≠ some b
  bb : B ≤ b
  top : ∀ x ∈ S, x ≤ 9223372036854775807
  sx : S ≠ [] → ∀ k, sv.ownBlock = some k → k < B

theorem View.updne {S : Nat → Prop} {w w' : World} {v : Value} {xs : List Int} (h : View w v xs) (hu : Upd S w w') (hs : xs ≠ [] → ∀ k, v.ownBlock = some k → ¬ S k) : View w' v xs := by
  by_cases hne : xs = []
  · subst hne
    obtain ⟨a, c, rfl, hl, hc⟩ := h
    exact ⟨a, c, rfl, hl, fun h => absurd rfl h⟩
  · exact h.upd hu (hs hne)

variable {B b at_ : Nat} {w : World} {sv lv : Value} {S l : List Int}
theorem RQ.lt (h : RQ B w b sv lv S at_ l) : b < w.heap.size := (Array.getElem?_eq_some_iff.1 h.hb).1
theorem RQ.c0 (h : RQ B w b sv lv S at_ l) : w.cell? ⟨b, 0, none⟩ = some sv := by simp [World.cell?, h.hb]
theorem RQ.c1 (h : RQ B w b sv lv S at_ l) : w.cell? ⟨b, 1, none⟩ = some (.int .i64 at_) := by simp [World.cell?, h.hb]
theorem RQ.c2 (h : RQ B w b sv lv S at_ l) : w.cell? ⟨b, 2, none⟩ = some lv := by simp [World.cell?, h.hb]
theorem RQ.fr (h : RQ B w b sv lv S at_ l) (o : Nat) : w.frozen? ⟨b, o, none⟩ = false := by simp [World.frozen?, h.hb]

theorem RQ.upd {X : Nat → Prop} {w' : World} (h : RQ B w b sv lv S at_ l) (hu : Upd X w w')
    (h1 : ¬ X b) (h2 : ∀ k, X k → B ≤ k) (h3 : ∀ k, lv.ownBlock = some k → ¬ X k) : RQ B w' b sv lv S at_ l :=
  ⟨(hu.block b h.lt h1).trans h.hb, h.vs.updne hu (fun hne k hk hx => by have := h.sx hne k hk; have := h2 k hx; omega), h.le, ownsRow_upd h.ol hu h3, h.nb, h.bb, h.top, h.sx⟩

theorem RQ.setAt {w' : World} {n : Nat} (h : RQ B w b sv lv S at_ l) (hu : Upd (fun k => k = b) w w') (hb : w'.heap[b]? = some (.cells #[sv, .int .i64 n, lv] 28 (0, 0))) (hn : n ≤ S.length) : RQ B w' b sv lv S n l :=
  ⟨hb, h.vs.updne hu (fun hne k hk e => by have := h.sx hne k hk; have := h.bb; omega), hn, ownsRow_upd h.ol hu (fun _ hk e => h.nb (e ▸ hk)), h.nb, h.bb, h.top, h.sx⟩

theorem Upd.drew (X : Nat → Prop) (w : World) : Upd X w w.drew := ⟨rfl, rfl, rfl, Nat.le_refl _, fun _ _ _ => rfl⟩

def RNum (b n : Nat) (x : Int) (w : World) (e : Ending) (w' : World) : Prop :=
  e = .returned (.int .i64 x) ∧ ∃ w1, Upd (fun _ => False) w w1 ∧ w' = w1.setCell ⟨b, 1, none⟩ (.int .i64 n)

set_option maxHeartbeats 400000 in
theorem rnum_end (b at_ : Nat) (a : Option Addr) (n c : Nat) (w : World) (h0 : w.cell? ⟨b, 0, none⟩ = some (.slice a n c)) (h1 : w.cell? ⟨b, 1, none⟩ = some (.int .i64 at_)) (hn : n ≤ at_) :
    Calls Try.prog 20 #[.pointer (some ⟨b, 0, none⟩)] w fun e w' => e = .returned (.int .i64 0) ∧ ∃ k, w' = w.drewN k := by
  go_enter Try.func20, Try.ntmps20
  go_wp2
  go_quiet (fail)
  go_wp2
  go_ret
  exact ⟨rfl, _, rfl⟩

set_option maxHeartbeats 800000 in
theorem rnum_more (b at_ sb so n c : Nat) (x : Int) (w : World) (h0 : w.cell? ⟨b, 0, none⟩ = some (.slice (some ⟨sb, so, none⟩) n c)) (h1 : w.cell? ⟨b, 1, none⟩ = some (.int .i64 at_)) (hn : at_ < n) (hm : n ≤ 1000000)
    (hf : w.frozen? ⟨b, 1, none⟩ = false) (hx : w.cell? ⟨sb, so + at_, none⟩ = some (.int .i64 x)) :
    Calls Try.prog 20 #[.pointer (some ⟨b, 0, none⟩)] w fun e w' => e = .returned (.int .i64 (max 0 x)) ∧ ∃ k, w' = (w.drewN k).setCell ⟨b, 1, none⟩ (.int .i64 ((at_ + 1 : Nat) : Int)) := by
  by_cases hx0 : x < 0
  · go_enter Try.func20, Try.ntmps20
    go_wp2
    go_quiet (fail)
    go_wp2
    go_quiet (fail)
    go_wp2
    go_ret
    exact ⟨by simp; omega, _, rfl⟩
  · go_enter Try.func20, Try.ntmps20
    go_wp2
    go_quiet (fail)
    go_wp2
    go_quiet (fail)
    go_wp2
    go_ret
    exact ⟨by simp; omega, _, rfl⟩

/-- What an operation of the document's queue leaves. -/
def RAfter (B b : Nat) (sv lv : Value) (w w' : World) (S : List Int) (at_ : Nat) (l : List Int) : Prop :=
  ∃ lv', RQ B w' b sv lv' S at_ l ∧ Upd (QS b lv) w w' ∧ Fresh w lv lv'

theorem rnumber (w : World) (h : RQ B w b sv lv S at_ l) (hs : S.length ≤ 1000000) :
    Calls Try.prog 20 #[.pointer (some ⟨b, 0, none⟩)] w fun e w' => e = .returned (.int .i64 (numOf (S.drop at_))) ∧ ∃ n, S.drop n = (S.drop at_).tail ∧ RQ B w' b sv lv S n l ∧ Upd (fun k => k = b) w w' := by
  obtain ⟨a, c, rfl, hlc, hcell⟩ := h.vs
  by_cases hlt : at_ < S.length
  · obtain ⟨sb, so, rfl, hc⟩ := hcell (by intro e; simp [e] at hlt)
    refine (rnum_more b at_ sb so S.length c S[at_] w h.c0 h.c1 hlt hs (h.fr 1) (hc at_ hlt)).mono ?_
    rintro e w' ⟨rfl, k, rfl⟩
    have hu : Upd (fun k => k = b) w ((w.drewN k).setCell ⟨b, 1, none⟩ (.int .i64 ((at_ + 1 : Nat) : Int))) := (Upd.drewN _ w k).trans (Upd.setCell (S := fun k => k = b) _ _ _ rfl) (fun _ _ h => h)
    refine ⟨?_, at_ + 1, ?_, h.setAt hu ?_ (by omega), hu⟩
    · rw [List.drop_eq_getElem_cons hlt]; rfl
    · rw [List.drop_eq_getElem_cons hlt]; rfl
    · have : (w.drewN k).heap[b]? = _ := h.hb
      simp only [World.setCell, Array.getElem?_modify, this]; simp
  · refine (rnum_end b at_ a S.length c w h.c0 h.c1 (by omega)).mono ?_
    rintro e w' ⟨rfl, k, rfl⟩
    have hu : Upd (fun k => k = b) w (w.drewN k) := Upd.drewN _ w k
    refine ⟨?_, at_, ?_, h.setAt hu h.hb h.le, hu⟩
    · rw [List.drop_eq_nil_of_le (by omega)]; rfl
    · rw [List.drop_eq_nil_of_le (by omega)]; rfl

end Go.Proofs.Ytoffodgjpeeenaa
