import Derived.Test.YtoffodgjpeeenaaA
namespace Go.Proofs.Ytoffodgjpeeenaa
open Go.RowKit

/-- What an operation of the queue at 'b' leaves. -/
def After (B b : Nat) (sv lv : Value) (w w' : World) (scr l : List Int) : Prop :=
  ∃ sv' lv', Que B w' b sv' lv' scr l ∧ Upd (QS b lv) w w' ∧ Fresh w lv lv' ∧ sv'.ownBlock = sv.ownBlock

set_option maxHeartbeats 400000 in
theorem len_walk (b : Nat) (a : Option Addr) (n c : Nat) (w : World) (h : w.cell? ⟨b, 1, none⟩ = some (.slice a n c)) :
    Calls Try.prog 16 #[.pointer (some ⟨b, 0, none⟩)] w fun e w' => e = .returned (.int .i64 n) ∧ w' = w := by
  go_enter Try.func16, Try.ntmps16
  go_wp2
  go_ret
  exact ⟨rfl, rfl⟩

theorem len_q (B b : Nat) (sv lv : Value) (scr l : List Int) (w : World) (h : Que B w b sv lv scr l) :
    Calls Try.prog 16 #[.pointer (some ⟨b, 0, none⟩)] w fun e w' => e = .returned (.int .i64 l.length) ∧ w' = w := by
  obtain ⟨a, c, rfl, _, _⟩ := ownsRow_view h.ol
  exact len_walk b a l.length c w h.c1

set_option maxHeartbeats 400000 in
theorem list_walk (b : Nat) (a : Option Addr) (n c : Nat) (w : World) (R : Ending → World → Prop) (h : w.cell? ⟨b, 1, none⟩ = some (.slice a n c))
    (hR : Calls Try.prog 18 #[.slice a n c] w fun e w' => ∃ v, e = .returned v ∧ R (.returned v) w') :
    Calls Try.prog 10 #[.pointer (some ⟨b, 0, none⟩)] w R := by
  have H := Lib.hid hR
  clear hR
  go_enter Try.func10, Try.ntmps10
  go_wp2_with (go_at_call 18; refine H.out.mono ?_; rintro e w' ⟨v, rfl, hr⟩)
  exact hr

/-- 'List': all of the queue, in memory of its own. -/
theorem list_q (B b : Nat) (sv lv : Value) (scr l : List Int) (w : World) (h : Que B w b sv lv scr l) (hl : l.length ≤ 1000000) :
    Calls Try.prog 10 #[.pointer (some ⟨b, 0, none⟩)] w fun e w' => ∃ v, e = .returned v ∧ w'.ownsRow w.heap.size 3 1 v l.length (l.map (.int .i64)) ∧ Below w.heap.size w w' := by
  have hv := ownsRow_view h.ol
  obtain ⟨a, c, rfl, _, _⟩ := hv
  refine list_walk b a l.length c w _ h.c1 ((clone_view _ l w (ownsRow_view h.ol) hl).mono ?_)
  rintro e w' ⟨v, rfl, h1, h2⟩
  exact ⟨v, rfl, v, rfl, h1, h2⟩

def Pushed (B b : Nat) (lv : Value) (l : List Int) (id : Int) (w : World) (e : Ending) (w' : World) : Prop :=
  e = .returned (.tuple #[]) ∧ ∃ w1 g cap, w1.ownsRow B 3 1 (.slice (some ⟨g, 0, none⟩) (l.length + 1) cap) (l.length + 1) (l.map (.int .i64) ++ [.int .i64 id]) ∧
    Upd (fun k => lv.ownBlock = some k) w w1 ∧ (lv.ownBlock = some g ∨ w.heap.size ≤ g) ∧ w' = w1.setCell ⟨b, 1, none⟩ (.slice (some ⟨g, 0, none⟩) (l.length + 1) cap)

theorem own_shape {w : World} {B n : Nat} {v : Value} {xs : List Value} (h : w.ownsRow B 3 1 v (n + 1) xs) :
    ∃ g cap, v = .slice (some ⟨g, 0, none⟩) (n + 1) cap := by
  rcases h.2 with ⟨_, h⟩ | ⟨g, cap, _, rfl, _⟩
  · omega
  · exact ⟨g, cap, rfl⟩

set_option maxHeartbeats 800000 in
theorem push_walk (B b : Nat) (lv : Value) (l : List Int) (id : Int) (w : World) (hl : l.length ≤ 1000000) (hB : B ≤ w.heap.size) (hb : b < w.heap.size) (h : w.cell? ⟨b, 1, none⟩ = some lv) (hf : w.frozen? ⟨b, 1, none⟩ = false)
    (ho : w.ownsRow B 3 1 lv l.length (l.map (.int .i64))) (hnb : lv.ownBlock ≠ some b) :
    Calls Try.prog 9 #[.pointer (some ⟨b, 0, none⟩), .int .i64 id] w (Pushed B b lv l id w) := by
  obtain ⟨i0, hi, hz0, hz1, hz2⟩ := info_parts Try.info3
  have HN := Lib.hid hnb
  clear hnb
  go_enter Try.func9, Try.ntmps9
  go_wp2_with (at_builtin; refine wpList_append_fresh _ rfl _ _ 22 rfl B 3 i0 (.int .i64 0) 1 8 Try.underlying22 hi hz0 hz1 hz2 rfl (by decide) _ _ _ rfl (ho.alloc _) ⟨w.heap.size, 0, none⟩ 1 1 [.int .i64 id] rfl rfl ?c1 ?c2 ?c3 ?c4 ?c5 ?grow)
  case c1 => intro j u hj; match j, hj with | 0, hj => simp at hj; subst hj; simp [Addr.add]
  case c2 => intro u hu; simp at hu; subst hu; rfl
  case c3 => unfold maxLen; omega
  case c4 => omega
  case c5 => simp only [World.size_alloc]; omega
  case grow =>
    intro v' w1 hown hgrow hfr
    obtain ⟨g, cap, rfl⟩ := own_shape hown
    have hu : Hid (Upd (fun k => lv.ownBlock = some k) w w1) := (Upd.alloc _ w _).trans (Upd.grown hgrow (fun k h => h)) (fun _ _ h => h)
    have hnb : ¬ lv.ownBlock = some b := HN.out
    have k1 := (World.cell?_of_block (a := ⟨b, 1, none⟩) (hu.out.block b hb hnb)).trans h
    have f1 := (World.frozen?_of_block (a := ⟨b, 1, none⟩) (hu.out.block b hb hnb)).trans hf
    have hfr2 : Hid (lv.ownBlock = some g ∨ w.heap.size ≤ g) := by
      rcases hfr.out with e | e
      · exact .inl (by rw [← e]; rfl)
      · exact .inr (by have := e g rfl; omega)
    have HO := Lib.hid hown
    clear hown hgrow hfr h hf ho hnb
    go_wp2
    go_end0
    exact ⟨rfl, w1, g, cap, HO.out, hu.out, hfr2.out, rfl⟩

theorem push_q (B b : Nat) (sv lv : Value) (scr l : List Int) (id : Int) (w : World) (h : Que B w b sv lv scr l) (hl : l.length ≤ 1000000) (hB : B ≤ w.heap.size) :
    Calls Try.prog 9 #[.pointer (some ⟨b, 0, none⟩), .int .i64 id] w fun e w' => e = .returned (.tuple #[]) ∧
      ∃ lv', Que B w' b sv lv' scr (l ++ [id]) ∧ Upd (QS b lv) w w' ∧ Fresh w lv lv' := by
  refine (push_walk B b lv l id w hl hB h.lt h.c1 h.f1 h.ol h.nb).mono ?_
  rintro e w' ⟨rfl, w1, g, cap, ho, hu, hg, rfl⟩
  have hgb : g ≠ b := by
    intro e
    rcases hg with h1 | h1
    · exact h.nb (e ▸ h1)
    · have := h.lt; omega
  have hs1 : ∀ k, sv.ownBlock = some k → ¬ lv.ownBlock = some k := fun k hk => h.sl k hk
  have hv1 := h.vs.upd hu hs1
  have hus := Upd.setCell (S := fun k => k = b) w1 ⟨b, 1, none⟩ (.slice (some ⟨g, 0, none⟩) (l.length + 1) cap) rfl
  refine ⟨rfl, .slice (some ⟨g, 0, none⟩) (l.length + 1) cap, ⟨?_, hv1.upd hus (fun k hk e => h.sb (e ▸ hk)), ?_, ?_, h.sb, ?_, h.top, fun k hk => Nat.lt_of_lt_of_le (h.sx k hk) (Nat.le_trans hu.size hus.size)⟩, ?_, ?_⟩
  · have := (hu.block b h.lt h.nb).trans h.hb
    simp only [World.setCell, Array.getElem?_modify, this]; simp
  · have := ownsRow_upd ho hus (fun k hk e => hgb (by simp [Value.ownBlock] at hk; omega))
    simpa using this
  · simpa [Value.ownBlock] using hgb
  · intro k hk hk2
    simp only [Value.ownBlock, Option.some.injEq] at hk2
    subst hk2
    rcases hg with h1 | h1
    · exact h.sl g hk h1
    · have hlt := h.sx g hk
      omega
  · refine Upd.trans (S := QS b lv) (hu.mono (fun k _ h => .inr h)) hus (fun k _ h => .inl h)
  · rcases hg with h1 | h1
    · exact .inl (by rw [h1]; rfl)
    · exact .inr fun k hk => by simp [Value.ownBlock] at hk; omega

end Go.Proofs.Ytoffodgjpeeenaa
