import Derived.Test.YtoffodgjpeeenaaW3
namespace Go.Proofs.Ytoffodgjpeeenaa
open Go.RowKit

def Taken (b : Nat) (l : List Int) (k : Nat) (x : Int) (w : World) (e : Ending) (w' : World) : Prop :=
  e = .returned (.int .i64 x) ∧ ∃ w1 g cap, w1.ownsRow w.heap.size 3 1 (.slice (some ⟨g, 0, none⟩) (l.eraseIdx k).length cap) (l.eraseIdx k).length ((l.eraseIdx k).map (.int .i64)) ∧
    Upd (fun _ => False) w w1 ∧ w.heap.size ≤ g ∧ w' = w1.setCell ⟨b, 1, none⟩ (.slice (some ⟨g, 0, none⟩) (l.eraseIdx k).length cap)

/-- What a clone and a cut of it come to. -/
def Cut (l : List Int) (k : Nat) (w : World) (v : Value) (w1 : World) : Prop :=
  w1.ownsRow w.heap.size 3 1 v l.length (l.map (.int .i64)) ∧ Below w.heap.size w w1 ∧
  Calls Try.prog 23 #[v, .int .i64 k, .int .i64 ((k : Int) + 1)] w1 fun e w2 => ∃ g cap, e = .returned (.slice (some ⟨g, 0, none⟩) (l.eraseIdx k).length cap) ∧
    Hid (w2.ownsRow w.heap.size 3 1 (.slice (some ⟨g, 0, none⟩) (l.eraseIdx k).length cap) (l.eraseIdx k).length ((l.eraseIdx k).map (.int .i64)) ∧ Upd (fun _ => False) w w2 ∧ w.heap.size ≤ g)

theorem cut_of (v : Value) (l : List Int) (k : Nat) (w : World) (h : View w v l) (hl : l.length ≤ 1000000) (hk : k < l.length) :
    Calls Try.prog 18 #[v] w fun e w1 => ∃ v1, e = .returned v1 ∧ Cut l k w v1 w1 := by
  refine (clone_view v l w h hl).mono ?_
  rintro e w1 ⟨v1, rfl, ho, hb⟩
  refine ⟨v1, rfl, ho, hb, (delete_own w.heap.size v1 l k w1 ho hk).mono ?_⟩
  rintro e w2 ⟨g, cap, hg, rfl, ho2, hu⟩
  have hgs : w.heap.size ≤ g := by
    rcases ho.2 with ⟨rfl, _⟩ | ⟨g', _, _, rfl, hb', _⟩
    · simp [Value.ownBlock] at hg
    · simp [Value.ownBlock] at hg; omega
  refine ⟨g, cap, rfl, ho2, ?_, hgs⟩
  refine ⟨hu.os.trans hb.os, hu.tape.trans hb.tape, hu.output.trans hb.output, Nat.le_trans hb.size hu.size, fun k hk _ => ?_⟩
  exact (hu.block k (Nat.lt_of_lt_of_le hk hb.size) (by omega)).trans (hb.block k hk)

set_option maxHeartbeats 800000 in
theorem take_walk (b g : Nat) (cap : Nat) (l : List Int) (k : Nat) (x : Int) (w : World) (hl : l.length ≤ 1000000) (hk : k < l.length) (hb : b < w.heap.size)
    (h : w.cell? ⟨b, 1, none⟩ = some (.slice (some ⟨g, 0, none⟩) l.length cap)) (hf : w.frozen? ⟨b, 1, none⟩ = false) (hx : w.cell? ⟨g, k, none⟩ = some (.int .i64 x))
    (hc : Calls Try.prog 18 #[.slice (some ⟨g, 0, none⟩) l.length cap] w fun e w1 => ∃ v1, e = .returned v1 ∧ Cut l k w v1 w1) :
    Calls Try.prog 19 #[.pointer (some ⟨b, 0, none⟩), .int .i64 k] w (Taken b l k x w) := by
  have HC := Lib.hid hc
  have HF := Lib.hid hf
  have H1 := Lib.hid h
  clear hc
  go_enter Try.func19, Try.ntmps19
  go_wp2_with fail
  refine HC.out.mono ?_
  rintro e w1 ⟨v1, rfl, ho, hbel, hcut⟩
  have HD := Lib.hid hcut
  have HB := Lib.hid hbel
  clear hcut hbel ho h hf hx
  go_wp2_with fail
  refine HD.out.mono ?_
  rintro e w2 ⟨g2, cap2, rfl, hh⟩
  have k1 : w2.cell? ⟨b, 1, none⟩ = _ := (World.cell?_of_block (a := ⟨b, 1, none⟩) (hh.out.2.1.block b hb (fun h => h))).trans H1.out
  have f1 : w2.frozen? ⟨b, 1, none⟩ = _ := (World.frozen?_of_block (a := ⟨b, 1, none⟩) (hh.out.2.1.block b hb (fun h => h))).trans HF.out
  go_wp2
  go_ret
  exact ⟨rfl, w2, g2, cap2, hh.out.1, hh.out.2.1, hh.out.2.2, rfl⟩

end Go.Proofs.Ytoffodgjpeeenaa
