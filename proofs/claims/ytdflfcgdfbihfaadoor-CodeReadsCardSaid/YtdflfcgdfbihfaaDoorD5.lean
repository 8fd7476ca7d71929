import Derived.Test.YtdflfcgdfbihfaaDoorD4
import Derived.Test.YtdflfcgdfbihfaaDoorC7
namespace Go.Proofs.YtdflfcgdfbihfaaDoor
open Go.RowKit CodeText

theorem keep_cell {w : World} {a : Addr} {v : Value} (h : w.cell? a = some v) : ∀ o, (w.alloc o).cell? a = some v := fun o => (Upd.alloc (fun _ => False) w o).cell h (fun h => h)

theorem DIns.dest {w : World} {S : Nat → Prop} {vs : List Value} {x : Ins} (h : DIns w S vs x) : ∃ la lc, vs = [.int .i64 x.op, .int .i64 x.a, .int .i64 x.b, .int .i64 x.c, .int .i64 x.d, .slice la x.list.length lc] ∧ RowV DInt 1 w S (.slice la x.list.length lc) x.list := by
  obtain ⟨v, rfl, ⟨la, lc, rfl, h1⟩⟩ := h
  exact ⟨la, lc, rfl, ⟨la, lc, rfl, h1⟩⟩

theorem ix71_0 (a b c d e : Int) (w : World) : (Instr.index 71 (.agg #[.int .i64 a, .int .i64 b, .int .i64 c, .int .i64 d, .int .i64 e]) (.int .i64 0)).run Tryd.prog w = .ok (.int .i64 a) w := by
  simp [Instr.index, run_underlying Tryd.underlying71, asIntOf, go_sem]
theorem ix71_1 (a b c d e : Int) (w : World) : (Instr.index 71 (.agg #[.int .i64 a, .int .i64 b, .int .i64 c, .int .i64 d, .int .i64 e]) (.int .i64 1)).run Tryd.prog w = .ok (.int .i64 b) w := by
  simp [Instr.index, run_underlying Tryd.underlying71, asIntOf, go_sem]
theorem ix71_2 (a b c d e : Int) (w : World) : (Instr.index 71 (.agg #[.int .i64 a, .int .i64 b, .int .i64 c, .int .i64 d, .int .i64 e]) (.int .i64 2)).run Tryd.prog w = .ok (.int .i64 c) w := by
  simp [Instr.index, run_underlying Tryd.underlying71, asIntOf, go_sem]
theorem ix71_3 (a b c d e : Int) (w : World) : (Instr.index 71 (.agg #[.int .i64 a, .int .i64 b, .int .i64 c, .int .i64 d, .int .i64 e]) (.int .i64 3)).run Tryd.prog w = .ok (.int .i64 d) w := by
  simp [Instr.index, run_underlying Tryd.underlying71, asIntOf, go_sem]
theorem ix71_4 (a b c d e : Int) (w : World) : (Instr.index 71 (.agg #[.int .i64 a, .int .i64 b, .int .i64 c, .int .i64 d, .int .i64 e]) (.int .i64 4)).run Tryd.prog w = .ok (.int .i64 e) w := by
  simp [Instr.index, run_underlying Tryd.underlying71, asIntOf, go_sem]

theorem row_old {B Q : Nat} {w : World} {out : Bytes} (h : Wr B Q w out) (o : Obj) : ∀ v, (w.alloc o).heap[Q]? = some (.cells #[v] 63 (0, 0)) → v.ownBlock ≠ some w.heap.size := by
  intro v hv hh
  obtain ⟨v0, k1, k2, _, _⟩ := h.at_
  rw [Below.heap_alloc _ _ _ (Array.getElem?_eq_some_iff.1 k1).1, k1] at hv
  injection hv with hv
  injection hv with hv _ _
  have : v = v0 := by simpa using hv.symm
  subst this
  have := (k2.lt _ hh).2
  omega

/-- Five numbers, by their places. -/
def nth5 (x : Ins) : Nat → Int
  | 0 => x.op
  | 1 => x.a
  | 2 => x.b
  | 3 => x.c
  | _ => x.d
def pre5 (x : Ins) : Nat → Bytes
  | 0 => []
  | 1 => wnum x.op
  | 2 => wnum x.op ++ wnum x.a
  | 3 => wnum x.op ++ wnum x.a ++ wnum x.b
  | 4 => wnum x.op ++ wnum x.a ++ wnum x.b ++ wnum x.c
  | _ => wnum x.op ++ wnum x.a ++ wnum x.b ++ wnum x.c ++ wnum x.d

set_option maxRecDepth 100000 in
set_option maxHeartbeats 1600000 in
theorem wins_any (B Q C : Nat) (x : Ins) (la : Option Addr) (lc : Nat) (S : Nat → Prop) (out : Bytes) (w : World) (h : Wr B Q w out) (hl : x.list.length ≤ 900000) (hfew : out.length + (wins x).length ≤ 900000) (hQB : Q < B)
    (hV : VIns x) (hrow : RowV DInt 1 w S (.slice la x.list.length lc) x.list) (hS : ∀ k, S k → k ≠ Q ∧ k < B) (hC : w.cell? ⟨C, 0, none⟩ = some (.pointer (some ⟨Q, 0, none⟩))) (hCQ : C ≠ Q) (hCB : C < B) :
    Calls Tryd.prog 32 #[.agg #[.int .i64 x.op, .int .i64 x.a, .int .i64 x.b, .int .i64 x.c, .int .i64 x.d, .slice la x.list.length lc], .pointer (some ⟨C, 0, none⟩)] w fun e w' => e = .returned (.tuple #[]) ∧ Upd (QS B Q) w w' ∧ Wr B Q w' (out ++ wins x) := by
  obtain ⟨v1, v2, v3, v4, v5, v6⟩ := hV
  have hlo := h.lo
  have hw : (wins x).length = (wnum x.op).length + (wnum x.a).length + (wnum x.b).length + (wnum x.c).length + (wnum x.d).length + (weach wnum x.list).length := by
    simp only [wins, List.length_append]
  rw [hw] at hfew
  have HW := Lib.hid h
  have HROW := Lib.hid hrow
  have hne := World.new_ne w _ hC
  have hC2 := keep_cell hC
  have cN := Lib.hid (fun (n : Int) (hn : Fits n) (o : Bytes) (u : World) (hu : Wr B Q u o) (ho : o.length ≤ 900000) => wnum_any B Q n hn o u hu ho hQB)
  clear h hrow hw
  go_enter Tryd.func32, Tryd.ntmps32
  go_wp2_with fail
  have HB0 : Hid (Upd (QS B Q) w (w.alloc (.cells #[.int .i64 x.op, .int .i64 x.a, .int .i64 x.b, .int .i64 x.c, .int .i64 x.d, .slice la x.list.length lc] 54 (0, 0))) ∧ Wr B Q (w.alloc (.cells #[.int .i64 x.op, .int .i64 x.a, .int .i64 x.b, .int .i64 x.c, .int .i64 x.d, .slice la x.list.length lc] 54 (0, 0))) out ∧ (w.alloc (.cells #[.int .i64 x.op, .int .i64 x.a, .int .i64 x.b, .int .i64 x.c, .int .i64 x.d, .slice la x.list.length lc] 54 (0, 0))).heap[w.heap.size]? = some (.cells #[.int .i64 x.op, .int .i64 x.a, .int .i64 x.b, .int .i64 x.c, .int .i64 x.d, .slice la x.list.length lc] 54 (0, 0)) ∧ (∀ v, (w.alloc (.cells #[.int .i64 x.op, .int .i64 x.a, .int .i64 x.b, .int .i64 x.c, .int .i64 x.d, .slice la x.list.length lc] 54 (0, 0))).heap[Q]? = some (.cells #[v] 63 (0, 0)) → v.ownBlock ≠ some w.heap.size) ∧ (w.alloc (.cells #[.int .i64 x.op, .int .i64 x.a, .int .i64 x.b, .int .i64 x.c, .int .i64 x.d, .slice la x.list.length lc] 54 (0, 0))).cell? ⟨C, 0, none⟩ = some (.pointer (some ⟨Q, 0, none⟩))) :=
    ⟨Upd.alloc _ _ _, HW.out.upd (Upd.alloc (fun _ => False) w _) (fun h => h) (fun _ _ _ h => h), heap_alloc_new w _, row_old HW.out _, hC2 _⟩
  go_loopw [16] (fun i wr => ∃ j : Nat, i = .int .i64 j ∧ j ≤ 5 ∧ Upd (QS B Q) w wr ∧ Wr B Q wr (out ++ pre5 x j) ∧ wr.heap[w.heap.size]? = some (.cells #[.int .i64 x.op, .int .i64 x.a, .int .i64 x.b, .int .i64 x.c, .int .i64 x.d, .slice la x.list.length lc] 54 (0, 0)) ∧ (∀ v, wr.heap[Q]? = some (.cells #[v] 63 (0, 0)) → v.ownBlock ≠ some w.heap.size) ∧ wr.cell? ⟨C, 0, none⟩ = some (.pointer (some ⟨Q, 0, none⟩))) (fun i _ => 5 - (intOf i).toNat)
  case atStart => exact ⟨0, rfl, by omega, HB0.out.1, by simpa [pre5] using HB0.out.2.1, HB0.out.2.2.1, HB0.out.2.2.2.1, HB0.out.2.2.2.2⟩
  case round =>
    obtain ⟨j, rfl, hj, hup, hwr, hbx, hrb, hcc⟩ := hrel
    have HUP := Lib.hid hup
    have HWR := Lib.hid hwr
    have HBX := Lib.hid hbx
    have HRB := Lib.hid hrb
    have hup' := hup.size
    have hwl := World.block_lt_of_cell? _ _ hcc
    have hblt := (Array.getElem?_eq_some_iff.1 hbx).1
    have hnQ : w.heap.size ≠ Q := by omega
    clear hup hwr hbx hrb
    obtain rfl | rfl | rfl | rfl | rfl | rfl : j = 0 ∨ j = 1 ∨ j = 2 ∨ j = 3 ∨ j = 4 ∨ j = 5 := by omega
    · have ix := ix71_0
      have hc := cN.out x.op v1 (out ++ pre5 x 0) wr HWR.out (by rw [List.length_append]; simp only [pre5, List.length_append, List.length_nil]; omega)
      go_wp2_with (with_reducible refine hc.mono ?_; rintro e w2 ⟨rfl, hu, hw2, hkp⟩; have HE := Lib.hid hu; have HE2 := Lib.hid hw2; have HE3 := Lib.hid hkp; clear hu hw2 hkp)
      go_roundw
      case rel => exact ⟨1, rfl, by omega, HUP.out.trans HE.out (fun _ _ h => h), by have := HE2.out; rw [List.append_assoc] at this; exact this, (HE3.out w.heap.size hblt hnQ HRB.out).1.trans HBX.out, (HE3.out w.heap.size hblt hnQ HRB.out).2, HE.out.cell hcc (fun hq => by unfold QS at hq; simp only at hq; omega)⟩
      case measure => simp [intOf]
    · have ix := ix71_1
      have hc := cN.out x.a v2 (out ++ pre5 x 1) wr HWR.out (by rw [List.length_append]; simp only [pre5, List.length_append, List.length_nil]; omega)
      go_wp2_with (with_reducible refine hc.mono ?_; rintro e w2 ⟨rfl, hu, hw2, hkp⟩; have HE := Lib.hid hu; have HE2 := Lib.hid hw2; have HE3 := Lib.hid hkp; clear hu hw2 hkp)
      go_roundw
      case rel => exact ⟨2, rfl, by omega, HUP.out.trans HE.out (fun _ _ h => h), by have := HE2.out; rw [List.append_assoc] at this; exact this, (HE3.out w.heap.size hblt hnQ HRB.out).1.trans HBX.out, (HE3.out w.heap.size hblt hnQ HRB.out).2, HE.out.cell hcc (fun hq => by unfold QS at hq; simp only at hq; omega)⟩
      case measure => simp [intOf]
    · have ix := ix71_2
      have hc := cN.out x.b v3 (out ++ pre5 x 2) wr HWR.out (by rw [List.length_append]; simp only [pre5, List.length_append, List.length_nil]; omega)
      go_wp2_with (with_reducible refine hc.mono ?_; rintro e w2 ⟨rfl, hu, hw2, hkp⟩; have HE := Lib.hid hu; have HE2 := Lib.hid hw2; have HE3 := Lib.hid hkp; clear hu hw2 hkp)
      go_roundw
      case rel => exact ⟨3, rfl, by omega, HUP.out.trans HE.out (fun _ _ h => h), by have := HE2.out; rw [List.append_assoc] at this; exact this, (HE3.out w.heap.size hblt hnQ HRB.out).1.trans HBX.out, (HE3.out w.heap.size hblt hnQ HRB.out).2, HE.out.cell hcc (fun hq => by unfold QS at hq; simp only at hq; omega)⟩
      case measure => simp [intOf]
    · have ix := ix71_3
      have hc := cN.out x.c v4 (out ++ pre5 x 3) wr HWR.out (by rw [List.length_append]; simp only [pre5, List.length_append, List.length_nil]; omega)
      go_wp2_with (with_reducible refine hc.mono ?_; rintro e w2 ⟨rfl, hu, hw2, hkp⟩; have HE := Lib.hid hu; have HE2 := Lib.hid hw2; have HE3 := Lib.hid hkp; clear hu hw2 hkp)
      go_roundw
      case rel => exact ⟨4, rfl, by omega, HUP.out.trans HE.out (fun _ _ h => h), by have := HE2.out; rw [List.append_assoc] at this; exact this, (HE3.out w.heap.size hblt hnQ HRB.out).1.trans HBX.out, (HE3.out w.heap.size hblt hnQ HRB.out).2, HE.out.cell hcc (fun hq => by unfold QS at hq; simp only at hq; omega)⟩
      case measure => simp [intOf]
    · have ix := ix71_4
      have hc := cN.out x.d v5 (out ++ pre5 x 4) wr HWR.out (by rw [List.length_append]; simp only [pre5, List.length_append, List.length_nil]; omega)
      go_wp2_with (with_reducible refine hc.mono ?_; rintro e w2 ⟨rfl, hu, hw2, hkp⟩; have HE := Lib.hid hu; have HE2 := Lib.hid hw2; have HE3 := Lib.hid hkp; clear hu hw2 hkp)
      go_roundw
      case rel => exact ⟨5, rfl, by omega, HUP.out.trans HE.out (fun _ _ h => h), by have := HE2.out; rw [List.append_assoc] at this; exact this, (HE3.out w.heap.size hblt hnQ HRB.out).1.trans HBX.out, (HE3.out w.heap.size hblt hnQ HRB.out).2, HE.out.cell hcc (fun hq => by unfold QS at hq; simp only at hq; omega)⟩
      case measure => simp [intOf]
    · obtain ⟨q0, q1, q2, q3, q4, q5, f0, f1, f2, f3, f4, f5⟩ := six HBX.out
      have hE := each_int B Q x.list la lc S (out ++ pre5 x 5) wr HWR.out hl (by rw [List.length_append]; simp only [pre5, List.length_append]; omega) hQB v6.2 (HROW.out.upd stInt HUP.out (fun k hk _ hq => by have := hS k hk; unfold QS at hq; omega)) hS
      go_wp2_with (with_reducible refine hE.mono ?_; rintro e w2 ⟨rfl, hu, hw2⟩; have HE := Lib.hid hu; have HE2 := Lib.hid hw2; clear hu hw2)
      go_end0
      exact ⟨rfl, HUP.out.trans HE.out (fun _ _ h => h), by have := HE2.out; rw [List.append_assoc] at this; exact this⟩

end Go.Proofs.YtdflfcgdfbihfaaDoor
