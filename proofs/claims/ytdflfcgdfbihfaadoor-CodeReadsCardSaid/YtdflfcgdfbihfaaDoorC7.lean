import Derived.Test.YtdflfcgdfbihfaaDoorC6
import Derived.Deep.RegionHeld3
import Derived.Deep.DrawnRows
import Derived.Deep.CutRange
namespace Go.Proofs.YtdflfcgdfbihfaaDoor
open Go.RowKit CodeText

attribute [local go_sem ↓] Go.wp_at_zero Go.wp_at_succ

theorem Upd.drew (S : Nat → Prop) (w : World) : Upd S w w.drew := ⟨rfl, rfl, rfl, Nat.le_refl _, fun _ _ _ => rfl⟩

/-- A reader, and the variable of a closure that holds it. -/
structure RC (E : Addr) (R I C : Nat) (w : World) (s : St) : Prop where
  rd : Rd E R I w s
  cc : w.cell? ⟨C, 0, none⟩ = some (.pointer (some ⟨R, 0, none⟩))
  ne : C ≠ R

theorem RC.upd {E : Addr} {R I C : Nat} {w w' : World} {s t : St} (h : RC E R I C w s) (hu : Upd (RS R) w w') (hr : Rd E R I w' t) : RC E R I C w' t := ⟨hr, hu.cell h.cc h.ne, h.ne⟩
theorem RC.none {E : Addr} {R I C : Nat} {w w' : World} {s : St} {S : Nat → Prop} (h : RC E R I C w s) (hu : Upd S w w') (hS : ∀ k, S k → w.heap.size ≤ k) : RC E R I C w' s :=
  have h0 := World.block_lt_of_cell? _ _ h.rd.glob
  have h1 : C < w.heap.size := World.block_lt_of_cell? _ _ h.cc
  have h2 := h.rd.lt
  have h3 := h.rd.iL
  ⟨h.rd.upd hu (fun h => by have := hS _ h; omega) (fun h => by have := hS _ h; omega) (fun h => by have := hS _ h; simp at h0; omega), hu.cell h.cc (fun h => by have := hS _ h; simp only at this; omega), h.ne⟩

/-- In the midst of reading a struct: the result's own block as it was made. -/
structure P1 (E : Addr) (R I C : Nat) (w0 : World) (o1 : Obj) (w : World) (s : St) : Prop where
  rc : RC E R I C w s
  b1 : w.heap[w0.heap.size]? = some o1
  up : Upd (RS R) w0 w
  rL : R < w0.heap.size
  cL : C < w0.heap.size
  iL : I < w0.heap.size

/-- And the struct's block. -/
structure P2 (E : Addr) (R I C : Nat) (w0 : World) (o1 o2 : Obj) (B : Nat) (w : World) (s : St) : Prop where
  p1 : P1 E R I C w0 o1 w s
  b2 : w.heap[B]? = some o2
  ge : w0.heap.size < B

section
variable {E : Addr} {R I C B : Nat} {w0 w w' : World} {o1 o2 : Obj} {s t : St}
theorem P1.start (h : RC E R I C w0 s) (o1 : Obj) : P1 E R I C w0 o1 (w0.alloc o1) s :=
  ⟨h.none (Upd.alloc (fun _ => False) w0 o1) (fun _ h => h.elim), heap_alloc_new w0 o1, Upd.alloc _ _ _, h.rd.lt, World.block_lt_of_cell? _ _ h.cc, h.rd.iL⟩
theorem P1.drewR (h : P1 E R I C w0 o1 w s) : P1 E R I C w0 o1 w.drew s := ⟨h.rc.none (Upd.drew (fun _ => False) w) (fun _ h => h.elim), h.b1, h.up.trans (Upd.drew _ w) (fun _ _ h => h), h.rL, h.cL, h.iL⟩
theorem P2.drewR (h : P2 E R I C w0 o1 o2 B w s) : P2 E R I C w0 o1 o2 B w.drew s := ⟨h.p1.drewR, h.b2, h.ge⟩
theorem P1.lt (h : P1 E R I C w0 o1 w s) : w0.heap.size < w.heap.size := (Array.getElem?_eq_some_iff.1 h.b1).1
theorem P1.new (h : P1 E R I C w0 o1 w s) (o2 : Obj) : P2 E R I C w0 o1 o2 w.heap.size (w.alloc o2) s :=
  ⟨⟨h.rc.none (Upd.alloc (fun _ => False) w o2) (fun _ h => h.elim), by rw [Below.heap_alloc _ _ _ h.lt]; exact h.b1, h.up.trans (Upd.alloc _ _ _) (fun _ _ h => h), h.rL, h.cL, h.iL⟩, heap_alloc_new w o2, h.lt⟩
theorem P1.step (h : P1 E R I C w0 o1 w s) (hu : Upd (RS R) w w') (hr : Rd E R I w' t) : P1 E R I C w0 o1 w' t :=
  ⟨h.rc.upd hu hr, by rw [hu.block _ h.lt (fun e => by have := h.rL; unfold RS at e; omega)]; exact h.b1, h.up.trans hu (fun _ _ h => h), h.rL, h.cL, h.iL⟩
theorem P2.step (h : P2 E R I C w0 o1 o2 B w s) (hu : Upd (RS R) w w') (hr : Rd E R I w' t) : P2 E R I C w0 o1 o2 B w' t :=
  ⟨h.p1.step hu hr, by rw [hu.block _ (Array.getElem?_eq_some_iff.1 h.b2).1 (fun e => by have := h.p1.rL; have := h.ge; unfold RS at e; omega)]; exact h.b2, h.ge⟩
theorem P2.neC (h : P2 E R I C w0 o1 o2 B w s) : ¬ B = C ∧ ¬ C = B := by have := h.p1.cL; have := h.ge; omega
/-- The struct's block is written. -/
theorem P2.write (h : P2 E R I C w0 o1 o2 B w s) {o3 : Obj} (hb : w'.heap[B]? = some o3) (hu : Upd (fun k => k = B) w w') : P2 E R I C w0 o1 o3 B w' s :=
  have hg := h.ge
  have h0 := World.block_lt_of_cell? _ _ h.p1.rc.rd.glob
  have hs := h.p1.up.size
  ⟨⟨⟨h.p1.rc.rd.upd hu (fun e => by have := h.p1.rL; omega) (fun e => by have := h.p1.iL; omega) (fun e => by omega), hu.cell h.p1.rc.cc (fun e => h.neC.2 e), h.p1.rc.ne⟩, by rw [hu.block _ h.p1.lt (fun e => by omega)]; exact h.p1.b1, h.p1.up.trans hu (fun k hk e => by omega), h.p1.rL, h.p1.cL, h.p1.iL⟩, hb, hg⟩
end

theorem Upd.set {S : Nat → Prop} {a b : World} (h : Upd S a b) (p : Addr) (v : Value) (hp : S p.block) : Upd S a (b.setCell p v) := h.trans (Upd.setCell b p v hp) (fun _ _ h => h)

theorem P2.write6 {E : Addr} {R I C B : Nat} {w0 w : World} {o1 : Obj} {s : St} {a b c d e f : Value} {ty : TypeId} (h : P2 E R I C w0 o1 (.cells #[a, b, c, d, e, f] ty (0, 0)) B w s) (a' b' c' d' e' f' : Value) :
    P2 E R I C w0 o1 (.cells #[a', b', c', d', e', f'] ty (0, 0)) B ((((((w.setCell ⟨B, 0, .none⟩ a').setCell ⟨B, 1, .none⟩ b').setCell ⟨B, 2, .none⟩ c').setCell ⟨B, 3, .none⟩ d').setCell ⟨B, 4, .none⟩ e').setCell ⟨B, 5, .none⟩ f') s :=
  h.write (by simp [World.setCell, Array.getElem?_modify, h.b2]) ((((((Upd.setCell (S := fun k => k = B) w ⟨B, 0, .none⟩ a' rfl).set ⟨B, 1, .none⟩ b' rfl).set ⟨B, 2, .none⟩ c' rfl).set ⟨B, 3, .none⟩ d' rfl).set ⟨B, 4, .none⟩ e' rfl).set ⟨B, 5, .none⟩ f' rfl)

/-- At the end: the struct's block and the result's block are written. -/
theorem P2.fin {E : Addr} {R I C B : Nat} {w0 w w' : World} {o1 o2 : Obj} {s : St} (h : P2 E R I C w0 o1 o2 B w s) (hu : Upd (fun k => k = B ∨ k = w0.heap.size) w w') : Upd (RS R) w0 w' ∧ Rd E R I w' s := by
  have hg := h.ge
  have hR := h.p1.rL
  have hI := h.p1.iL
  have hs := h.p1.up.size
  exact ⟨h.p1.up.trans hu (fun k hk e => by omega), h.p1.rc.rd.upd hu (fun e => by omega) (fun e => by omega) (fun e => by omega)⟩

theorem num_p1 (E : Addr) (R I C : Nat) (w0 : World) (o1 : Obj) (s : St) (w : World) (h : P1 E R I C w0 o1 w s) :
    Calls Tryd.prog 17 #[.pointer (some ⟨R, 0, none⟩)] w fun e w' => e = .returned (.int .i64 (rnum s).1) ∧ P1 E R I C w0 o1 w' (rnum s).2 :=
  (num_any E R I s w h.rc.rd).mono (by rintro e w' ⟨h1, h2, h3⟩; exact ⟨h1, h.step h2 h3⟩)

theorem num_p2 (E : Addr) (R I C : Nat) (w0 : World) (o1 o2 : Obj) (B : Nat) (s : St) (w : World) (h : P2 E R I C w0 o1 o2 B w s) :
    Calls Tryd.prog 17 #[.pointer (some ⟨R, 0, none⟩)] w fun e w' => e = .returned (.int .i64 (rnum s).1) ∧ P2 E R I C w0 o1 o2 B w' (rnum s).2 :=
  (num_any E R I s w h.p1.rc.rd).mono (by rintro e w' ⟨h1, h2, h3⟩; exact ⟨h1, h.step h2 h3⟩)

theorem some_int_sl (E : Addr) (R I : Nat) (s : St) (w : World) (h : Rd E R I w s) :
    Calls Tryd.prog 20 #[.pointer (some ⟨R, 0, none⟩), .func (.func 17) #[.pointer (some ⟨R, 0, none⟩)] #[]] w fun e w' => ∃ la lc S, e = .returned (.slice la (rsome rnum s).1.length lc) ∧ RowV DInt 1 w' S (.slice la (rsome rnum s).1.length lc) (rsome rnum s).1 ∧ (∀ k, S k → w.heap.size ≤ k ∧ k < w'.heap.size) ∧ Upd (RS R) w w' ∧ Rd E R I w' (rsome rnum s).2 := by
  refine (some_int E R I s w h).mono ?_
  rintro e w' ⟨v, S, rfl, ⟨la, lc, rfl, h1⟩, h2⟩
  exact ⟨la, lc, S, rfl, ⟨la, lc, rfl, h1⟩, h2⟩

abbrev Z54 : Obj := .cells #[.int .i64 0, .int .i64 0, .int .i64 0, .int .i64 0, .int .i64 0, .slice none 0 0] 54 (0, 0)

theorem six {w : World} {B : Nat} {a b c d e f : Value} {ty : TypeId} (h : w.heap[B]? = some (.cells #[a, b, c, d, e, f] ty (0, 0))) :
    w.cell? ⟨B, 0, .none⟩ = some a ∧ w.cell? ⟨B, 1, .none⟩ = some b ∧ w.cell? ⟨B, 2, .none⟩ = some c ∧ w.cell? ⟨B, 3, .none⟩ = some d ∧ w.cell? ⟨B, 4, .none⟩ = some e ∧ w.cell? ⟨B, 5, .none⟩ = some f ∧
    w.frozen? ⟨B, 0, .none⟩ = false ∧ w.frozen? ⟨B, 1, .none⟩ = false ∧ w.frozen? ⟨B, 2, .none⟩ = false ∧ w.frozen? ⟨B, 3, .none⟩ = false ∧ w.frozen? ⟨B, 4, .none⟩ = false ∧ w.frozen? ⟨B, 5, .none⟩ = false := by
  simp [World.cell?, World.frozen?, h]

theorem size54 : (Tryd.prog.info? 54).map (·.size) = some 6 := by kernel_rfl

set_option maxRecDepth 100000 in
set_option maxHeartbeats 3200000 in
theorem ins_any (E : Addr) (R I C : Nat) (s : St) (w : World) (h : RC E R I C w s) :
    Calls Tryd.prog 19 #[.pointer (some ⟨C, 0, none⟩)] w fun e w' => ∃ la lc S, e = .returned (.agg #[.int .i64 (rins s).1.op, .int .i64 (rins s).1.a, .int .i64 (rins s).1.b, .int .i64 (rins s).1.c, .int .i64 (rins s).1.d, .slice la (rins s).1.list.length lc]) ∧
      RowV DInt 1 w' S (.slice la (rins s).1.list.length lc) (rins s).1.list ∧ (∀ k, S k → w.heap.size ≤ k ∧ k < w'.heap.size) ∧ Upd (RS R) w w' ∧ Rd E R I w' (rins s).2 := by
  have hk1 := P1.start h Z54
  have hC := h.cc
  have hne := World.new_ne w _ hC
  have c1 := Lib.hid (num_p1 E R I C w Z54)
  have c2 := Lib.hid (num_p2 E R I C w Z54 Z54)
  go_enter Tryd.func19, Tryd.ntmps19
  go_upto_region 1 with fail
  go_cut [2] from 3 to 13 (fun v2 wx => ∃ B, v2 = .pointer (some ⟨B, 0, none⟩) ∧ P2 E R I C w Z54 (.cells #[.int .i64 (rnum s).1, .int .i64 (rnum (rnum s).2).1, .int .i64 (rnum (rnum (rnum s).2).2).1, .int .i64 (rnum (rnum (rnum (rnum s).2).2).2).1, .int .i64 (rnum (rnum (rnum (rnum (rnum s).2).2).2).2).1, .slice none 0 0] 54 (0, 0)) B wx (rnum (rnum (rnum (rnum (rnum s).2).2).2).2).2)
  case first =>
    go_region_held3 (fun w' => w'.cell? ⟨C, 0, none⟩ = some (.pointer (some ⟨R, 0, none⟩))) (first | go_keep | (exact hk2.p1.rc.cc) | (exact hk1.rc.cc) | (exact (hk1.new _).p1.rc.cc) | (exact (hk1.new _).drewR.p1.rc.cc))
      ((go_at_call 17; first | (refine (c2.out _ _ _ hk2).mono ?_; rintro e w' ⟨rfl, hk2⟩; obtain ⟨q0, q1, q2, q3, q4, q5, f0, f1, f2, f3, f4, f5⟩ := six hk2.b2; have hnc := hk2.neC; (try simp only [World.size_alloc] at q0 q1 q2 q3 q4 q5 f0 f1 f2 f3 f4 f5 hnc hk2)) | (refine (c2.out _ _ _ (hk1.new _)).mono ?_; rintro e w' ⟨rfl, hk2⟩; obtain ⟨q0, q1, q2, q3, q4, q5, f0, f1, f2, f3, f4, f5⟩ := six hk2.b2; have hnc := hk2.neC; (try simp only [World.size_alloc] at q0 q1 q2 q3 q4 q5 f0 f1 f2 f3 f4 f5 hnc hk2)) | (refine (c2.out _ _ _ (hk1.new _).drewR).mono ?_; rintro e w' ⟨rfl, hk2⟩; obtain ⟨q0, q1, q2, q3, q4, q5, f0, f1, f2, f3, f4, f5⟩ := six hk2.b2; have hnc := hk2.neC; (try simp only [World.size_alloc] at q0 q1 q2 q3 q4 q5 f0 f1 f2 f3 f4 f5 hnc hk2)) | (refine (c1.out _ _ hk1).mono ?_; rintro e w' ⟨rfl, hk1⟩) | (refine (c1.out _ _ hk1.drewR).mono ?_; rintro e w' ⟨rfl, hk1⟩)))
    all_goals (go_wp2_with fail; go_meet)
    all_goals refine ⟨_, rfl, ?_⟩
    all_goals first | (with_reducible exact hk2.write6 _ _ _ _ _ _) | (with_reducible exact hk1.new _)
  case rest =>
    obtain ⟨B, rfl, hp⟩ := hcut
    have HP := Lib.hid hp
    have hcc := hp.p1.rc.cc
    have hgB := (Array.getElem?_eq_some_iff.1 hp.b2).1
    have hgA := hp.p1.lt
    have HGB := Lib.hid hgB
    have HGA := Lib.hid hgA
    obtain ⟨t5, ht⟩ : ∃ t, (rnum (rnum (rnum (rnum (rnum s).2).2).2).2).2 = t := ⟨_, rfl⟩
    have cS := some_int_sl E R I _ wc hp.p1.rc.rd
    rw [ht] at cS HP
    obtain ⟨⟨L, t6⟩, hx⟩ : ∃ x, rsome rnum t5 = x := ⟨_, rfl⟩
    rw [hx] at cS
    simp only at cS
    have HINS : Hid (rins s = (⟨(rnum s).1, (rnum (rnum s).2).1, (rnum (rnum (rnum s).2).2).1, (rnum (rnum (rnum (rnum s).2).2).2).1, (rnum (rnum (rnum (rnum (rnum s).2).2).2).2).1, L⟩, t6)) := by
      show rins s = _
      simp only [rins, ht, hx]
    obtain ⟨q0, q1, q2, q3, q4, q5, f0, f1, f2, f3, f4, f5⟩ := six hp.b2
    clear hp hx ht hgB hgA
    go_wp2_with (with_reducible refine cS.mono ?_; rintro e w2 ⟨la, lc, S, rfl, hrow, hfr, hu, hr⟩; have HROW := Lib.hid hrow; have HFR := Lib.hid hfr; have hp2 := HP.out.step hu hr; have HP2 := Lib.hid hp2; obtain ⟨q0, q1, q2, q3, q4, q5, f0, f1, f2, f3, f4, f5⟩ := six hp2.b2; obtain ⟨r0, r1, r2, r3, r4, r5, g0, g1, g2, g3, g4, g5⟩ := six hp2.p1.b1; have hne1 := hp2.ge; clear hrow hfr hu hr hp2)
    have hB1 := HP2.out.p1.b1
    have hgB := HP2.out.ge
    refine bodyPost_ret (results_cell_row rfl _ _ w.heap.size 54 #[.int .i64 (rnum s).1, .int .i64 (rnum (rnum s).2).1, .int .i64 (rnum (rnum (rnum s).2).2).1, .int .i64 (rnum (rnum (rnum (rnum s).2).2).2).1, .int .i64 (rnum (rnum (rnum (rnum (rnum s).2).2).2).2).1, .slice la L.length lc] (0, 0) _ rfl ?hb Tryd.underlying54 rfl size54) rfl ?_
    case hb =>
      have h1 : ¬ B = w.heap.size := by omega
      simp [World.setCell, Array.getElem?_modify, hB1, h1, Z54]
    have hU := (((((((Upd.refl (fun k => k = B ∨ k = w.heap.size) w2).set ⟨B, 5, .none⟩ (.slice la L.length lc) (.inl rfl)).set ⟨w.heap.size, 0, .none⟩ (.int .i64 (rnum s).1) (.inr rfl)).set ⟨w.heap.size, 1, .none⟩ (.int .i64 (rnum (rnum s).2).1) (.inr rfl)).set ⟨w.heap.size, 2, .none⟩ (.int .i64 (rnum (rnum (rnum s).2).2).1) (.inr rfl)).set ⟨w.heap.size, 3, .none⟩ (.int .i64 (rnum (rnum (rnum (rnum s).2).2).2).1) (.inr rfl)).set ⟨w.heap.size, 4, .none⟩ (.int .i64 (rnum (rnum (rnum (rnum (rnum s).2).2).2).2).1) (.inr rfl)).set ⟨w.heap.size, 5, .none⟩ (.slice la L.length lc) (.inr rfl)
    have hF := HP2.out.fin hU
    rw [HINS.out]
    have hA := HGA.out
    have hBB := HGB.out
    refine ⟨la, lc, S, rfl, HROW.out.upd stInt hU (fun k hk _ e => by have := (HFR.out k hk).1; omega), fun k hk => ?_, hF.1, hF.2⟩
    have := HFR.out k hk
    have h9 := hU.size
    exact ⟨by omega, by omega⟩

end Go.Proofs.YtdflfcgdfbihfaaDoor
