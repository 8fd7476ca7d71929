import Derived.Test.YtdflfcgdfbihfaaDoorC8
namespace Go.Proofs.YtdflfcgdfbihfaaDoor
open Go.RowKit CodeText

attribute [local go_sem ↓] Go.wp_at_zero Go.wp_at_succ

theorem some_flag_sl (E : Addr) (R I : Nat) (s : St) (w : World) (h : Rd E R I w s) :
    Calls Tryd.prog 11 #[.pointer (some ⟨R, 0, none⟩), .func (.func 12) #[.pointer (some ⟨R, 0, none⟩)] #[]] w fun e w' => ∃ la lc S, e = .returned (.slice la (rsome rflag s).1.length lc) ∧ RowV DBool 1 w' S (.slice la (rsome rflag s).1.length lc) (rsome rflag s).1 ∧ (∀ k, S k → w.heap.size ≤ k ∧ k < w'.heap.size) ∧ Upd (RS R) w w' ∧ Rd E R I w' (rsome rflag s).2 := by
  refine (some_flag E R I s w h).mono ?_
  rintro e w' ⟨v, S, rfl, ⟨la, lc, rfl, h1⟩, h2⟩
  exact ⟨la, lc, S, rfl, ⟨la, lc, rfl, h1⟩, h2⟩

theorem some_text_sl (E : Addr) (R I : Nat) (s : St) (w : World) (h : Rd E R I w s) :
    Calls Tryd.prog 9 #[.pointer (some ⟨R, 0, none⟩), .func (.func 10) #[.pointer (some ⟨R, 0, none⟩)] #[]] w fun e w' => ∃ la lc S, e = .returned (.slice la (rsome rtext s).1.length lc) ∧ RowV DStr 1 w' S (.slice la (rsome rtext s).1.length lc) (rsome rtext s).1 ∧ (∀ k, S k → w.heap.size ≤ k ∧ k < w'.heap.size) ∧ Upd (RS R) w w' ∧ Rd E R I w' (rsome rtext s).2 := by
  refine (some_text E R I s w h).mono ?_
  rintro e w' ⟨v, S, rfl, ⟨la, lc, rfl, h1⟩, h2⟩
  exact ⟨la, lc, S, rfl, ⟨la, lc, rfl, h1⟩, h2⟩

theorem some_flags_sl (E : Addr) (R I : Nat) (s : St) (w : World) (h : Rd E R I w s) (C : Nat) (hC : w.cell? ⟨C, 0, none⟩ = some (.pointer (some ⟨R, 0, none⟩))) (hCR : C ≠ R) :
    Calls Tryd.prog 13 #[.pointer (some ⟨R, 0, none⟩), .func (.func 14) #[] #[.pointer (some ⟨C, 0, none⟩)]] w fun e w' => ∃ la lc S, e = .returned (.slice la (rsome (rsome rflag) s).1.length lc) ∧ RowV DFlags 1 w' S (.slice la (rsome (rsome rflag) s).1.length lc) (rsome (rsome rflag) s).1 ∧ (∀ k, S k → w.heap.size ≤ k ∧ k < w'.heap.size) ∧ Upd (RS R) w w' ∧ Rd E R I w' (rsome (rsome rflag) s).2 := by
  refine (some_flags E R I s w h C hC hCR).mono ?_
  rintro e w' ⟨v, S, rfl, ⟨la, lc, rfl, h1⟩, h2⟩
  exact ⟨la, lc, S, rfl, ⟨la, lc, rfl, h1⟩, h2⟩

theorem some_ins_sl (E : Addr) (R I : Nat) (s : St) (w : World) (h : Rd E R I w s) (C : Nat) (hC : w.cell? ⟨C, 0, none⟩ = some (.pointer (some ⟨R, 0, none⟩))) (hCR : C ≠ R) :
    Calls Tryd.prog 18 #[.pointer (some ⟨R, 0, none⟩), .func (.func 19) #[] #[.pointer (some ⟨C, 0, none⟩)]] w fun e w' => ∃ la lc S, e = .returned (.slice la (rsome rins s).1.length lc) ∧ RowV DIns 6 w' S (.slice la (rsome rins s).1.length lc) (rsome rins s).1 ∧ (∀ k, S k → w.heap.size ≤ k ∧ k < w'.heap.size) ∧ Upd (RS R) w w' ∧ Rd E R I w' (rsome rins s).2 := by
  refine (some_ins E R I s w h C hC hCR).mono ?_
  rintro e w' ⟨v, S, rfl, ⟨la, lc, rfl, h1⟩, h2⟩
  exact ⟨la, lc, S, rfl, ⟨la, lc, rfl, h1⟩, h2⟩

/-- A row of flags that was read on the way, apart from the blocks in which the struct lies. -/
structure Row1 (w0 w : World) (v : Value) (x : List Bool) (S : Nat → Prop) : Prop where
  row : RowV DBool 1 w S v x
  lo : ∀ k, S k → w0.heap.size < k
  hi : ∀ k, S k → k < w.heap.size

theorem Row1.upd {w0 w w' : World} {v : Value} {x : List Bool} {S T : Nat → Prop} (h : Row1 w0 w v x S) (hu : Upd T w w') (hT : ∀ k, S k → ¬ T k) : Row1 w0 w' v x S :=
  ⟨h.row.upd stBool hu (fun k hk _ => hT k hk), h.lo, fun k hk => Nat.lt_of_lt_of_le (h.hi k hk) hu.size⟩

structure X1 (E : Addr) (R I C : Nat) (w0 : World) (o1 : Obj) (v : Value) (x : List Bool) (S : Nat → Prop) (w : World) (s : St) : Prop where
  p : P1 E R I C w0 o1 w s
  r : Row1 w0 w v x S

structure X2 (E : Addr) (R I C : Nat) (w0 : World) (o1 o2 : Obj) (v : Value) (x : List Bool) (S : Nat → Prop) (B : Nat) (w : World) (s : St) : Prop where
  p : P2 E R I C w0 o1 o2 B w s
  r : Row1 w0 w v x S
  ne : ∀ k, S k → k ≠ B

section
variable {E : Addr} {R I C B : Nat} {w0 w w' : World} {o1 o2 : Obj} {v : Value} {x : List Bool} {S : Nat → Prop} {s t : St}
theorem X1.new (h : X1 E R I C w0 o1 v x S w s) (o2 : Obj) : X2 E R I C w0 o1 o2 v x S w.heap.size (w.alloc o2) s :=
  ⟨h.p.new o2, h.r.upd (Upd.alloc (fun _ => False) w o2) (fun _ _ h => h), fun k hk => by have := h.r.hi k hk; omega⟩
theorem X1.step (h : X1 E R I C w0 o1 v x S w s) (hu : Upd (RS R) w w') (hr : Rd E R I w' t) : X1 E R I C w0 o1 v x S w' t :=
  ⟨h.p.step hu hr, h.r.upd hu (fun k hk e => by have := h.r.lo k hk; have := h.p.rL; unfold RS at e; omega)⟩
theorem X2.step (h : X2 E R I C w0 o1 o2 v x S B w s) (hu : Upd (RS R) w w') (hr : Rd E R I w' t) : X2 E R I C w0 o1 o2 v x S B w' t :=
  ⟨h.p.step hu hr, h.r.upd hu (fun k hk e => by have := h.r.lo k hk; have := h.p.p1.rL; unfold RS at e; omega), h.ne⟩
theorem X2.write (h : X2 E R I C w0 o1 o2 v x S B w s) {o3 : Obj} (hb : w'.heap[B]? = some o3) (hu : Upd (fun k => k = B) w w') : X2 E R I C w0 o1 o3 v x S B w' s :=
  ⟨h.p.write hb hu, h.r.upd hu (fun k hk e => h.ne k hk e), h.ne⟩
theorem X2.write6 {a b c d e f : Value} {ty : TypeId} (h : X2 E R I C w0 o1 (.cells #[a, b, c, d, e, f] ty (0, 0)) v x S B w s) (a' b' c' d' e' f' : Value) :
    X2 E R I C w0 o1 (.cells #[a', b', c', d', e', f'] ty (0, 0)) v x S B ((((((w.setCell ⟨B, 0, .none⟩ a').setCell ⟨B, 1, .none⟩ b').setCell ⟨B, 2, .none⟩ c').setCell ⟨B, 3, .none⟩ d').setCell ⟨B, 4, .none⟩ e').setCell ⟨B, 5, .none⟩ f') s :=
  h.write (by simp [World.setCell, Array.getElem?_modify, h.p.b2]) ((((((Upd.setCell (S := fun k => k = B) w ⟨B, 0, .none⟩ a' rfl).set ⟨B, 1, .none⟩ b' rfl).set ⟨B, 2, .none⟩ c' rfl).set ⟨B, 3, .none⟩ d' rfl).set ⟨B, 4, .none⟩ e' rfl).set ⟨B, 5, .none⟩ f' rfl)
end

theorem text_p1 (E : Addr) (R I C : Nat) (w0 : World) (o1 : Obj) (s : St) (w : World) (h : P1 E R I C w0 o1 w s) :
    Calls Tryd.prog 10 #[.pointer (some ⟨R, 0, none⟩)] w fun e w' => e = .returned (.string ⟨(rtext s).1.toArray⟩) ∧ P1 E R I C w0 o1 w' (rtext s).2 :=
  (text_any E R I s w h.rc.rd).mono (by rintro e w' ⟨h1, h2, h3⟩; exact ⟨h1, h.step h2 h3⟩)
theorem text_p2 (E : Addr) (R I C : Nat) (w0 : World) (o1 o2 : Obj) (B : Nat) (s : St) (w : World) (h : P2 E R I C w0 o1 o2 B w s) :
    Calls Tryd.prog 10 #[.pointer (some ⟨R, 0, none⟩)] w fun e w' => e = .returned (.string ⟨(rtext s).1.toArray⟩) ∧ P2 E R I C w0 o1 o2 B w' (rtext s).2 :=
  (text_any E R I s w h.p1.rc.rd).mono (by rintro e w' ⟨h1, h2, h3⟩; exact ⟨h1, h.step h2 h3⟩)
theorem num_x1 (E : Addr) (R I C : Nat) (w0 : World) (o1 : Obj) (v : Value) (x : List Bool) (S : Nat → Prop) (s : St) (w : World) (h : X1 E R I C w0 o1 v x S w s) :
    Calls Tryd.prog 17 #[.pointer (some ⟨R, 0, none⟩)] w fun e w' => e = .returned (.int .i64 (rnum s).1) ∧ X1 E R I C w0 o1 v x S w' (rnum s).2 :=
  (num_any E R I s w h.p.rc.rd).mono (by rintro e w' ⟨h1, h2, h3⟩; exact ⟨h1, h.step h2 h3⟩)
theorem num_x2 (E : Addr) (R I C : Nat) (w0 : World) (o1 o2 : Obj) (v : Value) (x : List Bool) (S : Nat → Prop) (B : Nat) (s : St) (w : World) (h : X2 E R I C w0 o1 o2 v x S B w s) :
    Calls Tryd.prog 17 #[.pointer (some ⟨R, 0, none⟩)] w fun e w' => e = .returned (.int .i64 (rnum s).1) ∧ X2 E R I C w0 o1 o2 v x S B w' (rnum s).2 :=
  (num_any E R I s w h.p.p1.rc.rd).mono (by rintro e w' ⟨h1, h2, h3⟩; exact ⟨h1, h.step h2 h3⟩)
theorem flag_p1 (E : Addr) (R I C : Nat) (w0 : World) (o1 : Obj) (s : St) (w : World) (h : P1 E R I C w0 o1 w s) :
    Calls Tryd.prog 11 #[.pointer (some ⟨R, 0, none⟩), .func (.func 12) #[.pointer (some ⟨R, 0, none⟩)] #[]] w fun e w' => ∃ la lc S, e = .returned (.slice la (rsome rflag s).1.length lc) ∧ X1 E R I C w0 o1 (.slice la (rsome rflag s).1.length lc) (rsome rflag s).1 S w' (rsome rflag s).2 :=
  (some_flag_sl E R I s w h.rc.rd).mono (by
    rintro e w' ⟨la, lc, S, rfl, h1, h2, h3, h4⟩
    exact ⟨la, lc, S, rfl, h.step h3 h4, h1, fun k hk => by have := h2 k hk; have := h.lt; omega, fun k hk => (h2 k hk).2⟩)
theorem flag_p2 (E : Addr) (R I C : Nat) (w0 : World) (o1 o2 : Obj) (B : Nat) (s : St) (w : World) (h : P2 E R I C w0 o1 o2 B w s) :
    Calls Tryd.prog 11 #[.pointer (some ⟨R, 0, none⟩), .func (.func 12) #[.pointer (some ⟨R, 0, none⟩)] #[]] w fun e w' => ∃ la lc S, e = .returned (.slice la (rsome rflag s).1.length lc) ∧ X2 E R I C w0 o1 o2 (.slice la (rsome rflag s).1.length lc) (rsome rflag s).1 S B w' (rsome rflag s).2 :=
  (some_flag_sl E R I s w h.p1.rc.rd).mono (by
    rintro e w' ⟨la, lc, S, rfl, h1, h2, h3, h4⟩
    have hB := (Array.getElem?_eq_some_iff.1 h.b2).1
    exact ⟨la, lc, S, rfl, h.step h3 h4, ⟨h1, fun k hk => by have := h2 k hk; have := h.p1.lt; omega, fun k hk => (h2 k hk).2⟩, fun k hk => by have := h2 k hk; omega⟩)

abbrev Z35 : Obj := .cells #[.string ⟨#[]⟩, .slice none 0 0, .int .i64 0, .int .i64 0, .bool false, .slice none 0 0] 35 (0, 0)
theorem size35 : (Tryd.prog.info? 35).map (·.size) = some 6 := by kernel_rfl
def flagOf : List Bool → Bool
  | [x] => x
  | _ => false
theorem size_setCell (w : World) (a : Addr) (v : Value) : (w.setCell a v).heap.size = w.heap.size := by simp [World.setCell]
theorem bool_cell {w : World} {g : Nat} {x : Bool} {vs : List Value} {S : Nat → Prop} {i : Nat} {h : i < [x].length} (hc : ∀ j u, vs[j]? = some u → w.cell? ⟨g, 0 * 1 + j, none⟩ = some u) (hd : DBool w S vs [x][i]) : w.cell? ⟨g, 0, none⟩ = some (.bool x) := by
  have hx : [x][i] = x := by have : i = 0 := by simpa using h
                             subst this; rfl
  rw [hx] at hd
  unfold DBool at hd
  subst hd
  exact hc 0 _ rfl
theorem row_one {w : World} {S : Nat → Prop} {a : Option Addr} {n c : Nat} {x : Bool} (h : RowV DBool 1 w S (.slice a n c) [x]) : ∃ g, a = some ⟨g, 0, none⟩ ∧ w.cell? ⟨g, 0, none⟩ = some (.bool x) := by
  obtain ⟨a3, c3, hv3, hne3⟩ := h
  obtain ⟨g, hSg, hgl, ha3, hcell⟩ := hne3 (by simp)
  injection hv3 with hv3 _ _
  rw [ha3] at hv3
  obtain ⟨vs, hvl, hvc, hvd⟩ := hcell 0 (by simp)
  exact ⟨g, hv3, bool_cell hvc hvd⟩
theorem six4 {w : World} {B : Nat} {a b c d e f : Value} {ty : TypeId} (h : w.heap[B]? = some (.cells #[a, b, c, d, e, f] ty (0, 0))) : w.frozen? ⟨B, 4, .none⟩ = false ∧ w.cell? ⟨B, 4, .none⟩ = some e := by
  simp [World.cell?, World.frozen?, h]

set_option maxRecDepth 100000 in
set_option maxHeartbeats 6400000 in
theorem fn_any (E : Addr) (R I C : Nat) (s : St) (w : World) (h : RC E R I C w s) :
    Calls Tryd.prog 16 #[.pointer (some ⟨C, 0, none⟩)] w fun e w' => ∃ ra rc ka kc S, e = .returned (.agg #[.string ⟨(rfn s).1.name.toArray⟩, .slice ra (rfn s).1.refs.length rc, .int .i64 (rfn s).1.params, .int .i64 (rfn s).1.captures, .bool (rfn s).1.result, .slice ka (rfn s).1.code.length kc]) ∧
      RowV DBool 1 w' S (.slice ra (rfn s).1.refs.length rc) (rfn s).1.refs ∧ RowV DIns 6 w' S (.slice ka (rfn s).1.code.length kc) (rfn s).1.code ∧ (∀ k, S k → w.heap.size ≤ k ∧ k < w'.heap.size) ∧ Upd (RS R) w w' ∧ Rd E R I w' (rfn s).2 := by
  have hk1 := P1.start h Z35
  have hC := h.cc
  have hne := World.new_ne w _ hC
  have t1 := Lib.hid (text_p1 E R I C w Z35)
  have t2 := Lib.hid (text_p2 E R I C w Z35 Z35)
  have g1 := Lib.hid (flag_p1 E R I C w Z35)
  have g2 := Lib.hid (flag_p2 E R I C w Z35 Z35)
  have n1 := Lib.hid (num_x1 E R I C w Z35)
  have n2 := Lib.hid (num_x2 E R I C w Z35 Z35)
  go_enter Tryd.func16, Tryd.ntmps16
  go_upto_region 1 with fail
  go_cut [2] from 4 to 14 (fun v2 wx => ∃ B la lc S, v2 = .pointer (some ⟨B, 0, none⟩) ∧ X2 E R I C w Z35 (.cells #[.string ⟨(rtext s).1.toArray⟩, .slice la (rsome rflag (rtext s).2).1.length lc, .int .i64 (rnum (rsome rflag (rtext s).2).2).1, .int .i64 (rnum (rnum (rsome rflag (rtext s).2).2).2).1, .bool false, .slice none 0 0] 35 (0, 0)) (.slice la (rsome rflag (rtext s).2).1.length lc) (rsome rflag (rtext s).2).1 S B wx (rnum (rnum (rsome rflag (rtext s).2).2).2).2)
  case first =>
    go_region_held3 (fun w' => w'.cell? ⟨C, 0, none⟩ = some (.pointer (some ⟨R, 0, none⟩))) (first | go_keep | (exact hx2.p.p1.rc.cc) | (exact hx1.p.rc.cc) | (exact (hx1.new _).p.p1.rc.cc) | (exact hk2.p1.rc.cc) | (exact hk1.rc.cc) | (exact (hk1.new _).p1.rc.cc) | (exact (hk1.new _).drewR.p1.rc.cc))
      ((first | (go_at_call 10; first | (refine (t2.out _ _ _ hk2).mono ?_; rintro e w' ⟨rfl, hk2⟩; obtain ⟨q0, q1, q2, q3, q4, q5, f0, f1, f2, f3, f4, f5⟩ := six hk2.b2; have hnc := hk2.neC; (try simp only [World.size_alloc] at q0 q1 q2 q3 q4 q5 f0 f1 f2 f3 f4 f5 hnc hk2)) | (refine (t2.out _ _ _ (hk1.new _)).mono ?_; rintro e w' ⟨rfl, hk2⟩; obtain ⟨q0, q1, q2, q3, q4, q5, f0, f1, f2, f3, f4, f5⟩ := six hk2.b2; have hnc := hk2.neC; (try simp only [World.size_alloc] at q0 q1 q2 q3 q4 q5 f0 f1 f2 f3 f4 f5 hnc hk2)) | (refine (t2.out _ _ _ (hk1.new _).drewR).mono ?_; rintro e w' ⟨rfl, hk2⟩; obtain ⟨q0, q1, q2, q3, q4, q5, f0, f1, f2, f3, f4, f5⟩ := six hk2.b2; have hnc := hk2.neC; (try simp only [World.size_alloc] at q0 q1 q2 q3 q4 q5 f0 f1 f2 f3 f4 f5 hnc hk2)) | (refine (t1.out _ _ hk1).mono ?_; rintro e w' ⟨rfl, hk1⟩) | (refine (t1.out _ _ hk1.drewR).mono ?_; rintro e w' ⟨rfl, hk1⟩)) | (go_at_call 11; first | (refine (g2.out _ _ _ hk2).mono ?_; rintro e w' ⟨la, lc, S, rfl, hx2⟩; obtain ⟨q0, q1, q2, q3, q4, q5, f0, f1, f2, f3, f4, f5⟩ := six hx2.p.b2; have hnc := hx2.p.neC; (try simp only [World.size_alloc] at q0 q1 q2 q3 q4 q5 f0 f1 f2 f3 f4 f5 hnc hx2)) | (refine (g2.out _ _ _ (hk1.new _)).mono ?_; rintro e w' ⟨la, lc, S, rfl, hx2⟩; obtain ⟨q0, q1, q2, q3, q4, q5, f0, f1, f2, f3, f4, f5⟩ := six hx2.p.b2; have hnc := hx2.p.neC; (try simp only [World.size_alloc] at q0 q1 q2 q3 q4 q5 f0 f1 f2 f3 f4 f5 hnc hx2)) | (refine (g1.out _ _ hk1).mono ?_; rintro e w' ⟨la, lc, S, rfl, hx1⟩)) | (go_at_call 17; first | (refine (n2.out _ _ _ _ _ _ hx2).mono ?_; rintro e w' ⟨rfl, hx2⟩; obtain ⟨q0, q1, q2, q3, q4, q5, f0, f1, f2, f3, f4, f5⟩ := six hx2.p.b2; have hnc := hx2.p.neC; (try simp only [World.size_alloc] at q0 q1 q2 q3 q4 q5 f0 f1 f2 f3 f4 f5 hnc hx2)) | (refine (n2.out _ _ _ _ _ _ (hx1.new _)).mono ?_; rintro e w' ⟨rfl, hx2⟩; obtain ⟨q0, q1, q2, q3, q4, q5, f0, f1, f2, f3, f4, f5⟩ := six hx2.p.b2; have hnc := hx2.p.neC; (try simp only [World.size_alloc] at q0 q1 q2 q3 q4 q5 f0 f1 f2 f3 f4 f5 hnc hx2)) | (refine (n1.out _ _ _ _ _ hx1).mono ?_; rintro e w' ⟨rfl, hx1⟩))))
    all_goals (go_wp2_with fail; go_meet)
    all_goals first | (with_reducible exact ⟨_, _, _, _, rfl, hx2.write6 _ _ _ _ _ _⟩) | (with_reducible exact ⟨_, _, _, _, rfl, hx1.new _⟩)
  case rest =>
    obtain ⟨B, la, lc, S, rfl, hx⟩ := hcut
    obtain ⟨⟨nm, t1⟩, e1⟩ : ∃ x, rtext s = x := ⟨_, rfl⟩
    rw [e1] at hx
    obtain ⟨⟨rf, t2⟩, e2⟩ : ∃ x, rsome rflag t1 = x := ⟨_, rfl⟩
    rw [e2] at hx
    obtain ⟨⟨pm, t3⟩, e3⟩ : ∃ x, rnum t2 = x := ⟨_, rfl⟩
    rw [e3] at hx
    obtain ⟨⟨cp, t4⟩, e4⟩ : ∃ x, rnum t3 = x := ⟨_, rfl⟩
    rw [e4] at hx
    simp only at hx
    obtain ⟨⟨l, t5⟩, e5⟩ : ∃ x, rsome rflag t4 = x := ⟨_, rfl⟩
    obtain ⟨⟨k, t6⟩, e6⟩ : ∃ x, rsome rins t5 = x := ⟨_, rfl⟩
    have HFN : Hid (rfn s = (⟨nm, rf, pm, cp, flagOf l, k⟩, t6)) := by
      show rfn s = _
      simp only [rfn, e1, e2, e3, e4, e5, e6]
      first | done | rfl
    have cS := some_flag_sl E R I t4 wc hx.p.p1.rc.rd
    rw [e5] at cS
    simp only at cS
    have HX := Lib.hid hx
    have hcc := hx.p.p1.rc.cc
    have hCR := h.ne
    have hgB := Lib.hid (Array.getElem?_eq_some_iff.1 hx.p.b2).1
    clear hx e1 e2 e3 e4 e5
    rcases l with _ | ⟨x, _ | ⟨y, l⟩⟩
    · skip
      skip
      go_wp2_with (with_reducible refine cS.mono ?_; rintro e w2 ⟨l2, c2, S2, rfl, hrow, hfr, hu, hr⟩; have HX2 := Lib.hid (HX.out.step hu hr); have hcc2 := HX2.out.p.p1.rc.cc; skip; clear hrow hfr hu hr)
      have hX3 : X2 E R I C w Z35 (.cells #[.string ⟨nm.toArray⟩, .slice la rf.length lc, .int .i64 pm, .int .i64 cp, .bool false, .slice none 0 0] 35 (0, 0)) (.slice la rf.length lc) rf S B w2 t5 := HX2.out
      have cI := some_ins_sl E R I t5 (w2) hX3.p.p1.rc.rd C hX3.p.p1.rc.cc hCR
      rw [e6] at cI
      simp only at cI
      have HX3 := Lib.hid hX3
      have hB3 := (Array.getElem?_eq_some_iff.1 hX3.p.b2).1
      have hA3 := hX3.p.p1.lt
      clear hX3
      with_reducible refine cI.mono ?_
      rintro e w3 ⟨ka, kc, S3, rfl, hrow3, hfr3, hu3, hr3⟩
      have HROW := Lib.hid hrow3
      have HFR := Lib.hid hfr3
      have HX4 := Lib.hid (HX3.out.step hu3 hr3)
      obtain ⟨q0, q1, q2, q3, q4, q5, f0, f1, f2, f3, f4, f5⟩ := six HX4.out.p.b2
      obtain ⟨r0, r1, r2, r3, r4, r5, g0, g1, g2, g3, g4, g5⟩ := six HX4.out.p.p1.b1
      have hne1 := HX4.out.p.ge
      clear hrow3 hfr3 hu3 hr3
      go_wp2_with fail
      have hB1 := HX4.out.p.p1.b1
      have hgB := HX4.out.p.ge
      refine bodyPost_ret (results_cell_row rfl _ _ w.heap.size 35 #[.string ⟨nm.toArray⟩, .slice la rf.length lc, .int .i64 pm, .int .i64 cp, .bool false, .slice ka k.length kc] (0, 0) _ rfl ?hb Tryd.underlying35 rfl size35) rfl ?_
      case hb =>
        have h1 : ¬ B = w.heap.size := by omega
        simp [World.setCell, Array.getElem?_modify, hB1, h1, Z35]
      have hU := (((((((Upd.refl (fun k => k = B ∨ k = w.heap.size) w3).set ⟨B, 5, .none⟩ (.slice ka k.length kc) (.inl rfl)).set ⟨w.heap.size, 0, .none⟩ (.string ⟨nm.toArray⟩) (.inr rfl)).set ⟨w.heap.size, 1, .none⟩ (.slice la rf.length lc) (.inr rfl)).set ⟨w.heap.size, 2, .none⟩ (.int .i64 pm) (.inr rfl)).set ⟨w.heap.size, 3, .none⟩ (.int .i64 cp) (.inr rfl)).set ⟨w.heap.size, 4, .none⟩ (.bool false) (.inr rfl)).set ⟨w.heap.size, 5, .none⟩ (.slice ka k.length kc) (.inr rfl)
      have hF := HX4.out.p.fin hU
      rw [HFN.out]
      have hR4 := HX4.out.r
      refine ⟨la, lc, ka, kc, fun k => S k ∨ S3 k, rfl, (hR4.row.upd stBool hU (fun k hk _ e => ?_)).widen wdBool (fun k hk => .inl hk), (HROW.out.upd stIns hU (fun k hk _ e => ?_)).widen wdIns (fun k hk => .inr hk), fun k hk => ?_, hF.1, hF.2⟩
      · have h1 := hR4.lo k hk
        have h2 := HX4.out.ne k hk
        omega
      · have h1 := (HFR.out k hk).1
        skip
        omega
      · have h9 := hU.size
        rcases hk with hk | hk
        · have h1 := hR4.lo k hk
          have h2 := hR4.hi k hk
          exact ⟨by omega, by omega⟩
        · have h1 := HFR.out k hk
          skip
          exact ⟨by omega, by omega⟩
    · have hlen : (1 : Int) = 1 := rfl
      skip
      go_wp2_with (with_reducible refine cS.mono ?_; rintro e w2 ⟨l2, c2, S2, rfl, hrow, hfr, hu, hr⟩; have HX2 := Lib.hid (HX.out.step hu hr); have hcc2 := HX2.out.p.p1.rc.cc; obtain ⟨g, ha3, hcx⟩ := row_one hrow; subst ha3; obtain ⟨f4, q4⟩ := six4 HX2.out.p.b2; clear hfr hu hr)
      have hX3 : X2 E R I C w Z35 (.cells #[.string ⟨nm.toArray⟩, .slice la rf.length lc, .int .i64 pm, .int .i64 cp, .bool x, .slice none 0 0] 35 (0, 0)) (.slice la rf.length lc) rf S B (w2.setCell ⟨B, 4, none⟩ (.bool x)) t5 :=
        HX2.out.write (by simp [World.setCell, Array.getElem?_modify, HX2.out.p.b2]) (Upd.setCell _ _ _ rfl)
      have cI := some_ins_sl E R I t5 (w2.setCell ⟨B, 4, none⟩ (.bool x)) hX3.p.p1.rc.rd C hX3.p.p1.rc.cc hCR
      rw [e6] at cI
      simp only at cI
      have HX3 := Lib.hid hX3
      have hB3 := (Array.getElem?_eq_some_iff.1 hX3.p.b2).1
      have hA3 := hX3.p.p1.lt
      clear hX3
      with_reducible refine cI.mono ?_
      rintro e w3 ⟨ka, kc, S3, rfl, hrow3, hfr3, hu3, hr3⟩
      have HROW := Lib.hid hrow3
      have HFR := Lib.hid hfr3
      have HX4 := Lib.hid (HX3.out.step hu3 hr3)
      obtain ⟨q0, q1, q2, q3, q4, q5, f0, f1, f2, f3, f4, f5⟩ := six HX4.out.p.b2
      obtain ⟨r0, r1, r2, r3, r4, r5, g0, g1, g2, g3, g4, g5⟩ := six HX4.out.p.p1.b1
      have hne1 := HX4.out.p.ge
      clear hrow3 hfr3 hu3 hr3
      go_wp2_with fail
      have hB1 := HX4.out.p.p1.b1
      have hgB := HX4.out.p.ge
      refine bodyPost_ret (results_cell_row rfl _ _ w.heap.size 35 #[.string ⟨nm.toArray⟩, .slice la rf.length lc, .int .i64 pm, .int .i64 cp, .bool x, .slice ka k.length kc] (0, 0) _ rfl ?hb Tryd.underlying35 rfl size35) rfl ?_
      case hb =>
        have h1 : ¬ B = w.heap.size := by omega
        simp [World.setCell, Array.getElem?_modify, hB1, h1, Z35]
      have hU := (((((((Upd.refl (fun k => k = B ∨ k = w.heap.size) w3).set ⟨B, 5, .none⟩ (.slice ka k.length kc) (.inl rfl)).set ⟨w.heap.size, 0, .none⟩ (.string ⟨nm.toArray⟩) (.inr rfl)).set ⟨w.heap.size, 1, .none⟩ (.slice la rf.length lc) (.inr rfl)).set ⟨w.heap.size, 2, .none⟩ (.int .i64 pm) (.inr rfl)).set ⟨w.heap.size, 3, .none⟩ (.int .i64 cp) (.inr rfl)).set ⟨w.heap.size, 4, .none⟩ (.bool x) (.inr rfl)).set ⟨w.heap.size, 5, .none⟩ (.slice ka k.length kc) (.inr rfl)
      have hF := HX4.out.p.fin hU
      rw [HFN.out]
      have hR4 := HX4.out.r
      refine ⟨la, lc, ka, kc, fun k => S k ∨ S3 k, rfl, (hR4.row.upd stBool hU (fun k hk _ e => ?_)).widen wdBool (fun k hk => .inl hk), (HROW.out.upd stIns hU (fun k hk _ e => ?_)).widen wdIns (fun k hk => .inr hk), fun k hk => ?_, hF.1, hF.2⟩
      · have h1 := hR4.lo k hk
        have h2 := HX4.out.ne k hk
        omega
      · have h1 := (HFR.out k hk).1
        simp only [size_setCell] at h1 hB3 hA3
        omega
      · have h9 := hU.size
        rcases hk with hk | hk
        · have h1 := hR4.lo k hk
          have h2 := hR4.hi k hk
          exact ⟨by omega, by omega⟩
        · have h1 := HFR.out k hk
          simp only [size_setCell] at h1 hB3 hA3
          exact ⟨by omega, by omega⟩
    · skip
      have hll : ¬ (((l.length + 1 + 1 : Nat) : Int) = 1) := by omega
      go_wp2_with (with_reducible refine cS.mono ?_; rintro e w2 ⟨l2, c2, S2, rfl, hrow, hfr, hu, hr⟩; have HX2 := Lib.hid (HX.out.step hu hr); have hcc2 := HX2.out.p.p1.rc.cc; skip; clear hrow hfr hu hr)
      have hX3 : X2 E R I C w Z35 (.cells #[.string ⟨nm.toArray⟩, .slice la rf.length lc, .int .i64 pm, .int .i64 cp, .bool false, .slice none 0 0] 35 (0, 0)) (.slice la rf.length lc) rf S B w2 t5 := HX2.out
      have cI := some_ins_sl E R I t5 (w2) hX3.p.p1.rc.rd C hX3.p.p1.rc.cc hCR
      rw [e6] at cI
      simp only at cI
      have HX3 := Lib.hid hX3
      have hB3 := (Array.getElem?_eq_some_iff.1 hX3.p.b2).1
      have hA3 := hX3.p.p1.lt
      clear hX3
      with_reducible refine cI.mono ?_
      rintro e w3 ⟨ka, kc, S3, rfl, hrow3, hfr3, hu3, hr3⟩
      have HROW := Lib.hid hrow3
      have HFR := Lib.hid hfr3
      have HX4 := Lib.hid (HX3.out.step hu3 hr3)
      obtain ⟨q0, q1, q2, q3, q4, q5, f0, f1, f2, f3, f4, f5⟩ := six HX4.out.p.b2
      obtain ⟨r0, r1, r2, r3, r4, r5, g0, g1, g2, g3, g4, g5⟩ := six HX4.out.p.p1.b1
      have hne1 := HX4.out.p.ge
      clear hrow3 hfr3 hu3 hr3
      go_wp2_with fail
      have hB1 := HX4.out.p.p1.b1
      have hgB := HX4.out.p.ge
      refine bodyPost_ret (results_cell_row rfl _ _ w.heap.size 35 #[.string ⟨nm.toArray⟩, .slice la rf.length lc, .int .i64 pm, .int .i64 cp, .bool false, .slice ka k.length kc] (0, 0) _ rfl ?hb Tryd.underlying35 rfl size35) rfl ?_
      case hb =>
        have h1 : ¬ B = w.heap.size := by omega
        simp [World.setCell, Array.getElem?_modify, hB1, h1, Z35]
      have hU := (((((((Upd.refl (fun k => k = B ∨ k = w.heap.size) w3).set ⟨B, 5, .none⟩ (.slice ka k.length kc) (.inl rfl)).set ⟨w.heap.size, 0, .none⟩ (.string ⟨nm.toArray⟩) (.inr rfl)).set ⟨w.heap.size, 1, .none⟩ (.slice la rf.length lc) (.inr rfl)).set ⟨w.heap.size, 2, .none⟩ (.int .i64 pm) (.inr rfl)).set ⟨w.heap.size, 3, .none⟩ (.int .i64 cp) (.inr rfl)).set ⟨w.heap.size, 4, .none⟩ (.bool false) (.inr rfl)).set ⟨w.heap.size, 5, .none⟩ (.slice ka k.length kc) (.inr rfl)
      have hF := HX4.out.p.fin hU
      rw [HFN.out]
      have hR4 := HX4.out.r
      refine ⟨la, lc, ka, kc, fun k => S k ∨ S3 k, rfl, (hR4.row.upd stBool hU (fun k hk _ e => ?_)).widen wdBool (fun k hk => .inl hk), (HROW.out.upd stIns hU (fun k hk _ e => ?_)).widen wdIns (fun k hk => .inr hk), fun k hk => ?_, hF.1, hF.2⟩
      · have h1 := hR4.lo k hk
        have h2 := HX4.out.ne k hk
        omega
      · have h1 := (HFR.out k hk).1
        skip
        omega
      · have h9 := hU.size
        rcases hk with hk | hk
        · have h1 := hR4.lo k hk
          have h2 := hR4.hi k hk
          exact ⟨by omega, by omega⟩
        · have h1 := HFR.out k hk
          skip
          exact ⟨by omega, by omega⟩

end Go.Proofs.YtdflfcgdfbihfaaDoor
