import Derived.Test.YtdflfcgdfbihfaaDoorC12
import Derived.Deep.RegionWith
import Derived.Deep.QuietTactic
import Derived.BigQuiet
namespace Go.Proofs.YtdflfcgdfbihfaaDoor
open Go.RowKit CodeText

attribute [local go_sem ↓] Go.wp_at_zero Go.wp_at_succ

theorem Rd.errcell {E : Addr} {R I : Nat} {w : World} {l : Bytes} (h : Rd E R I w (l, true)) : ∃ x, w.cell? ⟨R, 1, none⟩ = some (.iface 78 (.agg #[.string x, .iface 94 (.pointer (some E))])) := by
  obtain ⟨v, e, k1, _, k3⟩ := h.at_
  rcases k3 with ⟨k3, _⟩ | ⟨_, x, rfl⟩
  · cases k3
  · exact ⟨x, by simp [World.cell?, k1, short]⟩

theorem K2.none {E : Addr} {R I C B : Nat} {w0 w w' : World} {F : World → Prop} {S : Nat → Prop} {o2 : Obj} {s : St} (h : K2 E R I C w0 F S o2 B w s) (hu : Upd (fun _ => False) w w') : K2 E R I C w0 F S o2 B w' s :=
  ⟨h.k.none hu, by rw [hu.block _ h.lt (fun h => h)]; exact h.b2, h.ge, h.nB⟩

theorem results_cell_row2 {P : Program} {fn : Func} {p u : Tmp} {ty : TypeId} (h : fn.results = #[.cell p ty, .tmp u]) (tmps : Array Value) (w : World) (g : Nat) (t : TypeId) (cs : Array Value) (fr : Nat × Nat) (d : TypeDesc)
    (hp : tmps.getD p undef = .pointer (some ⟨g, 0, none⟩)) (hg : w.heap[g]? = some (.cells cs t fr))
    (hu : P.underlying ty = some d) (hd : (match d with | .struct _ | .array _ _ => true | _ => false) = true) (hi : (P.info? ty).map (·.size) = some cs.size) :
    (results fn tmps).run P w = .ok (.tuple #[.agg cs, tmps.getD u undef]) w := by
  rw [results_cell_tmp h, hp]
  simp [asAddr, Sem.run_pure, run_loadVar_row w g t ty cs fr d hg hu hd hi]

/-- The world in which a reader has been made: the result's block, the reader, its variable. -/
def made (w : World) (v : Value) : World := ((w.alloc Z29).alloc (.cells #[v, .nilIface] 43 (0, 0))).alloc (.cells #[.pointer (some ⟨w.heap.size + 1, 0, none⟩)] 39 (0, 0))

theorem made_size (w : World) (v : Value) : (made w v).heap.size = w.heap.size + 3 := by simp [made]
theorem made_upd (w : World) (v : Value) : Upd (fun _ => False) w (made w v) :=
  ((Upd.alloc (fun _ => False) w _).trans (Upd.alloc (fun _ => False) _ _) (fun _ _ h => h)).trans (Upd.alloc (fun _ => False) _ _) (fun _ _ h => h)

theorem made_start {E : Addr} {I : Nat} {w : World} {v : Value} {b : Bytes} (hs : Src w I v b) (hg : w.cell? ⟨0, 0, none⟩ = some (short E)) (hf : b.length ≤ 1000000) (hI : I < w.heap.size) :
    K1 E (w.heap.size + 1) I (w.heap.size + 1 + 1) (made w v) (fun u => u.heap[w.heap.size]? = some Z29) (fun k => k = w.heap.size) (made w v) (b, false) := by
  have hu := made_upd w v
  have hz := made_size w v
  have h0 := World.block_lt_of_cell? _ _ hg
  have hA : (made w v).heap[w.heap.size]? = some Z29 := by
    unfold made
    rw [Below.heap_alloc _ _ _ (by simp only [World.size_alloc]; omega), Below.heap_alloc _ _ _ (by simp only [World.size_alloc]; omega)]
    exact heap_alloc_new w Z29
  have hR : (made w v).heap[w.heap.size + 1]? = some (.cells #[v, .nilIface] 43 (0, 0)) := by
    unfold made
    rw [Below.heap_alloc _ _ _ (by simp only [World.size_alloc]; omega)]
    have := heap_alloc_new (w.alloc Z29) (.cells #[v, .nilIface] 43 (0, 0))
    rwa [World.size_alloc] at this
  have hC : (made w v).heap[w.heap.size + 1 + 1]? = some (.cells #[.pointer (some ⟨w.heap.size + 1, 0, none⟩)] 39 (0, 0)) := by
    have := heap_alloc_new ((w.alloc Z29).alloc (.cells #[v, .nilIface] 43 (0, 0))) (.cells #[.pointer (some ⟨w.heap.size + 1, 0, none⟩)] 39 (0, 0))
    rwa [World.size_alloc, World.size_alloc] at this
  refine ⟨⟨⟨⟨v, .nilIface, hR, hs.upd hu (fun h => h), .inl ⟨rfl, rfl⟩⟩, hu.cell hg (fun h => h), hf, by omega, by omega, by omega⟩, by simp [World.cell?, hC], by omega⟩, Upd.refl _ _, hA, ?_, ?_, ?_, by omega, by omega, by omega⟩
  · intro a b T ha hab hT
    rw [hab.block _ (Array.getElem?_eq_some_iff.1 ha).1 (hT _ rfl (Array.getElem?_eq_some_iff.1 ha).1)]
    exact ha
  · intro k hk; omega
  · intro k hk; omega

set_option maxRecDepth 100000 in
set_option maxHeartbeats 6400000 in
theorem decode_any (E : Addr) (I : Nat) (b : Bytes) (a0 : Option Addr) (c0 : Nat) (w : World) (hs : Src w I (.slice a0 b.length c0) b) (hg : w.cell? ⟨0, 0, none⟩ = some (short E)) (hf : b.length ≤ 1000000) (hI : I < w.heap.size) :
    Calls Tryd.prog 5 #[.slice a0 b.length c0] w fun e w' => Upd (fun _ => False) w w' ∧
      ((CodeText.decode b = none ∧ e = .returned (.tuple #[.agg #[.slice none 0 0, .slice none 0 0, .slice none 0 0, .slice none 0 0, .int .i64 0], .bool false])) ∨
       ∃ p ta tc ga gc sa sc fa fc S, CodeText.decode b = some p ∧ e = .returned (.tuple #[.agg #[.slice ta p.texts.length tc, .slice ga p.globals.length gc, .slice sa p.structs.length sc, .slice fa p.funcs.length fc, .int .i64 p.main], .bool true]) ∧
        RowV DStr 1 w' S (.slice ta p.texts.length tc) p.texts ∧ RowV DBool 1 w' S (.slice ga p.globals.length gc) p.globals ∧ RowV DFlags 1 w' S (.slice sa p.structs.length sc) p.structs ∧ RowV DFn 6 w' S (.slice fa p.funcs.length fc) p.funcs ∧
        (∀ k, S k → w.heap.size ≤ k ∧ k < w'.heap.size)) := by
  have hk1 := made_start hs hg hf hI
  have hC := hk1.rc.cc
  have hCl : w.heap.size + 2 < (made w (.slice a0 b.length c0)).heap.size := by rw [made_size]; omega
  have t1 := Lib.hid (ktext_k1 E (w.heap.size + 1) I (w.heap.size + 1 + 1) (made w (.slice a0 b.length c0)))
  have t2 := Lib.hid (ktext_k2 E (w.heap.size + 1) I (w.heap.size + 1 + 1) (made w (.slice a0 b.length c0)))
  have g1 := Lib.hid (kflag_k1 E (w.heap.size + 1) I (w.heap.size + 1 + 1) (made w (.slice a0 b.length c0)))
  have g2 := Lib.hid (kflag_k2 E (w.heap.size + 1) I (w.heap.size + 1 + 1) (made w (.slice a0 b.length c0)))
  have u1 := Lib.hid (kflags_k1 E (w.heap.size + 1) I (w.heap.size + 1 + 1) (made w (.slice a0 b.length c0)))
  have u2 := Lib.hid (kflags_k2 E (w.heap.size + 1) I (w.heap.size + 1 + 1) (made w (.slice a0 b.length c0)))
  have HK := Lib.hid hk1
  have HS := Lib.hid hs
  clear hs hk1
  go_enter Tryd.func5, Tryd.ntmps5
  go_upto_region 2 with fail
  have hC := HK.out.rc.cc
  obtain ⟨wm, hwm⟩ : ∃ x, made w (.slice a0 b.length c0) = x := ⟨_, rfl⟩
  have HMS : Hid (wm.heap.size = w.heap.size + 3) := by show wm.heap.size = _; rw [← hwm]; exact made_size _ _
  have HMU : Hid (Upd (fun _ => False) w wm) := by show Upd _ w wm; rw [← hwm]; exact made_upd _ _
  rw [hwm] at HK t1 t2 g1 g2 u1 u2 hC
  rw [show ((w.alloc Z29).alloc (Obj.cells #[.slice a0 b.length c0, .nilIface] 43)).alloc (Obj.cells #[.pointer (some ⟨w.heap.size + 1, 0, none⟩)] 39) = wm from hwm]
  clear hwm hCl
  have hk1 := HK.out
  have hne := World.new_ne wm _ hC
  go_cut [5] from 9 to 20 (fun v5 wx => ∃ B ta tc ga gc sa sc S1 S2 S3, v5 = .pointer (some ⟨B, 0, none⟩) ∧
    K2 E (w.heap.size + 1) I (w.heap.size + 1 + 1) wm (fun u => ((u.heap[w.heap.size]? = some Z29 ∧ (RowV DStr 1 u S1 (.slice ta (rsome rtext (b, false)).1.length tc) (rsome rtext (b, false)).1 ∧ ∀ k, S1 k → wm.heap.size ≤ k)) ∧ (RowV DBool 1 u S2 (.slice ga (rsome rflag (rsome rtext (b, false)).2).1.length gc) (rsome rflag (rsome rtext (b, false)).2).1 ∧ ∀ k, S2 k → wm.heap.size ≤ k)) ∧ (RowV DFlags 1 u S3 (.slice sa (rsome (rsome rflag) (rsome rflag (rsome rtext (b, false)).2).2).1.length sc) (rsome (rsome rflag) (rsome rflag (rsome rtext (b, false)).2).2).1 ∧ ∀ k, S3 k → wm.heap.size ≤ k))
      (fun k => ((k = w.heap.size ∨ S1 k) ∨ S2 k) ∨ S3 k) (.cells #[.slice ta (rsome rtext (b, false)).1.length tc, .slice ga (rsome rflag (rsome rtext (b, false)).2).1.length gc, .slice sa (rsome (rsome rflag) (rsome rflag (rsome rtext (b, false)).2).2).1.length sc, .slice none 0 0, .int .i64 0] 29 (0, 0)) B wx (rsome (rsome rflag) (rsome rflag (rsome rtext (b, false)).2).2).2)
  case first =>
    go_region_held3 (fun w' => w'.cell? ⟨w.heap.size + 1 + 1, 0, none⟩ = some (.pointer (some ⟨w.heap.size + 1, 0, none⟩))) (first | go_keep | (with_reducible exact hk2.k.rc.cc) | (with_reducible exact hk1.rc.cc) | (with_reducible exact (hk1.new _).k.rc.cc) | (with_reducible exact (hk1.new _).drewR.k.rc.cc) | (with_reducible exact hk1.drewR.rc.cc))
      ((first | (go_at_call 9; first | (with_reducible refine (t2.out _ _ _ _ _ _ hk2).mono ?_; rintro e w' ⟨la, lc, S1, rfl, hk2⟩; obtain ⟨q0, q1, q2, q3, q4, f0, f1, f2, f3, f4⟩ := five hk2.b2; have hnc := hk2.neC; (try simp only [World.size_alloc, made_size] at q0 q1 q2 q3 q4 f0 f1 f2 f3 f4 hnc hk2)) | (with_reducible refine (t2.out _ _ _ _ _ _ (hk1.new _)).mono ?_; rintro e w' ⟨la, lc, S1, rfl, hk2⟩; obtain ⟨q0, q1, q2, q3, q4, f0, f1, f2, f3, f4⟩ := five hk2.b2; have hnc := hk2.neC; (try simp only [World.size_alloc, made_size] at q0 q1 q2 q3 q4 f0 f1 f2 f3 f4 hnc hk2)) | (with_reducible refine (t2.out _ _ _ _ _ _ (hk1.new _).drewR).mono ?_; rintro e w' ⟨la, lc, S1, rfl, hk2⟩; obtain ⟨q0, q1, q2, q3, q4, f0, f1, f2, f3, f4⟩ := five hk2.b2; have hnc := hk2.neC; (try simp only [World.size_alloc, made_size] at q0 q1 q2 q3 q4 f0 f1 f2 f3 f4 hnc hk2)) | (with_reducible refine (t1.out _ _ _ _ hk1).mono ?_; rintro e w' ⟨la, lc, S1, rfl, hk1⟩) | (with_reducible refine (t1.out _ _ _ _ hk1.drewR).mono ?_; rintro e w' ⟨la, lc, S1, rfl, hk1⟩)) | (go_at_call 11; first | (with_reducible refine (g2.out _ _ _ _ _ _ hk2).mono ?_; rintro e w' ⟨la, lc, S1, rfl, hk2⟩; obtain ⟨q0, q1, q2, q3, q4, f0, f1, f2, f3, f4⟩ := five hk2.b2; have hnc := hk2.neC; (try simp only [World.size_alloc, made_size] at q0 q1 q2 q3 q4 f0 f1 f2 f3 f4 hnc hk2)) | (with_reducible refine (g2.out _ _ _ _ _ _ (hk1.new _)).mono ?_; rintro e w' ⟨la, lc, S1, rfl, hk2⟩; obtain ⟨q0, q1, q2, q3, q4, f0, f1, f2, f3, f4⟩ := five hk2.b2; have hnc := hk2.neC; (try simp only [World.size_alloc, made_size] at q0 q1 q2 q3 q4 f0 f1 f2 f3 f4 hnc hk2)) | (with_reducible refine (g2.out _ _ _ _ _ _ (hk1.new _).drewR).mono ?_; rintro e w' ⟨la, lc, S1, rfl, hk2⟩; obtain ⟨q0, q1, q2, q3, q4, f0, f1, f2, f3, f4⟩ := five hk2.b2; have hnc := hk2.neC; (try simp only [World.size_alloc, made_size] at q0 q1 q2 q3 q4 f0 f1 f2 f3 f4 hnc hk2)) | (with_reducible refine (g1.out _ _ _ _ hk1).mono ?_; rintro e w' ⟨la, lc, S1, rfl, hk1⟩) | (with_reducible refine (g1.out _ _ _ _ hk1.drewR).mono ?_; rintro e w' ⟨la, lc, S1, rfl, hk1⟩)) | (go_at_call 13; first | (with_reducible refine (u2.out _ _ _ _ _ _ hk2).mono ?_; rintro e w' ⟨la, lc, S1, rfl, hk2⟩; obtain ⟨q0, q1, q2, q3, q4, f0, f1, f2, f3, f4⟩ := five hk2.b2; have hnc := hk2.neC; (try simp only [World.size_alloc, made_size] at q0 q1 q2 q3 q4 f0 f1 f2 f3 f4 hnc hk2)) | (with_reducible refine (u2.out _ _ _ _ _ _ (hk1.new _)).mono ?_; rintro e w' ⟨la, lc, S1, rfl, hk2⟩; obtain ⟨q0, q1, q2, q3, q4, f0, f1, f2, f3, f4⟩ := five hk2.b2; have hnc := hk2.neC; (try simp only [World.size_alloc, made_size] at q0 q1 q2 q3 q4 f0 f1 f2 f3 f4 hnc hk2)) | (with_reducible refine (u2.out _ _ _ _ _ _ (hk1.new _).drewR).mono ?_; rintro e w' ⟨la, lc, S1, rfl, hk2⟩; obtain ⟨q0, q1, q2, q3, q4, f0, f1, f2, f3, f4⟩ := five hk2.b2; have hnc := hk2.neC; (try simp only [World.size_alloc, made_size] at q0 q1 q2 q3 q4 f0 f1 f2 f3 f4 hnc hk2)) | (with_reducible refine (u1.out _ _ _ _ hk1).mono ?_; rintro e w' ⟨la, lc, S1, rfl, hk1⟩) | (with_reducible refine (u1.out _ _ _ _ hk1.drewR).mono ?_; rintro e w' ⟨la, lc, S1, rfl, hk1⟩))))
    all_goals (go_wp2_with fail; go_meet)
    all_goals first | (with_reducible exact ⟨_, _, _, _, _, _, _, _, _, _, rfl, hk2.write5 _ _ _ _ _⟩) | (with_reducible exact ⟨_, _, _, _, _, _, _, _, _, _, rfl, hk1.new _⟩)
  case rest =>
    obtain ⟨B, ta, tc, ga, gc, sa, sc, S1, S2, S3, rfl, hk⟩ := hcut
    obtain ⟨⟨T, t1⟩, e1⟩ : ∃ x, rsome rtext (b, false) = x := ⟨_, rfl⟩
    rw [e1] at hk
    obtain ⟨⟨G, t2⟩, e2⟩ : ∃ x, rsome rflag t1 = x := ⟨_, rfl⟩
    rw [e2] at hk
    obtain ⟨⟨U, t3⟩, e3⟩ : ∃ x, rsome (rsome rflag) t2 = x := ⟨_, rfl⟩
    rw [e3] at hk
    simp only at hk
    obtain ⟨⟨Fs, t4⟩, e4⟩ : ∃ x, rsome rfn t3 = x := ⟨_, rfl⟩
    obtain ⟨⟨mn, t5⟩, e5⟩ : ∃ x, rnum t4 = x := ⟨_, rfl⟩
    have HPG : Hid (rpg (b, false) = (⟨T, G, U, Fs, mn⟩, t5)) := by
      show rpg (b, false) = _
      simp only [rpg, e1, e2, e3, e4, e5]
    have cF := kfn_k2 E (w.heap.size + 1) I (w.heap.size + 1 + 1) wm _ _ _ B t3 wc hk
    rw [e4] at cF
    simp only at cF
    have hcc := hk.k.rc.cc
    clear e1 e2 e3 e4
    go_wp2_with (with_reducible refine cF.mono ?_; rintro e w2 ⟨fa, fc, S4, rfl, hk2⟩; have HK2 := Lib.hid hk2; have hcc2 := hk2.k.rc.cc; obtain ⟨q0, q1, q2, q3, q4, f0, f1, f2, f3, f4⟩ := five hk2.b2; have hnc := hk2.neC; clear hk2)
    have hk3 := HK2.out.write (w' := w2.setCell ⟨B, 3, none⟩ (.slice fa Fs.length fc)) (o3 := .cells #[.slice ta T.length tc, .slice ga G.length gc, .slice sa U.length sc, .slice fa Fs.length fc, .int .i64 0] 29 (0, 0)) (by simp [World.setCell, Array.getElem?_modify, HK2.out.b2]) (Upd.setCell _ _ _ rfl)
    have cM := knum_k2 E (w.heap.size + 1) I (w.heap.size + 1 + 1) wm _ _ _ B t4 _ hk3
    rw [e5] at cM
    simp only at cM
    clear hk3
    with_reducible refine cM.mono ?_
    rintro e w3 ⟨rfl, hk4⟩
    have HK4 := Lib.hid hk4
    have hcc4 := hk4.k.rc.cc
    obtain ⟨q0, q1, q2, q3, q4, f0, f1, f2, f3, f4⟩ := five hk4.b2
    have hnc4 := hk4.neC
    clear hk4 e5
    have hk5 := HK4.out.write (w' := w3.setCell ⟨B, 4, none⟩ (.int .i64 mn)) (o3 := .cells #[.slice ta T.length tc, .slice ga G.length gc, .slice sa U.length sc, .slice fa Fs.length fc, .int .i64 mn] 29 (0, 0)) (by simp [World.setCell, Array.getElem?_modify, HK4.out.b2]) (Upd.setCell _ _ _ rfl)
    have HK5 := Lib.hid hk5
    clear hk5
    obtain ⟨w4, hw4⟩ : ∃ x, w3.setCell ⟨B, 4, none⟩ (.int .i64 mn) = x := ⟨_, rfl⟩
    rw [hw4] at HK5
    go_upto_region 5 with fail
    have hnc5 := HK5.out.neC
    have hRB : ¬ B = w.heap.size + 1 := by have := HK5.out.ge; have := HK5.out.k.rL; omega
    obtain ⟨l, be⟩ := t5
    have g1 := HK5.out.k.rc.cc
    obtain ⟨⟨ra, rc, g2, _, _, _⟩, g3, _, _, g4, _⟩ := HK5.out.k.rc.rd.cells
    clear hw4
    cases be with
    | true =>
      obtain ⟨ex, g3⟩ := HK5.out.k.rc.rd.errcell
      have cI := Lib.hid (is_lack ex E)
      go_region_with (go_at_call 21; with_reducible refine (cI.out _).mono ?_; rintro e w' ⟨rfl, hu⟩; have HK6 := Lib.hid (HK5.out.drewR.none hu); obtain ⟨p0, p1, p2, p3, p4, x0, x1, x2, x3, x4⟩ := five HK6.out.k.f.1.1.1.1; clear hu)
      all_goals (go_wp2_with fail)
      all_goals
        have hAb := HK6.out.k.f.1.1.1.1
        refine bodyPost_ret (results_cell_row2 rfl _ _ w.heap.size 29 #[.slice none 0 0, .slice none 0 0, .slice none 0 0, .slice none 0 0, .int .i64 0] (0, 0) _ rfl ?hb Tryd.underlying29 rfl size29) rfl ?_
        case hb =>
          first | (simp [World.setCell, Array.getElem?_modify, hAb, Z29]; done) | (have hAb2 : w4.heap[w.heap.size]? = some Z29 := hAb; simp [World.setCell, Array.getElem?_modify, hAb2, Z29])
        have hU := ((((((Upd.refl (fun k => k = w.heap.size) w').set ⟨w.heap.size, 0, .none⟩ (.slice none 0 0) rfl).set ⟨w.heap.size, 1, .none⟩ (.slice none 0 0) rfl).set ⟨w.heap.size, 2, .none⟩ (.slice none 0 0) rfl).set ⟨w.heap.size, 3, .none⟩ (.slice none 0 0) rfl).set ⟨w.heap.size, 4, .none⟩ (.int .i64 0) rfl)
        have hms := HMS.out
        have hup := (HMU.out.trans HK6.out.k.up (fun k hk e => by unfold RS at e; omega)).trans hU (fun k hk e => by omega)
        refine ⟨hup, ?_⟩
        refine .inl ⟨?_, rfl⟩
        unfold CodeText.decode
        rw [HPG.out]
        rw [if_pos (.inl rfl)]
    | false =>
      have g5 := g3 rfl
      have cI := Lib.hid (is_nil E)
      obtain ⟨p0, p1, p2, p3, p4, x0, x1, x2, x3, x4⟩ := five HK5.out.k.f.1.1.1.1
      obtain ⟨q0, q1, q2, q3, q4, f0, f1, f2, f3, f4⟩ := five HK5.out.b2
      by_cases hl0 : 0 < l.length
      · go_quiet ((go_at_call 21; exact Calls.quiet_of_same (cI.out _)))
        go_wp2_with fail
        have HK6 := Lib.hid (HK5.out.none (Upd.drewN (fun _ => False) w4 nq))
        have hAb := HK6.out.k.f.1.1.1.1
        refine bodyPost_ret (results_cell_row2 rfl _ _ w.heap.size 29 #[.slice none 0 0, .slice none 0 0, .slice none 0 0, .slice none 0 0, .int .i64 0] (0, 0) _ rfl ?hb Tryd.underlying29 rfl size29) rfl ?_
        case hb =>
          first | (simp [World.setCell, Array.getElem?_modify, hAb, Z29]; done) | (have hAb2 : w4.heap[w.heap.size]? = some Z29 := hAb; simp [World.setCell, Array.getElem?_modify, hAb2, Z29])
        have hU := ((((((Upd.refl (fun k => k = w.heap.size) (w4.drewN nq)).set ⟨w.heap.size, 0, .none⟩ (.slice none 0 0) rfl).set ⟨w.heap.size, 1, .none⟩ (.slice none 0 0) rfl).set ⟨w.heap.size, 2, .none⟩ (.slice none 0 0) rfl).set ⟨w.heap.size, 3, .none⟩ (.slice none 0 0) rfl).set ⟨w.heap.size, 4, .none⟩ (.int .i64 0) rfl)
        have hms := HMS.out
        have hup := (HMU.out.trans HK6.out.k.up (fun k hk e => by unfold RS at e; omega)).trans hU (fun k hk e => by omega)
        refine ⟨hup, ?_⟩
        refine .inl ⟨?_, rfl⟩
        unfold CodeText.decode
        rw [HPG.out]
        rw [if_pos (.inr (fun h0 => by simp only at h0; rw [h0] at hl0; simp at hl0))]
      · have hl1 : l.length = 0 := by omega
        go_quiet ((go_at_call 21; exact Calls.quiet_of_same (cI.out _)))
        go_wp2_with fail
        have HK6 := Lib.hid (HK5.out.none (Upd.drewN (fun _ => False) w4 nq))
        have hAb := HK6.out.k.f.1.1.1.1
        refine bodyPost_ret (results_cell_row2 rfl _ _ w.heap.size 29 #[.slice ta T.length tc, .slice ga G.length gc, .slice sa U.length sc, .slice fa Fs.length fc, .int .i64 mn] (0, 0) _ rfl ?hb Tryd.underlying29 rfl size29) rfl ?_
        case hb =>
          first | (simp [World.setCell, Array.getElem?_modify, hAb, Z29]; done) | (have hAb2 : w4.heap[w.heap.size]? = some Z29 := hAb; simp [World.setCell, Array.getElem?_modify, hAb2, Z29])
        have hU := ((((((Upd.refl (fun k => k = w.heap.size) (w4.drewN nq)).set ⟨w.heap.size, 0, .none⟩ (.slice ta T.length tc) rfl).set ⟨w.heap.size, 1, .none⟩ (.slice ga G.length gc) rfl).set ⟨w.heap.size, 2, .none⟩ (.slice sa U.length sc) rfl).set ⟨w.heap.size, 3, .none⟩ (.slice fa Fs.length fc) rfl).set ⟨w.heap.size, 4, .none⟩ (.int .i64 mn) rfl)
        have hms := HMS.out
        have hup := (HMU.out.trans HK6.out.k.up (fun k hk e => by unfold RS at e; omega)).trans hU (fun k hk e => by omega)
        refine ⟨hup, ?_⟩
        have hf1 := HK6.out.k.f.1.1.1.2
        have hf2 := HK6.out.k.f.1.1.2
        have hf3 := HK6.out.k.f.1.2
        have hf4 := HK6.out.k.f.2
        have hhi := HK6.out.k.hi
        have hsz9 := hU.size
        refine .inr ⟨⟨T, G, U, Fs, mn⟩, ?_, ta, tc, ga, gc, sa, sc, fa, fc, rfl, fun k => ((S1 k ∨ S2 k) ∨ S3 k) ∨ S4 k, (hf1.1.upd stStr hU (fun k hk _ e => by have := hf1.2 k hk; omega)).widen wdStr (fun k hk => .inl (.inl (.inl hk))), (hf2.1.upd stBool hU (fun k hk _ e => by have := hf2.2 k hk; omega)).widen wdBool (fun k hk => .inl (.inl (.inr hk))), (hf3.1.upd stFlags hU (fun k hk _ e => by have := hf3.2 k hk; omega)).widen wdFlags (fun k hk => .inl (.inr hk)), (hf4.1.upd stFn hU (fun k hk _ e => by have := hf4.2 k hk; omega)).widen wdFn (fun k hk => .inr hk), fun k hk => ?_⟩
        · unfold CodeText.decode
          rw [HPG.out]
          rw [if_neg]
          rintro (h1 | h1)
          · cases h1
          · exact h1 (List.length_eq_zero_iff.1 hl1)
        · rcases hk with ((hk | hk) | hk) | hk
          · have h1 := hf1.2 k hk
            have h2 := hhi k (.inl (.inl (.inl (.inr hk))))
            exact ⟨by omega, Nat.lt_of_lt_of_le h2 hsz9⟩
          · have h1 := hf2.2 k hk
            have h2 := hhi k (.inl (.inl (.inr hk)))
            exact ⟨by omega, Nat.lt_of_lt_of_le h2 hsz9⟩
          · have h1 := hf3.2 k hk
            have h2 := hhi k (.inl (.inr hk))
            exact ⟨by omega, Nat.lt_of_lt_of_le h2 hsz9⟩
          · have h1 := hf4.2 k hk
            have h2 := hhi k (.inr hk)
            exact ⟨by omega, Nat.lt_of_lt_of_le h2 hsz9⟩

end Go.Proofs.YtdflfcgdfbihfaaDoor
