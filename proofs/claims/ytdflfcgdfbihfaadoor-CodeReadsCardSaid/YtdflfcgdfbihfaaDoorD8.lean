import Derived.Test.YtdflfcgdfbihfaaDoorD7
import Derived.Test.YtdflfcgdfbihfaaDoorC12
namespace Go.Proofs.YtdflfcgdfbihfaaDoor
open Go.RowKit CodeText

theorem DFn.dest {w : World} {S : Nat → Prop} {vs : List Value} {x : Fnc} (h : DFn w S vs x) : ∃ ra rc ka kc, vs = [.string ⟨x.name.toArray⟩, .slice ra x.refs.length rc, .int .i64 x.params, .int .i64 x.captures, .bool x.result, .slice ka x.code.length kc] ∧ RowV DBool 1 w S (.slice ra x.refs.length rc) x.refs ∧ RowV DIns 6 w S (.slice ka x.code.length kc) x.code := by
  obtain ⟨rv, kv, rfl, ⟨ra, rc, rfl, h1⟩, ⟨ka, kc, rfl, h2⟩⟩ := h
  exact ⟨ra, rc, ka, kc, rfl, ⟨ra, rc, rfl, h1⟩, ⟨ka, kc, rfl, h2⟩⟩

def LFn (x : Fnc) : Prop := VFn x ∧ x.refs.length ≤ 900000 ∧ x.code.length ≤ 900000 ∧ ∀ i ∈ x.code, i.list.length ≤ 900000

set_option maxRecDepth 100000 in
set_option maxHeartbeats 1600000 in
theorem each_fn (B Q : Nat) (l : List Fnc) (a : Option Addr) (c : Nat) (S : Nat → Prop) (out : Bytes) (w : World) (h : Wr B Q w out) (hl : l.length ≤ 900000) (hfew : out.length + (weach wfn l).length ≤ 900000) (hQB : Q < B)
    (hV : ∀ x ∈ l, LFn x) (hrow : RowV DFn 6 w S (.slice a l.length c) l) (hS : ∀ k, S k → k ≠ Q ∧ k < B) (C : Nat) (hC : w.cell? ⟨C, 0, none⟩ = some (.pointer (some ⟨Q, 0, none⟩))) (hCQ : C ≠ Q) (hCB : C < B) :
    Calls Tryd.prog 28 #[.pointer (some ⟨Q, 0, none⟩), .slice a l.length c, .func (.func 29) #[] #[.pointer (some ⟨C, 0, none⟩)]] w fun e w' => e = .returned (.tuple #[]) ∧ Upd (QS B Q) w w' ∧ Wr B Q w' (out ++ weach wfn l) := by
  have hW : Hid (weach wfn l = wnum l.length ++ (l.map wfn).flatten) := rfl
  have c0 := wnum_any B Q l.length (fits_len (by omega)) out w h (by rw [hW.out, List.length_append] at hfew; omega) hQB
  rw [hW.out, List.length_append] at hfew
  have hfl := Lib.hid (flat_le wfn l)
  have HROW := Lib.hid hrow
  have HVV := Lib.hid hV
  obtain ⟨L, hL⟩ : ∃ L, l.length = L := ⟨_, rfl⟩
  have HL := Lib.hid hL
  rw [hL] at hl hfew c0 ⊢
  rw [hL] at HROW
  have HFW := Lib.hid hfew
  clear h hL hfew hrow hV
  go_enter Tryd.func28, Tryd.ntmps28
  go_wp2_with (with_reducible refine c0.mono ?_; rintro e w1 ⟨rfl, hu, hwr, hkp⟩; have HU1 := Lib.hid hu; have HW1 := Lib.hid hwr; clear hu hwr hkp)
  go_loopw [14] (fun i wr => ∃ j : Nat, i = .int .i64 j ∧ j ≤ L ∧ Upd (QS B Q) w wr ∧ Wr B Q wr (out ++ wnum L ++ ((l.take j).map wfn).flatten)) (fun i _ => L - (intOf i).toNat)
  case atStart => exact ⟨0, rfl, Nat.zero_le _, HU1.out, by simpa using HW1.out⟩
  case round =>
    obtain ⟨j, rfl, hj, hup, hwr⟩ := hrel
    have HUP := Lib.hid hup
    have HWR := Lib.hid hwr
    by_cases hlt : j < L
    · have hlt2 : j < l.length := by rw [HL.out]; exact hlt
      have hrw := RowV.dest (HROW.out.upd stFn hup (fun k hk _ hq => by have := hS k hk; unfold QS at hq; omega)) j hlt2
      obtain ⟨g, vs, rfl, hvl, hvc, hD⟩ := hrw
      have hst := flat_step wfn l j hlt2
      have hle := hfl.out (j + 1)
      have hF := HFW.out
      have hVx := HVV.out l[j] (List.getElem_mem hlt2)
      obtain ⟨x, hx⟩ : ∃ x, l[j]'hlt2 = x := ⟨_, rfl⟩
      rw [hx] at hD hst hVx
      rw [hst, List.length_append] at hle
      have HST := Lib.hid hst
      obtain ⟨OD, hOD⟩ : ∃ y, out ++ wnum L ++ ((l.take j).map wfn).flatten = y := ⟨_, rfl⟩
      have hol : OD.length + (wfn x).length ≤ 900000 := by rw [← hOD, List.length_append, List.length_append]; omega
      rw [hOD] at HWR
      have HOD := Lib.hid hOD
      have hCw := hup.cell hC (fun hq => by unfold QS at hq; simp only at hq; omega)
      obtain ⟨ra, rc, ka, kc, rfl, hrx, hrk⟩ := hD.dest; have h0 := hvc 0 _ rfl; have h1 := hvc 1 _ rfl; have h2 := hvc 2 _ rfl; have h3 := hvc 3 _ rfl; have h4 := hvc 4 _ rfl; have h5 := hvc 5 _ rfl; rw [Nat.add_zero] at h0; have hc := wfn_any B Q C x ra ka rc kc S OD (wr.alloc (.cells #[.string ⟨x.name.toArray⟩, .slice ra x.refs.length rc, .int .i64 x.params, .int .i64 x.captures, .bool x.result, .slice ka x.code.length kc] 35 (0, 0))) (HWR.out.upd (Upd.alloc (fun _ => False) wr _) (fun h => h) (fun _ _ _ h => h)) hol hQB hVx.1 hVx.2.1 hVx.2.2.1 hVx.2.2.2 (hrx.upd stBool (Upd.alloc (fun _ => False) wr _) (fun _ _ _ h => h)) (hrk.upd stIns (Upd.alloc (fun _ => False) wr _) (fun _ _ _ h => h)) hS (keep_cell hCw _) hCQ hCB; clear hrx hrk
      clear hup hwr hst hx hOD hle hF hvl hvc hlt2
      go_wp2_with (with_reducible refine hc.mono ?_; rintro e w2 ⟨rfl, hu, hwr⟩; have HE := Lib.hid ((Upd.alloc (QS B Q) wr _).trans hu (fun _ _ h => h)); have HE2 := Lib.hid hwr; clear hu hwr)
      go_roundw
      case rel => exact ⟨j + 1, by go_num, by omega, HUP.out.trans HE.out (fun _ _ h => h), by rw [HST.out, ← List.append_assoc, HOD.out]; exact HE2.out⟩
      case measure => simp [intOf]; omega
    · have hj2 : j = L := by omega
      have hall : l.take j = l := by rw [hj2, ← HL.out]; exact List.take_length
      have HALL := Lib.hid hall
      clear hup hwr hall
      go_wp2_with fail
      go_end0
      exact ⟨rfl, HUP.out, by rw [hW.out, ← List.append_assoc, HL.out]; have := HWR.out; rw [HALL.out] at this; exact this⟩

def LPg (p : Pg) : Prop := VPg p ∧ p.texts.length ≤ 900000 ∧ p.globals.length ≤ 900000 ∧ p.structs.length ≤ 900000 ∧ p.funcs.length ≤ 900000 ∧ (∀ x ∈ p.structs, x.length ≤ 900000) ∧ ∀ x ∈ p.funcs, LFn x

/-- Where a program's writing stands. -/
structure Ew (w : World) (b : Obj) (u : World) (out : Bytes) : Prop where
  up : Upd (fun _ => False) w u
  wr : Wr (w.heap.size + 3) (w.heap.size + 1) u out
  bx : u.heap[w.heap.size]? = some b
  cc : u.cell? ⟨w.heap.size + 1 + 1, 0, none⟩ = some (.pointer (some ⟨w.heap.size + 1, 0, none⟩))

theorem Ew.step {w u u' : World} {b : Obj} {out out' : Bytes} (h : Ew w b u out) (hu : Upd (QS (w.heap.size + 3) (w.heap.size + 1)) u u') (hw : Wr (w.heap.size + 3) (w.heap.size + 1) u' out') : Ew w b u' out' :=
  ⟨h.up.trans hu (fun k hk hq => by unfold QS at hq; omega), hw, (hu.block _ (Array.getElem?_eq_some_iff.1 h.bx).1 (fun hq => by unfold QS at hq; omega)).trans h.bx, hu.cell h.cc (fun hq => by unfold QS at hq; simp only at hq; omega)⟩

theorem Ew.start (w : World) (b : Obj) : Ew w b (((w.alloc b).alloc (.cells #[.slice none 0 0] 63 (0, 0))).alloc (.cells #[.pointer (some ⟨w.heap.size + 1, 0, none⟩)] 61 (0, 0))) [] := by
  have h1 := heap_alloc_new w b
  have h2 := heap_alloc_new (w.alloc b) (.cells #[.slice none 0 0] 63 (0, 0))
  have h3 := heap_alloc_new ((w.alloc b).alloc (.cells #[.slice none 0 0] 63 (0, 0))) (.cells #[.pointer (some ⟨w.heap.size + 1, 0, none⟩)] 61 (0, 0))
  rw [World.size_alloc] at h2
  rw [World.size_alloc, World.size_alloc] at h3
  refine ⟨((Upd.alloc (fun _ => False) w _).trans (Upd.alloc (fun _ => False) _ _) (fun _ _ h => h)).trans (Upd.alloc (fun _ => False) _ _) (fun _ _ h => h), ⟨⟨.slice none 0 0, ?_, World.ownsRow_nil _ _ _ _, by simp [Value.ownBlock], ⟨_, _, _, rfl⟩⟩, by simp, by simp only [World.size_alloc]; omega⟩, ?_, by unfold World.cell?; rw [h3]; rfl⟩
  · rw [Below.heap_alloc _ _ _ (by simp only [World.size_alloc]; omega)]
    exact h2
  · rw [Below.heap_alloc _ _ _ (by simp only [World.size_alloc]; omega), Below.heap_alloc _ _ _ (by simp only [World.size_alloc]; omega)]
    exact h1

/-- What the writer's row reads as. -/
theorem Wr.src {B Q : Nat} {w : World} {out : Bytes} (h : Wr B Q w out) (hne : out ≠ []) : ∃ g c, w.cell? ⟨Q, 0, none⟩ = some (.slice (some ⟨g, 0, none⟩) out.length c) ∧ Src w g (.slice (some ⟨g, 0, none⟩) out.length c) out ∧ B ≤ g ∧ g < w.heap.size := by
  obtain ⟨⟨v, k1, k2, k3, k4⟩, _, _⟩ := h
  rcases k2.2 with ⟨_, hn⟩ | ⟨g, cap, cur, rfl, hb, hg, hc, hm, hs, ht⟩
  · exact absurd (List.length_eq_zero_iff.1 hn) hne
  · refine ⟨g, cap, by simp [World.cell?, k1], ⟨_, cap, rfl, hc, by unfold maxLen at hm; omega, .inr ⟨0, rfl, fun i hi => ?_⟩⟩, hb, (Array.getElem?_eq_some_iff.1 hg).1⟩
    have := k2.cells (g := g) rfl i (.int .u8 out[i].toNat) (by simp [List.getElem?_eq_getElem hi])
    rw [Addr.add_lit] at this
    simpa using this

set_option maxRecDepth 100000 in
set_option maxHeartbeats 3200000 in
theorem encode_any (p : Pg) (ta ga sa fa : Option Addr) (tc gc sc fc : Nat) (S : Nat → Prop) (w : World) (hp : LPg p) (hfew : (wpg p).length ≤ 900000)
    (hrt : RowV DStr 1 w S (.slice ta p.texts.length tc) p.texts) (hrg : RowV DBool 1 w S (.slice ga p.globals.length gc) p.globals) (hrs : RowV DFlags 1 w S (.slice sa p.structs.length sc) p.structs) (hrf : RowV DFn 6 w S (.slice fa p.funcs.length fc) p.funcs)
    (hS : ∀ k, S k → k < w.heap.size) :
    Calls Tryd.prog 8 #[.agg #[.slice ta p.texts.length tc, .slice ga p.globals.length gc, .slice sa p.structs.length sc, .slice fa p.funcs.length fc, .int .i64 p.main]] w fun e w' =>
      ∃ g c, e = .returned (.slice (some ⟨g, 0, none⟩) (wpg p).length c) ∧ Upd (fun _ => False) w w' ∧ Src w' g (.slice (some ⟨g, 0, none⟩) (wpg p).length c) (wpg p) ∧ w.heap.size ≤ g ∧ g < w'.heap.size := by
  obtain ⟨⟨v1, v2, v3, v4, v5⟩, l1, l2, l3, l4, l5, l6⟩ := hp
  have hw : (wpg p).length = (weach wtext p.texts).length + (wflags p.globals).length + (weach wflags p.structs).length + (weach wfn p.funcs).length + (wnum p.main).length := by
    simp only [wpg, List.length_append]
  have HPOS : Hid (wpg p ≠ []) := by
    intro h0
    rw [h0] at hw
    have := wnum_pos p.main
    simp at hw
    omega
  rw [hw] at hfew
  have HE0 := Lib.hid (Ew.start w (Obj.cells #[.slice ta p.texts.length tc, .slice ga p.globals.length gc, .slice sa p.structs.length sc, .slice fa p.funcs.length fc, .int .i64 p.main] 29 (0, 0)))
  have HRT := Lib.hid hrt
  have HRG := Lib.hid hrg
  have HRS := Lib.hid hrs
  have HRF := Lib.hid hrf
  have hS2 : ∀ k, S k → k ≠ w.heap.size + 1 ∧ k < w.heap.size + 3 := fun k hk => by have := hS k hk; omega
  have HS2 := Lib.hid hS2
  have c1 := each_text (w.heap.size + 3) (w.heap.size + 1) p.texts ta tc S [] _ HE0.out.wr l1 (by simp only [List.length_nil]; omega) (by omega) v1.2 (hrt.upd stStr HE0.out.up (fun _ _ _ h => h)) hS2
  rw [List.nil_append] at c1
  clear hrt hrg hrs hrf hS2 hw
  go_enter Tryd.func8, Tryd.ntmps8
  go_wp2_with fail
  with_reducible refine c1.mono ?_
  rintro e u1 ⟨rfl, hu, hwr⟩
  have HE1 := Lib.hid (HE0.out.step hu hwr)
  obtain ⟨q0, q1, q2, q3, q4, f0, f1, f2, f3, f4⟩ := five HE1.out.bx
  have hcc := HE1.out.cc
  clear hu hwr c1
  go_wp2_with fail
  have c2 := wflags_any (w.heap.size + 3) (w.heap.size + 1) p.globals ga gc (weach wtext p.texts) _ HE1.out.wr l2 (by omega) (by omega) (flags_view (HRG.out.upd stBool HE1.out.up (fun _ _ _ h => h)) HS2.out)
  with_reducible refine c2.mono ?_
  rintro e u2 ⟨rfl, hu, hwr, _⟩
  have HE2 := Lib.hid (HE1.out.step hu hwr)
  obtain ⟨q0, q1, q2, q3, q4, f0, f1, f2, f3, f4⟩ := five HE2.out.bx
  have hcc := HE2.out.cc
  clear hu hwr c2
  go_wp2_with fail
  have c3 := each_flags (w.heap.size + 3) (w.heap.size + 1) p.structs sa sc S (weach wtext p.texts ++ wflags p.globals) _ HE2.out.wr l3 (by rw [List.length_append]; omega) (by omega) l5 (HRS.out.upd stFlags HE2.out.up (fun _ _ _ h => h)) HS2.out
  with_reducible refine c3.mono ?_
  rintro e u3 ⟨rfl, hu, hwr⟩
  have HE3 := Lib.hid (HE2.out.step hu hwr)
  obtain ⟨q0, q1, q2, q3, q4, f0, f1, f2, f3, f4⟩ := five HE3.out.bx
  have hcc := HE3.out.cc
  clear hu hwr c3
  go_wp2_with fail
  have c4 := each_fn (w.heap.size + 3) (w.heap.size + 1) p.funcs fa fc S (weach wtext p.texts ++ wflags p.globals ++ weach wflags p.structs) _ HE3.out.wr l4 (by rw [List.length_append, List.length_append]; omega) (by omega) l6 (HRF.out.upd stFn HE3.out.up (fun _ _ _ h => h)) HS2.out (w.heap.size + 1 + 1) HE3.out.cc (by omega) (by omega)
  with_reducible refine c4.mono ?_
  rintro e u4 ⟨rfl, hu, hwr⟩
  have HE4 := Lib.hid (HE3.out.step hu hwr)
  obtain ⟨q0, q1, q2, q3, q4, f0, f1, f2, f3, f4⟩ := five HE4.out.bx
  have hcc := HE4.out.cc
  clear hu hwr c4
  go_wp2_with fail
  have c5 := wnum_any (w.heap.size + 3) (w.heap.size + 1) p.main v5 (weach wtext p.texts ++ wflags p.globals ++ weach wflags p.structs ++ weach wfn p.funcs) _ HE4.out.wr (by rw [List.length_append, List.length_append, List.length_append]; omega) (by omega)
  with_reducible refine c5.mono ?_
  rintro e u5 ⟨rfl, hu, hwr, _⟩
  have HE5 := Lib.hid (HE4.out.step hu hwr)
  obtain ⟨q0, q1, q2, q3, q4, f0, f1, f2, f3, f4⟩ := five HE5.out.bx
  have hcc := HE5.out.cc
  clear hu hwr c5
  have hwf := HE5.out.wr
  rw [show weach wtext p.texts ++ wflags p.globals ++ weach wflags p.structs ++ weach wfn p.funcs ++ wnum p.main = wpg p from rfl] at hwf
  obtain ⟨g, c, hg1, hg2, hg3, hg4⟩ := hwf.src HPOS.out
  have HG2 := Lib.hid hg2
  clear hg2 hwf
  go_wp2_with fail
  go_ret
  first | exact ⟨g, c, rfl, HE5.out.up, HG2.out, by omega, hg4⟩ | exact ⟨g, ⟨c, rfl, HE5.out.up, HG2.out, by omega, hg4⟩⟩

end Go.Proofs.YtdflfcgdfbihfaaDoor
