import Derived.Test.YtdflfcgdfbihfaaDoorD6
namespace Go.Proofs.YtdflfcgdfbihfaaDoor
open Go.RowKit CodeText

/-- Where a function's writing stands. -/
structure Fw (B Q C : Nat) (w : World) (b : Obj) (u : World) (out : Bytes) : Prop where
  up : Upd (QS B Q) w u
  wr : Wr B Q u out
  bx : u.heap[w.heap.size]? = some b
  cc : u.cell? ⟨C, 0, none⟩ = some (.pointer (some ⟨Q, 0, none⟩))

theorem Fw.step {B Q C : Nat} {w u u' : World} {a : Array Value} {ty : TypeId} {out out' : Bytes} (h : Fw B Q C w (.cells a ty (0, 0)) u out) (hu : Upd (QS B Q) u u') (hw : Wr B Q u' out') (hk : Keep5 Q u u') (ht : ty ≠ 5) (hQ : Q < w.heap.size) (hCQ : C ≠ Q) (hCB : C < B) : Fw B Q C w (.cells a ty (0, 0)) u' out' :=
  ⟨h.up.trans hu (fun _ _ h => h), hw, (hk _ (Array.getElem?_eq_some_iff.1 h.bx).1 (by omega) (fun cur e => by rw [h.bx] at e; injection e with e; injection e with _ e _; exact ht e)).trans h.bx, hu.cell h.cc (fun hq => by unfold QS at hq; simp only at hq; omega)⟩

set_option maxRecDepth 100000 in
set_option maxHeartbeats 3200000 in
theorem wfn_any (B Q C : Nat) (x : Fnc) (ra ka : Option Addr) (rc kc : Nat) (S : Nat → Prop) (out : Bytes) (w : World) (h : Wr B Q w out) (hfew : out.length + (wfn x).length ≤ 900000) (hQB : Q < B)
    (hV : VFn x) (hlr : x.refs.length ≤ 900000) (hlk : x.code.length ≤ 900000) (hli : ∀ i ∈ x.code, i.list.length ≤ 900000)
    (hrr : RowV DBool 1 w S (.slice ra x.refs.length rc) x.refs) (hrk : RowV DIns 6 w S (.slice ka x.code.length kc) x.code) (hS : ∀ k, S k → k ≠ Q ∧ k < B)
    (hC : w.cell? ⟨C, 0, none⟩ = some (.pointer (some ⟨Q, 0, none⟩))) (hCQ : C ≠ Q) (hCB : C < B) :
    Calls Tryd.prog 29 #[.agg #[.string ⟨x.name.toArray⟩, .slice ra x.refs.length rc, .int .i64 x.params, .int .i64 x.captures, .bool x.result, .slice ka x.code.length kc], .pointer (some ⟨C, 0, none⟩)] w fun e w' => e = .returned (.tuple #[]) ∧ Upd (QS B Q) w w' ∧ Wr B Q w' (out ++ wfn x) := by
  obtain ⟨v1, v2, v3, v4, v5⟩ := hV
  have hlo := h.lo
  have hQw : Q < w.heap.size := by obtain ⟨v, k1, _⟩ := h.at_; exact (Array.getElem?_eq_some_iff.1 k1).1
  have hw : (wfn x).length = (wtext x.name).length + (wflags x.refs).length + (wnum x.params).length + (wnum x.captures).length + (wflags [x.result]).length + (weach wins x.code).length := by
    simp only [wfn, List.length_append]
  rw [hw] at hfew
  have hF0 : Fw B Q C w (.cells #[.string ⟨x.name.toArray⟩, .slice ra x.refs.length rc, .int .i64 x.params, .int .i64 x.captures, .bool x.result, .slice ka x.code.length kc] 35 (0, 0)) (w.alloc (.cells #[.string ⟨x.name.toArray⟩, .slice ra x.refs.length rc, .int .i64 x.params, .int .i64 x.captures, .bool x.result, .slice ka x.code.length kc] 35 (0, 0))) out := ⟨Upd.alloc _ _ _, h.upd (Upd.alloc (fun _ => False) w _) (fun h => h) (fun _ _ _ h => h), heap_alloc_new w _, keep_cell hC _⟩
  have HF0 := Lib.hid hF0
  have HRR := Lib.hid hrr
  have HRK := Lib.hid hrk
  have hne := World.new_ne w _ hC
  have hC2 := keep_cell hC
  have c1 := wtext_any B Q ⟨x.name.toArray⟩ out _ hF0.wr (by show out.length + (wtext x.name).length ≤ _; omega) hQB
  have hsep : ∀ k, S k → ¬ QS B Q k := fun k hk hq => by have := hS k hk; unfold QS at hq; omega
  have HSEP := Lib.hid hsep
  clear h hrr hrk hw hF0 hsep
  go_enter Tryd.func29, Tryd.ntmps29
  go_wp2_with (with_reducible refine c1.mono ?_; rintro e u1 ⟨rfl, hu, hwr, hkp⟩; have HF1 := Lib.hid (HF0.out.step hu hwr hkp (by decide) hQw hCQ hCB); obtain ⟨q0, q1, q2, q3, q4, q5, f0, f1, f2, f3, f4, f5⟩ := six HF1.out.bx; have hcc := HF1.out.cc; clear hu hwr hkp)
  -- the registers
  have c2 := wflags_any B Q x.refs ra rc (out ++ wtext x.name) _ HF1.out.wr hlr (by rw [List.length_append]; omega) hQB (flags_view (HRR.out.upd stBool HF1.out.up (fun k hk _ => HSEP.out k hk)) hS)
  with_reducible refine c2.mono ?_
  rintro e u2 ⟨rfl, hu, hwr, hkp⟩
  have HF2 := Lib.hid (HF1.out.step hu hwr (hkp.five HF1.out.wr) (by decide) hQw hCQ hCB)
  obtain ⟨q0, q1, q2, q3, q4, q5, f0, f1, f2, f3, f4, f5⟩ := six HF2.out.bx
  have hcc := HF2.out.cc
  clear hu hwr hkp c2
  go_wp2_with fail
  -- how many params
  have c3 := wnum_any B Q x.params v3 (out ++ wtext x.name ++ wflags x.refs) _ HF2.out.wr (by rw [List.length_append, List.length_append]; omega) hQB
  with_reducible refine c3.mono ?_
  rintro e u3 ⟨rfl, hu, hwr, hkp⟩
  have HF3 := Lib.hid (HF2.out.step hu hwr (hkp.five HF2.out.wr) (by decide) hQw hCQ hCB)
  obtain ⟨q0, q1, q2, q3, q4, q5, f0, f1, f2, f3, f4, f5⟩ := six HF3.out.bx
  have hcc := HF3.out.cc
  clear hu hwr hkp c3
  go_wp2_with fail
  -- how many captures
  have c4 := wnum_any B Q x.captures v4 (out ++ wtext x.name ++ wflags x.refs ++ wnum x.params) _ HF3.out.wr (by rw [List.length_append, List.length_append, List.length_append]; omega) hQB
  with_reducible refine c4.mono ?_
  rintro e u4 ⟨rfl, hu, hwr, hkp⟩
  have HF4 := Lib.hid (HF3.out.step hu hwr (hkp.five HF3.out.wr) (by decide) hQw hCQ hCB)
  obtain ⟨q0, q1, q2, q3, q4, q5, f0, f1, f2, f3, f4, f5⟩ := six HF4.out.bx
  have hcc := HF4.out.cc
  clear hu hwr hkp c4
  go_wp2_with fail
  -- the result: a row of one flag, made for the call
  have hF5 : Fw B Q C w (.cells #[.string ⟨x.name.toArray⟩, .slice ra x.refs.length rc, .int .i64 x.params, .int .i64 x.captures, .bool x.result, .slice ka x.code.length kc] 35 (0, 0)) (u4.alloc (.cells #[.bool x.result] 4 (0, 0))) (out ++ wtext x.name ++ wflags x.refs ++ wnum x.params ++ wnum x.captures) :=
    HF4.out.step (Upd.alloc _ u4 _) (HF4.out.wr.upd (Upd.alloc (fun _ => False) u4 _) (fun h => h) (fun _ _ _ h => h)) (fun t ht _ _ => Below.heap_alloc _ _ _ ht) (by decide) hQw hCQ hCB
  have hQ4 : Q < u4.heap.size := Nat.lt_of_lt_of_le hQw HF4.out.up.size
  have hlo4 := HF4.out.wr.lo
  have htv : ∀ w', Upd (QS B Q) (u4.alloc (.cells #[.bool x.result] 4 (0, 0))) w' → Keep Q (u4.alloc (.cells #[.bool x.result] 4 (0, 0))) w' → ∀ i (h : i < [x.result].length), ∃ g, (some ⟨u4.heap.size, 0, none⟩ : Option Addr) = some ⟨g, 0, none⟩ ∧ w'.cell? ⟨g, i, none⟩ = some (.bool [x.result][i]) := by
    intro w' hu hk i hi
    have hi0 : i = 0 := by simpa using hi
    subst hi0
    refine ⟨_, rfl, ?_⟩
    have hn := heap_alloc_new u4 (.cells #[.bool x.result] 4 (0, 0))
    have := (hk.five hF5.wr) u4.heap.size (by simp) (by omega) (fun cur e => by rw [hn] at e; injection e with e; injection e with _ e _; cases e)
    rw [hn] at this
    simp [World.cell?, this]
  have c5 := wflags_any B Q [x.result] (some ⟨u4.heap.size, 0, none⟩) 1 (out ++ wtext x.name ++ wflags x.refs ++ wnum x.params ++ wnum x.captures) _ hF5.wr (by simp) (by rw [List.length_append, List.length_append, List.length_append, List.length_append]; omega) hQB htv
  rw [show [x.result].length = 1 from rfl] at c5
  with_reducible refine c5.mono ?_
  rintro e u5 ⟨rfl, hu, hwr, hkp⟩
  have HF6 := Lib.hid (hF5.step hu hwr (hkp.five hF5.wr) (by decide) hQw hCQ hCB)
  obtain ⟨q0, q1, q2, q3, q4, q5, f0, f1, f2, f3, f4, f5⟩ := six HF6.out.bx
  have hcc := HF6.out.cc
  clear hu hwr hkp c5 hF5 htv
  go_wp2_with fail
  -- the instructions
  have c6 := each_ins B Q x.code ka kc S (out ++ wtext x.name ++ wflags x.refs ++ wnum x.params ++ wnum x.captures ++ wflags [x.result]) _ HF6.out.wr hlk (by rw [List.length_append, List.length_append, List.length_append, List.length_append, List.length_append]; omega) hQB (fun i hi => ⟨v5.2 i hi, hli i hi⟩) (HRK.out.upd stIns HF6.out.up (fun k hk _ => HSEP.out k hk)) hS C HF6.out.cc hCQ hCB
  with_reducible refine c6.mono ?_
  rintro e u6 ⟨rfl, hu, hwr⟩
  have HU6 := Lib.hid (HF6.out.up.trans hu (fun _ _ h => h))
  have HW6 := Lib.hid hwr
  clear hu hwr c6
  go_wp2_with fail
  go_end0
  refine ⟨rfl, HU6.out, ?_⟩
  have := HW6.out
  simp only [wfn, List.append_assoc] at this ⊢
  exact this

end Go.Proofs.YtdflfcgdfbihfaaDoor
