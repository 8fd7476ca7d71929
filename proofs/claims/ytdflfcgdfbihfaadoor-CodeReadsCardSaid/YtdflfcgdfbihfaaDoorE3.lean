import Derived.Test.YtdflfcgdfbihfaaDoorE2
namespace Go.Proofs.YtdflfcgdfbihfaaDoor
open Go.RowKit CodeText

set_option maxRecDepth 100000 in
set_option maxHeartbeats 1600000 in
theorem same_eq (p : Pg) (ta ga sa fa ta' ga' sa' fa' : Option Addr) (tc gc sc fc tc' gc' sc' fc' : Nat) (S S' : Nat → Prop) (w : World) (hp : LPg p)
    (h1 : RowV DStr 1 w S (.slice ta p.texts.length tc) p.texts) (h2 : RowV DBool 1 w S (.slice ga p.globals.length gc) p.globals) (h3 : RowV DFlags 1 w S (.slice sa p.structs.length sc) p.structs) (h4 : RowV DFn 6 w S (.slice fa p.funcs.length fc) p.funcs)
    (h1' : RowV DStr 1 w S' (.slice ta' p.texts.length tc') p.texts) (h2' : RowV DBool 1 w S' (.slice ga' p.globals.length gc') p.globals) (h3' : RowV DFlags 1 w S' (.slice sa' p.structs.length sc') p.structs) (h4' : RowV DFn 6 w S' (.slice fa' p.funcs.length fc') p.funcs) :
    Calls Tryd.prog 6 #[.agg #[.slice ta p.texts.length tc, .slice ga p.globals.length gc, .slice sa p.structs.length sc, .slice fa p.funcs.length fc, .int .i64 p.main], .agg #[.slice ta' p.texts.length tc', .slice ga' p.globals.length gc', .slice sa' p.structs.length sc', .slice fa' p.funcs.length fc', .int .i64 p.main]] w fun e w' => e = .returned (.bool true) ∧ Upd (fun _ => False) w w' := by
  obtain ⟨⟨v1, v2, v3, v4, v5⟩, l1, l2, l3, l4, l5, l6⟩ := hp
  obtain ⟨W, hW⟩ : ∃ W, (w.alloc (.cells #[.slice ta p.texts.length tc, .slice ga p.globals.length gc, .slice sa p.structs.length sc, .slice fa p.funcs.length fc, .int .i64 p.main] 29 (0, 0))).alloc (.cells #[.slice ta' p.texts.length tc', .slice ga' p.globals.length gc', .slice sa' p.structs.length sc', .slice fa' p.funcs.length fc', .int .i64 p.main] 29 (0, 0)) = W := ⟨_, rfl⟩
  have hU : Upd (fun _ => False) w W := by rw [← hW]; exact (Upd.alloc (fun _ => False) w _).trans (Upd.alloc (fun _ => False) _ _) (fun _ _ h => h)
  have hb0 : W.heap[w.heap.size]? = some (.cells #[.slice ta p.texts.length tc, .slice ga p.globals.length gc, .slice sa p.structs.length sc, .slice fa p.funcs.length fc, .int .i64 p.main] 29 (0, 0)) := by
    rw [← hW, Below.heap_alloc _ _ _ (by simp only [World.size_alloc]; omega)]
    exact heap_alloc_new _ _
  have hb1 : W.heap[w.heap.size + 1]? = some (.cells #[.slice ta' p.texts.length tc', .slice ga' p.globals.length gc', .slice sa' p.structs.length sc', .slice fa' p.funcs.length fc', .int .i64 p.main] 29 (0, 0)) := by
    have := heap_alloc_new (w.alloc (.cells #[.slice ta p.texts.length tc, .slice ga p.globals.length gc, .slice sa p.structs.length sc, .slice fa p.funcs.length fc, .int .i64 p.main] 29 (0, 0))) (.cells #[.slice ta' p.texts.length tc', .slice ga' p.globals.length gc', .slice sa' p.structs.length sc', .slice fa' p.funcs.length fc', .int .i64 p.main] 29 (0, 0))
    rw [World.size_alloc] at this
    rw [← hW]; exact this
  have H1 := Lib.hid (h1.upd stStr hU (fun _ _ _ h => h))
  have H2 := Lib.hid (h2.upd stBool hU (fun _ _ _ h => h))
  have H3 := Lib.hid (h3.upd stFlags hU (fun _ _ _ h => h))
  have H4 := Lib.hid (h4.upd stFn hU (fun _ _ _ h => h))
  have H1' := Lib.hid (h1'.upd stStr hU (fun _ _ _ h => h))
  have H2' := Lib.hid (h2'.upd stBool hU (fun _ _ _ h => h))
  have H3' := Lib.hid (h3'.upd stFlags hU (fun _ _ _ h => h))
  have H4' := Lib.hid (h4'.upd stFn hU (fun _ _ _ h => h))
  have HU := Lib.hid hU
  have HB0 := Lib.hid hb0
  have HB1 := Lib.hid hb1
  have V1 := Lib.hid v1
  have V3 := Lib.hid l5
  have V4 := Lib.hid l6
  have cG := flags_eq p.globals ga ga' gc gc' S S' W l2 H2.out H2'.out
  obtain ⟨a0, a1, a2, a3, a4, a5, a6, a7, a8, a9⟩ := five hb0
  obtain ⟨b0, b1, b2, b3, b4, b5, b6, b7, b8, b9⟩ := five hb1
  clear h1 h2 h3 h4 h1' h2' h3' h4' hU hb0 hb1 v1 v2 v3 v4 v5 l5 l6
  go_enter Tryd.func6, Tryd.ntmps6
  go_wp2_with (with_reducible refine cG.mono ?_; rintro e w1 ⟨rfl, rfl⟩)
  go_loopw [58] (fun i wr => ∃ j : Nat, i = .int .i64 j ∧ j ≤ p.texts.length ∧ wr = w1) (fun i _ => p.texts.length - (intOf i).toNat)
  case atStart => exact ⟨0, rfl, Nat.zero_le _, by trivial⟩
  case round =>
    obtain ⟨j, rfl, hj, hwr⟩ := hrel
    have hwr2 := hwr.symm; clear hwr; subst hwr2
    by_cases hlt : j < p.texts.length
    · obtain ⟨g, vs, rfl, _, hvc, hD⟩ := RowV.dest H1.out j hlt
      obtain ⟨g', vs', rfl, _, hvc', hD'⟩ := RowV.dest H1'.out j hlt
      obtain ⟨x, hx⟩ : ∃ x, p.texts[j]'hlt = x := ⟨_, rfl⟩
      rw [hx] at hD hD'
      obtain rfl := hD.dest
      obtain rfl := hD'.dest
      have c1 := hvc 0 _ rfl
      have c2 := hvc' 0 _ rfl
      rw [Nat.mul_one, Nat.add_zero] at c1 c2
      clear hx hvc hvc' hD hD'
      go_wp2
      go_roundw
      case rel => exact ⟨j + 1, by go_num, by omega, by trivial⟩
      case measure => simp [intOf]; omega
    · clear hj
      go_wp2
      go_loopw [74] (fun i wr => ∃ j : Nat, i = .int .i64 j ∧ j ≤ p.structs.length ∧ wr = w1) (fun i _ => p.structs.length - (intOf i).toNat)
      case atStart => exact ⟨0, rfl, Nat.zero_le _, by trivial⟩
      case round =>
        obtain ⟨j, rfl, hj, hwr⟩ := hrel
        have hwr2 := hwr.symm; clear hwr; subst hwr2
        by_cases hlt : j < p.structs.length
        · obtain ⟨g, vs, rfl, _, hvc, hD⟩ := RowV.dest H3.out j hlt
          obtain ⟨g', vs', rfl, _, hvc', hD'⟩ := RowV.dest H3'.out j hlt
          obtain ⟨x, hx⟩ : ∃ x, p.structs[j]'hlt = x := ⟨_, rfl⟩
          have hxl : x.length ≤ 900000 := by rw [← hx]; exact V3.out _ (List.getElem_mem hlt)
          rw [hx] at hD hD'
          obtain ⟨la, lc, rfl, hr⟩ := hD.dest
          obtain ⟨la', lc', rfl, hr'⟩ := hD'.dest
          have c1 := hvc 0 _ rfl
          have c2 := hvc' 0 _ rfl
          rw [Nat.mul_one, Nat.add_zero] at c1 c2
          have cF := flags_eq x la la' lc lc' S S' w1 hxl hr hr'
          clear hx hvc hvc' hD hD' hr hr'
          go_wp2_with (with_reducible refine cF.mono ?_; rintro e w2 ⟨rfl, hw2⟩; have hw3 := hw2.symm; clear hw2; subst hw3)
          go_roundw
          case rel => exact ⟨j + 1, by go_num, by omega, by trivial⟩
          case measure => simp [intOf]; omega
        · clear hj
          go_wp2
          go_loopw [91] (fun i wr => ∃ j : Nat, i = .int .i64 j ∧ j ≤ p.funcs.length ∧ Upd (fun _ => False) w1 wr) (fun i _ => p.funcs.length - (intOf i).toNat)
          case atStart => exact ⟨0, rfl, Nat.zero_le _, Upd.refl _ _⟩
          case round =>
            obtain ⟨j, rfl, hj, hup⟩ := hrel
            have HUP := Lib.hid hup
            have hb0 := hup.cell a3 (fun h => h)
            have hb1 := hup.cell b3 (fun h => h)
            by_cases hlt : j < p.funcs.length
            · obtain ⟨g, vs, rfl, _, hvc, hD⟩ := RowV.dest (H4.out.upd stFn hup (fun _ _ _ h => h)) j hlt
              obtain ⟨g', vs', rfl, _, hvc', hD'⟩ := RowV.dest (H4'.out.upd stFn hup (fun _ _ _ h => h)) j hlt
              obtain ⟨x, hx⟩ : ∃ x, p.funcs[j]'hlt = x := ⟨_, rfl⟩
              have hVx : LFn x := by rw [← hx]; exact V4.out _ (List.getElem_mem hlt)
              rw [hx] at hD hD'
              obtain ⟨ra, rc, ka, kc, rfl, hrx, hrk⟩ := hD.dest
              obtain ⟨ra', rc', ka', kc', rfl, hrx', hrk'⟩ := hD'.dest
              obtain ⟨W2, hW2⟩ : ∃ W2, wr.alloc (.cells #[.string ⟨x.name.toArray⟩, .slice ra x.refs.length rc, .int .i64 x.params, .int .i64 x.captures, .bool x.result, .slice ka x.code.length kc] 35 (0, 0)) = W2 := ⟨_, rfl⟩
              obtain ⟨W3, hW3⟩ : ∃ W3, W2.alloc (.cells #[.string ⟨x.name.toArray⟩, .slice ra' x.refs.length rc', .int .i64 x.params, .int .i64 x.captures, .bool x.result, .slice ka' x.code.length kc'] 35 (0, 0)) = W3 := ⟨_, rfl⟩
              have hU2 : Upd (fun _ => False) wr W2 := by rw [← hW2]; exact Upd.alloc _ _ _
              have hU3 : Upd (fun _ => False) W2 W3 := by rw [← hW3]; exact Upd.alloc _ _ _
              have hs2 : W2.heap.size = wr.heap.size + 1 := by rw [← hW2, World.size_alloc]
              have hB2 : W3.heap[wr.heap.size]? = some (.cells #[.string ⟨x.name.toArray⟩, .slice ra x.refs.length rc, .int .i64 x.params, .int .i64 x.captures, .bool x.result, .slice ka x.code.length kc] 35 (0, 0)) := by
                rw [← hW3, Below.heap_alloc _ _ _ (by omega), ← hW2]
                exact heap_alloc_new _ _
              have hB3 : W3.heap[wr.heap.size + 1]? = some (.cells #[.string ⟨x.name.toArray⟩, .slice ra' x.refs.length rc', .int .i64 x.params, .int .i64 x.captures, .bool x.result, .slice ka' x.code.length kc'] 35 (0, 0)) := by
                rw [← hW3, ← hs2]
                exact heap_alloc_new _ _
              obtain ⟨c0, c1, c2, c3, c4, c5⟩ : (_ ∧ _ ∧ _ ∧ _ ∧ _ ∧ _) := ⟨hvc 0 _ rfl, hvc 1 _ rfl, hvc 2 _ rfl, hvc 3 _ rfl, hvc 4 _ rfl, hvc 5 _ rfl⟩
              obtain ⟨d0, d1, d2, d3, d4, d5⟩ : (_ ∧ _ ∧ _ ∧ _ ∧ _ ∧ _) := ⟨hU2.cell (hvc' 0 _ rfl) (fun h => h), hU2.cell (hvc' 1 _ rfl) (fun h => h), hU2.cell (hvc' 2 _ rfl) (fun h => h), hU2.cell (hvc' 3 _ rfl) (fun h => h), hU2.cell (hvc' 4 _ rfl) (fun h => h), hU2.cell (hvc' 5 _ rfl) (fun h => h)⟩
              rw [Nat.add_zero] at c0 d0
              have hb2 := hU2.cell hb1 (fun h => h)
              obtain ⟨e0, e1, e2, e3, e4, e5, _, _, _, _, _, _⟩ := six hB2
              obtain ⟨f0, f1, f2, f3, f4, f5, _, _, _, _, _, _⟩ := six hB3
              have HU3 := Lib.hid (hU2.trans hU3 (fun _ _ h => h))
              have HK := Lib.hid (hrk.upd stIns HU3.out (fun _ _ _ h => h))
              have HK' := Lib.hid (hrk'.upd stIns HU3.out (fun _ _ _ h => h))
              have cR := flags_eq x.refs ra ra' rc rc' S S' W3 hVx.2.1 (hrx.upd stBool HU3.out (fun _ _ _ h => h)) (hrx'.upd stBool HU3.out (fun _ _ _ h => h))
              have HVX := Lib.hid hVx.2.2.2
              have hcl := hVx.2.2.1
              have HE5 := Lib.hid f5
              clear hx hvc hvc' hD hD' hup hU2 hU3 hB2 hB3 hrx hrx' hrk hrk' hVx
              go_wp2_with (with_reducible refine cR.mono ?_; rintro e w2 ⟨rfl, hw2⟩; have hw3 := hw2.symm; clear hw2; subst hw3)
              clear hb0 hb1 hb2 c0 c1 c2 c3 c4 c5 d0 d1 d2 d3 d4 d5 e0 e1 e2 e3 e4 e5 f0 f1 f2 f3 f4 f5 cR hW2 hW3
              go_loopw [147] (fun i wq => ∃ k : Nat, i = .int .i64 k ∧ k ≤ x.code.length ∧ Upd (fun _ => False) W3 wq) (fun i _ => x.code.length - (intOf i).toNat)
              case atStart => exact ⟨0, rfl, Nat.zero_le _, Upd.refl _ _⟩
              case round =>
                obtain ⟨k, rfl, hk, huq⟩ := hrel
                have HUQ := Lib.hid huq
                by_cases hkl : k < x.code.length
                · obtain ⟨h, vs, rfl, _, hvc, hD⟩ := RowV.dest (HK.out.upd stIns huq (fun _ _ _ h => h)) k hkl
                  obtain ⟨h', vs', rfl, _, hvc', hD'⟩ := RowV.dest (HK'.out.upd stIns huq (fun _ _ _ h => h)) k hkl
                  have hf5 := huq.cell HE5.out (fun h => h)
                  obtain ⟨y, hy⟩ : ∃ y, x.code[k]'hkl = y := ⟨_, rfl⟩
                  have hVy : y.list.length ≤ 900000 := by rw [← hy]; exact HVX.out _ (List.getElem_mem hkl)
                  rw [hy] at hD hD'
                  obtain ⟨la, lc, rfl, hr⟩ := hD.dest
                  obtain ⟨la', lc', rfl, hr'⟩ := hD'.dest
                  obtain ⟨W4, hW4⟩ : ∃ W4, wr.alloc (.cells #[.int .i64 y.op, .int .i64 y.a, .int .i64 y.b, .int .i64 y.c, .int .i64 y.d, .slice la y.list.length lc] 54 (0, 0)) = W4 := ⟨_, rfl⟩
                  obtain ⟨W5, hW5⟩ : ∃ W5, W4.alloc (.cells #[.int .i64 y.op, .int .i64 y.a, .int .i64 y.b, .int .i64 y.c, .int .i64 y.d, .slice la' y.list.length lc'] 54 (0, 0)) = W5 := ⟨_, rfl⟩
                  have hU4 : Upd (fun _ => False) wr W4 := by rw [← hW4]; exact Upd.alloc _ _ _
                  have hU5 : Upd (fun _ => False) W4 W5 := by rw [← hW5]; exact Upd.alloc _ _ _
                  have hs4 : W4.heap.size = wr.heap.size + 1 := by rw [← hW4, World.size_alloc]
                  have hB4 : W5.heap[wr.heap.size]? = some (.cells #[.int .i64 y.op, .int .i64 y.a, .int .i64 y.b, .int .i64 y.c, .int .i64 y.d, .slice la y.list.length lc] 54 (0, 0)) := by
                    rw [← hW5, Below.heap_alloc _ _ _ (by omega), ← hW4]
                    exact heap_alloc_new _ _
                  have hB5 : W5.heap[wr.heap.size + 1]? = some (.cells #[.int .i64 y.op, .int .i64 y.a, .int .i64 y.b, .int .i64 y.c, .int .i64 y.d, .slice la' y.list.length lc'] 54 (0, 0)) := by
                    rw [← hW5, ← hs4]
                    exact heap_alloc_new _ _
                  obtain ⟨c0, c1, c2, c3, c4, c5⟩ : (_ ∧ _ ∧ _ ∧ _ ∧ _ ∧ _) := ⟨hvc 0 _ rfl, hvc 1 _ rfl, hvc 2 _ rfl, hvc 3 _ rfl, hvc 4 _ rfl, hvc 5 _ rfl⟩
                  obtain ⟨d0, d1, d2, d3, d4, d5⟩ : (_ ∧ _ ∧ _ ∧ _ ∧ _ ∧ _) := ⟨hU4.cell (hvc' 0 _ rfl) (fun h => h), hU4.cell (hvc' 1 _ rfl) (fun h => h), hU4.cell (hvc' 2 _ rfl) (fun h => h), hU4.cell (hvc' 3 _ rfl) (fun h => h), hU4.cell (hvc' 4 _ rfl) (fun h => h), hU4.cell (hvc' 5 _ rfl) (fun h => h)⟩
                  rw [Nat.add_zero] at c0 d0
                  have hb2 := hU4.cell hf5 (fun h => h)
                  obtain ⟨e0, e1, e2, e3, e4, e5, _, _, _, _, _, _⟩ := six hB4
                  obtain ⟨f0, f1, f2, f3, f4, f5, _, _, _, _, _, _⟩ := six hB5
                  have HU5 := Lib.hid (hU4.trans hU5 (fun _ _ h => h))
                  have cI := ints_eq y.list la la' lc lc' S S' W5 hVy (hr.upd stInt HU5.out (fun _ _ _ h => h)) (hr'.upd stInt HU5.out (fun _ _ _ h => h))
                  clear hy hvc hvc' hD hD' huq hU4 hU5 hB4 hB5 hr hr'
                  go_wp2_with (with_reducible refine cI.mono ?_; rintro e w2 ⟨rfl, hw2⟩; have hw3 := hw2.symm; clear hw2; subst hw3)
                  go_roundw
                  case rel => exact ⟨k + 1, by go_num, by omega, HUQ.out.trans HU5.out (fun _ _ h => h)⟩
                  case measure => simp [intOf]; omega
                · clear huq
                  go_wp2
                  go_roundw
                  case rel => exact ⟨j + 1, by go_num, by omega, (HUP.out.trans HU3.out (fun _ _ h => h)).trans HUQ.out (fun _ _ h => h)⟩
                  case measure => simp [intOf]; omega
            · clear hup
              go_wp2
              go_ret
              exact ⟨rfl, HU.out.trans HUP.out (fun _ _ h => h)⟩

end Go.Proofs.YtdflfcgdfbihfaaDoor
