import Derived.Test.YtdflfcgdfbihfaaDoorE5
namespace Go.Proofs.YtdflfcgdfbihfaaDoor
open Go.RowKit CodeText

def zeroPg : Pg := ⟨[], [], [], [], 0⟩
theorem zero_l : LPg zeroPg := ⟨⟨⟨by simp [zeroPg], by simp [zeroPg]⟩, ⟨by simp [zeroPg], by simp [zeroPg]⟩, ⟨by simp [zeroPg], by simp [zeroPg]⟩, ⟨by simp [zeroPg], by simp [zeroPg]⟩, by unfold Fits zeroPg; simp⟩, by simp [zeroPg], by simp [zeroPg], by simp [zeroPg], by simp [zeroPg], by simp [zeroPg], by simp [zeroPg]⟩

theorem same_zero (w : World) : Calls Tryd.prog 6 #[.agg #[.slice none 0 0, .slice none 0 0, .slice none 0 0, .slice none 0 0, .int .i64 0], .agg #[.slice none 0 0, .slice none 0 0, .slice none 0 0, .slice none 0 0, .int .i64 0]] w fun e w' => e = .returned (.bool true) ∧ Upd (fun _ => False) w w' :=
  same_eq zeroPg none none none none none none none none 0 0 0 0 0 0 0 0 (fun _ => False) (fun _ => False) w zero_l (RowV.nil _ _ _ _ _ _) (RowV.nil _ _ _ _ _ _) (RowV.nil _ _ _ _ _ _) (RowV.nil _ _ _ _ _ _) (RowV.nil _ _ _ _ _ _) (RowV.nil _ _ _ _ _ _) (RowV.nil _ _ _ _ _ _) (RowV.nil _ _ _ _ _ _)

set_option maxRecDepth 100000 in
set_option maxHeartbeats 1600000 in
theorem reads_any (E : Addr) (I : Nat) (b : Bytes) (r : Int) (n : Nat) (hn : b.length = n) (a0 : Option Addr) (c0 : Nat) (w : World) (hg : w.cell? ⟨0, 0, none⟩ = some (short E)) (hs : Src w I (.slice a0 n c0) b) (hI : I < w.heap.size) :
    Calls Tryd.prog 3 #[.slice a0 n c0, .int .i64 r] w fun e w' => e = .returned (.bool true) ∧ Upd (fun _ => False) w w' := by
  have cA := anchor_any E w hg
  have HS := Lib.hid hs
  have HG := Lib.hid hg
  have HI := Lib.hid hI
  clear hs hg hI
  by_cases hfew : n ≤ 20000
  · cases hd : CodeText.decode b with
    | none =>
      go_enter Tryd.func3, Tryd.ntmps3
      go_wp2_with (with_reducible refine cA.mono ?_; rintro e w1 ⟨rfl, hu1⟩; have HU1 := Lib.hid hu1; have hs1 := hu1.size; clear hu1)
      have cD := dec_none E I b n hn hd a0 c0 w1 (HS.out.upd HU1.out (fun h => h)) (HU1.out.cell HG.out (fun h => h)) (by omega) (by have := HI.out; omega)
      with_reducible refine cD.mono ?_
      rintro e w2 ⟨rfl, hu2⟩
      have HU2 := Lib.hid hu2
      have cZ := Lib.hid same_zero
      clear cD hu2
      go_wp2_with (with_reducible refine (cZ.out _).mono ?_; rintro e w3 ⟨rfl, hu3⟩; have HU3 := Lib.hid hu3; clear hu3)
      go_ret
      exact ⟨rfl, (HU1.out.trans HU2.out (fun _ _ h => h)).trans ((Upd.alloc _ _ _).trans HU3.out (fun _ _ h => h)) (fun _ _ h => h)⟩
    | some p =>
      have hdv := decode_v (by omega) hd
      obtain ⟨_, hlp, hback, hlen⟩ := hdv
      have HLP := Lib.hid hlp
      have hfl := hlp.2.2.2.2.1
      have HLF := Lib.hid hlp.2.2.2.2.2.2
      clear hlp
      go_enter Tryd.func3, Tryd.ntmps3
      go_wp2_with (with_reducible refine cA.mono ?_; rintro e w1 ⟨rfl, hu1⟩; have HU1 := Lib.hid hu1; have hs1 := hu1.size; clear hu1)
      have cD := dec_some E I b n hn p hd a0 c0 w1 (HS.out.upd HU1.out (fun h => h)) (HU1.out.cell HG.out (fun h => h)) (by omega) (by have := HI.out; omega)
      with_reducible refine cD.mono ?_
      rintro e w2 ⟨hu2, ta, tc, ga, gc, sa, sc, fa, fc, S, rfl, h1, h2, h3, h4, hS⟩
      obtain ⟨W3, hW3⟩ : ∃ W3, w2.alloc (.cells #[.slice ta p.texts.length tc, .slice ga p.globals.length gc, .slice sa p.structs.length sc, .slice fa p.funcs.length fc, .int .i64 p.main] 29 (0, 0)) = W3 := ⟨_, rfl⟩
      have hU3 : Upd (fun _ => False) w2 W3 := by rw [← hW3]; exact Upd.alloc _ _ _
      have hs3 : W3.heap.size = w2.heap.size + 1 := by rw [← hW3, World.size_alloc]
      have hbD : W3.heap[w2.heap.size]? = some (.cells #[.slice ta p.texts.length tc, .slice ga p.globals.length gc, .slice sa p.structs.length sc, .slice fa p.funcs.length fc, .int .i64 p.main] 29 (0, 0)) := by rw [← hW3]; exact heap_alloc_new _ _
      have HBD := Lib.hid hbD
      obtain ⟨d0, d1, d2, d3, d4, d5, d6, d7, d8, d9⟩ := five hbD
      have H1 := Lib.hid (h1.upd stStr hU3 (fun _ _ _ h => h))
      have H2 := Lib.hid (h2.upd stBool hU3 (fun _ _ _ h => h))
      have H3 := Lib.hid (h3.upd stFlags hU3 (fun _ _ _ h => h))
      have H4 := Lib.hid (h4.upd stFn hU3 (fun _ _ _ h => h))
      have HSS := Lib.hid hS
      have HU3 := Lib.hid ((HU1.out.trans hu2 (fun _ _ h => h)).trans hU3 (fun _ _ h => h))
      clear cD hu2 h1 h2 h3 h4 hS hbD hU3
      go_wp2
      clear hW3
      go_loopw [29] (fun i wr => ∃ j : Nat, i = .int .i64 j ∧ j ≤ p.funcs.length ∧ Upd (fun _ => False) W3 wr) (fun i _ => p.funcs.length - (intOf i).toNat)
      case atStart => exact ⟨0, rfl, Nat.zero_le _, Upd.refl _ _⟩
      case round =>
        obtain ⟨j, rfl, hj, hup⟩ := hrel
        have HUP := Lib.hid hup
        by_cases hlt : j < p.funcs.length
        · obtain ⟨g, vs, rfl, _, hvc, hD⟩ := RowV.dest (H4.out.upd stFn hup (fun _ _ _ h => h)) j hlt
          obtain ⟨x, hx⟩ : ∃ x, p.funcs[j]'hlt = x := ⟨_, rfl⟩
          have hVx : LFn x := by rw [← hx]; exact HLF.out _ (List.getElem_mem hlt)
          rw [hx] at hD
          obtain ⟨ra, rc, ka, kc, rfl, hrx, hrk⟩ := hD.dest
          obtain ⟨W4, hW4⟩ : ∃ W4, wr.alloc (.cells #[.string ⟨x.name.toArray⟩, .slice ra x.refs.length rc, .int .i64 x.params, .int .i64 x.captures, .bool x.result, .slice ka x.code.length kc] 35 (0, 0)) = W4 := ⟨_, rfl⟩
          have hU4 : Upd (fun _ => False) wr W4 := by rw [← hW4]; exact Upd.alloc _ _ _
          have hB4 : W4.heap[wr.heap.size]? = some (.cells #[.string ⟨x.name.toArray⟩, .slice ra x.refs.length rc, .int .i64 x.params, .int .i64 x.captures, .bool x.result, .slice ka x.code.length kc] 35 (0, 0)) := by rw [← hW4]; exact heap_alloc_new _ _
          obtain ⟨c0, c1, c2, c3, c4, c5⟩ : (_ ∧ _ ∧ _ ∧ _ ∧ _ ∧ _) := ⟨hvc 0 _ rfl, hvc 1 _ rfl, hvc 2 _ rfl, hvc 3 _ rfl, hvc 4 _ rfl, hvc 5 _ rfl⟩
          rw [Nat.add_zero] at c0
          obtain ⟨e0, e1, e2, e3, e4, e5, _, _, _, _, _, _⟩ := six hB4
          have hrx4 := hrx.upd stBool hU4 (fun _ _ _ h => h)
          have cR := reference_any x.refs r ra ka rc x.code.length kc x.name x.params x.captures x.result S W4 hVx.2.1 hrx4 (fun k hk => by have h1 := HSS.out k hk; have h2 := hup.size; have h3 := hU4.size; omega)
          have hrl := hVx.2.1
          have HRX := Lib.hid hrx4
          have HU4 := Lib.hid hU4
          clear hx hvc hD hup hU4 hB4 hrx hrk hrx4 hVx
          by_cases hr : 0 ≤ r
          · by_cases hr2 : r < (x.refs.length : Int)
            · obtain ⟨k, rfl⟩ : ∃ k : Nat, r = (k : Int) := ⟨r.toNat, by omega⟩
              have hk : k < x.refs.length := by omega
              obtain ⟨g', rfl, hcell⟩ := row_bool HRX.out (Upd.refl _ _) k hk
              obtain ⟨y, hy⟩ : ∃ y, x.refs[k]'hk = y := ⟨_, rfl⟩
              rw [hy] at hcell
              rw [show refOf x.refs (k : Int) = y by unfold refOf; rw [if_pos hr, Int.toNat_natCast, List.getD_eq_getElem?_getD, List.getElem?_eq_getElem hk, hy]; rfl] at cR
              clear hy
              go_wp2_with (with_reducible refine cR.mono ?_; rintro e w5 ⟨rfl, hu5⟩; have HU5 := Lib.hid hu5; have g1 := hu5.cell e1 (fun h => h); have hc5 := hu5.cell hcell (fun h => h); clear hu5)
              go_roundw
              case rel => exact ⟨j + 1, by go_num, by omega, (HUP.out.trans HU4.out (fun _ _ h => h)).trans HU5.out (fun _ _ h => h)⟩
              case measure => simp [intOf]; omega
            · rw [show refOf x.refs r = false by unfold refOf; rw [if_pos hr, List.getD_eq_getElem?_getD, List.getElem?_eq_none (by omega)]; rfl] at cR
              go_wp2_with (with_reducible refine cR.mono ?_; rintro e w5 ⟨rfl, hu5⟩; have HU5 := Lib.hid hu5; have g1 := hu5.cell e1 (fun h => h);  clear hu5)
              go_roundw
              case rel => exact ⟨j + 1, by go_num, by omega, (HUP.out.trans HU4.out (fun _ _ h => h)).trans HU5.out (fun _ _ h => h)⟩
              case measure => simp [intOf]; omega
          · rw [show refOf x.refs r = false by unfold refOf; rw [if_neg hr]] at cR
            go_wp2_with (with_reducible refine cR.mono ?_; rintro e w5 ⟨rfl, hu5⟩; have HU5 := Lib.hid hu5; have g1 := hu5.cell e1 (fun h => h);  clear hu5)
            go_roundw
            case rel => exact ⟨j + 1, by go_num, by omega, (HUP.out.trans HU4.out (fun _ _ h => h)).trans HU5.out (fun _ _ h => h)⟩
            case measure => simp [intOf]; omega
        · have hb0 := hup.block w2.heap.size (by omega) (fun h => h)
          obtain ⟨d0, d1, d2, d3, d4, d5, d6, d7, d8, d9⟩ := five (hb0.trans HBD.out)
          have cE := encode_any p ta ga sa fa tc gc sc fc S wr (HLP.out) (by omega) (H1.out.upd stStr hup (fun _ _ _ h => h)) (H2.out.upd stBool hup (fun _ _ _ h => h)) (H3.out.upd stFlags hup (fun _ _ _ h => h)) (H4.out.upd stFn hup (fun _ _ _ h => h)) (fun k hk => by have h1 := HSS.out k hk; have h2 := hup.size; omega)
          clear hup hb0
          go_wp2_with (with_reducible refine cE.mono ?_; rintro e w4 ⟨g, c, rfl, hu4, hsr, hg1, hg2⟩; have HU4 := Lib.hid hu4; have HSR := Lib.hid hsr; clear hu4 hsr)
          have hsz4 := HUP.out.size
          have cD := dec_some E g (wpg p) (List.length (wpg p)) rfl p hback (some ⟨g, 0, none⟩) c w4 HSR.out (HU4.out.cell (HUP.out.cell (HU3.out.cell HG.out (fun h => h)) (fun h => h)) (fun h => h)) (by omega) hg2
          with_reducible refine cD.mono ?_
          rintro e w5 ⟨hu5, ta', tc', ga', gc', sa', sc', fa', fc', S', rfl, h1, h2, h3, h4, hS⟩
          obtain ⟨W6, hW6⟩ : ∃ W6, w5.alloc (.cells #[.slice ta' p.texts.length tc', .slice ga' p.globals.length gc', .slice sa' p.structs.length sc', .slice fa' p.funcs.length fc', .int .i64 p.main] 29 (0, 0)) = W6 := ⟨_, rfl⟩
          have hU6 : Upd (fun _ => False) w5 W6 := by rw [← hW6]; exact Upd.alloc _ _ _
          have hall : Upd (fun _ => False) W3 W6 := ((HUP.out.trans HU4.out (fun _ _ h => h)).trans hu5 (fun _ _ h => h)).trans hU6 (fun _ _ h => h)
          have hb0 := (hall.block w2.heap.size (by omega) (fun h => h)).trans HBD.out
          have hb6 : W6.heap[w5.heap.size]? = some (.cells #[.slice ta' p.texts.length tc', .slice ga' p.globals.length gc', .slice sa' p.structs.length sc', .slice fa' p.funcs.length fc', .int .i64 p.main] 29 (0, 0)) := by rw [← hW6]; exact heap_alloc_new _ _
          obtain ⟨k0, k1, k2, k3, k4, k5, k6, k7, k8, k9⟩ := five hb0
          obtain ⟨m0, m1, m2, m3, m4, m5, m6, m7, m8, m9⟩ := five hb6
          have cS := same_eq p ta ga sa fa ta' ga' sa' fa' tc gc sc fc tc' gc' sc' fc' S S' W6 HLP.out (H1.out.upd stStr hall (fun _ _ _ h => h)) (H2.out.upd stBool hall (fun _ _ _ h => h)) (H3.out.upd stFlags hall (fun _ _ _ h => h)) (H4.out.upd stFn hall (fun _ _ _ h => h)) (h1.upd stStr hU6 (fun _ _ _ h => h)) (h2.upd stBool hU6 (fun _ _ _ h => h)) (h3.upd stFlags hU6 (fun _ _ _ h => h)) (h4.upd stFn hU6 (fun _ _ _ h => h))
          have HALL := Lib.hid (HU3.out.trans hall (fun _ _ h => h))
          clear hu5 h1 h2 h3 h4 hS hU6 hall hb0 hb6 cD cE
          go_wp2_with (with_reducible refine cS.mono ?_; rintro e w7 ⟨rfl, hu7⟩; have HU7 := Lib.hid hu7; clear hu7)
          go_ret
          exact ⟨rfl, HALL.out.trans HU7.out (fun _ _ h => h)⟩
  · have hgt : 20000 < n := by omega
    clear hfew
    go_enter Tryd.func3, Tryd.ntmps3
    go_wp2_with (with_reducible refine cA.mono ?_; rintro e w1 ⟨rfl, hu1⟩; have HU1 := Lib.hid hu1; clear hu1)
    go_ret
    exact ⟨rfl, HU1.out⟩

end Go.Proofs.YtdflfcgdfbihfaaDoor
