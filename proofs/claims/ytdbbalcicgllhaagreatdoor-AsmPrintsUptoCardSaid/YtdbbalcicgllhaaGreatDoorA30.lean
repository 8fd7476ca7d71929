import Derived.Test.YtdbbalcicgllhaaGreatDoorA29
namespace Go.Proofs.YtdbbalcicgllhaaGreatDoor
open Go.RowKit

theorem app2 {x y : Bytes} {X Y : ByteArray} (hX : X = ⟨x.toArray⟩) (hY : Y = ⟨y.toArray⟩) : X ++ Y = ⟨(x ++ y).toArray⟩ := by
  rw [hX, hY]
  exact ByteArray.mk_append_mk x y
def NQ (FR : Act) (U : World → Prop) : Exit → Act → World → Prop
  | .normal, a, w => a = FR ∧ U w
  | _, _, _ => False
theorem wp_by {c : Code} {Q : Exit → Act → World → Prop} {a : Act} {w : World} (U : World → Prop) (h : ∃ FR, c.wp Tryz.prog (NQ FR U) a w ∧ ∀ w', U w' → Q .normal FR w') : c.wp Tryz.prog Q a w := by
  obtain ⟨FR, h, k⟩ := h
  exact Code.wp_mono (fun e a' w' h => by
    cases e with
    | normal =>
      obtain ⟨rfl, hu⟩ := h
      exact k w' hu
    | _ => exact (h : False).elim) h

set_option maxRecDepth 100000 in
set_option maxHeartbeats 25600000 in
theorem asmPrints_any (p : Pg) (ta ga sa fa : Option Addr) (tc gl gc sl sc fc : Nat) (S : Nat → Prop) (w : World) (hp : p.ok) (hcnt : cntP p ≤ 100000000) (ht : Tab w)
    (hrt : RowV DStr 1 w S (.slice ta p.texts.length tc) p.texts) (hrf : RowV DFn 6 w S (.slice fa p.funcs.length fc) p.funcs) (hS : ∀ k, S k → k < w.heap.size) :
    Calls Tryz.prog 3 #[.agg #[.slice ta p.texts.length tc, .slice ga gl gc, .slice sa sl sc, .slice fa p.funcs.length fc, .int .i64 p.main]] w fun e w' => e = .returned (.bool true) ∧ Upd (fun _ => False) w w' := by
  obtain ⟨nt, hnt⟩ : ∃ n, p.texts.length = n := ⟨_, rfl⟩
  obtain ⟨nf, hnf⟩ : ∃ n, p.funcs.length = n := ⟨_, rfl⟩
  obtain ⟨B0, hB0⟩ : ∃ B0, w.heap.size = B0 := ⟨_, rfl⟩
  obtain ⟨bx, hbx⟩ : ∃ bx, Obj.cells #[.slice ta nt tc, .slice ga gl gc, .slice sa sl sc, .slice fa nf fc, .int .i64 p.main] 27 (0, 0) = bx := ⟨_, rfl⟩
  obtain ⟨A, hA⟩ : ∃ A, w.alloc bx = A := ⟨_, rfl⟩
  have huA : Upd (fun _ => False) w A := hA ▸ Upd.alloc _ w _
  have hnA : A.heap[B0]? = some bx := by rw [← hA, ← hB0]; exact heap_alloc_new w _
  have hA' : w.alloc (Obj.cells #[.slice ta nt tc, .slice ga gl gc, .slice sa sl sc, .slice fa nf fc, .int .i64 p.main] 27 (0, 0)) = A := by rw [hbx]; exact hA
  have hrtA := hrt.upd stStr huA (fun _ _ _ h => h)
  have hrfA := hrf.upd stFn huA (fun _ _ _ h => h)
  have htA : Tab A := ht.upd huA (fun h => h)
  have hpr : ∀ W, Upd (fun _ => False) A W → cntP p ≤ 3000 → Calls Tryz.prog 9 #[.agg #[.slice ta nt tc, .slice ga gl gc, .slice sa sl sc, .slice fa nf fc, .int .i64 p.main]] W fun e w' => e = .returned (.string ⟨(progTxt p).toArray⟩) ∧ Upd (fun _ => False) W w' := by
    intro W hW h3
    have h := print_any p ta ga sa fa tc gl gc sl sc fc S W hp (by have := progTxt_len p hp; omega) (htA.upd hW (fun h => h)) (hrtA.upd stStr hW (fun _ _ _ h => h)) (hrfA.upd stFn hW (fun _ _ _ h => h)) (fun k hk => Nat.lt_of_lt_of_le (hS k hk) (Nat.le_trans huA.size hW.size))
    rw [hnt, hnf] at h
    exact h
  rw [hnt] at hrtA ⊢
  rw [hnf] at hrfA ⊢
  have jb : A.cell? ⟨B0, 0, none⟩ = some (.slice ta nt tc) ∧ A.cell? ⟨B0, 1, none⟩ = some (.slice ga gl gc) ∧ A.cell? ⟨B0, 2, none⟩ = some (.slice sa sl sc) ∧ A.cell? ⟨B0, 3, none⟩ = some (.slice fa nf fc) ∧ A.cell? ⟨B0, 4, none⟩ = some (.int .i64 p.main) := by
    refine ⟨?_, ?_, ?_, ?_, ?_⟩ <;> simp [World.cell?, hnA, ← hbx]
  have hdig : ∀ (z : Int), -9223372036854775808 ≤ z ∧ z ≤ 9223372036854775807 → ∃ D : ByteArray, D = ⟨(Lib.itoa z).toArray⟩ ∧ D.size ≤ 21 ∧ ∀ W, Calls Tryz.prog 6 #[.int .i64 z] W fun e w' => e = .returned (.string D) ∧ Upd (fun _ => False) W w' := fun z hz => by
    refine ⟨_, rfl, by rw [size_eq]; exact Lib.itoa_length_le z hz.1 hz.2, fun W => digits_any z hz.1 hz.2 W⟩
  have hntl : nt ≤ 100000000 := by rw [← hnt]; exact hp.ntexts
  have hnfl : nf ≤ 100000000 := by rw [← hnf]; exact hp.nfuncs
  have hcp : cntP p = nt + nf + (p.texts.map List.length).sum + (p.funcs.map fun f => cntF f + lsum f.code).sum := by unfold cntP; rw [hnt, hnf]
  have hnot : ∀ (x : Bool) (w : World), (Op.unary .not (.bool x)).run Tryz.prog w = .ok (.bool (!x)) w := fun _ _ => rfl
  have HAN := Lib.hid (anchor_any A htA)
  have HBX := Lib.hid jb
  have HUA := Lib.hid huA
  have HRT := Lib.hid hrtA
  have HRF := Lib.hid hrfA
  have HPR := Lib.hid hpr
  have HDG := Lib.hid hdig
  have HP := Lib.hid hp
  have HNT := Lib.hid hnt
  have HNF := Lib.hid hnf
  have HCP := Lib.hid hcp
  rw [hcp] at hcnt
  obtain ⟨T1, hT1⟩ : ∃ T1, (p.texts.map List.length).sum = T1 := ⟨_, rfl⟩
  obtain ⟨T2, hT2⟩ : ∃ T2, (p.funcs.map fun f => cntF f + lsum f.code).sum = T2 := ⟨_, rfl⟩
  rw [hT1, hT2] at hcnt
  have HT1 := Lib.hid hT1
  have HT2 := Lib.hid hT2
  clear hpr hdig hrtA hrfA htA jb hnA huA hA hp hnt hnf hcp hT1 hT2 hrt hrf hS ht hbx
  go_enter Tryz.func3, Tryz.ntmps3
  by_cases hbig : 2000 < nt + nf
  · have hbig' : (2000 : Int) < (nt : Int) + nf := by omega
    go_wp2_with (go_at_call 5; refine HAN.out.mono ?_; rintro e w1 ⟨rfl, hu1⟩; have HU1 := Lib.hid hu1; have q0 := hu1.cell HBX.out.1 (fun h => h); have q3 := hu1.cell HBX.out.2.2.2.1 (fun h => h); clear hu1)
    go_ret
    exact ⟨rfl, HUA.out.trans HU1.out (fun _ _ h => h)⟩
  have hbig' : ¬ (2000 : Int) < (nt : Int) + nf := by omega
  go_wp2_with (go_at_call 5; refine HAN.out.mono ?_; rintro e w1 ⟨rfl, hu1⟩; have HU1 := Lib.hid hu1; have q0 := hu1.cell HBX.out.1 (fun h => h); have q3 := hu1.cell HBX.out.2.2.2.1 (fun h => h); clear hu1)
  clear hbig'
  go_loopw [3, 34] (fun c i wr => ∃ j : Nat, j ≤ nt ∧ i = .int .i64 j ∧ c = .int .i64 ((nt + nf + ((p.texts.take j).map List.length).sum : Nat) : Int) ∧ Upd (fun _ => False) A wr) (fun _ i _ => nt - (intOf i).toNat)
  case atStart => exact ⟨0, Nat.zero_le _, rfl, by simp, HU1.out⟩
  case round =>
  obtain ⟨j, hj, rfl, rfl, hu⟩ := hrel
  by_cases hjn : j < nt
  · have hjl : j < p.texts.length := by rw [HNT.out]; exact hjn
    have hrow := HRT.out.upd stStr hu (fun _ _ _ h => h)
    obtain ⟨g, go, vs, rfl, _, hvc, hD0⟩ := hrow.dest j hjl
    obtain ⟨y, hy⟩ : ∃ y, p.texts[j] = y := ⟨_, rfl⟩
    have hyq : p.texts[j]? = some y := by rw [List.getElem?_eq_getElem hjl, hy]
    have hD : vs = [.string ⟨(p.texts[j]).toArray⟩] := hD0
    clear hD0
    rw [hy] at hD
    subst hD
    have hcell := hvc 0 _ rfl
    rw [Nat.mul_one, Nat.add_zero] at hcell
    obtain ⟨Y, hY⟩ : ∃ Y : ByteArray, (⟨y.toArray⟩ : ByteArray) = Y := ⟨_, rfl⟩
    rw [hY] at hcell
    have hYs : Y.size = y.length := by rw [← hY, size_eq]
    obtain ⟨yl, hyl⟩ : ∃ yl, y.length = yl := ⟨_, rfl⟩
    rw [hyl] at hYs
    have hstep := sum_take_step List.length p.texts j y hyq
    have hle := sum_take_le List.length p.texts (j + 1)
    obtain ⟨C, hC⟩ : ∃ C, ((p.texts.take j).map List.length).sum = C := ⟨_, rfl⟩
    rw [hstep, hC, hyl, HT1.out] at hle
    rw [hC, hyl] at hstep
    rw [hC]
    have HST := Lib.hid hstep
    have HU := Lib.hid hu
    clear hstep hC hyl hY hyq hy hrow hvc hjl hu
    go_wp2_with fail
    go_roundw
    case rel => exact ⟨j + 1, by omega, by go_num, by rw [HST.out]; go_num, HU.out⟩
    case measure => simp [intOf]; omega
  have hjeq : j = nt := by omega
  have hall : p.texts.take j = p.texts := by rw [hjeq, ← HNT.out]; exact List.take_length
  rw [hall, HT1.out]
  have q3 := hu.cell HBX.out.2.2.2.1 (fun h => h)
  have HU2 := Lib.hid hu
  clear hall hjn hu
  subst hjeq
  go_wp2_with fail
  go_loopw [3, 46] (fun c i wr => ∃ j2 : Nat, j2 ≤ nf ∧ i = .int .i64 j2 ∧ c = .int .i64 ((j + nf + T1 + ((p.funcs.take j2).map fun f => cntF f + lsum f.code).sum : Nat) : Int) ∧ Upd (fun _ => False) A wr) (fun _ i _ => nf - (intOf i).toNat)
  case atStart => exact ⟨0, Nat.zero_le _, rfl, by simp, HU2.out⟩
  case round =>
  obtain ⟨j2, hj2, rfl, rfl, hu⟩ := hrel
  by_cases hjn2 : j2 < nf
  · have hjl : j2 < p.funcs.length := by rw [HNF.out]; exact hjn2
    have hrow := HRF.out.upd stFn hu (fun _ _ _ h => h)
    obtain ⟨g2, g2o, vs, rfl, _, hvc, hD0⟩ := hrow.dest j2 hjl
    obtain ⟨y, hy⟩ : ∃ y, p.funcs[j2] = y := ⟨_, rfl⟩
    have hyq : p.funcs[j2]? = some y := by rw [List.getElem?_eq_getElem hjl, hy]
    rw [hy] at hD0
    obtain ⟨ra, rc, ka, kc, rfl, hrr, hrk⟩ := hD0.dest
    have hyok := HP.out.funcs y (List.mem_of_getElem? hyq)
    have f0 := hvc 0 _ rfl
    have f1 := hvc 1 _ rfl
    have f2 := hvc 2 _ rfl
    have f3 := hvc 3 _ rfl
    have f4 := hvc 4 _ rfl
    have f5 := hvc 5 _ rfl
    rw [Nat.add_zero] at f0
    obtain ⟨nr, hnr⟩ : ∃ nr, y.refs.length = nr := ⟨_, rfl⟩
    obtain ⟨nc, hnc⟩ : ∃ nc, y.code.length = nc := ⟨_, rfl⟩
    rw [hnr] at f1 hrr
    rw [hnc] at f5 hrk
    obtain ⟨NB, hNB⟩ : ∃ NB : ByteArray, (⟨y.name.toArray⟩ : ByteArray) = NB := ⟨_, rfl⟩
    rw [hNB] at f0
    obtain ⟨F, hF⟩ : ∃ F, wr.heap.size = F := ⟨_, rfl⟩
    obtain ⟨W0, hW0⟩ : ∃ W0, wr.alloc (.cells #[.string NB, .slice ra nr rc, .int .i64 y.params, .int .i64 y.captures, .bool y.result, .slice ka nc kc] 31) = W0 := ⟨_, rfl⟩
    have huW : Upd (fun _ => False) wr W0 := hW0 ▸ Upd.alloc _ wr _
    have hWn : W0.heap[F]? = some (.cells #[.string NB, .slice ra nr rc, .int .i64 y.params, .int .i64 y.captures, .bool y.result, .slice ka nc kc] 31 (0, 0)) := by rw [← hW0, ← hF]; exact heap_alloc_new wr _
    have n0 : W0.cell? ⟨F, 0, none⟩ = some (.string NB) := by simp [World.cell?, hWn]
    have n1 : W0.cell? ⟨F, 1, none⟩ = some (.slice ra nr rc) := by simp [World.cell?, hWn]
    have n2 : W0.cell? ⟨F, 2, none⟩ = some (.int .i64 y.params) := by simp [World.cell?, hWn]
    have n3 : W0.cell? ⟨F, 3, none⟩ = some (.int .i64 y.captures) := by simp [World.cell?, hWn]
    have n4 : W0.cell? ⟨F, 4, none⟩ = some (.bool y.result) := by simp [World.cell?, hWn]
    have n5 : W0.cell? ⟨F, 5, none⟩ = some (.slice ka nc kc) := by simp [World.cell?, hWn]
    have huAW := hu.trans huW (fun _ _ h => h)
    have HAW := Lib.hid huAW
    have HRR := Lib.hid (hrr.upd stBool huW (fun _ _ _ h => h))
    have HRK := Lib.hid (hrk.upd stIns huW (fun _ _ _ h => h))
    have HYOK := Lib.hid hyok
    have HNR := Lib.hid hnr
    have HNC := Lib.hid hnc
    have HN1 := Lib.hid n1
    have HN2 := Lib.hid n2
    have HN3 := Lib.hid n3
    have HN4 := Lib.hid n4
    have HN5 := Lib.hid n5
    have hnrl : nr ≤ 100000000 := by rw [← hnr]; exact hyok.nrefs
    have hncl : nc ≤ 100000000 := by rw [← hnc]; exact hyok.ncode
    have hNBs : NB.size = y.name.length := by rw [← hNB, size_eq]
    obtain ⟨nl, hnl⟩ : ∃ nl, y.name.length = nl := ⟨_, rfl⟩
    rw [hnl] at hNBs
    have hcf : cntF y = nl + (nr + nc) := by unfold cntF; rw [hnl, hnr, hnc]
    have hstep := sum_take_step (fun f => cntF f + lsum f.code) p.funcs j2 y hyq
    have hle := sum_take_le (fun f => cntF f + lsum f.code) p.funcs (j2 + 1)
    obtain ⟨C, hC⟩ : ∃ C, ((p.funcs.take j2).map fun f => cntF f + lsum f.code).sum = C := ⟨_, rfl⟩
    obtain ⟨ls, hls⟩ : ∃ ls, lsum y.code = ls := ⟨_, rfl⟩
    rw [hstep, hC, hcf, hls, HT2.out] at hle
    rw [hC, hcf, hls] at hstep
    rw [hC]
    have HST := Lib.hid hstep
    have HLS := Lib.hid hls
    clear hstep hC hls hcf hnl hNB hyq hy hrow hvc hjl hu hyok hnr hnc hWn huW huAW hrr hrk hD0
    by_cases hret : 3000 < j + nf + T1 + C + (nl + (nr + nc))
    · have hret' : (3000 : Int) < ((j + nf + T1 + C : Nat) : Int) + ((nl : Int) + nr + nc) := by omega
      go_wp2_with fail
      go_ret
      exact ⟨rfl, HUA.out.trans HAW.out (fun _ _ h => h)⟩
    have hret' : ¬ (3000 : Int) < ((j + nf + T1 + C : Nat) : Int) + ((nl : Int) + nr + nc) := by omega
    go_wp2_with fail
    clear hret' hret
    go_loopw [3, 68] (fun c i wr => ∃ q : Nat, q ≤ nc ∧ i = .int .i64 q ∧ c = .int .i64 ((j + nf + T1 + C + (nl + (nr + nc)) + lsum (y.code.take q) : Nat) : Int) ∧ Upd (fun _ => False) W0 wr) (fun _ i _ => nc - (intOf i).toNat)
    case atStart => exact ⟨0, Nat.zero_le _, rfl, by simp [lsum]; try omega, Upd.refl _ _⟩
    case round =>
    obtain ⟨q, hq, rfl, rfl, hu⟩ := hrel
    by_cases hqn : q < nc
    · have hql : q < y.code.length := by rw [HNC.out]; exact hqn
      have hrow := HRK.out.upd stIns hu (fun _ _ _ h => h)
      obtain ⟨g3, g3o, vs, rfl, _, hvc, hD0⟩ := hrow.dest q hql
      obtain ⟨x, hx⟩ : ∃ x, y.code[q] = x := ⟨_, rfl⟩
      have hxq : y.code[q]? = some x := by rw [List.getElem?_eq_getElem hql, hx]
      rw [hx] at hD0
      obtain ⟨la, lc, rfl, hrl⟩ := hD0.dest
      have k0 := hvc 0 _ rfl
      have k1 := hvc 1 _ rfl
      have k2 := hvc 2 _ rfl
      have k3 := hvc 3 _ rfl
      have k4 := hvc 4 _ rfl
      have k5 := hvc 5 _ rfl
      rw [Nat.add_zero] at k0
      have hstep2 : lsum (y.code.take (q + 1)) = lsum (y.code.take q) + x.list.length := sum_take_step (fun x : Ins => x.list.length) y.code q x hxq
      have hle2 : lsum (y.code.take (q + 1)) ≤ lsum y.code := sum_take_le (fun x : Ins => x.list.length) y.code (q + 1)
      obtain ⟨C2, hC2⟩ : ∃ C2, lsum (y.code.take q) = C2 := ⟨_, rfl⟩
      obtain ⟨xl, hxl⟩ : ∃ xl, x.list.length = xl := ⟨_, rfl⟩
      rw [hstep2, hC2, hxl, HLS.out] at hle2
      rw [hC2, hxl] at hstep2
      rw [hxl] at k5
      rw [hC2]
      obtain ⟨F2, hF2⟩ : ∃ F2, wr.heap.size = F2 := ⟨_, rfl⟩
      obtain ⟨X0, hX0⟩ : ∃ X0, wr.alloc (.cells #[.int .i64 x.op, .int .i64 x.a, .int .i64 x.b, .int .i64 x.c, .int .i64 x.d, .slice la xl lc] 34) = X0 := ⟨_, rfl⟩
      have huX : Upd (fun _ => False) wr X0 := hX0 ▸ Upd.alloc _ wr _
      have hXn : X0.heap[F2]? = some (.cells #[.int .i64 x.op, .int .i64 x.a, .int .i64 x.b, .int .i64 x.c, .int .i64 x.d, .slice la xl lc] 34 (0, 0)) := by rw [← hX0, ← hF2]; exact heap_alloc_new wr _
      have m5 : X0.cell? ⟨F2, 5, none⟩ = some (.slice la xl lc) := by simp [World.cell?, hXn]
      have HUX := Lib.hid (hu.trans huX (fun _ _ h => h))
      have HST2 := Lib.hid hstep2
      clear hstep2 hC2 hxl hxq hx hrow hvc hql hu hXn huX hrl hD0
      go_wp2_with fail
      go_roundw
      case rel => exact ⟨q + 1, by omega, by go_num, by rw [HST2.out]; go_num, HUX.out⟩
      case measure => simp [intOf]; omega
    have hqe : q = nc := by omega
    have hall : y.code.take q = y.code := by rw [hqe, ← HNC.out]; exact List.take_length
    rw [hall, HLS.out]
    have HU4 := Lib.hid (HAW.out.trans hu (fun _ _ h => h))
    clear hall hu
    go_wp2_with fail
    go_roundw
    case rel => exact ⟨j2 + 1, by omega, by go_num, by rw [HST.out]; go_num, HU4.out⟩
    case measure => simp [intOf]; omega
  have hjeq2 : j2 = nf := by omega
  have hall : p.funcs.take j2 = p.funcs := by rw [hjeq2, ← HNF.out]; exact List.take_length
  rw [hall, HT2.out]
  have q0 := hu.cell HBX.out.1 (fun h => h)
  have HU3 := Lib.hid hu
  clear hall hjn2 hu
  subst hjeq2
  by_cases h3 : 3000 < j + j2 + T1 + T2
  · have h3' : (3000 : Int) < ((j + j2 + T1 + T2 : Nat) : Int) := by omega
    go_wp2_with fail
    go_ret
    exact ⟨rfl, HUA.out.trans HU3.out (fun _ _ h => h)⟩
  have h3' : ¬ (3000 : Int) < ((j + j2 + T1 + T2 : Nat) : Int) := by omega
  have hc3 : cntP p ≤ 3000 := by rw [HCP.out, HT1.out, HT2.out]; omega
  have hplen : (progTxt p).length ≤ 1300000 := by have := progTxt_len p HP.out; omega
  have HC3 := Lib.hid hc3
  have HPL := Lib.hid hplen
  clear hc3 hplen
  go_wp2_with fail
  clear h3' h3
  go_loopw [10, 84] (fun x1 i wr => ∃ k : Nat, k ≤ j ∧ i = .int .i64 k ∧ ∃ X : ByteArray, x1 = .string X ∧ X = ⟨(idxTxt textF 0 (p.texts.take k)).toArray⟩ ∧ Upd (fun _ => False) A wr) (fun _ i _ => j - (intOf i).toNat)
  case atStart => exact ⟨0, Nat.zero_le _, rfl, _, rfl, by simp [idxTxt], HU3.out⟩
  case round =>
  obtain ⟨k, hk, rfl, X, rfl, hX, hu⟩ := hrel
  have hprog : idxTxt textF 0 p.texts ++ idxTxt fnF 0 p.funcs ++ ptxt [.s [109, 97, 105, 110, 32], .n p.main, .s [10]] = progTxt p := rfl
  have hpl : (idxTxt textF 0 p.texts).length + (idxTxt fnF 0 p.funcs).length + (ptxt [.s [109, 97, 105, 110, 32], .n p.main, .s [10]]).length ≤ 1300000 := by
    have := HPL.out
    rw [← hprog] at this
    simpa only [List.length_append] using this
  have HPL2 := Lib.hid hpl
  clear hprog hpl
  by_cases hkn : k < j
  · have hjl : k < p.texts.length := by rw [HNT.out]; exact hkn
    have hrow := HRT.out.upd stStr hu (fun _ _ _ h => h)
    obtain ⟨g3, g3o, vs, hta, _, hvc, hD0⟩ := hrow.dest k hjl
    obtain ⟨y, hy⟩ : ∃ y, p.texts[k] = y := ⟨_, rfl⟩
    have hyq : p.texts[k]? = some y := by rw [List.getElem?_eq_getElem hjl, hy]
    have hD : vs = [.string ⟨(p.texts[k]).toArray⟩] := hD0
    clear hD0
    rw [hy] at hD
    subst hD
    subst hta
    have hcell := hvc 0 _ rfl
    rw [Nat.mul_one, Nat.add_zero] at hcell
    have hyl : y.length ≤ 100000000 := HP.out.texts y (List.mem_of_getElem? hyq)
    have hqr := fun W => quoteRef_any y hyl W
    obtain ⟨Y, hY⟩ : ∃ Y : ByteArray, (⟨y.toArray⟩ : ByteArray) = Y := ⟨_, rfl⟩
    obtain ⟨QB, hQ⟩ : ∃ QB : ByteArray, (⟨(quoteB y).toArray⟩ : ByteArray) = QB := ⟨_, rfl⟩
    have hQs : QB.size ≤ 200000002 := by rw [← hQ, size_eq]; have := quote_len y; omega
    simp only [hY, hQ] at hqr
    rw [hY] at hcell
    obtain ⟨D, hDe, hDs, hDc⟩ := HDG.out (k : Int) (by omega)
    have hstep := idxTxt_step textF p.texts 0 k y hyq
    rw [Nat.zero_add] at hstep
    have hXs : X.size ≤ 1300000 := by
      rw [hX, size_eq]
      have h1 := idxTxt_le textF p.texts 0 k
      have h2 := HPL2.out
      omega
    have z0a : ¬ 9223372036854775807 < 5 + D.size := by omega
    have z0b : 5 + D.size ≤ 9223372036854775807 := by omega
    have z1a : ¬ 9223372036854775807 < 5 + D.size + 1 := by omega
    have z1b : 5 + D.size + 1 ≤ 9223372036854775807 := by omega
    have z2a : ¬ 9223372036854775807 < 5 + D.size + 1 + QB.size := by omega
    have z2b : 5 + D.size + 1 + QB.size ≤ 9223372036854775807 := by omega
    have z3a : ¬ 9223372036854775807 < 5 + D.size + 1 + QB.size + 1 := by omega
    have z3b : 5 + D.size + 1 + QB.size + 1 ≤ 9223372036854775807 := by omega
    have z4a : ¬ 9223372036854775807 < X.size + (5 + D.size + 1 + QB.size + 1) := by omega
    have z4b : X.size + (5 + D.size + 1 + QB.size + 1) ≤ 9223372036854775807 := by omega
    have hres : X ++ ((⟨#[116, 101, 120, 116, 32]⟩ : ByteArray) ++ D ++ (⟨#[32]⟩ : ByteArray) ++ QB ++ (⟨#[10]⟩ : ByteArray)) = ⟨(idxTxt textF 0 (p.texts.take (k + 1))).toArray⟩ := by
      rw [hstep]
      refine (app2 hX (app2 (app2 (app2 (app2 (y := Lib.itoa k) (x := [116, 101, 120, 116, 32]) rfl hDe) (y := [32]) rfl) (y := quoteB y) hQ.symm) (y := [10]) rfl)).trans ?_
      simp [textF, ptxt, Part.t]
    have HRES := Lib.hid hres
    have HU := Lib.hid hu
    have HQR := Lib.hid hqr
    have HDC := Lib.hid hDc
    clear hres hu hqr hDc hDe hY hQ hX hstep hyq hy hrow hvc hjl
    go_wp2_with (first | (go_at_call 6; with_reducible refine (HDC.out _).mono ?_; rintro e w2 ⟨rfl, hu2⟩; have HU4 := Lib.hid hu2; clear hu2) | (go_at_call 7; with_reducible refine (HQR.out _).mono ?_; rintro e w4 ⟨rfl, hu4⟩; have HU5 := Lib.hid hu4; clear hu4))
    go_roundw
    case rel => exact ⟨k + 1, by omega, by go_num, _, rfl, HRES.out, (HU.out.trans HU4.out (fun _ _ h => h)).trans HU5.out (fun _ _ h => h)⟩
    case measure => simp [intOf]; omega
  have hkeq : k = j := by omega
  have hall : p.texts.take k = p.texts := by rw [hkeq, ← HNT.out]; exact List.take_length
  rw [hall] at hX
  have q3 := hu.cell HBX.out.2.2.2.1 (fun h => h)
  have HX := Lib.hid hX
  have HU4 := Lib.hid hu
  clear hall hkn hu hX
  subst hkeq
  go_wp2_with fail
  clear q3
  go_loopw [10, 103] (fun x1 i wr => ∃ l : Nat, l ≤ j2 ∧ i = .int .i64 l ∧ ∃ X : ByteArray, x1 = .string X ∧ X = ⟨(idxTxt textF 0 p.texts ++ idxTxt fnF 0 (p.funcs.take l)).toArray⟩ ∧ Upd (fun _ => False) A wr) (fun _ i _ => j2 - (intOf i).toNat)
  case atStart => exact ⟨0, Nat.zero_le _, rfl, _, rfl, by simpa [idxTxt] using HX.out, HU4.out⟩
  case round =>
  obtain ⟨l, hl, rfl, Z, rfl, hZ, hu⟩ := hrel
  have hZs : Z.size ≤ 1300000 := by
    rw [hZ, size_eq, List.length_append]
    have h1 := idxTxt_le fnF p.funcs 0 l
    have h2 := HPL2.out
    omega
  by_cases hln : l < j2
  · have hll : l < p.funcs.length := by rw [HNF.out]; exact hln
    have hrow := HRF.out.upd stFn hu (fun _ _ _ h => h)
    obtain ⟨g2, g2o, vs, hfa, _, hvc, hD0⟩ := hrow.dest l hll
    obtain ⟨y, hy⟩ : ∃ y, p.funcs[l] = y := ⟨_, rfl⟩
    have hyq : p.funcs[l]? = some y := by rw [List.getElem?_eq_getElem hll, hy]
    rw [hy] at hD0
    subst hfa
    obtain ⟨ra, rc, ka, kc, rfl, hrr, hrk⟩ := hD0.dest
    have hyok := HP.out.funcs y (List.mem_of_getElem? hyq)
    have f0 := hvc 0 _ rfl
    have f1 := hvc 1 _ rfl
    have f2 := hvc 2 _ rfl
    have f3 := hvc 3 _ rfl
    have f4 := hvc 4 _ rfl
    have f5 := hvc 5 _ rfl
    rw [Nat.add_zero] at f0
    obtain ⟨nr, hnr⟩ : ∃ nr, y.refs.length = nr := ⟨_, rfl⟩
    obtain ⟨nc, hnc⟩ : ∃ nc, y.code.length = nc := ⟨_, rfl⟩
    rw [hnr] at f1 hrr
    rw [hnc] at f5 hrk
    obtain ⟨NB, hNB⟩ : ∃ NB : ByteArray, (⟨y.name.toArray⟩ : ByteArray) = NB := ⟨_, rfl⟩
    rw [hNB] at f0
    obtain ⟨F, hF⟩ : ∃ F, wr.heap.size = F := ⟨_, rfl⟩
    obtain ⟨W0, hW0⟩ : ∃ W0, wr.alloc (.cells #[.string NB, .slice ra nr rc, .int .i64 y.params, .int .i64 y.captures, .bool y.result, .slice ka nc kc] 31) = W0 := ⟨_, rfl⟩
    have huW : Upd (fun _ => False) wr W0 := hW0 ▸ Upd.alloc _ wr _
    have hWn : W0.heap[F]? = some (.cells #[.string NB, .slice ra nr rc, .int .i64 y.params, .int .i64 y.captures, .bool y.result, .slice ka nc kc] 31 (0, 0)) := by rw [← hW0, ← hF]; exact heap_alloc_new wr _
    have n0 : W0.cell? ⟨F, 0, none⟩ = some (.string NB) := by simp [World.cell?, hWn]
    have n1 : W0.cell? ⟨F, 1, none⟩ = some (.slice ra nr rc) := by simp [World.cell?, hWn]
    have n2 : W0.cell? ⟨F, 2, none⟩ = some (.int .i64 y.params) := by simp [World.cell?, hWn]
    have n3 : W0.cell? ⟨F, 3, none⟩ = some (.int .i64 y.captures) := by simp [World.cell?, hWn]
    have n4 : W0.cell? ⟨F, 4, none⟩ = some (.bool y.result) := by simp [World.cell?, hWn]
    have n5 : W0.cell? ⟨F, 5, none⟩ = some (.slice ka nc kc) := by simp [World.cell?, hWn]
    have huAW := hu.trans huW (fun _ _ h => h)
    have HAW := Lib.hid huAW
    have HRR := Lib.hid (hrr.upd stBool huW (fun _ _ _ h => h))
    have HRK := Lib.hid (hrk.upd stIns huW (fun _ _ _ h => h))
    have HYOK := Lib.hid hyok
    have HNR := Lib.hid hnr
    have HNC := Lib.hid hnc
    have HN1 := Lib.hid n1
    have HN2 := Lib.hid n2
    have HN3 := Lib.hid n3
    have HN4 := Lib.hid n4
    have HN5 := Lib.hid n5
    have hnrl : nr ≤ 100000000 := by rw [← hnr]; exact hyok.nrefs
    have hncl : nc ≤ 100000000 := by rw [← hnc]; exact hyok.ncode
    obtain ⟨D1, hD1, hD1s, hD1c⟩ := HDG.out ((l : Int) + 1) (by omega)
    obtain ⟨D2, hD2, hD2s, hD2c⟩ := HDG.out y.params hyok.params
    obtain ⟨D3, hD3, hD3s, hD3c⟩ := HDG.out y.captures hyok.captures
    have HD1 := Lib.hid hD1c
    have hwl := wi64 ((l : Int) + 1) (by omega) (by omega)
    have HD2 := Lib.hid hD2c
    have HD3 := Lib.hid hD3c
    have hstep := idxTxt_step fnF p.funcs 0 l y hyq
    rw [Nat.zero_add] at hstep
    have hle := idxTxt_le fnF p.funcs 0 (l + 1)
    rw [hstep, List.length_append] at hle
    have HSTEP := Lib.hid hstep
    clear hstep hD1c hD2c hD3c hyq hy hrow hvc hll hu hyok hnr hnc hWn huW huAW hrr hrk hD0
    by_cases hnm : y.name = []
    · have hNBe : NB = ⟨#[]⟩ := by rw [← hNB, hnm]
      have hhead : headF l y = [102, 117, 110, 99, 32] ++ Lib.itoa ((l : Int) + 1) ++ [32] ++ [45] ++ [32, 112, 97, 114, 97, 109, 115, 32] ++ Lib.itoa y.params ++ [32, 99, 97, 112, 116, 117, 114, 101, 115, 32] ++ Lib.itoa y.captures ++ [32, 114, 101, 103, 105, 115, 116, 101, 114, 115, 32] := by
        unfold headF
        rw [if_pos hnm]
        simp [ptxt, Part.t]
      obtain ⟨O1, hO1d⟩ : ∃ O1, idxTxt textF 0 p.texts ++ idxTxt fnF 0 (p.funcs.take l) ++ headF l y = O1 := ⟨_, rfl⟩
      have hO1 : Z ++ ((⟨#[102, 117, 110, 99, 32]⟩ : ByteArray) ++ D1 ++ (⟨#[32]⟩ : ByteArray) ++ (⟨#[45]⟩ : ByteArray) ++ (⟨#[32, 112, 97, 114, 97, 109, 115, 32]⟩ : ByteArray) ++ D2 ++ (⟨#[32, 99, 97, 112, 116, 117, 114, 101, 115, 32]⟩ : ByteArray) ++ D3 ++ (⟨#[32, 114, 101, 103, 105, 115, 116, 101, 114, 115, 32]⟩ : ByteArray)) = ⟨O1.toArray⟩ := by
        rw [← hO1d, hhead]
        exact app2 hZ (app2 (app2 (app2 (app2 (app2 (app2 (app2 (app2 rfl hD1) rfl) rfl) rfl) hD2) rfl) hD3) rfl)
      have hOL1 : O1.length + (idxTxt (fun _ => flagTxt) 0 y.refs).length + (if y.result then ([32, 114, 101, 115, 117, 108, 116] : Bytes) else []).length + 1 + (idxTxt insF 0 y.code).length ≤ 1300000 := by
        rw [← hO1d, List.length_append, List.length_append]
        have h2 := HPL2.out
        have e : (fnF l y).length = (headF l y).length + (idxTxt (fun _ => flagTxt) 0 y.refs).length + (if y.result then ([32, 114, 101, 115, 117, 108, 116] : Bytes) else []).length + 1 + (idxTxt insF 0 y.code).length := by
          unfold fnF
          simp only [List.length_append, List.length_cons, List.length_nil]
        omega
      have z13a : ¬ 9223372036854775807 < 5 + D1.size := by omega
      have z13b : 5 + D1.size ≤ 9223372036854775807 := by omega
      have z14a : ¬ 9223372036854775807 < 5 + D1.size + 1 := by omega
      have z14b : 5 + D1.size + 1 ≤ 9223372036854775807 := by omega
      have z15a : ¬ 9223372036854775807 < 5 + D1.size + 1 + 1 := by omega
      have z15b : 5 + D1.size + 1 + 1 ≤ 9223372036854775807 := by omega
      have z16a : ¬ 9223372036854775807 < 5 + D1.size + 1 + 1 + 8 := by omega
      have z16b : 5 + D1.size + 1 + 1 + 8 ≤ 9223372036854775807 := by omega
      have z17a : ¬ 9223372036854775807 < 5 + D1.size + 1 + 1 + 8 + D2.size := by omega
      have z17b : 5 + D1.size + 1 + 1 + 8 + D2.size ≤ 9223372036854775807 := by omega
      have z18a : ¬ 9223372036854775807 < 5 + D1.size + 1 + 1 + 8 + D2.size + 10 := by omega
      have z18b : 5 + D1.size + 1 + 1 + 8 + D2.size + 10 ≤ 9223372036854775807 := by omega
      have z19a : ¬ 9223372036854775807 < 5 + D1.size + 1 + 1 + 8 + D2.size + 10 + D3.size := by omega
      have z19b : 5 + D1.size + 1 + 1 + 8 + D2.size + 10 + D3.size ≤ 9223372036854775807 := by omega
      have z20a : ¬ 9223372036854775807 < 5 + D1.size + 1 + 1 + 8 + D2.size + 10 + D3.size + 11 := by omega
      have z20b : 5 + D1.size + 1 + 1 + 8 + D2.size + 10 + D3.size + 11 ≤ 9223372036854775807 := by omega
      have z21a : ¬ 9223372036854775807 < Z.size + (5 + D1.size + 1 + 1 + 8 + D2.size + 10 + D3.size + 11) := by omega
      have z21b : Z.size + (5 + D1.size + 1 + 1 + 8 + D2.size + 10 + D3.size + 11) ≤ 9223372036854775807 := by omega
      have HO1 := Lib.hid hO1
      have HO1d := Lib.hid hO1d
      have HOL1 := Lib.hid hOL1
      rw [hNBe] at n0 f0 hW0
      clear hNBe
      clear hhead hO1d hO1 hOL1 hle hZ hNB hnm hD1 hD2 hD3
      go_wp2_with fail
      refine wp_by (fun w' => Upd (fun _ => False) W0 w') ?_
      apply Exists.intro
      refine And.intro ?regA ?_
      case regA =>
        go_region_with (first | (go_at_call 6; (with_reducible refine (HD1.out _).mono ?_); rintro e w1 ⟨rfl, hu1⟩; have c2 := hu1.cell (show W0.drew.cell? ⟨F, 2, none⟩ = _ from HN2.out) (fun h => h); have c3 := hu1.cell (show W0.drew.cell? ⟨F, 3, none⟩ = _ from HN3.out) (fun h => h)) | (go_at_call 6; (with_reducible refine (HD2.out _).mono ?_); rintro e w2 ⟨rfl, hu2⟩; have d3 := hu2.cell c3 (fun h => h)) | (go_at_call 6; (with_reducible refine (HD3.out _).mono ?_); rintro e w3 ⟨rfl, hu3⟩))
        all_goals exact ⟨rfl, (((Upd.drew (fun _ => False) W0).trans hu1 (fun _ _ h => h)).trans hu2 (fun _ _ h => h)).trans hu3 (fun _ _ h => h)⟩
      intro wR huR
      have q1 := huR.cell HN1.out (fun h => h)
      have HUR := Lib.hid huR
      clear huR
      go_wp2
      clear q1
      go_loopw [10, 135] (fun x1 i wr => ∃ q : Nat, q ≤ nr ∧ i = .int .i64 q ∧ ∃ X : ByteArray, x1 = .string X ∧ X = ⟨(O1 ++ idxTxt (fun _ => flagTxt) 0 (y.refs.take q)).toArray⟩ ∧ Upd (fun _ => False) W0 wr) (fun _ i _ => nr - (intOf i).toNat)
      case atStart => exact ⟨0, Nat.zero_le _, rfl, _, rfl, by simpa [idxTxt] using HO1.out, HUR.out⟩
      case round =>
      obtain ⟨q, hq, rfl, X, rfl, hX, hu⟩ := hrel
      have hXs : X.size ≤ 1300000 := by
        rw [hX, size_eq, List.length_append]
        have h1 := idxTxt_le (fun _ => flagTxt) y.refs 0 q
        have h2 := HOL1.out
        omega
      by_cases hqn : q < nr
      · have hql : q < y.refs.length := by rw [HNR.out]; exact hqn
        have hrow := HRR.out.upd stBool hu (fun _ _ _ h => h)
        obtain ⟨g3, g3o, vs, hra, _, hvc, hD0⟩ := hrow.dest q hql
        obtain ⟨r, hr⟩ : ∃ r, y.refs[q] = r := ⟨_, rfl⟩
        have hrq : y.refs[q]? = some r := by rw [List.getElem?_eq_getElem hql, hr]
        have hD : vs = [.bool (y.refs[q])] := hD0
        clear hD0
        rw [hr] at hD
        subst hD
        subst hra
        have hcell := hvc 0 _ rfl
        rw [Nat.mul_one, Nat.add_zero] at hcell
        have hstep2 := idxTxt_step (fun _ => flagTxt) y.refs 0 q r hrq
        have HSTEP2 := Lib.hid hstep2
        have HXX := Lib.hid hX
        have HUQ := Lib.hid hu
        have z12a : ¬ 9223372036854775807 < X.size + 1 := by omega
        have z12b : X.size + 1 ≤ 9223372036854775807 := by omega
        clear hrow hvc hrq hr hstep2 hql hu hX
        cases r
        · go_wp2_with fail
          go_roundw
          case rel => exact ⟨q + 1, by omega, by go_num, _, rfl, by rw [HSTEP2.out, ← List.append_assoc]; exact app2 HXX.out rfl, HUQ.out⟩
          case measure => simp [intOf]; omega
        · go_wp2_with fail
          go_roundw
          case rel => exact ⟨q + 1, by omega, by go_num, _, rfl, by rw [HSTEP2.out, ← List.append_assoc]; exact app2 HXX.out rfl, HUQ.out⟩
          case measure => simp [intOf]; omega
      have hqe : q = nr := by omega
      have hall : y.refs.take q = y.refs := by rw [hqe, ← HNR.out]; exact List.take_length
      rw [hall] at hX
      clear hqe
      have q4 := hu.cell HN4.out (fun h => h)
      have q5 := hu.cell HN5.out (fun h => h)
      have HUQ := Lib.hid hu
      cases hres : y.result
      · rw [hres] at q4
        obtain ⟨O2, hO2d⟩ : ∃ O2, O1 ++ idxTxt (fun _ => flagTxt) 0 y.refs = O2 := ⟨_, rfl⟩
        rw [hO2d] at hX
        have hOL2 : O2.length + 1 + (idxTxt insF 0 y.code).length ≤ 1300000 := by rw [← hO2d]; have := HOL1.out; simp only [List.length_append]; omega
        have hfn : fnF l y = headF l y ++ idxTxt (fun _ => flagTxt) 0 y.refs ++ [10] ++ idxTxt insF 0 y.code := by simp [fnF, hres]
        have HFN := Lib.hid hfn
        have HO2 := Lib.hid hX
        have HO2d := Lib.hid hO2d
        have HOL2 := Lib.hid hOL2
        have z9a : ¬ 9223372036854775807 < X.size + 1 := by omega
        have z9b : X.size + 1 ≤ 9223372036854775807 := by omega
        clear hX hall hOL2 hO2d hfn hres hu
        obtain ⟨O3, hO3d⟩ : ∃ O3, O2 ++ [10] = O3 := ⟨_, rfl⟩
        have hO3 : X ++ (⟨#[10]⟩ : ByteArray) = ⟨O3.toArray⟩ := by rw [← hO3d]; exact app2 HO2.out rfl
        have hOL3 : O3.length + (idxTxt insF 0 y.code).length ≤ 1300000 := by rw [← hO3d]; have := HOL2.out; simp only [List.length_append, List.length_cons, List.length_nil]; omega
        have HO3 := Lib.hid hO3
        have HO3d := Lib.hid hO3d
        have HOL3 := Lib.hid hOL3
        clear hO3 hO3d hOL3
        go_wp2_with fail
        go_loopw [10, 154] (fun x1 i wr => ∃ q : Nat, q ≤ nc ∧ i = .int .i64 q ∧ ∃ X : ByteArray, x1 = .string X ∧ X = ⟨(O3 ++ idxTxt insF 0 (y.code.take q)).toArray⟩ ∧ Upd (fun _ => False) W0 wr) (fun _ i _ => nc - (intOf i).toNat)
        case atStart => exact ⟨0, Nat.zero_le _, rfl, _, rfl, by simpa [idxTxt] using HO3.out, HUQ.out⟩
        case round =>
        obtain ⟨q, hq, rfl, X, rfl, hX, hu⟩ := hrel
        have hXs : X.size ≤ 1300000 := by
          rw [hX, size_eq, List.length_append]
          have h1 := idxTxt_le insF y.code 0 q
          have h2 := HOL3.out
          omega
        by_cases hqn : q < nc
        · have hql : q < y.code.length := by rw [HNC.out]; exact hqn
          have hrow := HRK.out.upd stIns hu (fun _ _ _ h => h)
          obtain ⟨g3, g3o, vs, hka, _, hvc, hD0⟩ := hrow.dest q hql
          obtain ⟨x, hx⟩ : ∃ x, y.code[q] = x := ⟨_, rfl⟩
          have hxq : y.code[q]? = some x := by rw [List.getElem?_eq_getElem hql, hx]
          rw [hx] at hD0
          subst hka
          obtain ⟨la, lc, rfl, hrl⟩ := hD0.dest
          have k0 := hvc 0 _ rfl
          have k1 := hvc 1 _ rfl
          have k2 := hvc 2 _ rfl
          have k3 := hvc 3 _ rfl
          have k4 := hvc 4 _ rfl
          have k5 := hvc 5 _ rfl
          rw [Nat.add_zero] at k0
          have hstep2 := idxTxt_step insF y.code 0 q x hxq
          rw [Nat.zero_add] at hstep2
          have hle2 := idxTxt_le insF y.code 0 (q + 1)
          rw [hstep2, List.length_append] at hle2
          have hxok := HYOK.out.code x (List.mem_of_getElem? hxq)
          obtain ⟨F2, hF2⟩ : ∃ F2, wr.heap.size = F2 := ⟨_, rfl⟩
          obtain ⟨X0, hX0⟩ : ∃ X0, wr.alloc (.cells #[.int .i64 x.op, .int .i64 x.a, .int .i64 x.b, .int .i64 x.c, .int .i64 x.d, .slice la x.list.length lc] 34) = X0 := ⟨_, rfl⟩
          have huX : Upd (fun _ => False) wr X0 := hX0 ▸ Upd.alloc _ wr _
          have hXn : X0.heap[F2]? = some (.cells #[.int .i64 x.op, .int .i64 x.a, .int .i64 x.b, .int .i64 x.c, .int .i64 x.d, .slice la x.list.length lc] 34 (0, 0)) := by rw [← hX0, ← hF2]; exact heap_alloc_new wr _
          have m0 : X0.cell? ⟨F2, 0, none⟩ = some (.int .i64 x.op) := by simp [World.cell?, hXn]
          have m1 : X0.cell? ⟨F2, 1, none⟩ = some (.int .i64 x.a) := by simp [World.cell?, hXn]
          have m2 : X0.cell? ⟨F2, 2, none⟩ = some (.int .i64 x.b) := by simp [World.cell?, hXn]
          have m3 : X0.cell? ⟨F2, 3, none⟩ = some (.int .i64 x.c) := by simp [World.cell?, hXn]
          have m4 : X0.cell? ⟨F2, 4, none⟩ = some (.int .i64 x.d) := by simp [World.cell?, hXn]
          have m5 : X0.cell? ⟨F2, 5, none⟩ = some (.slice la x.list.length lc) := by simp [World.cell?, hXn]
          have hil : (insTxt (q : Int) x).length ≤ 1300000 := by
            have hi : (insTxt (q : Int) x).length = (insF q x).length := rfl
            have h2 := HOL3.out
            omega
          have hins := lawInstr_any (q : Int) (by omega) x hxok.1 la lc S X0 (hrl.upd stInt huX (fun _ _ _ h => h)) hxok.2 (by omega)
          obtain ⟨IB, hIB⟩ : ∃ IB : ByteArray, (⟨(insTxt (q : Int) x).toArray⟩ : ByteArray) = IB := ⟨_, rfl⟩
          have hIs : IB.size ≤ 1300000 := by rw [← hIB, size_eq]; exact hil
          rw [hIB] at hins
          have z8a : ¬ 9223372036854775807 < X.size + IB.size := by omega
          have z8b : X.size + IB.size ≤ 9223372036854775807 := by omega
          have hres : X ++ IB = ⟨(O3 ++ idxTxt insF 0 (y.code.take (q + 1))).toArray⟩ := by
            rw [hstep2]
            refine (app2 hX (y := insF q x) hIB.symm).trans ?_
            rw [List.append_assoc]
          have HRES := Lib.hid hres
          have HINS := Lib.hid hins
          have HUX := Lib.hid (hu.trans huX (fun _ _ h => h))
          clear hres hins hIB hil hxok hle2 hstep2 hxq hx hrow hvc hql hu hXn huX hrl hD0 hX
          go_wp2_with (go_at_call 8; refine HINS.out.mono ?_; rintro e w5 ⟨rfl, hu5⟩; have HU5 := Lib.hid hu5; clear hu5)
          go_roundw
          case rel => exact ⟨q + 1, by omega, by go_num, _, rfl, HRES.out, HUX.out.trans HU5.out (fun _ _ h => h)⟩
          case measure => simp [intOf]; omega
        have hqe : q = nc := by omega
        have hall : y.code.take q = y.code := by rw [hqe, ← HNC.out]; exact List.take_length
        rw [hall] at hX
        have HX2 := Lib.hid hX
        have HU8 := Lib.hid (HAW.out.trans hu (fun _ _ h => h))
        clear hall hu hX
        go_wp2_with fail
        go_roundw
        case rel => exact ⟨l + 1, by omega, by go_num, _, rfl, by rw [HSTEP.out, HFN.out, HX2.out]; simp only [← HO3d.out, ← HO2d.out, ← HO1d.out, List.append_assoc], HU8.out⟩
        case measure => simp [intOf]; omega
      · rw [hres] at q4
        obtain ⟨O2, hO2d⟩ : ∃ O2, O1 ++ idxTxt (fun _ => flagTxt) 0 y.refs ++ [32, 114, 101, 115, 117, 108, 116] = O2 := ⟨_, rfl⟩
        have hrl : (if y.result then ([32, 114, 101, 115, 117, 108, 116] : Bytes) else []).length = 7 := by rw [hres]; rfl
        have hOL2 : O2.length + 1 + (idxTxt insF 0 y.code).length ≤ 1300000 := by rw [← hO2d]; have := HOL1.out; rw [hrl] at this; simp only [List.length_append, List.length_cons, List.length_nil]; omega
        have hfn : fnF l y = headF l y ++ idxTxt (fun _ => flagTxt) 0 y.refs ++ [32, 114, 101, 115, 117, 108, 116] ++ [10] ++ idxTxt insF 0 y.code := by simp [fnF, hres]
        have hX2 : X ++ (⟨#[32, 114, 101, 115, 117, 108, 116]⟩ : ByteArray) = ⟨O2.toArray⟩ := by rw [← hO2d]; exact app2 hX rfl
        have HFN := Lib.hid hfn
        have HO2 := Lib.hid hX2
        have HO2d := Lib.hid hO2d
        have HOL2 := Lib.hid hOL2
        have z10a : ¬ 9223372036854775807 < X.size + 7 := by omega
        have z10b : X.size + 7 ≤ 9223372036854775807 := by omega
        have z11a : ¬ 9223372036854775807 < X.size + 7 + 1 := by omega
        have z11b : X.size + 7 + 1 ≤ 9223372036854775807 := by omega
        clear hX hX2 hall hOL2 hO2d hfn hres hrl hu
        obtain ⟨O3, hO3d⟩ : ∃ O3, O2 ++ [10] = O3 := ⟨_, rfl⟩
        have hO3 : (X ++ (⟨#[32, 114, 101, 115, 117, 108, 116]⟩ : ByteArray)) ++ (⟨#[10]⟩ : ByteArray) = ⟨O3.toArray⟩ := by rw [← hO3d]; exact app2 HO2.out rfl
        have hOL3 : O3.length + (idxTxt insF 0 y.code).length ≤ 1300000 := by rw [← hO3d]; have := HOL2.out; simp only [List.length_append, List.length_cons, List.length_nil]; omega
        have HO3 := Lib.hid hO3
        have HO3d := Lib.hid hO3d
        have HOL3 := Lib.hid hOL3
        clear hO3 hO3d hOL3
        go_wp2_with fail
        go_loopw [10, 154] (fun x1 i wr => ∃ q : Nat, q ≤ nc ∧ i = .int .i64 q ∧ ∃ X : ByteArray, x1 = .string X ∧ X = ⟨(O3 ++ idxTxt insF 0 (y.code.take q)).toArray⟩ ∧ Upd (fun _ => False) W0 wr) (fun _ i _ => nc - (intOf i).toNat)
        case atStart => exact ⟨0, Nat.zero_le _, rfl, _, rfl, by simpa [idxTxt] using HO3.out, HUQ.out⟩
        case round =>
        obtain ⟨q, hq, rfl, X, rfl, hX, hu⟩ := hrel
        have hXs : X.size ≤ 1300000 := by
          rw [hX, size_eq, List.length_append]
          have h1 := idxTxt_le insF y.code 0 q
          have h2 := HOL3.out
          omega
        by_cases hqn : q < nc
        · have hql : q < y.code.length := by rw [HNC.out]; exact hqn
          have hrow := HRK.out.upd stIns hu (fun _ _ _ h => h)
          obtain ⟨g3, g3o, vs, hka, _, hvc, hD0⟩ := hrow.dest q hql
          obtain ⟨x, hx⟩ : ∃ x, y.code[q] = x := ⟨_, rfl⟩
          have hxq : y.code[q]? = some x := by rw [List.getElem?_eq_getElem hql, hx]
          rw [hx] at hD0
          subst hka
          obtain ⟨la, lc, rfl, hrl⟩ := hD0.dest
          have k0 := hvc 0 _ rfl
          have k1 := hvc 1 _ rfl
          have k2 := hvc 2 _ rfl
          have k3 := hvc 3 _ rfl
          have k4 := hvc 4 _ rfl
          have k5 := hvc 5 _ rfl
          rw [Nat.add_zero] at k0
          have hstep2 := idxTxt_step insF y.code 0 q x hxq
          rw [Nat.zero_add] at hstep2
          have hle2 := idxTxt_le insF y.code 0 (q + 1)
          rw [hstep2, List.length_append] at hle2
          have hxok := HYOK.out.code x (List.mem_of_getElem? hxq)
          obtain ⟨F2, hF2⟩ : ∃ F2, wr.heap.size = F2 := ⟨_, rfl⟩
          obtain ⟨X0, hX0⟩ : ∃ X0, wr.alloc (.cells #[.int .i64 x.op, .int .i64 x.a, .int .i64 x.b, .int .i64 x.c, .int .i64 x.d, .slice la x.list.length lc] 34) = X0 := ⟨_, rfl⟩
          have huX : Upd (fun _ => False) wr X0 := hX0 ▸ Upd.alloc _ wr _
          have hXn : X0.heap[F2]? = some (.cells #[.int .i64 x.op, .int .i64 x.a, .int .i64 x.b, .int .i64 x.c, .int .i64 x.d, .slice la x.list.length lc] 34 (0, 0)) := by rw [← hX0, ← hF2]; exact heap_alloc_new wr _
          have m0 : X0.cell? ⟨F2, 0, none⟩ = some (.int .i64 x.op) := by simp [World.cell?, hXn]
          have m1 : X0.cell? ⟨F2, 1, none⟩ = some (.int .i64 x.a) := by simp [World.cell?, hXn]
          have m2 : X0.cell? ⟨F2, 2, none⟩ = some (.int .i64 x.b) := by simp [World.cell?, hXn]
          have m3 : X0.cell? ⟨F2, 3, none⟩ = some (.int .i64 x.c) := by simp [World.cell?, hXn]
          have m4 : X0.cell? ⟨F2, 4, none⟩ = some (.int .i64 x.d) := by simp [World.cell?, hXn]
          have m5 : X0.cell? ⟨F2, 5, none⟩ = some (.slice la x.list.length lc) := by simp [World.cell?, hXn]
          have hil : (insTxt (q : Int) x).length ≤ 1300000 := by
            have hi : (insTxt (q : Int) x).length = (insF q x).length := rfl
            have h2 := HOL3.out
            omega
          have hins := lawInstr_any (q : Int) (by omega) x hxok.1 la lc S X0 (hrl.upd stInt huX (fun _ _ _ h => h)) hxok.2 (by omega)
          obtain ⟨IB, hIB⟩ : ∃ IB : ByteArray, (⟨(insTxt (q : Int) x).toArray⟩ : ByteArray) = IB := ⟨_, rfl⟩
          have hIs : IB.size ≤ 1300000 := by rw [← hIB, size_eq]; exact hil
          rw [hIB] at hins
          have z8a : ¬ 9223372036854775807 < X.size + IB.size := by omega
          have z8b : X.size + IB.size ≤ 9223372036854775807 := by omega
          have hres : X ++ IB = ⟨(O3 ++ idxTxt insF 0 (y.code.take (q + 1))).toArray⟩ := by
            rw [hstep2]
            refine (app2 hX (y := insF q x) hIB.symm).trans ?_
            rw [List.append_assoc]
          have HRES := Lib.hid hres
          have HINS := Lib.hid hins
          have HUX := Lib.hid (hu.trans huX (fun _ _ h => h))
          clear hres hins hIB hil hxok hle2 hstep2 hxq hx hrow hvc hql hu hXn huX hrl hD0 hX
          go_wp2_with (go_at_call 8; refine HINS.out.mono ?_; rintro e w5 ⟨rfl, hu5⟩; have HU5 := Lib.hid hu5; clear hu5)
          go_roundw
          case rel => exact ⟨q + 1, by omega, by go_num, _, rfl, HRES.out, HUX.out.trans HU5.out (fun _ _ h => h)⟩
          case measure => simp [intOf]; omega
        have hqe : q = nc := by omega
        have hall : y.code.take q = y.code := by rw [hqe, ← HNC.out]; exact List.take_length
        rw [hall] at hX
        have HX2 := Lib.hid hX
        have HU8 := Lib.hid (HAW.out.trans hu (fun _ _ h => h))
        clear hall hu hX
        go_wp2_with fail
        go_roundw
        case rel => exact ⟨l + 1, by omega, by go_num, _, rfl, by rw [HSTEP.out, HFN.out, HX2.out]; simp only [← HO3d.out, ← HO2d.out, ← HO1d.out, List.append_assoc], HU8.out⟩
        case measure => simp [intOf]; omega
    · have hNBe : NB.toList.isEmpty = false := by
        rw [← hNB, ByteArray.toList_mk]
        cases hh : y.name with
        | nil => exact absurd hh hnm
        | cons c l => rfl
      have hNBs : NB.size ≤ 1300000 := by
        rw [← hNB, size_eq]
        have h2 := HPL2.out
        have e : y.name.length ≤ (headF l y).length := by
          unfold headF
          rw [if_neg hnm]
          simp only [ptxt, Part.t, List.map_cons, List.map_nil, List.flatten_cons, List.flatten_nil, List.length_append, List.length_cons, List.length_nil]
          omega
        have e2 : (headF l y).length ≤ (fnF l y).length := by
          unfold fnF
          simp only [List.length_append, List.length_cons, List.length_nil]
          omega
        omega
      have hhead : headF l y = [102, 117, 110, 99, 32] ++ Lib.itoa ((l : Int) + 1) ++ [32] ++ y.name ++ [32, 112, 97, 114, 97, 109, 115, 32] ++ Lib.itoa y.params ++ [32, 99, 97, 112, 116, 117, 114, 101, 115, 32] ++ Lib.itoa y.captures ++ [32, 114, 101, 103, 105, 115, 116, 101, 114, 115, 32] := by
        unfold headF
        rw [if_neg hnm]
        simp [ptxt, Part.t]
      obtain ⟨O1, hO1d⟩ : ∃ O1, idxTxt textF 0 p.texts ++ idxTxt fnF 0 (p.funcs.take l) ++ headF l y = O1 := ⟨_, rfl⟩
      have hO1 : Z ++ ((⟨#[102, 117, 110, 99, 32]⟩ : ByteArray) ++ D1 ++ (⟨#[32]⟩ : ByteArray) ++ NB ++ (⟨#[32, 112, 97, 114, 97, 109, 115, 32]⟩ : ByteArray) ++ D2 ++ (⟨#[32, 99, 97, 112, 116, 117, 114, 101, 115, 32]⟩ : ByteArray) ++ D3 ++ (⟨#[32, 114, 101, 103, 105, 115, 116, 101, 114, 115, 32]⟩ : ByteArray)) = ⟨O1.toArray⟩ := by
        rw [← hO1d, hhead]
        exact app2 hZ (app2 (app2 (app2 (app2 (app2 (app2 (app2 (app2 rfl hD1) rfl) hNB.symm) rfl) hD2) rfl) hD3) rfl)
      have hOL1 : O1.length + (idxTxt (fun _ => flagTxt) 0 y.refs).length + (if y.result then ([32, 114, 101, 115, 117, 108, 116] : Bytes) else []).length + 1 + (idxTxt insF 0 y.code).length ≤ 1300000 := by
        rw [← hO1d, List.length_append, List.length_append]
        have h2 := HPL2.out
        have e : (fnF l y).length = (headF l y).length + (idxTxt (fun _ => flagTxt) 0 y.refs).length + (if y.result then ([32, 114, 101, 115, 117, 108, 116] : Bytes) else []).length + 1 + (idxTxt insF 0 y.code).length := by
          unfold fnF
          simp only [List.length_append, List.length_cons, List.length_nil]
        omega
      have z22a : ¬ 9223372036854775807 < 5 + D1.size := by omega
      have z22b : 5 + D1.size ≤ 9223372036854775807 := by omega
      have z23a : ¬ 9223372036854775807 < 5 + D1.size + 1 := by omega
      have z23b : 5 + D1.size + 1 ≤ 9223372036854775807 := by omega
      have z24a : ¬ 9223372036854775807 < 5 + D1.size + 1 + NB.size := by omega
      have z24b : 5 + D1.size + 1 + NB.size ≤ 9223372036854775807 := by omega
      have z25a : ¬ 9223372036854775807 < 5 + D1.size + 1 + NB.size + 8 := by omega
      have z25b : 5 + D1.size + 1 + NB.size + 8 ≤ 9223372036854775807 := by omega
      have z26a : ¬ 9223372036854775807 < 5 + D1.size + 1 + NB.size + 8 + D2.size := by omega
      have z26b : 5 + D1.size + 1 + NB.size + 8 + D2.size ≤ 9223372036854775807 := by omega
      have z27a : ¬ 9223372036854775807 < 5 + D1.size + 1 + NB.size + 8 + D2.size + 10 := by omega
      have z27b : 5 + D1.size + 1 + NB.size + 8 + D2.size + 10 ≤ 9223372036854775807 := by omega
      have z28a : ¬ 9223372036854775807 < 5 + D1.size + 1 + NB.size + 8 + D2.size + 10 + D3.size := by omega
      have z28b : 5 + D1.size + 1 + NB.size + 8 + D2.size + 10 + D3.size ≤ 9223372036854775807 := by omega
      have z29a : ¬ 9223372036854775807 < 5 + D1.size + 1 + NB.size + 8 + D2.size + 10 + D3.size + 11 := by omega
      have z29b : 5 + D1.size + 1 + NB.size + 8 + D2.size + 10 + D3.size + 11 ≤ 9223372036854775807 := by omega
      have z30a : ¬ 9223372036854775807 < Z.size + (5 + D1.size + 1 + NB.size + 8 + D2.size + 10 + D3.size + 11) := by omega
      have z30b : Z.size + (5 + D1.size + 1 + NB.size + 8 + D2.size + 10 + D3.size + 11) ≤ 9223372036854775807 := by omega
      have HO1 := Lib.hid hO1
      have HO1d := Lib.hid hO1d
      have HOL1 := Lib.hid hOL1
      clear hhead hO1d hO1 hOL1 hle hZ hNB hnm hD1 hD2 hD3
      go_wp2_with fail
      refine wp_by (fun w' => Upd (fun _ => False) W0 w') ?_
      apply Exists.intro
      refine And.intro ?regB ?_
      case regB =>
        go_region_with (first | (go_at_call 6; (with_reducible refine (HD1.out _).mono ?_); rintro e w1 ⟨rfl, hu1⟩; have c2 := hu1.cell (show W0.drew.cell? ⟨F, 2, none⟩ = _ from HN2.out) (fun h => h); have c3 := hu1.cell (show W0.drew.cell? ⟨F, 3, none⟩ = _ from HN3.out) (fun h => h)) | (go_at_call 6; (with_reducible refine (HD2.out _).mono ?_); rintro e w2 ⟨rfl, hu2⟩; have d3 := hu2.cell c3 (fun h => h)) | (go_at_call 6; (with_reducible refine (HD3.out _).mono ?_); rintro e w3 ⟨rfl, hu3⟩))
        all_goals exact ⟨rfl, (((Upd.drew (fun _ => False) W0).trans hu1 (fun _ _ h => h)).trans hu2 (fun _ _ h => h)).trans hu3 (fun _ _ h => h)⟩
      intro wR huR
      have q1 := huR.cell HN1.out (fun h => h)
      have HUR := Lib.hid huR
      clear huR
      go_wp2
      clear q1
      go_loopw [10, 135] (fun x1 i wr => ∃ q : Nat, q ≤ nr ∧ i = .int .i64 q ∧ ∃ X : ByteArray, x1 = .string X ∧ X = ⟨(O1 ++ idxTxt (fun _ => flagTxt) 0 (y.refs.take q)).toArray⟩ ∧ Upd (fun _ => False) W0 wr) (fun _ i _ => nr - (intOf i).toNat)
      case atStart => exact ⟨0, Nat.zero_le _, rfl, _, rfl, by simpa [idxTxt] using HO1.out, HUR.out⟩
      case round =>
      obtain ⟨q, hq, rfl, X, rfl, hX, hu⟩ := hrel
      have hXs : X.size ≤ 1300000 := by
        rw [hX, size_eq, List.length_append]
        have h1 := idxTxt_le (fun _ => flagTxt) y.refs 0 q
        have h2 := HOL1.out
        omega
      by_cases hqn : q < nr
      · have hql : q < y.refs.length := by rw [HNR.out]; exact hqn
        have hrow := HRR.out.upd stBool hu (fun _ _ _ h => h)
        obtain ⟨g3, g3o, vs, hra, _, hvc, hD0⟩ := hrow.dest q hql
        obtain ⟨r, hr⟩ : ∃ r, y.refs[q] = r := ⟨_, rfl⟩
        have hrq : y.refs[q]? = some r := by rw [List.getElem?_eq_getElem hql, hr]
        have hD : vs = [.bool (y.refs[q])] := hD0
        clear hD0
        rw [hr] at hD
        subst hD
        subst hra
        have hcell := hvc 0 _ rfl
        rw [Nat.mul_one, Nat.add_zero] at hcell
        have hstep2 := idxTxt_step (fun _ => flagTxt) y.refs 0 q r hrq
        have HSTEP2 := Lib.hid hstep2
        have HXX := Lib.hid hX
        have HUQ := Lib.hid hu
        have z12a : ¬ 9223372036854775807 < X.size + 1 := by omega
        have z12b : X.size + 1 ≤ 9223372036854775807 := by omega
        clear hrow hvc hrq hr hstep2 hql hu hX
        cases r
        · go_wp2_with fail
          go_roundw
          case rel => exact ⟨q + 1, by omega, by go_num, _, rfl, by rw [HSTEP2.out, ← List.append_assoc]; exact app2 HXX.out rfl, HUQ.out⟩
          case measure => simp [intOf]; omega
        · go_wp2_with fail
          go_roundw
          case rel => exact ⟨q + 1, by omega, by go_num, _, rfl, by rw [HSTEP2.out, ← List.append_assoc]; exact app2 HXX.out rfl, HUQ.out⟩
          case measure => simp [intOf]; omega
      have hqe : q = nr := by omega
      have hall : y.refs.take q = y.refs := by rw [hqe, ← HNR.out]; exact List.take_length
      rw [hall] at hX
      clear hqe
      have q4 := hu.cell HN4.out (fun h => h)
      have q5 := hu.cell HN5.out (fun h => h)
      have HUQ := Lib.hid hu
      cases hres : y.result
      · rw [hres] at q4
        obtain ⟨O2, hO2d⟩ : ∃ O2, O1 ++ idxTxt (fun _ => flagTxt) 0 y.refs = O2 := ⟨_, rfl⟩
        rw [hO2d] at hX
        have hOL2 : O2.length + 1 + (idxTxt insF 0 y.code).length ≤ 1300000 := by rw [← hO2d]; have := HOL1.out; simp only [List.length_append]; omega
        have hfn : fnF l y = headF l y ++ idxTxt (fun _ => flagTxt) 0 y.refs ++ [10] ++ idxTxt insF 0 y.code := by simp [fnF, hres]
        have HFN := Lib.hid hfn
        have HO2 := Lib.hid hX
        have HO2d := Lib.hid hO2d
        have HOL2 := Lib.hid hOL2
        have z9a : ¬ 9223372036854775807 < X.size + 1 := by omega
        have z9b : X.size + 1 ≤ 9223372036854775807 := by omega
        clear hX hall hOL2 hO2d hfn hres hu
        obtain ⟨O3, hO3d⟩ : ∃ O3, O2 ++ [10] = O3 := ⟨_, rfl⟩
        have hO3 : X ++ (⟨#[10]⟩ : ByteArray) = ⟨O3.toArray⟩ := by rw [← hO3d]; exact app2 HO2.out rfl
        have hOL3 : O3.length + (idxTxt insF 0 y.code).length ≤ 1300000 := by rw [← hO3d]; have := HOL2.out; simp only [List.length_append, List.length_cons, List.length_nil]; omega
        have HO3 := Lib.hid hO3
        have HO3d := Lib.hid hO3d
        have HOL3 := Lib.hid hOL3
        clear hO3 hO3d hOL3
        go_wp2_with fail
        go_loopw [10, 154] (fun x1 i wr => ∃ q : Nat, q ≤ nc ∧ i = .int .i64 q ∧ ∃ X : ByteArray, x1 = .string X ∧ X = ⟨(O3 ++ idxTxt insF 0 (y.code.take q)).toArray⟩ ∧ Upd (fun _ => False) W0 wr) (fun _ i _ => nc - (intOf i).toNat)
        case atStart => exact ⟨0, Nat.zero_le _, rfl, _, rfl, by simpa [idxTxt] using HO3.out, HUQ.out⟩
        case round =>
        obtain ⟨q, hq, rfl, X, rfl, hX, hu⟩ := hrel
        have hXs : X.size ≤ 1300000 := by
          rw [hX, size_eq, List.length_append]
          have h1 := idxTxt_le insF y.code 0 q
          have h2 := HOL3.out
          omega
        by_cases hqn : q < nc
        · have hql : q < y.code.length := by rw [HNC.out]; exact hqn
          have hrow := HRK.out.upd stIns hu (fun _ _ _ h => h)
          obtain ⟨g3, g3o, vs, hka, _, hvc, hD0⟩ := hrow.dest q hql
          obtain ⟨x, hx⟩ : ∃ x, y.code[q] = x := ⟨_, rfl⟩
          have hxq : y.code[q]? = some x := by rw [List.getElem?_eq_getElem hql, hx]
          rw [hx] at hD0
          subst hka
          obtain ⟨la, lc, rfl, hrl⟩ := hD0.dest
          have k0 := hvc 0 _ rfl
          have k1 := hvc 1 _ rfl
          have k2 := hvc 2 _ rfl
          have k3 := hvc 3 _ rfl
          have k4 := hvc 4 _ rfl
          have k5 := hvc 5 _ rfl
          rw [Nat.add_zero] at k0
          have hstep2 := idxTxt_step insF y.code 0 q x hxq
          rw [Nat.zero_add] at hstep2
          have hle2 := idxTxt_le insF y.code 0 (q + 1)
          rw [hstep2, List.length_append] at hle2
          have hxok := HYOK.out.code x (List.mem_of_getElem? hxq)
          obtain ⟨F2, hF2⟩ : ∃ F2, wr.heap.size = F2 := ⟨_, rfl⟩
          obtain ⟨X0, hX0⟩ : ∃ X0, wr.alloc (.cells #[.int .i64 x.op, .int .i64 x.a, .int .i64 x.b, .int .i64 x.c, .int .i64 x.d, .slice la x.list.length lc] 34) = X0 := ⟨_, rfl⟩
          have huX : Upd (fun _ => False) wr X0 := hX0 ▸ Upd.alloc _ wr _
          have hXn : X0.heap[F2]? = some (.cells #[.int .i64 x.op, .int .i64 x.a, .int .i64 x.b, .int .i64 x.c, .int .i64 x.d, .slice la x.list.length lc] 34 (0, 0)) := by rw [← hX0, ← hF2]; exact heap_alloc_new wr _
          have m0 : X0.cell? ⟨F2, 0, none⟩ = some (.int .i64 x.op) := by simp [World.cell?, hXn]
          have m1 : X0.cell? ⟨F2, 1, none⟩ = some (.int .i64 x.a) := by simp [World.cell?, hXn]
          have m2 : X0.cell? ⟨F2, 2, none⟩ = some (.int .i64 x.b) := by simp [World.cell?, hXn]
          have m3 : X0.cell? ⟨F2, 3, none⟩ = some (.int .i64 x.c) := by simp [World.cell?, hXn]
          have m4 : X0.cell? ⟨F2, 4, none⟩ = some (.int .i64 x.d) := by simp [World.cell?, hXn]
          have m5 : X0.cell? ⟨F2, 5, none⟩ = some (.slice la x.list.length lc) := by simp [World.cell?, hXn]
          have hil : (insTxt (q : Int) x).length ≤ 1300000 := by
            have hi : (insTxt (q : Int) x).length = (insF q x).length := rfl
            have h2 := HOL3.out
            omega
          have hins := lawInstr_any (q : Int) (by omega) x hxok.1 la lc S X0 (hrl.upd stInt huX (fun _ _ _ h => h)) hxok.2 (by omega)
          obtain ⟨IB, hIB⟩ : ∃ IB : ByteArray, (⟨(insTxt (q : Int) x).toArray⟩ : ByteArray) = IB := ⟨_, rfl⟩
          have hIs : IB.size ≤ 1300000 := by rw [← hIB, size_eq]; exact hil
          rw [hIB] at hins
          have z8a : ¬ 9223372036854775807 < X.size + IB.size := by omega
          have z8b : X.size + IB.size ≤ 9223372036854775807 := by omega
          have hres : X ++ IB = ⟨(O3 ++ idxTxt insF 0 (y.code.take (q + 1))).toArray⟩ := by
            rw [hstep2]
            refine (app2 hX (y := insF q x) hIB.symm).trans ?_
            rw [List.append_assoc]
          have HRES := Lib.hid hres
          have HINS := Lib.hid hins
          have HUX := Lib.hid (hu.trans huX (fun _ _ h => h))
          clear hres hins hIB hil hxok hle2 hstep2 hxq hx hrow hvc hql hu hXn huX hrl hD0 hX
          go_wp2_with (go_at_call 8; refine HINS.out.mono ?_; rintro e w5 ⟨rfl, hu5⟩; have HU5 := Lib.hid hu5; clear hu5)
          go_roundw
          case rel => exact ⟨q + 1, by omega, by go_num, _, rfl, HRES.out, HUX.out.trans HU5.out (fun _ _ h => h)⟩
          case measure => simp [intOf]; omega
        have hqe : q = nc := by omega
        have hall : y.code.take q = y.code := by rw [hqe, ← HNC.out]; exact List.take_length
        rw [hall] at hX
        have HX2 := Lib.hid hX
        have HU8 := Lib.hid (HAW.out.trans hu (fun _ _ h => h))
        clear hall hu hX
        go_wp2_with fail
        go_roundw
        case rel => exact ⟨l + 1, by omega, by go_num, _, rfl, by rw [HSTEP.out, HFN.out, HX2.out]; simp only [← HO3d.out, ← HO2d.out, ← HO1d.out, List.append_assoc], HU8.out⟩
        case measure => simp [intOf]; omega
      · rw [hres] at q4
        obtain ⟨O2, hO2d⟩ : ∃ O2, O1 ++ idxTxt (fun _ => flagTxt) 0 y.refs ++ [32, 114, 101, 115, 117, 108, 116] = O2 := ⟨_, rfl⟩
        have hrl : (if y.result then ([32, 114, 101, 115, 117, 108, 116] : Bytes) else []).length = 7 := by rw [hres]; rfl
        have hOL2 : O2.length + 1 + (idxTxt insF 0 y.code).length ≤ 1300000 := by rw [← hO2d]; have := HOL1.out; rw [hrl] at this; simp only [List.length_append, List.length_cons, List.length_nil]; omega
        have hfn : fnF l y = headF l y ++ idxTxt (fun _ => flagTxt) 0 y.refs ++ [32, 114, 101, 115, 117, 108, 116] ++ [10] ++ idxTxt insF 0 y.code := by simp [fnF, hres]
        have hX2 : X ++ (⟨#[32, 114, 101, 115, 117, 108, 116]⟩ : ByteArray) = ⟨O2.toArray⟩ := by rw [← hO2d]; exact app2 hX rfl
        have HFN := Lib.hid hfn
        have HO2 := Lib.hid hX2
        have HO2d := Lib.hid hO2d
        have HOL2 := Lib.hid hOL2
        have z10a : ¬ 9223372036854775807 < X.size + 7 := by omega
        have z10b : X.size + 7 ≤ 9223372036854775807 := by omega
        have z11a : ¬ 9223372036854775807 < X.size + 7 + 1 := by omega
        have z11b : X.size + 7 + 1 ≤ 9223372036854775807 := by omega
        clear hX hX2 hall hOL2 hO2d hfn hres hrl hu
        obtain ⟨O3, hO3d⟩ : ∃ O3, O2 ++ [10] = O3 := ⟨_, rfl⟩
        have hO3 : (X ++ (⟨#[32, 114, 101, 115, 117, 108, 116]⟩ : ByteArray)) ++ (⟨#[10]⟩ : ByteArray) = ⟨O3.toArray⟩ := by rw [← hO3d]; exact app2 HO2.out rfl
        have hOL3 : O3.length + (idxTxt insF 0 y.code).length ≤ 1300000 := by rw [← hO3d]; have := HOL2.out; simp only [List.length_append, List.length_cons, List.length_nil]; omega
        have HO3 := Lib.hid hO3
        have HO3d := Lib.hid hO3d
        have HOL3 := Lib.hid hOL3
        clear hO3 hO3d hOL3
        go_wp2_with fail
        go_loopw [10, 154] (fun x1 i wr => ∃ q : Nat, q ≤ nc ∧ i = .int .i64 q ∧ ∃ X : ByteArray, x1 = .string X ∧ X = ⟨(O3 ++ idxTxt insF 0 (y.code.take q)).toArray⟩ ∧ Upd (fun _ => False) W0 wr) (fun _ i _ => nc - (intOf i).toNat)
        case atStart => exact ⟨0, Nat.zero_le _, rfl, _, rfl, by simpa [idxTxt] using HO3.out, HUQ.out⟩
        case round =>
        obtain ⟨q, hq, rfl, X, rfl, hX, hu⟩ := hrel
        have hXs : X.size ≤ 1300000 := by
          rw [hX, size_eq, List.length_append]
          have h1 := idxTxt_le insF y.code 0 q
          have h2 := HOL3.out
          omega
        by_cases hqn : q < nc
        · have hql : q < y.code.length := by rw [HNC.out]; exact hqn
          have hrow := HRK.out.upd stIns hu (fun _ _ _ h => h)
          obtain ⟨g3, g3o, vs, hka, _, hvc, hD0⟩ := hrow.dest q hql
          obtain ⟨x, hx⟩ : ∃ x, y.code[q] = x := ⟨_, rfl⟩
          have hxq : y.code[q]? = some x := by rw [List.getElem?_eq_getElem hql, hx]
          rw [hx] at hD0
          subst hka
          obtain ⟨la, lc, rfl, hrl⟩ := hD0.dest
          have k0 := hvc 0 _ rfl
          have k1 := hvc 1 _ rfl
          have k2 := hvc 2 _ rfl
          have k3 := hvc 3 _ rfl
          have k4 := hvc 4 _ rfl
          have k5 := hvc 5 _ rfl
          rw [Nat.add_zero] at k0
          have hstep2 := idxTxt_step insF y.code 0 q x hxq
          rw [Nat.zero_add] at hstep2
          have hle2 := idxTxt_le insF y.code 0 (q + 1)
          rw [hstep2, List.length_append] at hle2
          have hxok := HYOK.out.code x (List.mem_of_getElem? hxq)
          obtain ⟨F2, hF2⟩ : ∃ F2, wr.heap.size = F2 := ⟨_, rfl⟩
          obtain ⟨X0, hX0⟩ : ∃ X0, wr.alloc (.cells #[.int .i64 x.op, .int .i64 x.a, .int .i64 x.b, .int .i64 x.c, .int .i64 x.d, .slice la x.list.length lc] 34) = X0 := ⟨_, rfl⟩
          have huX : Upd (fun _ => False) wr X0 := hX0 ▸ Upd.alloc _ wr _
          have hXn : X0.heap[F2]? = some (.cells #[.int .i64 x.op, .int .i64 x.a, .int .i64 x.b, .int .i64 x.c, .int .i64 x.d, .slice la x.list.length lc] 34 (0, 0)) := by rw [← hX0, ← hF2]; exact heap_alloc_new wr _
          have m0 : X0.cell? ⟨F2, 0, none⟩ = some (.int .i64 x.op) := by simp [World.cell?, hXn]
          have m1 : X0.cell? ⟨F2, 1, none⟩ = some (.int .i64 x.a) := by simp [World.cell?, hXn]
          have m2 : X0.cell? ⟨F2, 2, none⟩ = some (.int .i64 x.b) := by simp [World.cell?, hXn]
          have m3 : X0.cell? ⟨F2, 3, none⟩ = some (.int .i64 x.c) := by simp [World.cell?, hXn]
          have m4 : X0.cell? ⟨F2, 4, none⟩ = some (.int .i64 x.d) := by simp [World.cell?, hXn]
          have m5 : X0.cell? ⟨F2, 5, none⟩ = some (.slice la x.list.length lc) := by simp [World.cell?, hXn]
          have hil : (insTxt (q : Int) x).length ≤ 1300000 := by
            have hi : (insTxt (q : Int) x).length = (insF q x).length := rfl
            have h2 := HOL3.out
            omega
          have hins := lawInstr_any (q : Int) (by omega) x hxok.1 la lc S X0 (hrl.upd stInt huX (fun _ _ _ h => h)) hxok.2 (by omega)
          obtain ⟨IB, hIB⟩ : ∃ IB : ByteArray, (⟨(insTxt (q : Int) x).toArray⟩ : ByteArray) = IB := ⟨_, rfl⟩
          have hIs : IB.size ≤ 1300000 := by rw [← hIB, size_eq]; exact hil
          rw [hIB] at hins
          have z8a : ¬ 9223372036854775807 < X.size + IB.size := by omega
          have z8b : X.size + IB.size ≤ 9223372036854775807 := by omega
          have hres : X ++ IB = ⟨(O3 ++ idxTxt insF 0 (y.code.take (q + 1))).toArray⟩ := by
            rw [hstep2]
            refine (app2 hX (y := insF q x) hIB.symm).trans ?_
            rw [List.append_assoc]
          have HRES := Lib.hid hres
          have HINS := Lib.hid hins
          have HUX := Lib.hid (hu.trans huX (fun _ _ h => h))
          clear hres hins hIB hil hxok hle2 hstep2 hxq hx hrow hvc hql hu hXn huX hrl hD0 hX
          go_wp2_with (go_at_call 8; refine HINS.out.mono ?_; rintro e w5 ⟨rfl, hu5⟩; have HU5 := Lib.hid hu5; clear hu5)
          go_roundw
          case rel => exact ⟨q + 1, by omega, by go_num, _, rfl, HRES.out, HUX.out.trans HU5.out (fun _ _ h => h)⟩
          case measure => simp [intOf]; omega
        have hqe : q = nc := by omega
        have hall : y.code.take q = y.code := by rw [hqe, ← HNC.out]; exact List.take_length
        rw [hall] at hX
        have HX2 := Lib.hid hX
        have HU8 := Lib.hid (HAW.out.trans hu (fun _ _ h => h))
        clear hall hu hX
        go_wp2_with fail
        go_roundw
        case rel => exact ⟨l + 1, by omega, by go_num, _, rfl, by rw [HSTEP.out, HFN.out, HX2.out]; simp only [← HO3d.out, ← HO2d.out, ← HO1d.out, List.append_assoc], HU8.out⟩
        case measure => simp [intOf]; omega
  have hleq : l = j2 := by omega
  have hall : p.funcs.take l = p.funcs := by rw [hleq, ← HNF.out]; exact List.take_length
  rw [hall] at hZ
  have b0 := hu.cell HBX.out.1 (fun h => h)
  have b1 := hu.cell HBX.out.2.1 (fun h => h)
  have b2 := hu.cell HBX.out.2.2.1 (fun h => h)
  have b3 := hu.cell HBX.out.2.2.2.1 (fun h => h)
  have b4 := hu.cell HBX.out.2.2.2.2 (fun h => h)
  obtain ⟨D, hDe, hDs, hDc⟩ := HDG.out p.main HP.out.main
  obtain ⟨PB, hPB⟩ : ∃ PB : ByteArray, (⟨(progTxt p).toArray⟩ : ByteArray) = PB := ⟨_, rfl⟩
  have hpr := fun W hW => HPR.out W hW HC3.out
  simp only [hPB] at hpr
  have z5a : ¬ 9223372036854775807 < Z.size + 5 := by omega
  have z5b : Z.size + 5 ≤ 9223372036854775807 := by omega
  have z6a : ¬ 9223372036854775807 < Z.size + 5 + D.size := by omega
  have z6b : Z.size + 5 + D.size ≤ 9223372036854775807 := by omega
  have z7a : ¬ 9223372036854775807 < Z.size + 5 + D.size + 1 := by omega
  have z7b : Z.size + 5 + D.size + 1 ≤ 9223372036854775807 := by omega
  have hres : Z ++ (⟨#[109, 97, 105, 110, 32]⟩ : ByteArray) ++ D ++ (⟨#[10]⟩ : ByteArray) = PB := by
    refine (app2 (app2 (app2 hZ (y := [109, 97, 105, 110, 32]) rfl) hDe) (y := [10]) rfl).trans ?_
    rw [← hPB]
    simp [progTxt, ptxt, Part.t]
  have HDC := Lib.hid hDc
  have HPR2 := Lib.hid hpr
  have HU6 := Lib.hid hu
  clear hDc hpr hPB hDe hall hZ
  have HB4 := Lib.hid b4
  go_wp2_with fail
  go_region_with (first | (go_at_call 9; refine (HPR2.out _ (HU6.out.trans (Upd.drew (fun _ => False) wr) (fun _ _ h => h))).mono ?_; rintro e w5 ⟨rfl, hu5⟩; have c4 := hu5.cell (show wr.drew.cell? ⟨B0, 4, none⟩ = some (.int .i64 p.main) from HB4.out) (fun h => h)) | (go_at_call 6; with_reducible refine (HDC.out _).mono ?_; rintro e w6 ⟨rfl, hu6⟩))
  all_goals
    have HU7 := Lib.hid (((HU6.out.trans (Upd.drew (fun _ => False) wr) (fun _ _ h => h)).trans hu5 (fun _ _ h => h)).trans hu6 (fun _ _ h => h))
    clear hu5 hu6
    go_wp2
    go_ret
    exact ⟨rfl, HUA.out.trans HU7.out (fun _ _ h => h)⟩
end Go.Proofs.YtdbbalcicgllhaaGreatDoor
