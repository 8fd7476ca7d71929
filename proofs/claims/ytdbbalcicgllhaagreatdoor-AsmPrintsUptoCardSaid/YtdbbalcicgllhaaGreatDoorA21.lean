import Derived.Test.YtdbbalcicgllhaaGreatDoorA20
namespace Go.Proofs.YtdbbalcicgllhaaGreatDoor
open Go.RowKit

theorem DFn.dest {w : World} {S : Nat → Prop} {vs : List Value} {x : Fnc} (h : DFn w S vs x) : ∃ ra rc ka kc, vs = [.string ⟨x.name.toArray⟩, .slice ra x.refs.length rc, .int .i64 x.params, .int .i64 x.captures, .bool x.result, .slice ka x.code.length kc] ∧ RowV DBool 1 w S (.slice ra x.refs.length rc) x.refs ∧ RowV DIns 6 w S (.slice ka x.code.length kc) x.code := by
  obtain ⟨rv, kv, rfl, ⟨ra, rc, rfl, h1⟩, ⟨ka, kc, rfl, h2⟩⟩ := h
  exact ⟨ra, rc, ka, kc, rfl, ⟨ra, rc, rfl, h1⟩, ⟨ka, kc, rfl, h2⟩⟩
theorem DIns.dest {w : World} {S : Nat → Prop} {vs : List Value} {x : Ins} (h : DIns w S vs x) : ∃ la lc, vs = [.int .i64 x.op, .int .i64 x.a, .int .i64 x.b, .int .i64 x.c, .int .i64 x.d, .slice la x.list.length lc] ∧ RowV DInt 1 w S (.slice la x.list.length lc) x.list := by
  obtain ⟨lv, rfl, ⟨la, lc, rfl, h1⟩⟩ := h
  exact ⟨la, lc, rfl, ⟨la, lc, rfl, h1⟩⟩

/-- A text's line. -/
theorem text_line {b : Nat} {w0 w : World} {out : Bytes} (h : St b w0 w out) (j : Nat) (hj : j ≤ 100000000) (y : Bytes) (hy : y.length ≤ 100000000) (hl : out.length + (textF j y).length ≤ 1000000000) :
    Calls Tryz.prog 15 #[.agg #[.int .i64 37, .string ⟨y.toArray⟩, .int .i64 0, .int .i64 0, .string ⟨#[]⟩, .int .i64 0, .slice none 0 0]] w fun e w2 => ∃ Q : ByteArray, e = .returned (.string Q) ∧
      Calls Tryz.prog 14 #[.pointer (some ⟨b, 0, none⟩), .slice (some ⟨w2.heap.size, 0, none⟩) 5 5] (w2.alloc (.cells #[.iface 9 (.string ⟨#[116, 101, 120, 116, 32]⟩), .iface 3 (.int .i64 j), .iface 9 (.string ⟨#[32]⟩), .iface 9 (.string Q), .iface 9 (.string ⟨#[10]⟩)] 20)) fun e w' => e = .returned (.tuple #[]) ∧ St b w0 w' (out ++ textF j y) := by
  refine (Expr_any y (.int .i64 0) (.int .i64 0) (.string ⟨#[]⟩) (.int .i64 0) ⟨rfl, rfl, rfl, rfl⟩ w hy).mono ?_
  rintro e w2 ⟨rfl, hu⟩
  refine ⟨_, rfl, ?_⟩
  refine (say_new (h.new hu) [.s [116, 101, 120, 116, 32], .n j, .s [32], .s (quoteB y), .s [10]] 5 rfl hl (by decide) ?_).mono ?_
  · intro z hz
    simp at hz
    rcases hz with rfl | rfl | rfl | rfl | rfl
    · trivial
    · show _ ∧ _
      omega
    · trivial
    · trivial
    · trivial
  · rintro e w' ⟨rfl, _, hst⟩
    exact ⟨rfl, hst⟩

set_option maxRecDepth 100000 in
set_option maxHeartbeats 25600000 in
theorem print_any (p : Pg) (ta ga sa fa : Option Addr) (tc gl gc sl sc fc : Nat) (S : Nat → Prop) (w : World) (hp : p.ok) (hfew : (progTxt p).length ≤ 800000000) (ht : Tab w)
    (hrt : RowV DStr 1 w S (.slice ta p.texts.length tc) p.texts) (hrf : RowV DFn 6 w S (.slice fa p.funcs.length fc) p.funcs) (hS : ∀ k, S k → k < w.heap.size) :
    Calls Tryz.prog 9 #[.agg #[.slice ta p.texts.length tc, .slice ga gl gc, .slice sa sl sc, .slice fa p.funcs.length fc, .int .i64 p.main]] w fun e w' => e = .returned (.string ⟨(progTxt p).toArray⟩) ∧ Upd (fun _ => False) w w' := by
  obtain ⟨nt, hnt⟩ : ∃ n, p.texts.length = n := ⟨_, rfl⟩
  obtain ⟨nf, hnf⟩ : ∃ n, p.funcs.length = n := ⟨_, rfl⟩
  rw [hnt] at hrt ⊢
  rw [hnf] at hrf ⊢
  obtain ⟨B0, hB0⟩ : ∃ B0, w.heap.size = B0 := ⟨_, rfl⟩
  obtain ⟨bx, hbx⟩ : ∃ bx, Obj.cells #[.slice ta nt tc, .slice ga gl gc, .slice sa sl sc, .slice fa nf fc, .int .i64 p.main] 27 (0, 0) = bx := ⟨_, rfl⟩
  obtain ⟨A, hA⟩ : ∃ A, w.alloc bx = A := ⟨_, rfl⟩
  obtain ⟨B, hB⟩ : ∃ B, A.alloc (.cells #[.pointer none, .slice none 0 0] 49) = B := ⟨_, rfl⟩
  obtain ⟨C, hC⟩ : ∃ C, B.alloc (.cells tblCells 59) = C := ⟨_, rfl⟩
  have huA : Upd (fun _ => False) w A := hA ▸ Upd.alloc _ w _
  have huB : Upd (fun _ => False) A B := hB ▸ Upd.alloc _ A _
  have huC : Upd (fun _ => False) B C := hC ▸ Upd.alloc _ B _
  have hAs : A.heap.size = B0 + 1 := by rw [← hA, World.size_alloc, hB0]
  have hBs : B.heap.size = B0 + 2 := by rw [← hB, World.size_alloc, hAs]
  have hnA : A.heap[B0]? = some bx := by rw [← hA, ← hB0]; exact heap_alloc_new w _
  have hnB : B.heap[B0 + 1]? = some (.cells #[.pointer none, .slice none 0 0] 49 (0, 0)) := by rw [← hB, ← hAs]; exact heap_alloc_new A _
  have hnC : C.heap[B0 + 2]? = some (.cells tblCells 59 (0, 0)) := by rw [← hC, ← hBs]; exact heap_alloc_new B _
  have hCb : C.heap[B0 + 1]? = some (.cells #[.pointer none, .slice none 0 0] 49 (0, 0)) := huC.at_ hnB (fun h => h)
  have hC0 : C.heap[B0]? = some bx := huC.at_ (huB.at_ hnA (fun h => h)) (fun h => h)
  have hu : Upd (fun _ => False) w C := (huA.trans huB (fun _ _ h => h)).trans huC (fun _ _ h => h)
  have hbd : Bd 49 [] (B0 + 1) C [] := ⟨_, _, hCb, .inl rfl, ⟨rfl, .inl ⟨rfl, rfl⟩⟩, by simp [Value.ownBlock]⟩
  have hno : ∀ k, k ≠ B0 + 1 → ¬ WS (B0 + 1) C k := by
    rintro k hk (e | ⟨v, hv, ho⟩)
    · exact hk e
    · have : v = .slice none 0 0 := by simpa [World.cell?, hCb] using hv.symm
      subst this
      simp [Value.ownBlock] at ho
  have hSt : St (B0 + 1) C C [] := ⟨hbd, WStep.refl _ _, ht.upd hu (fun h => h), hno 0 (by omega)⟩
  have hrt1 := hrt.upd stStr hu (fun _ _ _ h => h)
  have hrf1 := hrf.upd stFn hu (fun _ _ _ h => h)
  have hSn : ∀ k, S k → k < C.heap.size ∧ ¬ WS (B0 + 1) C k := fun k hk => ⟨Nat.lt_of_lt_of_le (hS k hk) hu.size, hno k (by have := hS k hk; omega)⟩
  have hA' : w.alloc (Obj.cells #[.slice ta nt tc, .slice ga gl gc, .slice sa sl sc, .slice fa nf fc, .int .i64 p.main] 27 (0, 0)) = A := by rw [hbx]; exact hA
  have hnm := names_any B
  rw [hC, hBs] at hnm
  have hboxs : ∀ wr, WStep (B0 + 1) C wr → wr.heap[B0]? = some bx := fun wr h => (h.at_ hC0 (hno B0 (by omega))).1
  have htbl : ∀ wr, WStep (B0 + 1) C wr → wr.heap[B0 + 2]? = some (.cells tblCells 59 (0, 0)) := fun wr h => (h.at_ hnC (hno (B0 + 2) (by omega))).1
  have q0 : C.cell? ⟨B0, 0, none⟩ = some (.slice ta nt tc) := by simp [World.cell?, hC0, ← hbx]
  have hprog : progTxt p = idxTxt textF 0 p.texts ++ idxTxt fnF 0 p.funcs ++ ptxt [.s [109, 97, 105, 110, 32], .n p.main, .s [10]] := rfl
  have hfew' := hfew
  rw [hprog] at hfew'
  simp only [List.length_append] at hfew'
  have HFEW := Lib.hid hfew'
  have HPROG := Lib.hid hprog
  have HBX := Lib.hid hbx
  have HU := Lib.hid hu
  have HST := Lib.hid hSt
  have HRT := Lib.hid hrt1
  have HRF := Lib.hid hrf1
  have HSN := Lib.hid hSn
  have HBOX := Lib.hid hboxs
  have HTBL := Lib.hid htbl
  have HCB := Lib.hid hCb
  have HNM := Lib.hid hnm
  have HP := Lib.hid hp
  have HNT := Lib.hid hnt
  have HNF := Lib.hid hnf
  have hntl : nt ≤ 100000000 := by rw [← hnt]; exact hp.ntexts
  have hnfl : nf ≤ 100000000 := by rw [← hnf]; exact hp.nfuncs
  clear hA hC huA huB huC hnA hnB hnC hCb hC0 hu hbd hno hSt hrt1 hrf1 hSn hrt hrf hS ht hbx hnm hp hnt hnf hfew hfew' hboxs htbl hprog
  go_enter Tryz.func9, Tryz.ntmps9
  go_wp2_with (go_at_call 13; refine HNM.out.mono ?_; rintro e w1 ⟨rfl, rfl⟩)
  go_loopw [20] (fun i wr => ∃ j : Nat, j ≤ nt ∧ i = .int .i64 j ∧ St (B0 + 1) w1 wr (idxTxt textF 0 (p.texts.take j))) (fun i _ => nt - (intOf i).toNat)
  case atStart => exact ⟨0, Nat.zero_le _, rfl, by simpa [idxTxt] using HST.out⟩
  case round =>
  obtain ⟨j, hj, rfl, hst⟩ := hrel
  by_cases hjn : j < nt
  · have hjl : j < p.texts.length := by rw [HNT.out]; exact hjn
    have hrow := HRT.out.upd stStr hst.st.up (fun k hk _ => (HSN.out k hk).2)
    obtain ⟨g, go, vs, rfl, _, hvc, hD0⟩ := hrow.dest j hjl
    obtain ⟨y, hy⟩ : ∃ y, p.texts[j] = y := ⟨_, rfl⟩
    have hyq : p.texts[j]? = some y := by rw [List.getElem?_eq_getElem hjl, hy]
    have hD : vs = [.string ⟨(p.texts[j]).toArray⟩] := hD0
    clear hD0
    rw [hy] at hD
    subst hD
    have hcell := hvc 0 _ rfl
    rw [Nat.mul_one, Nat.add_zero] at hcell
    have hstep := idxTxt_step textF p.texts 0 j y hyq
    rw [Nat.zero_add] at hstep
    have hle := idxTxt_le textF p.texts 0 (j + 1)
    rw [hstep, List.length_append] at hle
    have hF := HFEW.out
    have hcall := text_line hst j (by omega) y (HP.out.texts y (List.mem_of_getElem? hyq)) (by omega)
    have HCALL := Lib.hid hcall
    have HSTEP := Lib.hid hstep
    clear hcall hstep hle hF hvc hyq hy hrow hst hjl
    go_wp2_with (go_at_call 15; refine HCALL.out.mono ?_; rintro e w2 ⟨QQ, rfl, hsay⟩; have HSAY := Lib.hid hsay; clear hsay)
    go_wp2_with (go_at_call 14; refine HSAY.out.mono ?_; rintro e w3 ⟨rfl, hst3⟩; have HST3 := Lib.hid hst3; clear hst3)
    go_roundw
    case rel => exact ⟨j + 1, by omega, by go_num, by rw [HSTEP.out]; exact HST3.out⟩
    case measure => simp [intOf]; omega
  · have hjeq : j = nt := by omega
    have hall : p.texts.take j = p.texts := by rw [hjeq, ← HNT.out]; exact List.take_length
    rw [hall] at hst
    have q3 : wr.cell? ⟨B0, 3, none⟩ = some (.slice fa nf fc) := by simp [World.cell?, HBOX.out wr hst.st, ← HBX.out]
    obtain ⟨T, hT⟩ : ∃ T, idxTxt textF 0 p.texts = T := ⟨_, rfl⟩
    rw [hT] at hst
    have HT := Lib.hid hT
    have HST1 := Lib.hid hst
    clear hst hT hall hjn
    subst hjeq
    go_wp2_with fail
    clear q3
    go_loopw [41] (fun i wr => ∃ j : Nat, j ≤ nf ∧ i = .int .i64 j ∧ St (B0 + 1) w1 wr (T ++ idxTxt fnF 0 (p.funcs.take j))) (fun i _ => nf - (intOf i).toNat)
    case atStart => exact ⟨0, Nat.zero_le _, rfl, by simpa [idxTxt] using HST1.out⟩
    case round =>
    obtain ⟨j, hj, rfl, hst⟩ := hrel
    by_cases hjn2 : j < nf
    · have hjl : j < p.funcs.length := by rw [HNF.out]; exact hjn2
      have hrow := HRF.out.upd stFn hst.st.up (fun k hk _ => (HSN.out k hk).2)
      obtain ⟨g, go, vs, rfl, _, hvc, hD0⟩ := hrow.dest j hjl
      obtain ⟨y, hy⟩ : ∃ y, p.funcs[j] = y := ⟨_, rfl⟩
      have hyq : p.funcs[j]? = some y := by rw [List.getElem?_eq_getElem hjl, hy]
      rw [hy] at hD0
      obtain ⟨ra, rc, ka, kc, rfl, hrr, hrk⟩ := hD0.dest
      have hstep := idxTxt_step fnF p.funcs 0 j y hyq
      rw [Nat.zero_add] at hstep
      have hle := idxTxt_le fnF p.funcs 0 (j + 1)
      rw [hstep, List.length_append] at hle
      have hyok := HP.out.funcs y (List.mem_of_getElem? hyq)
      have h0 := hvc 0 _ rfl
      have h1 := hvc 1 _ rfl
      have h2 := hvc 2 _ rfl
      have h3 := hvc 3 _ rfl
      have h4 := hvc 4 _ rfl
      have h5 := hvc 5 _ rfl
      rw [Nat.add_zero] at h0
      have HS2 := Lib.hid hst
      have HSTEP := Lib.hid hstep
      have HLE := Lib.hid hle
      have HYOK := Lib.hid hyok
      have HRR := Lib.hid hrr
      have HRK := Lib.hid hrk
      clear hrow hst hvc hy hyq hstep hle hyok hrr hrk hD0 hjl
      obtain ⟨O0, hO0⟩ : ∃ O0, T ++ idxTxt fnF 0 (p.funcs.take j) = O0 := ⟨_, rfl⟩
      have hlen : O0.length + (headF j y).length + (idxTxt (fun _ => flagTxt) 0 y.refs).length + (if y.result then ([32, 114, 101, 115, 117, 108, 116] : Bytes) else []).length + 1 + (idxTxt insF 0 y.code).length ≤ 800000000 := by
        have h1 := HLE.out
        have h2 := HFEW.out
        have h3 := HT.out
        rw [h3] at h2
        have e : (fnF j y).length = (headF j y).length + (idxTxt (fun _ => flagTxt) 0 y.refs).length + (if y.result then ([32, 114, 101, 115, 117, 108, 116] : Bytes) else []).length + 1 + (idxTxt insF 0 y.code).length := by
          unfold fnF
          simp only [List.length_append, List.length_cons, List.length_nil]
        rw [e] at h1
        rw [← hO0, List.length_append]
        omega
      obtain ⟨nr, hnr⟩ : ∃ nr, y.refs.length = nr := ⟨_, rfl⟩
      obtain ⟨nc, hnc⟩ : ∃ nc, y.code.length = nc := ⟨_, rfl⟩
      have hnrl : nr ≤ 100000000 := by rw [← hnr]; exact HYOK.out.nrefs
      have hncl : nc ≤ 100000000 := by rw [← hnc]; exact HYOK.out.ncode
      rw [hnr] at h1
      rw [hnc] at h5
      obtain ⟨NB, hNB⟩ : ∃ NB : ByteArray, (⟨y.name.toArray⟩ : ByteArray) = NB := ⟨_, rfl⟩
      rw [hNB] at h0
      obtain ⟨F, hF⟩ : ∃ F, wr.heap.size = F := ⟨_, rfl⟩
      obtain ⟨W0, hW0⟩ : ∃ W0, wr.alloc (.cells #[.string NB, .slice ra nr rc, .int .i64 y.params, .int .i64 y.captures, .bool y.result, .slice ka nc kc] 31) = W0 := ⟨_, rfl⟩
      have huW : Upd (fun _ => False) wr W0 := hW0 ▸ Upd.alloc _ wr _
      have hW0s : W0.heap.size = F + 1 := by rw [← hW0, World.size_alloc, hF]
      have hWn : W0.heap[F]? = some (.cells #[.string NB, .slice ra nr rc, .int .i64 y.params, .int .i64 y.captures, .bool y.result, .slice ka nc kc] 31 (0, 0)) := by rw [← hW0, ← hF]; exact heap_alloc_new wr _
      have hsw0 := HS2.out.new huW
      rw [hO0] at hsw0
      have hnF : ¬ WS (B0 + 1) W0 F := hsw0.bd.not_ws2 hWn (fun cs e => by cases e) (by have := HS2.out.bd.lt; omega)
      have hf1 : ∀ wr', WStep (B0 + 1) W0 wr' → wr'.cell? ⟨F, 1, none⟩ = some (.slice ra nr rc) := fun wr' hw => by simp [World.cell?, (hw.at_ hWn hnF).1]
      have hf2 : ∀ wr', WStep (B0 + 1) W0 wr' → wr'.cell? ⟨F, 4, none⟩ = some (.bool y.result) := fun wr' hw => by simp [World.cell?, (hw.at_ hWn hnF).1]
      have hf3 : ∀ wr', WStep (B0 + 1) W0 wr' → wr'.cell? ⟨F, 5, none⟩ = some (.slice ka nc kc) := fun wr' hw => by simp [World.cell?, (hw.at_ hWn hnF).1]
      have n0 : W0.cell? ⟨F, 0, none⟩ = some (.string NB) := by simp [World.cell?, hWn]
      have n2 : W0.cell? ⟨F, 2, none⟩ = some (.int .i64 y.params) := by simp [World.cell?, hWn]
      have n3 : W0.cell? ⟨F, 3, none⟩ = some (.int .i64 y.captures) := by simp [World.cell?, hWn]
      have hrr0 := HRR.out.upd stBool huW (fun _ _ _ h => h)
      have hrk0 := HRK.out.upd stIns huW (fun _ _ _ h => h)
      rw [hnr] at hrr0
      rw [hnc] at hrk0
      have hsw : ∀ k, S k → k < W0.heap.size ∧ ¬ WS (B0 + 1) W0 k := fun k hk => ⟨Nat.lt_of_lt_of_le (HSN.out k hk).1 hsw0.st.up.size, hsw0.st.not (HSN.out k hk).1 (HSN.out k hk).2⟩
      have HSW0 := Lib.hid hsw0
      have HF1 := Lib.hid hf1
      have HF4 := Lib.hid hf2
      have HF5 := Lib.hid hf3
      have HRR0 := Lib.hid hrr0
      have HRK0 := Lib.hid hrk0
      have HSW := Lib.hid hsw
      have HLEN := Lib.hid hlen
      have HNR := Lib.hid hnr
      have HNC := Lib.hid hnc
      have HNB := Lib.hid hNB
      have HO0 := Lib.hid hO0
      clear hO0 hlen hnr hnc hNB huW hWn hsw0 hnF hf1 hf2 hf3 hrr0 hrk0 hsw HRR HRK
      by_cases hnm : y.name = []
      · have hNBe : NB = ⟨#[]⟩ := by rw [← HNB.out, hnm]
        have hhead : headF j y = ptxt [.s [102, 117, 110, 99, 32], .n (j + 1), .s [32], .s [45], .s [32, 112, 97, 114, 97, 109, 115, 32], .n y.params, .s [32, 99, 97, 112, 116, 117, 114, 101, 115, 32], .n y.captures, .s [32, 114, 101, 103, 105, 115, 116, 101, 114, 115, 32]] := by
          unfold headF
          rw [if_pos hnm]
        have hlen := HLEN.out
        have hsay := say_new HSW0.out [.s [102, 117, 110, 99, 32], .n (j + 1), .s [32], .s [45], .s [32, 112, 97, 114, 97, 109, 115, 32], .n y.params, .s [32, 99, 97, 112, 116, 117, 114, 101, 115, 32], .n y.captures, .s [32, 114, 101, 103, 105, 115, 116, 101, 114, 115, 32]] 9 rfl (by rw [← hhead]; omega) (by decide) (by
          intro z hz
          simp at hz
          rcases hz with rfl | rfl | rfl | rfl | rfl | rfl | rfl | rfl | rfl
          · trivial
          · show _ ∧ _
            omega
          · trivial
          · trivial
          · trivial
          · exact HYOK.out.params
          · trivial
          · exact HYOK.out.captures
          · trivial)
        rw [← hhead, hW0s] at hsay
        obtain ⟨O1, hO1d⟩ : ∃ O1, O0 ++ headF j y = O1 := ⟨_, rfl⟩
        rw [hO1d] at hsay
        have hO1 : O1.length + (idxTxt (fun _ => flagTxt) 0 y.refs).length + (if y.result then ([32, 114, 101, 115, 117, 108, 116] : Bytes) else []).length + 1 + (idxTxt insF 0 y.code).length ≤ 800000000 := by rw [← hO1d, List.length_append]; omega
        have HO1 := Lib.hid hO1
        have HO1d := Lib.hid hO1d
        have HSAYH := Lib.hid hsay
        clear hsay hhead hlen hO1 hO1d
        clear hnm
        rw [hNBe] at n0 h0 hW0
        clear hNBe
        go_wp2_with (go_at_call 14; refine HSAYH.out.mono ?_; rintro e wH ⟨rfl, hsH, hstH⟩; have HWH := Lib.hid hsH; have HSH := Lib.hid hstH; have q1 := HF1.out wH hsH; clear hsH hstH)
        try clear q1
        go_loopw [72] (fun i wr => ∃ q : Nat, q ≤ nr ∧ i = .int .i64 q ∧ WStep (B0 + 1) W0 wr ∧ St (B0 + 1) w1 wr (O1 ++ idxTxt (fun _ => flagTxt) 0 (y.refs.take q))) (fun i _ => nr - (intOf i).toNat)
        case atStart => exact ⟨0, Nat.zero_le _, rfl, HWH.out, by simpa [idxTxt] using HSH.out⟩
        case round =>
        obtain ⟨q, hq, rfl, hws, hst⟩ := hrel
        by_cases hqn : q < nr
        · have hql : q < y.refs.length := by rw [HNR.out]; exact hqn
          have hrow := HRR0.out.upd stBool hws.up (fun k hk _ => (HSW.out k hk).2)
          obtain ⟨g2, g2o, vs, rfl, _, hvc, hD0⟩ := hrow.dest q hql
          obtain ⟨r, hr⟩ : ∃ r, y.refs[q] = r := ⟨_, rfl⟩
          have hrq : y.refs[q]? = some r := by rw [List.getElem?_eq_getElem hql, hr]
          have hD : vs = [.bool (y.refs[q])] := hD0
          clear hD0
          rw [hr] at hD
          subst hD
          have hcell := hvc 0 _ rfl
          rw [Nat.mul_one, Nat.add_zero] at hcell
          have hstep2 := idxTxt_step (fun _ => flagTxt) y.refs 0 q r hrq
          have hle2 := idxTxt_le (fun _ => flagTxt) y.refs 0 (q + 1)
          rw [hstep2, List.length_append] at hle2
          have hO1 := HO1.out
          have hsay := say_new hst [.s (flagTxt r)] 1 rfl (by simp [ptxt, Part.t]; omega) (by decide) (by
            intro z hz
            simp at hz
            subst hz
            trivial)
          have HSAY := Lib.hid hsay
          have HSTEP2 := Lib.hid hstep2
          have HWS := Lib.hid hws
          clear hrow hvc hrq hr hstep2 hle2 hO1 hsay hst hws hql
          cases r
          · go_wp2_with (go_at_call 14; refine HSAY.out.mono ?_; rintro e w5 ⟨rfl, hs5, hst5⟩; have HW5 := Lib.hid (HWS.out.trans hs5); have HS5 := Lib.hid hst5; clear hs5 hst5)
            go_roundw
            case rel => exact ⟨q + 1, by omega, by go_num, HW5.out, by rw [HSTEP2.out, ← List.append_assoc]; simpa [ptxt, Part.t] using HS5.out⟩
            case measure => simp [intOf]; omega
          · go_wp2_with (go_at_call 14; refine HSAY.out.mono ?_; rintro e w5 ⟨rfl, hs5, hst5⟩; have HW5 := Lib.hid (HWS.out.trans hs5); have HS5 := Lib.hid hst5; clear hs5 hst5)
            go_roundw
            case rel => exact ⟨q + 1, by omega, by go_num, HW5.out, by rw [HSTEP2.out, ← List.append_assoc]; simpa [ptxt, Part.t] using HS5.out⟩
            case measure => simp [intOf]; omega
        · have hqe : q = nr := by omega
          have hall : y.refs.take q = y.refs := by rw [hqe, ← HNR.out]; exact List.take_length
          rw [hall] at hst
          have q4 := HF4.out wr hws
          cases hres : y.result
          · rw [hres] at q4
            obtain ⟨O2, hO2d⟩ : ∃ O2, O1 ++ idxTxt (fun _ => flagTxt) 0 y.refs = O2 := ⟨_, rfl⟩
            rw [hO2d] at hst
            have hO2 : O2.length + 1 + (idxTxt insF 0 y.code).length ≤ 800000000 := by rw [← hO2d]; have := HO1.out; simp only [List.length_append]; omega
            have hfn : fnF j y = headF j y ++ idxTxt (fun _ => flagTxt) 0 y.refs ++ [10] ++ idxTxt insF 0 y.code := by simp [fnF, hres]
            have HFN := Lib.hid hfn
            have HO2 := Lib.hid hO2
            have HO2d := Lib.hid hO2d
            have HS2 := Lib.hid hst
            have HW2 := Lib.hid hws
            clear hst hws hall hO2 hO2d hfn hres
            obtain ⟨O3, hO3d⟩ : ∃ O3, O2 ++ ptxt [.s [10]] = O3 := ⟨_, rfl⟩
            have hO3 : O3.length + (idxTxt insF 0 y.code).length ≤ 800000000 := by rw [← hO3d]; have := HO2.out; simp [ptxt, Part.t]; omega
            have HO3 := Lib.hid hO3
            have HO3d := Lib.hid hO3d
            have hO2 := HO2.out
            have hsay := say_new HS2.out [.s [10]] 1 rfl (by simp [ptxt, Part.t]; omega) (by decide) (by
              intro z hz
              simp at hz
              subst hz
              trivial)
            rw [hO3d] at hsay
            have HSAY := Lib.hid hsay
            clear hsay hO3 hO3d hO2
            go_wp2_with (go_at_call 14; refine HSAY.out.mono ?_; rintro e wX ⟨rfl, hsX, hstX⟩; have HWX := Lib.hid (HW2.out.trans hsX); have HSX := Lib.hid hstX; have q5 := HF5.out wX HWX.out; clear hsX hstX)
            try clear q5
            go_loopw [99] (fun i wr => ∃ q : Nat, q ≤ nc ∧ i = .int .i64 q ∧ WStep (B0 + 1) W0 wr ∧ St (B0 + 1) w1 wr (O3 ++ idxTxt insF 0 (y.code.take q))) (fun i _ => nc - (intOf i).toNat)
            case atStart => exact ⟨0, Nat.zero_le _, rfl, HWX.out, by simpa [idxTxt] using HSX.out⟩
            case round =>
            obtain ⟨q, hq, rfl, hws, hst⟩ := hrel
            by_cases hqn : q < nc
            · have hql : q < y.code.length := by rw [HNC.out]; exact hqn
              have hrow := HRK0.out.upd stIns hws.up (fun k hk _ => (HSW.out k hk).2)
              obtain ⟨g2, g2o, vs, rfl, _, hvc, hD0⟩ := hrow.dest q hql
              obtain ⟨x, hx⟩ : ∃ x, y.code[q] = x := ⟨_, rfl⟩
              have hxq : y.code[q]? = some x := by rw [List.getElem?_eq_getElem hql, hx]
              rw [hx] at hD0
              obtain ⟨la, lc, rfl, hrl⟩ := hD0.dest
              have k0 := hvc 0 _ rfl
              have k1 := hvc 1 _ rfl
              have k2 := hvc 2 _ rfl
              have k3 := hvc 3 _ rfl
              have k4 := hvc 4 _ rfl
              have k5 := hvc 5 _ rfl
              rw [Nat.add_zero] at k0
              have hstep2 := idxTxt_step insF y.code 0 q x hxq
              rw [Nat.zero_add] at hstep2
              have hle2 := idxTxt_le insF y.code 0 (q + 1)
              rw [hstep2, List.length_append] at hle2
              have hO3 := HO3.out
              have hxok := HYOK.out.code x (List.mem_of_getElem? hxq)
              obtain ⟨X0, hX0⟩ : ∃ X0, wr.alloc (.cells #[.int .i64 x.op, .int .i64 x.a, .int .i64 x.b, .int .i64 x.c, .int .i64 x.d, .slice la x.list.length lc] 34) = X0 := ⟨_, rfl⟩
              have huX : Upd (fun _ => False) wr X0 := hX0 ▸ Upd.alloc _ wr _
              have hXn : X0.heap[wr.heap.size]? = some (.cells #[.int .i64 x.op, .int .i64 x.a, .int .i64 x.b, .int .i64 x.c, .int .i64 x.d, .slice la x.list.length lc] 34 (0, 0)) := by rw [← hX0]; exact heap_alloc_new wr _
              have m0 : X0.cell? ⟨wr.heap.size, 0, none⟩ = some (.int .i64 x.op) := by simp [World.cell?, hXn]
              have m1 : X0.cell? ⟨wr.heap.size, 1, none⟩ = some (.int .i64 x.a) := by simp [World.cell?, hXn]
              have m2 : X0.cell? ⟨wr.heap.size, 2, none⟩ = some (.int .i64 x.b) := by simp [World.cell?, hXn]
              have m3 : X0.cell? ⟨wr.heap.size, 3, none⟩ = some (.int .i64 x.c) := by simp [World.cell?, hXn]
              have m4 : X0.cell? ⟨wr.heap.size, 4, none⟩ = some (.int .i64 x.d) := by simp [World.cell?, hXn]
              have m5 : X0.cell? ⟨wr.heap.size, 5, none⟩ = some (.slice la x.list.length lc) := by simp [World.cell?, hXn]
              have hwsX := WStep.new hst.bd.lt huX
              have hins := instr_any (B0 + 1) w1 X0 (O3 ++ idxTxt insF 0 (y.code.take q)) q (by omega) x hxok.1 la lc S (hst.new huX) (B0 + 2) (HTBL.out X0 (hst.st.trans hwsX)) (hrl.upd stInt huX (fun _ _ _ h => h))
                (fun k hk => ⟨Nat.lt_of_lt_of_le (HSN.out k hk).1 (hst.st.trans hwsX).up.size, (hst.st.trans hwsX).not (HSN.out k hk).1 (HSN.out k hk).2⟩) hxok.2 (by rw [List.length_append]; have hi : (insTxt (q : Int) x).length = (insF q x).length := rfl; omega)
              have HINS := Lib.hid hins
              have HWSX := Lib.hid (hws.trans hwsX)
              have HSTEP2 := Lib.hid hstep2
              clear hrow hvc hxq hx hrl hstep2 hle2 hO3 hxok huX hXn hwsX hins hst hws hD0 hql
              go_wp2_with (go_at_call 16; refine HINS.out.mono ?_; rintro e w5 ⟨rfl, hs5, hst5⟩; have HW5 := Lib.hid (HWSX.out.trans hs5); have HS5 := Lib.hid hst5; clear hs5 hst5)
              go_roundw
              case rel => exact ⟨q + 1, by omega, by go_num, HW5.out, by rw [HSTEP2.out, ← List.append_assoc]; exact HS5.out⟩
              case measure => simp [intOf]; omega
            · have hqe : q = nc := by omega
              have hall : y.code.take q = y.code := by rw [hqe, ← HNC.out]; exact List.take_length
              rw [hall] at hst
              have HEND := Lib.hid hst
              clear hst hws hall
              go_wp2_with fail
              go_roundw
              case rel => exact ⟨j + 1, by omega, by go_num, by
                  have h10 : ptxt [.s [10]] = [10] := rfl
                  have hE := HEND.out
                  rw [← HO3d.out, ← HO2d.out, ← HO1d.out, ← HO0.out, h10] at hE
                  rw [HSTEP.out, HFN.out]
                  simpa only [List.append_assoc] using hE⟩
              case measure => simp [intOf]; omega
          · rw [hres] at q4
            obtain ⟨O2, hO2d⟩ : ∃ O2, O1 ++ idxTxt (fun _ => flagTxt) 0 y.refs ++ ptxt [.s [32, 114, 101, 115, 117, 108, 116]] = O2 := ⟨_, rfl⟩
            have hrl : (if y.result then ([32, 114, 101, 115, 117, 108, 116] : Bytes) else []).length = 7 := by rw [hres]; rfl
            have hO2 : O2.length + 1 + (idxTxt insF 0 y.code).length ≤ 800000000 := by rw [← hO2d]; have := HO1.out; rw [hrl] at this; simp [ptxt, Part.t]; omega
            have hfn : fnF j y = headF j y ++ idxTxt (fun _ => flagTxt) 0 y.refs ++ ptxt [.s [32, 114, 101, 115, 117, 108, 116]] ++ [10] ++ idxTxt insF 0 y.code := by simp [fnF, hres, ptxt, Part.t]
            have hsay0 := say_new hst [.s [32, 114, 101, 115, 117, 108, 116]] 1 rfl (by have := HO1.out; rw [hrl] at this; simp [ptxt, Part.t]; omega) (by decide) (by
              intro z hz
              simp at hz
              subst hz
              trivial)
            rw [hO2d] at hsay0
            simp only [List.map_cons, List.map_nil, Part.v] at hsay0
            have HFN := Lib.hid hfn
            have HO2 := Lib.hid hO2
            have HO2d := Lib.hid hO2d
            have HSAY0 := Lib.hid hsay0
            have HW1 := Lib.hid hws
            clear hst hws hall hO2 hO2d hfn hres hrl hsay0
            go_wp2_with (go_at_call 14; with_reducible refine HSAY0.out.mono ?_; rintro e wY ⟨rfl, hsY, hstY⟩; have HW2 := Lib.hid (HW1.out.trans hsY); have HS2 := Lib.hid hstY; clear hsY hstY)
            obtain ⟨O3, hO3d⟩ : ∃ O3, O2 ++ ptxt [.s [10]] = O3 := ⟨_, rfl⟩
            have hO3 : O3.length + (idxTxt insF 0 y.code).length ≤ 800000000 := by rw [← hO3d]; have := HO2.out; simp [ptxt, Part.t]; omega
            have HO3 := Lib.hid hO3
            have HO3d := Lib.hid hO3d
            have hO2 := HO2.out
            have hsay := say_new HS2.out [.s [10]] 1 rfl (by simp [ptxt, Part.t]; omega) (by decide) (by
              intro z hz
              simp at hz
              subst hz
              trivial)
            rw [hO3d] at hsay
            have HSAY := Lib.hid hsay
            clear hsay hO3 hO3d hO2
            go_wp2_with (go_at_call 14; refine HSAY.out.mono ?_; rintro e wX ⟨rfl, hsX, hstX⟩; have HWX := Lib.hid (HW2.out.trans hsX); have HSX := Lib.hid hstX; have q5 := HF5.out wX HWX.out; clear hsX hstX)
            try clear q5
            go_loopw [99] (fun i wr => ∃ q : Nat, q ≤ nc ∧ i = .int .i64 q ∧ WStep (B0 + 1) W0 wr ∧ St (B0 + 1) w1 wr (O3 ++ idxTxt insF 0 (y.code.take q))) (fun i _ => nc - (intOf i).toNat)
            case atStart => exact ⟨0, Nat.zero_le _, rfl, HWX.out, by simpa [idxTxt] using HSX.out⟩
            case round =>
            obtain ⟨q, hq, rfl, hws, hst⟩ := hrel
            by_cases hqn : q < nc
            · have hql : q < y.code.length := by rw [HNC.out]; exact hqn
              have hrow := HRK0.out.upd stIns hws.up (fun k hk _ => (HSW.out k hk).2)
              obtain ⟨g2, g2o, vs, rfl, _, hvc, hD0⟩ := hrow.dest q hql
              obtain ⟨x, hx⟩ : ∃ x, y.code[q] = x := ⟨_, rfl⟩
              have hxq : y.code[q]? = some x := by rw [List.getElem?_eq_getElem hql, hx]
              rw [hx] at hD0
              obtain ⟨la, lc, rfl, hrl⟩ := hD0.dest
              have k0 := hvc 0 _ rfl
              have k1 := hvc 1 _ rfl
              have k2 := hvc 2 _ rfl
              have k3 := hvc 3 _ rfl
              have k4 := hvc 4 _ rfl
              have k5 := hvc 5 _ rfl
              rw [Nat.add_zero] at k0
              have hstep2 := idxTxt_step insF y.code 0 q x hxq
              rw [Nat.zero_add] at hstep2
              have hle2 := idxTxt_le insF y.code 0 (q + 1)
              rw [hstep2, List.length_append] at hle2
              have hO3 := HO3.out
              have hxok := HYOK.out.code x (List.mem_of_getElem? hxq)
              obtain ⟨X0, hX0⟩ : ∃ X0, wr.alloc (.cells #[.int .i64 x.op, .int .i64 x.a, .int .i64 x.b, .int .i64 x.c, .int .i64 x.d, .slice la x.list.length lc] 34) = X0 := ⟨_, rfl⟩
              have huX : Upd (fun _ => False) wr X0 := hX0 ▸ Upd.alloc _ wr _
              have hXn : X0.heap[wr.heap.size]? = some (.cells #[.int .i64 x.op, .int .i64 x.a, .int .i64 x.b, .int .i64 x.c, .int .i64 x.d, .slice la x.list.length lc] 34 (0, 0)) := by rw [← hX0]; exact heap_alloc_new wr _
              have m0 : X0.cell? ⟨wr.heap.size, 0, none⟩ = some (.int .i64 x.op) := by simp [World.cell?, hXn]
              have m1 : X0.cell? ⟨wr.heap.size, 1, none⟩ = some (.int .i64 x.a) := by simp [World.cell?, hXn]
              have m2 : X0.cell? ⟨wr.heap.size, 2, none⟩ = some (.int .i64 x.b) := by simp [World.cell?, hXn]
              have m3 : X0.cell? ⟨wr.heap.size, 3, none⟩ = some (.int .i64 x.c) := by simp [World.cell?, hXn]
              have m4 : X0.cell? ⟨wr.heap.size, 4, none⟩ = some (.int .i64 x.d) := by simp [World.cell?, hXn]
              have m5 : X0.cell? ⟨wr.heap.size, 5, none⟩ = some (.slice la x.list.length lc) := by simp [World.cell?, hXn]
              have hwsX := WStep.new hst.bd.lt huX
              have hins := instr_any (B0 + 1) w1 X0 (O3 ++ idxTxt insF 0 (y.code.take q)) q (by omega) x hxok.1 la lc S (hst.new huX) (B0 + 2) (HTBL.out X0 (hst.st.trans hwsX)) (hrl.upd stInt huX (fun _ _ _ h => h))
                (fun k hk => ⟨Nat.lt_of_lt_of_le (HSN.out k hk).1 (hst.st.trans hwsX).up.size, (hst.st.trans hwsX).not (HSN.out k hk).1 (HSN.out k hk).2⟩) hxok.2 (by rw [List.length_append]; have hi : (insTxt (q : Int) x).length = (insF q x).length := rfl; omega)
              have HINS := Lib.hid hins
              have HWSX := Lib.hid (hws.trans hwsX)
              have HSTEP2 := Lib.hid hstep2
              clear hrow hvc hxq hx hrl hstep2 hle2 hO3 hxok huX hXn hwsX hins hst hws hD0 hql
              go_wp2_with (go_at_call 16; refine HINS.out.mono ?_; rintro e w5 ⟨rfl, hs5, hst5⟩; have HW5 := Lib.hid (HWSX.out.trans hs5); have HS5 := Lib.hid hst5; clear hs5 hst5)
              go_roundw
              case rel => exact ⟨q + 1, by omega, by go_num, HW5.out, by rw [HSTEP2.out, ← List.append_assoc]; exact HS5.out⟩
              case measure => simp [intOf]; omega
            · have hqe : q = nc := by omega
              have hall : y.code.take q = y.code := by rw [hqe, ← HNC.out]; exact List.take_length
              rw [hall] at hst
              have HEND := Lib.hid hst
              clear hst hws hall
              go_wp2_with fail
              go_roundw
              case rel => exact ⟨j + 1, by omega, by go_num, by
                  have h10 : ptxt [.s [10]] = [10] := rfl
                  have hE := HEND.out
                  rw [← HO3d.out, ← HO2d.out, ← HO1d.out, ← HO0.out, h10] at hE
                  rw [HSTEP.out, HFN.out]
                  simpa only [List.append_assoc] using hE⟩
              case measure => simp [intOf]; omega
      · have hNBe : NB.toList.isEmpty = false := by
          rw [← HNB.out, ByteArray.toList_mk]
          cases hh : y.name with
          | nil => exact absurd hh hnm
          | cons c l => rfl
        have hhead : headF j y = ptxt [.s [102, 117, 110, 99, 32], .n (j + 1), .s [32], .s y.name, .s [32, 112, 97, 114, 97, 109, 115, 32], .n y.params, .s [32, 99, 97, 112, 116, 117, 114, 101, 115, 32], .n y.captures, .s [32, 114, 101, 103, 105, 115, 116, 101, 114, 115, 32]] := by
          unfold headF
          rw [if_neg hnm]
        have hlen := HLEN.out
        have hsay := say_new HSW0.out [.s [102, 117, 110, 99, 32], .n (j + 1), .s [32], .s y.name, .s [32, 112, 97, 114, 97, 109, 115, 32], .n y.params, .s [32, 99, 97, 112, 116, 117, 114, 101, 115, 32], .n y.captures, .s [32, 114, 101, 103, 105, 115, 116, 101, 114, 115, 32]] 9 rfl (by rw [← hhead]; omega) (by decide) (by
          intro z hz
          simp at hz
          rcases hz with rfl | rfl | rfl | rfl | rfl | rfl | rfl | rfl | rfl
          · trivial
          · show _ ∧ _
            omega
          · trivial
          · trivial
          · trivial
          · exact HYOK.out.params
          · trivial
          · exact HYOK.out.captures
          · trivial)
        rw [← hhead, hW0s] at hsay
        obtain ⟨O1, hO1d⟩ : ∃ O1, O0 ++ headF j y = O1 := ⟨_, rfl⟩
        rw [hO1d] at hsay
        have hnb := HNB.out
        simp only [List.map_cons, List.map_nil, Part.v, hnb] at hsay
        clear hnb
        have hO1 : O1.length + (idxTxt (fun _ => flagTxt) 0 y.refs).length + (if y.result then ([32, 114, 101, 115, 117, 108, 116] : Bytes) else []).length + 1 + (idxTxt insF 0 y.code).length ≤ 800000000 := by rw [← hO1d, List.length_append]; omega
        have HO1 := Lib.hid hO1
        have HO1d := Lib.hid hO1d
        have HSAYH := Lib.hid hsay
        clear hsay hhead hlen hO1 hO1d
        clear hnm
        go_wp2_with (go_at_call 14; refine HSAYH.out.mono ?_; rintro e wH ⟨rfl, hsH, hstH⟩; have HWH := Lib.hid hsH; have HSH := Lib.hid hstH; have q1 := HF1.out wH hsH; clear hsH hstH)
        try clear q1
        go_loopw [72] (fun i wr => ∃ q : Nat, q ≤ nr ∧ i = .int .i64 q ∧ WStep (B0 + 1) W0 wr ∧ St (B0 + 1) w1 wr (O1 ++ idxTxt (fun _ => flagTxt) 0 (y.refs.take q))) (fun i _ => nr - (intOf i).toNat)
        case atStart => exact ⟨0, Nat.zero_le _, rfl, HWH.out, by simpa [idxTxt] using HSH.out⟩
        case round =>
        obtain ⟨q, hq, rfl, hws, hst⟩ := hrel
        by_cases hqn : q < nr
        · have hql : q < y.refs.length := by rw [HNR.out]; exact hqn
          have hrow := HRR0.out.upd stBool hws.up (fun k hk _ => (HSW.out k hk).2)
          obtain ⟨g2, g2o, vs, rfl, _, hvc, hD0⟩ := hrow.dest q hql
          obtain ⟨r, hr⟩ : ∃ r, y.refs[q] = r := ⟨_, rfl⟩
          have hrq : y.refs[q]? = some r := by rw [List.getElem?_eq_getElem hql, hr]
          have hD : vs = [.bool (y.refs[q])] := hD0
          clear hD0
          rw [hr] at hD
          subst hD
          have hcell := hvc 0 _ rfl
          rw [Nat.mul_one, Nat.add_zero] at hcell
          have hstep2 := idxTxt_step (fun _ => flagTxt) y.refs 0 q r hrq
          have hle2 := idxTxt_le (fun _ => flagTxt) y.refs 0 (q + 1)
          rw [hstep2, List.length_append] at hle2
          have hO1 := HO1.out
          have hsay := say_new hst [.s (flagTxt r)] 1 rfl (by simp [ptxt, Part.t]; omega) (by decide) (by
            intro z hz
            simp at hz
            subst hz
            trivial)
          have HSAY := Lib.hid hsay
          have HSTEP2 := Lib.hid hstep2
          have HWS := Lib.hid hws
          clear hrow hvc hrq hr hstep2 hle2 hO1 hsay hst hws hql
          cases r
          · go_wp2_with (go_at_call 14; refine HSAY.out.mono ?_; rintro e w5 ⟨rfl, hs5, hst5⟩; have HW5 := Lib.hid (HWS.out.trans hs5); have HS5 := Lib.hid hst5; clear hs5 hst5)
            go_roundw
            case rel => exact ⟨q + 1, by omega, by go_num, HW5.out, by rw [HSTEP2.out, ← List.append_assoc]; simpa [ptxt, Part.t] using HS5.out⟩
            case measure => simp [intOf]; omega
          · go_wp2_with (go_at_call 14; refine HSAY.out.mono ?_; rintro e w5 ⟨rfl, hs5, hst5⟩; have HW5 := Lib.hid (HWS.out.trans hs5); have HS5 := Lib.hid hst5; clear hs5 hst5)
            go_roundw
            case rel => exact ⟨q + 1, by omega, by go_num, HW5.out, by rw [HSTEP2.out, ← List.append_assoc]; simpa [ptxt, Part.t] using HS5.out⟩
            case measure => simp [intOf]; omega
        · have hqe : q = nr := by omega
          have hall : y.refs.take q = y.refs := by rw [hqe, ← HNR.out]; exact List.take_length
          rw [hall] at hst
          have q4 := HF4.out wr hws
          cases hres : y.result
          · rw [hres] at q4
            obtain ⟨O2, hO2d⟩ : ∃ O2, O1 ++ idxTxt (fun _ => flagTxt) 0 y.refs = O2 := ⟨_, rfl⟩
            rw [hO2d] at hst
            have hO2 : O2.length + 1 + (idxTxt insF 0 y.code).length ≤ 800000000 := by rw [← hO2d]; have := HO1.out; simp only [List.length_append]; omega
            have hfn : fnF j y = headF j y ++ idxTxt (fun _ => flagTxt) 0 y.refs ++ [10] ++ idxTxt insF 0 y.code := by simp [fnF, hres]
            have HFN := Lib.hid hfn
            have HO2 := Lib.hid hO2
            have HO2d := Lib.hid hO2d
            have HS2 := Lib.hid hst
            have HW2 := Lib.hid hws
            clear hst hws hall hO2 hO2d hfn hres
            obtain ⟨O3, hO3d⟩ : ∃ O3, O2 ++ ptxt [.s [10]] = O3 := ⟨_, rfl⟩
            have hO3 : O3.length + (idxTxt insF 0 y.code).length ≤ 800000000 := by rw [← hO3d]; have := HO2.out; simp [ptxt, Part.t]; omega
            have HO3 := Lib.hid hO3
            have HO3d := Lib.hid hO3d
            have hO2 := HO2.out
            have hsay := say_new HS2.out [.s [10]] 1 rfl (by simp [ptxt, Part.t]; omega) (by decide) (by
              intro z hz
              simp at hz
              subst hz
              trivial)
            rw [hO3d] at hsay
            have HSAY := Lib.hid hsay
            clear hsay hO3 hO3d hO2
            go_wp2_with (go_at_call 14; refine HSAY.out.mono ?_; rintro e wX ⟨rfl, hsX, hstX⟩; have HWX := Lib.hid (HW2.out.trans hsX); have HSX := Lib.hid hstX; have q5 := HF5.out wX HWX.out; clear hsX hstX)
            try clear q5
            go_loopw [99] (fun i wr => ∃ q : Nat, q ≤ nc ∧ i = .int .i64 q ∧ WStep (B0 + 1) W0 wr ∧ St (B0 + 1) w1 wr (O3 ++ idxTxt insF 0 (y.code.take q))) (fun i _ => nc - (intOf i).toNat)
            case atStart => exact ⟨0, Nat.zero_le _, rfl, HWX.out, by simpa [idxTxt] using HSX.out⟩
            case round =>
            obtain ⟨q, hq, rfl, hws, hst⟩ := hrel
            by_cases hqn : q < nc
            · have hql : q < y.code.length := by rw [HNC.out]; exact hqn
              have hrow := HRK0.out.upd stIns hws.up (fun k hk _ => (HSW.out k hk).2)
              obtain ⟨g2, g2o, vs, rfl, _, hvc, hD0⟩ := hrow.dest q hql
              obtain ⟨x, hx⟩ : ∃ x, y.code[q] = x := ⟨_, rfl⟩
              have hxq : y.code[q]? = some x := by rw [List.getElem?_eq_getElem hql, hx]
              rw [hx] at hD0
              obtain ⟨la, lc, rfl, hrl⟩ := hD0.dest
              have k0 := hvc 0 _ rfl
              have k1 := hvc 1 _ rfl
              have k2 := hvc 2 _ rfl
              have k3 := hvc 3 _ rfl
              have k4 := hvc 4 _ rfl
              have k5 := hvc 5 _ rfl
              rw [Nat.add_zero] at k0
              have hstep2 := idxTxt_step insF y.code 0 q x hxq
              rw [Nat.zero_add] at hstep2
              have hle2 := idxTxt_le insF y.code 0 (q + 1)
              rw [hstep2, List.length_append] at hle2
              have hO3 := HO3.out
              have hxok := HYOK.out.code x (List.mem_of_getElem? hxq)
              obtain ⟨X0, hX0⟩ : ∃ X0, wr.alloc (.cells #[.int .i64 x.op, .int .i64 x.a, .int .i64 x.b, .int .i64 x.c, .int .i64 x.d, .slice la x.list.length lc] 34) = X0 := ⟨_, rfl⟩
              have huX : Upd (fun _ => False) wr X0 := hX0 ▸ Upd.alloc _ wr _
              have hXn : X0.heap[wr.heap.size]? = some (.cells #[.int .i64 x.op, .int .i64 x.a, .int .i64 x.b, .int .i64 x.c, .int .i64 x.d, .slice la x.list.length lc] 34 (0, 0)) := by rw [← hX0]; exact heap_alloc_new wr _
              have m0 : X0.cell? ⟨wr.heap.size, 0, none⟩ = some (.int .i64 x.op) := by simp [World.cell?, hXn]
              have m1 : X0.cell? ⟨wr.heap.size, 1, none⟩ = some (.int .i64 x.a) := by simp [World.cell?, hXn]
              have m2 : X0.cell? ⟨wr.heap.size, 2, none⟩ = some (.int .i64 x.b) := by simp [World.cell?, hXn]
              have m3 : X0.cell? ⟨wr.heap.size, 3, none⟩ = some (.int .i64 x.c) := by simp [World.cell?, hXn]
              have m4 : X0.cell? ⟨wr.heap.size, 4, none⟩ = some (.int .i64 x.d) := by simp [World.cell?, hXn]
              have m5 : X0.cell? ⟨wr.heap.size, 5, none⟩ = some (.slice la x.list.length lc) := by simp [World.cell?, hXn]
              have hwsX := WStep.new hst.bd.lt huX
              have hins := instr_any (B0 + 1) w1 X0 (O3 ++ idxTxt insF 0 (y.code.take q)) q (by omega) x hxok.1 la lc S (hst.new huX) (B0 + 2) (HTBL.out X0 (hst.st.trans hwsX)) (hrl.upd stInt huX (fun _ _ _ h => h))
                (fun k hk => ⟨Nat.lt_of_lt_of_le (HSN.out k hk).1 (hst.st.trans hwsX).up.size, (hst.st.trans hwsX).not (HSN.out k hk).1 (HSN.out k hk).2⟩) hxok.2 (by rw [List.length_append]; have hi : (insTxt (q : Int) x).length = (insF q x).length := rfl; omega)
              have HINS := Lib.hid hins
              have HWSX := Lib.hid (hws.trans hwsX)
              have HSTEP2 := Lib.hid hstep2
              clear hrow hvc hxq hx hrl hstep2 hle2 hO3 hxok huX hXn hwsX hins hst hws hD0 hql
              go_wp2_with (go_at_call 16; refine HINS.out.mono ?_; rintro e w5 ⟨rfl, hs5, hst5⟩; have HW5 := Lib.hid (HWSX.out.trans hs5); have HS5 := Lib.hid hst5; clear hs5 hst5)
              go_roundw
              case rel => exact ⟨q + 1, by omega, by go_num, HW5.out, by rw [HSTEP2.out, ← List.append_assoc]; exact HS5.out⟩
              case measure => simp [intOf]; omega
            · have hqe : q = nc := by omega
              have hall : y.code.take q = y.code := by rw [hqe, ← HNC.out]; exact List.take_length
              rw [hall] at hst
              have HEND := Lib.hid hst
              clear hst hws hall
              go_wp2_with fail
              go_roundw
              case rel => exact ⟨j + 1, by omega, by go_num, by
                  have h10 : ptxt [.s [10]] = [10] := rfl
                  have hE := HEND.out
                  rw [← HO3d.out, ← HO2d.out, ← HO1d.out, ← HO0.out, h10] at hE
                  rw [HSTEP.out, HFN.out]
                  simpa only [List.append_assoc] using hE⟩
              case measure => simp [intOf]; omega
          · rw [hres] at q4
            obtain ⟨O2, hO2d⟩ : ∃ O2, O1 ++ idxTxt (fun _ => flagTxt) 0 y.refs ++ ptxt [.s [32, 114, 101, 115, 117, 108, 116]] = O2 := ⟨_, rfl⟩
            have hrl : (if y.result then ([32, 114, 101, 115, 117, 108, 116] : Bytes) else []).length = 7 := by rw [hres]; rfl
            have hO2 : O2.length + 1 + (idxTxt insF 0 y.code).length ≤ 800000000 := by rw [← hO2d]; have := HO1.out; rw [hrl] at this; simp [ptxt, Part.t]; omega
            have hfn : fnF j y = headF j y ++ idxTxt (fun _ => flagTxt) 0 y.refs ++ ptxt [.s [32, 114, 101, 115, 117, 108, 116]] ++ [10] ++ idxTxt insF 0 y.code := by simp [fnF, hres, ptxt, Part.t]
            have hsay0 := say_new hst [.s [32, 114, 101, 115, 117, 108, 116]] 1 rfl (by have := HO1.out; rw [hrl] at this; simp [ptxt, Part.t]; omega) (by decide) (by
              intro z hz
              simp at hz
              subst hz
              trivial)
            rw [hO2d] at hsay0
            simp only [List.map_cons, List.map_nil, Part.v] at hsay0
            have HFN := Lib.hid hfn
            have HO2 := Lib.hid hO2
            have HO2d := Lib.hid hO2d
            have HSAY0 := Lib.hid hsay0
            have HW1 := Lib.hid hws
            clear hst hws hall hO2 hO2d hfn hres hrl hsay0
            go_wp2_with (go_at_call 14; with_reducible refine HSAY0.out.mono ?_; rintro e wY ⟨rfl, hsY, hstY⟩; have HW2 := Lib.hid (HW1.out.trans hsY); have HS2 := Lib.hid hstY; clear hsY hstY)
            obtain ⟨O3, hO3d⟩ : ∃ O3, O2 ++ ptxt [.s [10]] = O3 := ⟨_, rfl⟩
            have hO3 : O3.length + (idxTxt insF 0 y.code).length ≤ 800000000 := by rw [← hO3d]; have := HO2.out; simp [ptxt, Part.t]; omega
            have HO3 := Lib.hid hO3
            have HO3d := Lib.hid hO3d
            have hO2 := HO2.out
            have hsay := say_new HS2.out [.s [10]] 1 rfl (by simp [ptxt, Part.t]; omega) (by decide) (by
              intro z hz
              simp at hz
              subst hz
              trivial)
            rw [hO3d] at hsay
            have HSAY := Lib.hid hsay
            clear hsay hO3 hO3d hO2
            go_wp2_with (go_at_call 14; refine HSAY.out.mono ?_; rintro e wX ⟨rfl, hsX, hstX⟩; have HWX := Lib.hid (HW2.out.trans hsX); have HSX := Lib.hid hstX; have q5 := HF5.out wX HWX.out; clear hsX hstX)
            try clear q5
            go_loopw [99] (fun i wr => ∃ q : Nat, q ≤ nc ∧ i = .int .i64 q ∧ WStep (B0 + 1) W0 wr ∧ St (B0 + 1) w1 wr (O3 ++ idxTxt insF 0 (y.code.take q))) (fun i _ => nc - (intOf i).toNat)
            case atStart => exact ⟨0, Nat.zero_le _, rfl, HWX.out, by simpa [idxTxt] using HSX.out⟩
            case round =>
            obtain ⟨q, hq, rfl, hws, hst⟩ := hrel
            by_cases hqn : q < nc
            · have hql : q < y.code.length := by rw [HNC.out]; exact hqn
              have hrow := HRK0.out.upd stIns hws.up (fun k hk _ => (HSW.out k hk).2)
              obtain ⟨g2, g2o, vs, rfl, _, hvc, hD0⟩ := hrow.dest q hql
              obtain ⟨x, hx⟩ : ∃ x, y.code[q] = x := ⟨_, rfl⟩
              have hxq : y.code[q]? = some x := by rw [List.getElem?_eq_getElem hql, hx]
              rw [hx] at hD0
              obtain ⟨la, lc, rfl, hrl⟩ := hD0.dest
              have k0 := hvc 0 _ rfl
              have k1 := hvc 1 _ rfl
              have k2 := hvc 2 _ rfl
              have k3 := hvc 3 _ rfl
              have k4 := hvc 4 _ rfl
              have k5 := hvc 5 _ rfl
              rw [Nat.add_zero] at k0
              have hstep2 := idxTxt_step insF y.code 0 q x hxq
              rw [Nat.zero_add] at hstep2
              have hle2 := idxTxt_le insF y.code 0 (q + 1)
              rw [hstep2, List.length_append] at hle2
              have hO3 := HO3.out
              have hxok := HYOK.out.code x (List.mem_of_getElem? hxq)
              obtain ⟨X0, hX0⟩ : ∃ X0, wr.alloc (.cells #[.int .i64 x.op, .int .i64 x.a, .int .i64 x.b, .int .i64 x.c, .int .i64 x.d, .slice la x.list.length lc] 34) = X0 := ⟨_, rfl⟩
              have huX : Upd (fun _ => False) wr X0 := hX0 ▸ Upd.alloc _ wr _
              have hXn : X0.heap[wr.heap.size]? = some (.cells #[.int .i64 x.op, .int .i64 x.a, .int .i64 x.b, .int .i64 x.c, .int .i64 x.d, .slice la x.list.length lc] 34 (0, 0)) := by rw [← hX0]; exact heap_alloc_new wr _
              have m0 : X0.cell? ⟨wr.heap.size, 0, none⟩ = some (.int .i64 x.op) := by simp [World.cell?, hXn]
              have m1 : X0.cell? ⟨wr.heap.size, 1, none⟩ = some (.int .i64 x.a) := by simp [World.cell?, hXn]
              have m2 : X0.cell? ⟨wr.heap.size, 2, none⟩ = some (.int .i64 x.b) := by simp [World.cell?, hXn]
              have m3 : X0.cell? ⟨wr.heap.size, 3, none⟩ = some (.int .i64 x.c) := by simp [World.cell?, hXn]
              have m4 : X0.cell? ⟨wr.heap.size, 4, none⟩ = some (.int .i64 x.d) := by simp [World.cell?, hXn]
              have m5 : X0.cell? ⟨wr.heap.size, 5, none⟩ = some (.slice la x.list.length lc) := by simp [World.cell?, hXn]
              have hwsX := WStep.new hst.bd.lt huX
              have hins := instr_any (B0 + 1) w1 X0 (O3 ++ idxTxt insF 0 (y.code.take q)) q (by omega) x hxok.1 la lc S (hst.new huX) (B0 + 2) (HTBL.out X0 (hst.st.trans hwsX)) (hrl.upd stInt huX (fun _ _ _ h => h))
                (fun k hk => ⟨Nat.lt_of_lt_of_le (HSN.out k hk).1 (hst.st.trans hwsX).up.size, (hst.st.trans hwsX).not (HSN.out k hk).1 (HSN.out k hk).2⟩) hxok.2 (by rw [List.length_append]; have hi : (insTxt (q : Int) x).length = (insF q x).length := rfl; omega)
              have HINS := Lib.hid hins
              have HWSX := Lib.hid (hws.trans hwsX)
              have HSTEP2 := Lib.hid hstep2
              clear hrow hvc hxq hx hrl hstep2 hle2 hO3 hxok huX hXn hwsX hins hst hws hD0 hql
              go_wp2_with (go_at_call 16; refine HINS.out.mono ?_; rintro e w5 ⟨rfl, hs5, hst5⟩; have HW5 := Lib.hid (HWSX.out.trans hs5); have HS5 := Lib.hid hst5; clear hs5 hst5)
              go_roundw
              case rel => exact ⟨q + 1, by omega, by go_num, HW5.out, by rw [HSTEP2.out, ← List.append_assoc]; exact HS5.out⟩
              case measure => simp [intOf]; omega
            · have hqe : q = nc := by omega
              have hall : y.code.take q = y.code := by rw [hqe, ← HNC.out]; exact List.take_length
              rw [hall] at hst
              have HEND := Lib.hid hst
              clear hst hws hall
              go_wp2_with fail
              go_roundw
              case rel => exact ⟨j + 1, by omega, by go_num, by
                  have h10 : ptxt [.s [10]] = [10] := rfl
                  have hE := HEND.out
                  rw [← HO3d.out, ← HO2d.out, ← HO1d.out, ← HO0.out, h10] at hE
                  rw [HSTEP.out, HFN.out]
                  simpa only [List.append_assoc] using hE⟩
              case measure => simp [intOf]; omega
    · have hjeq2 : j = nf := by omega
      have hall : p.funcs.take j = p.funcs := by rw [hjeq2, ← HNF.out]; exact List.take_length
      rw [hall] at hst
      have q4 : wr.cell? ⟨B0, 4, none⟩ = some (.int .i64 p.main) := by simp [World.cell?, HBOX.out wr hst.st, ← HBX.out]
      have hF := HFEW.out
      have hsay := say_new hst [.s [109, 97, 105, 110, 32], .n p.main, .s [10]] 3 rfl (by rw [List.length_append, ← HT.out]; omega) (by decide) (by
        intro z hz
        simp at hz
        rcases hz with rfl | rfl | rfl
        · trivial
        · exact HP.out.main
        · trivial)
      rw [← HT.out] at hsay
      rw [← HPROG.out] at hsay
      have HSAY := Lib.hid hsay
      clear hsay hst hF hall
      go_wp2_with (go_at_call 14; refine HSAY.out.mono ?_; rintro e w3 ⟨rfl, hs3, hst3⟩; have HST3 := Lib.hid hst3; clear hst3 hs3)
      have hstr := str_any HST3.out.bd (by rw [HPROG.out]; simp [ptxt, Part.t])
      have HSTR := Lib.hid hstr
      clear hstr
      go_wp2_with (go_at_call 17; refine HSTR.out.mono ?_; rintro e w4 ⟨rfl, hu4⟩; have HU4 := Lib.hid hu4; clear hu4)
      go_ret
      refine ⟨by simp, ?_⟩
      have hup : Upd (WS (B0 + 1) w1) w1 w4 := HST3.out.st.up.trans HU4.out (fun k hk h => h.elim .inl fun ho => .inr (HST3.out.st.own k hk ho))
      exact hup.fresh (ex := []) (T := 49) HU.out (by omega) HCB.out
end Go.Proofs.YtdbbalcicgllhaaGreatDoor
