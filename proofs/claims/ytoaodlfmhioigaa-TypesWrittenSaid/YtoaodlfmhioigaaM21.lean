/- A part of the proof of TypesWrittenSaid. No condition. -/
import Derived.Test.YtoaodlfmhioigaaM12
set_option linter.unusedSimpArgs false
set_option linter.unusedVariables false
section
namespace Go.Proofs.Ytoaodlfmhioigaa

abbrev TO (t : Tok) (x : Bytes) : AO := ⟨true, 0, none, 45, [I t.kind, S x, I t.num, I t.at_]⟩
def neF (toks : List Tok) (t : Tok) (tx : Bytes) (kk : Int) (hd : Bool) (v : Nat → AV) : Gat → AS
  | (s, _, none) => ⟨[.ref 0 0 0, v 1, .ref 1 0 0, .ref 2 0 0, .val (.slice none 0 0), I kk, v 6, B hd, v 8, v 9, v 10, v 11, v 12, v 13, v 14, v 15, v 16, v 17, v 18, v 19, v 20, v 21, v 22, v 23, v 24, v 25, v 26, v 27, v 28, v 29, v 30, v 31, v 32, v 33, v 34, v 35, v 36, v 37, v 38, v 39, v 40, v 41, v 42, v 43, v 44, v 45, v 46, v 47, v 48, v 49, v 50, v 51, v 52, v 53, v 54, v 55, v 56, v 57, v 58, v 59, v 60, v 61, v 62, v 63, v 64, v 65, v 66, v 67, v 68, v 69, v 70, v 71, v 72, v 73, v 74, v 75, v 76], [PO toks s, ZO, TO t tx]⟩
  | (s, j, some (n, l)) => ⟨[.ref 0 0 0, v 1, .ref 1 0 0, .ref 2 0 0, .row 5 7 0 (n + 1) n, I kk, v 6, B hd, v 8, v 9, v 10, v 11, v 12, v 13, v 14, v 15, v 16, v 17, v 18, v 19, v 20, v 21, v 22, v 23, v 24, v 25, v 26, v 27, v 28, v 29, v 30, v 31, v 32, v 33, v 34, v 35, v 36, v 37, v 38, v 39, v 40, v 41, v 42, v 43, v 44, v 45, v 46, v 47, v 48, v 49, v 50, v 51, v 52, v 53, v 54, v 55, v 56, v 57, v 58, v 59, v 60, v 61, v 62, v 63, v 64, v 65, v 66, v 67, v 68, v 69, v 70, v 71, v 72, v 73, v 74, v 75, v 76], [PO toks s, ZO, TO t tx, ⟨true, 0, none, 25, j.cells⟩, ⟨true, 0, some 7, 25, j.cells⟩, ⟨true, n, some 7, 25, flatN l⟩]⟩

set_option maxRecDepth 20000 in
set_option maxHeartbeats 4000000 in
theorem t_nested_step {toks : List Tok} (hk : TK toks) {n : Nat} (hlo : ∀ (s' : PS) (a : Int), s'.at_ < toks.length → meas toks s' < n → Tri Try.prog 66 [.ref 0 0 0, I a] [PO toks s'] (FwdR toks s'))
    (hih : ∀ s' : PS, s'.at_ < toks.length → meas toks s' < n → NodeAt toks 67 s')
    (hcl : ∀ (s' : PS) (b : Bool), s'.at_ < toks.length → meas toks s' < n → Tri Try.prog 68 [.ref 0 0 0, B b] [PO toks s'] (NodeR toks s'))
    (s : PS) (h : s.at_ < toks.length) (hb : s.bad < 0) (h6 : s.at_ + 1 < toks.length) (hm : meas toks s ≤ n) : NodeAt toks 61 s := by
  have hlen := hk.len
  have hmn := meas_next h hb
  have hfn : Fwd toks s s.next := ⟨Nat.le_succ _, h6, id⟩
  obtain ⟨t, hpk, ht, hok⟩ := peek_b hk h
  have hw := wrap_one (n := s.at_) (by omega)
  refine tri_by Try.func61 (by rfl) _ Try.ntmps61 _ (by rfl) ?_
  by_cases h1 : t.text = [102, 111, 114]
  · simp [PO]
    refine acallC_by 1 (hpk) ?_ (by kernel_rfl) ?_ ?_ ?_ ?_ ?_ ?_ ?_ ?_ ?_ <;> simp [PO, Tok.cells, hw, h1]
    refine acallC_of 1 (hlo s.next t.at_ hfn.lt (by omega)) ?_ (by kernel_rfl) ?_ ?_ ?_ ?_ ?_ ?_ <;> simp [PO, PS.next]
    rintro r o ⟨⟨k, x, m, c, y, rf, kids⟩, s2, rfl, rfl, hf2⟩
    simp [PO, Tr.av, Tr.cells]
    exact ⟨.mk k x m c y rf kids, s2, rfl, rfl, hfn.trans hf2, fun _ => hf2.le⟩
  · by_cases h2 : t.text = [115, 119, 105, 116, 99, 104]
    · obtain ⟨b1, hi1, _⟩ := is_b hk hfn.lt [123]
      simp [PO]
      refine acallC_by 1 (hpk) ?_ (by kernel_rfl) ?_ ?_ ?_ ?_ ?_ ?_ ?_ ?_ ?_ <;> simp [PO, Tok.cells, hw, h2]
      refine acallC_by 0 (t_none) ?_ (by kernel_rfl) ?_ ?_ ?_ ?_ ?_ ?_ ?_ ?_ ?_ <;> simp
      cases b1
      · refine acallC_by 1 (hi1) ?_ (by kernel_rfl) ?_ ?_ ?_ ?_ ?_ ?_ ?_ ?_ ?_ <;> simp [PO, PS.next]
        refine acallC_of 1 (hih s.next hfn.lt (by omega)) ?_ (by kernel_rfl) ?_ ?_ ?_ ?_ ?_ ?_ <;> simp [PO, PS.next]
        rintro r o ⟨⟨ke, xe, me, ce, ye, re, kidse⟩, se, rfl, rfl, hfe, hge⟩
        simp [PO, Tr.av, Tr.cells]
        obtain ⟨sw, hww, hfw, hgw⟩ := want_b hk (hfe).lt [123]
        have hFw := (hfe).trans hfw
        have hF0 : Fwd toks s.next { sw with head := false } := ⟨hFw.le, hFw.lt, hFw.bad⟩
        have hFs := hfn.trans hF0
        have hNX : s.at_ + 1 ≤ sw.at_ := hFw.le
        have hMs : meas toks { sw with head := false } < n := by have := meas_fwd hF0; omega
        refine acallC_by 1 (hww) ?_ (by kernel_rfl) ?_ ?_ ?_ ?_ ?_ ?_ ?_ ?_ ?_ <;> simp [PO, PS.next]
        refine loopC_to 0 (neF toks t [115, 119, 105, 116, 99, 104] 23 sw.head) (GatC (fun _ => True) toks ({ sw with head := false } : PS)) (GatC (fun _ => True) toks ({ sw with head := false } : PS)) (fun i => meas toks i.1) ({ sw with head := false }, Tr.mk ke xe me ce ye re kidse, some (0, [Tr.mk ke xe me ce ye re kidse])) (by rfl) ⟨Fwd.refl hFs.lt, rfl, Nat.zero_le _, fun _ => ⟨by show 0 < sw.at_; omega, fun _ _ => trivial⟩⟩ ?_ ?_
        · rintro v ⟨s2, j, g⟩ hc
          have hf2 := hc.fwd
          simp only at hf2
          have hm2 : meas toks s2 < n := Nat.lt_of_le_of_lt (meas_fwd hf2) hMs
          by_cases hb : s2.bad < 0
          · obtain ⟨b, his, hib⟩ := is_b hk hf2.lt [125]
            cases b
            · match g, hc with
              | none, hc =>
                simp [neF, PO, hb]
                refine acallC_by 1 (his) ?_ (by kernel_rfl) ?_ ?_ ?_ ?_ ?_ ?_ ?_ ?_ ?_ <;> simp [PO, Tok.cells, h2]
                refine acallC_of 1 (hcl s2 true hf2.lt (by omega)) ?_ (by kernel_rfl) ?_ ?_ ?_ ?_ ?_ ?_ <;> simp [PO]
                rintro r o ⟨⟨k, x, m, a, y, rf, kids⟩, s3, rfl, rfl, hf3, hg3⟩
                simp [PO, Tr.av, Tr.cells]
                refine Again.mk 6 ((s3, .mk k x m a y rf kids, some (0, [.mk k x m a y rf kids]))) (by simp) (by simp) (by simp) rfl ?_ ?_ ?_
                · simp [neF, PO, flatN, Tr.cells, Tok.cells, h2]
                · exact ⟨hf2.trans hf3, rfl, Nat.zero_le _, fun e => ⟨by have := hg3 e; omega, fun _ _ => trivial⟩⟩
                · exact meas_lt hf3 hb hg3
              | some (n, l), hc =>
                obtain ⟨_, hl1, hl2, hl3⟩ := hc
                have hlt2 := hf2.lt
                have hl4 := (hl3 hb).1
                obtain ⟨hq1, hq2⟩ := len_ok (n := n + 1 + 1) (by omega)
                have hta := flatN_take l (n + 1) hl1.symm
                simp [neF, PO, hb]
                refine acallC_by 1 (his) ?_ (by kernel_rfl) ?_ ?_ ?_ ?_ ?_ ?_ ?_ ?_ ?_ <;> simp [PO, Tok.cells, h2]
                refine acallC_of 1 (hcl s2 true hf2.lt (by omega)) ?_ (by kernel_rfl) ?_ ?_ ?_ ?_ ?_ ?_ <;> simp [PO]
                rintro r o ⟨⟨k, y, m, a, z, rf, kids⟩, s4, rfl, rfl, hf4, hg4⟩
                have hle4 := hf4.le
                simp [PO, Tr.av, Tr.cells, flatN_length, hl1, hq1, hq2, hta]
                refine Again.mk 6 ((s4, j, some (n + 1, l ++ [.mk k y m a z rf kids]))) (by simp) (by simp) (by simp) rfl ?_ ?_ ?_
                · simp [neF, PO, flatN, Tr.cells, flatN_append, Tok.cells, h2]
                · exact ⟨hf2.trans hf4, by simp [hl1], by show n + 1 ≤ s4.at_; omega, fun e => ⟨by show n + 1 < s4.at_; have := hg4 e; omega, fun _ _ => trivial⟩⟩
                · exact meas_lt hf4 hb hg4
            · match g, hc with
              | none, hc =>
                simp [neF, PO, hb]
                refine acallC_by 1 (his) ?_ (by kernel_rfl) ?_ ?_ ?_ ?_ ?_ ?_ ?_ ?_ ?_ <;> simp [PO]
                refine Left.mk ((s2, j, none)) rfl ?_ ?_
                · simp [neF, PO]
                · exact hc
              | some (n, l), hc =>
                simp [neF, PO, hb]
                refine acallC_by 1 (his) ?_ (by kernel_rfl) ?_ ?_ ?_ ?_ ?_ ?_ ?_ ?_ ?_ <;> simp [PO]
                refine Left.mk ((s2, j, some (n, l))) rfl ?_ ?_
                · simp [neF, PO]
                · exact hc
          · match g, hc with
            | none, hc =>
              simp [neF, PO, hb]
              refine Left.mk ((s2, j, none)) rfl ?_ ?_
              · simp [neF, PO]
              · exact hc
            | some (n, l), hc =>
              simp [neF, PO, hb]
              refine Left.mk ((s2, j, some (n, l))) rfl ?_ ?_
              · simp [neF, PO]
              · exact hc
        · rintro v ⟨s2, j, g⟩ hc
          have hf2 := hc.fwd
          simp only at hf2
          have hf0 : Fwd toks s2 { s2 with head := sw.head } := ⟨Nat.le_refl _, hf2.lt, id⟩
          obtain ⟨s3, hw3, hf3, hg3⟩ := want_b hk hf0.lt [125]
          have hF3 := (((hFs).trans hf2).trans hf0).trans hf3
          have hpr : s.at_ < s3.at_ := by have h1 : s.at_ + 1 ≤ (({ sw with head := false } : PS)).at_ := hNX; have h2 := hf2.le; have h3 := (hf0.trans hf3).le; have h4 : (({ sw with head := false } : PS)).at_ ≤ s2.at_ := h2; omega
          match g, hc with
          | none, hc =>
            simp [neF, PO, Tok.cells, h2]
            refine acallC_by 1 (hw3) ?_ (by kernel_rfl) ?_ ?_ ?_ ?_ ?_ ?_ ?_ ?_ ?_ <;> simp [PO, h2]
            refine acallC_by 0 (t_one 23 t.at_ ⟨#[]⟩ 0 0 []) ?_ (by kernel_rfl) ?_ ?_ ?_ ?_ ?_ ?_ ?_ ?_ ?_ <;> simp [PO]
            exact ⟨.mk 23 [] 0 t.at_ [] 0 [], s3, rfl, rfl, hF3, fun _ => hpr⟩
          | some (n, l), hc =>
            obtain ⟨_, hl1, hl2, hl3⟩ := hc
            have hta := flatN_take l (n + 1) hl1.symm
            simp [neF, PO, Tok.cells, h2]
            refine acallC_by 1 (hw3) ?_ (by kernel_rfl) ?_ ?_ ?_ ?_ ?_ ?_ ?_ ?_ ?_ <;> simp [PO, h2]
            refine acallC_by 0 (t_one 23 t.at_ ⟨#[]⟩ 7 (n + 1) (flatN l)) ?_ (by kernel_rfl) ?_ ?_ ?_ ?_ ?_ ?_ ?_ ?_ ?_ <;> simp [PO, flatN_length, hl1, hta]
            exact ⟨.mk 23 [] 0 t.at_ [] 0 l, s3, by simp [Tr.av, Tr.cells, hl1, vecNs], rfl, hF3, fun _ => hpr⟩
      · refine acallC_by 1 (hi1) ?_ (by kernel_rfl) ?_ ?_ ?_ ?_ ?_ ?_ ?_ ?_ ?_ <;> simp [PO, PS.next]
        obtain ⟨sw, hww, hfw, hgw⟩ := want_b hk (Fwd.refl hfn.lt).lt [123]
        have hFw := (Fwd.refl hfn.lt).trans hfw
        have hF0 : Fwd toks s.next { sw with head := false } := ⟨hFw.le, hFw.lt, hFw.bad⟩
        have hFs := hfn.trans hF0
        have hNX : s.at_ + 1 ≤ sw.at_ := hFw.le
        have hMs : meas toks { sw with head := false } < n := by have := meas_fwd hF0; omega
        refine acallC_by 1 (hww) ?_ (by kernel_rfl) ?_ ?_ ?_ ?_ ?_ ?_ ?_ ?_ ?_ <;> simp [PO, PS.next]
        refine loopC_to 0 (neF toks t [115, 119, 105, 116, 99, 104] 23 sw.head) (GatC (fun _ => True) toks ({ sw with head := false } : PS)) (GatC (fun _ => True) toks ({ sw with head := false } : PS)) (fun i => meas toks i.1) ({ sw with head := false }, noneT, some (0, [noneT])) (by rfl) ⟨Fwd.refl hFs.lt, rfl, Nat.zero_le _, fun _ => ⟨by show 0 < sw.at_; omega, fun _ _ => trivial⟩⟩ ?_ ?_
        · rintro v ⟨s2, j, g⟩ hc
          have hf2 := hc.fwd
          simp only at hf2
          have hm2 : meas toks s2 < n := Nat.lt_of_le_of_lt (meas_fwd hf2) hMs
          by_cases hb : s2.bad < 0
          · obtain ⟨b, his, hib⟩ := is_b hk hf2.lt [125]
            cases b
            · match g, hc with
              | none, hc =>
                simp [neF, PO, hb]
                refine acallC_by 1 (his) ?_ (by kernel_rfl) ?_ ?_ ?_ ?_ ?_ ?_ ?_ ?_ ?_ <;> simp [PO, Tok.cells, h2]
                refine acallC_of 1 (hcl s2 true hf2.lt (by omega)) ?_ (by kernel_rfl) ?_ ?_ ?_ ?_ ?_ ?_ <;> simp [PO]
                rintro r o ⟨⟨k, x, m, a, y, rf, kids⟩, s3, rfl, rfl, hf3, hg3⟩
                simp [PO, Tr.av, Tr.cells]
                refine Again.mk 6 ((s3, .mk k x m a y rf kids, some (0, [.mk k x m a y rf kids]))) (by simp) (by simp) (by simp) rfl ?_ ?_ ?_
                · simp [neF, PO, flatN, Tr.cells, Tok.cells, h2]
                · exact ⟨hf2.trans hf3, rfl, Nat.zero_le _, fun e => ⟨by have := hg3 e; omega, fun _ _ => trivial⟩⟩
                · exact meas_lt hf3 hb hg3
              | some (n, l), hc =>
                obtain ⟨_, hl1, hl2, hl3⟩ := hc
                have hlt2 := hf2.lt
                have hl4 := (hl3 hb).1
                obtain ⟨hq1, hq2⟩ := len_ok (n := n + 1 + 1) (by omega)
                have hta := flatN_take l (n + 1) hl1.symm
                simp [neF, PO, hb]
                refine acallC_by 1 (his) ?_ (by kernel_rfl) ?_ ?_ ?_ ?_ ?_ ?_ ?_ ?_ ?_ <;> simp [PO, Tok.cells, h2]
                refine acallC_of 1 (hcl s2 true hf2.lt (by omega)) ?_ (by kernel_rfl) ?_ ?_ ?_ ?_ ?_ ?_ <;> simp [PO]
                rintro r o ⟨⟨k, y, m, a, z, rf, kids⟩, s4, rfl, rfl, hf4, hg4⟩
                have hle4 := hf4.le
                simp [PO, Tr.av, Tr.cells, flatN_length, hl1, hq1, hq2, hta]
                refine Again.mk 6 ((s4, j, some (n + 1, l ++ [.mk k y m a z rf kids]))) (by simp) (by simp) (by simp) rfl ?_ ?_ ?_
                · simp [neF, PO, flatN, Tr.cells, flatN_append, Tok.cells, h2]
                · exact ⟨hf2.trans hf4, by simp [hl1], by show n + 1 ≤ s4.at_; omega, fun e => ⟨by show n + 1 < s4.at_; have := hg4 e; omega, fun _ _ => trivial⟩⟩
                · exact meas_lt hf4 hb hg4
            · match g, hc with
              | none, hc =>
                simp [neF, PO, hb]
                refine acallC_by 1 (his) ?_ (by kernel_rfl) ?_ ?_ ?_ ?_ ?_ ?_ ?_ ?_ ?_ <;> simp [PO]
                refine Left.mk ((s2, j, none)) rfl ?_ ?_
                · simp [neF, PO]
                · exact hc
              | some (n, l), hc =>
                simp [neF, PO, hb]
                refine acallC_by 1 (his) ?_ (by kernel_rfl) ?_ ?_ ?_ ?_ ?_ ?_ ?_ ?_ ?_ <;> simp [PO]
                refine Left.mk ((s2, j, some (n, l))) rfl ?_ ?_
                · simp [neF, PO]
                · exact hc
          · match g, hc with
            | none, hc =>
              simp [neF, PO, hb]
              refine Left.mk ((s2, j, none)) rfl ?_ ?_
              · simp [neF, PO]
              · exact hc
            | some (n, l), hc =>
              simp [neF, PO, hb]
              refine Left.mk ((s2, j, some (n, l))) rfl ?_ ?_
              · simp [neF, PO]
              · exact hc
        · rintro v ⟨s2, j, g⟩ hc
          have hf2 := hc.fwd
          simp only at hf2
          have hf0 : Fwd toks s2 { s2 with head := sw.head } := ⟨Nat.le_refl _, hf2.lt, id⟩
          obtain ⟨s3, hw3, hf3, hg3⟩ := want_b hk hf0.lt [125]
          have hF3 := (((hFs).trans hf2).trans hf0).trans hf3
          have hpr : s.at_ < s3.at_ := by have h1 : s.at_ + 1 ≤ (({ sw with head := false } : PS)).at_ := hNX; have h2 := hf2.le; have h3 := (hf0.trans hf3).le; have h4 : (({ sw with head := false } : PS)).at_ ≤ s2.at_ := h2; omega
          match g, hc with
          | none, hc =>
            simp [neF, PO, Tok.cells, h2]
            refine acallC_by 1 (hw3) ?_ (by kernel_rfl) ?_ ?_ ?_ ?_ ?_ ?_ ?_ ?_ ?_ <;> simp [PO, h2]
            refine acallC_by 0 (t_one 23 t.at_ ⟨#[]⟩ 0 0 []) ?_ (by kernel_rfl) ?_ ?_ ?_ ?_ ?_ ?_ ?_ ?_ ?_ <;> simp [PO]
            exact ⟨.mk 23 [] 0 t.at_ [] 0 [], s3, rfl, rfl, hF3, fun _ => hpr⟩
          | some (n, l), hc =>
            obtain ⟨_, hl1, hl2, hl3⟩ := hc
            have hta := flatN_take l (n + 1) hl1.symm
            simp [neF, PO, Tok.cells, h2]
            refine acallC_by 1 (hw3) ?_ (by kernel_rfl) ?_ ?_ ?_ ?_ ?_ ?_ ?_ ?_ ?_ <;> simp [PO, h2]
            refine acallC_by 0 (t_one 23 t.at_ ⟨#[]⟩ 7 (n + 1) (flatN l)) ?_ (by kernel_rfl) ?_ ?_ ?_ ?_ ?_ ?_ ?_ ?_ ?_ <;> simp [PO, flatN_length, hl1, hta]
            exact ⟨.mk 23 [] 0 t.at_ [] 0 l, s3, by simp [Tr.av, Tr.cells, hl1, vecNs], rfl, hF3, fun _ => hpr⟩
    · simp [PO]
      refine acallC_by 1 (hpk) ?_ (by kernel_rfl) ?_ ?_ ?_ ?_ ?_ ?_ ?_ ?_ ?_ <;> simp [PO, Tok.cells, hw, h1, h2]
      obtain ⟨sw, hww, hfw, hgw⟩ := want_b hk (Fwd.refl hfn.lt).lt [123]
      have hFw := (Fwd.refl hfn.lt).trans hfw
      have hF0 : Fwd toks s.next { sw with head := false } := ⟨hFw.le, hFw.lt, hFw.bad⟩
      have hFs := hfn.trans hF0
      have hNX : s.at_ + 1 ≤ sw.at_ := hFw.le
      have hMs : meas toks { sw with head := false } < n := by have := meas_fwd hF0; omega
      refine acallC_by 1 (hww) ?_ (by kernel_rfl) ?_ ?_ ?_ ?_ ?_ ?_ ?_ ?_ ?_ <;> simp [PO, PS.next]
      refine loopC_to 0 (neF toks t t.text 25 sw.head) (GatC (fun _ => True) toks ({ sw with head := false } : PS)) (GatC (fun _ => True) toks ({ sw with head := false } : PS)) (fun i => meas toks i.1) ({ sw with head := false }, noneT, none) (by rfl) (Fwd.refl hFs.lt) ?_ ?_
      · rintro v ⟨s2, j, g⟩ hc
        have hf2 := hc.fwd
        simp only at hf2
        have hm2 : meas toks s2 < n := Nat.lt_of_le_of_lt (meas_fwd hf2) hMs
        by_cases hb : s2.bad < 0
        · obtain ⟨b, his, hib⟩ := is_b hk hf2.lt [125]
          cases b
          · match g, hc with
            | none, hc =>
              simp [neF, PO, hb]
              refine acallC_by 1 (his) ?_ (by kernel_rfl) ?_ ?_ ?_ ?_ ?_ ?_ ?_ ?_ ?_ <;> simp [PO, Tok.cells, h2]
              refine acallC_of 1 (hcl s2 false hf2.lt (by omega)) ?_ (by kernel_rfl) ?_ ?_ ?_ ?_ ?_ ?_ <;> simp [PO]
              rintro r o ⟨⟨k, x, m, a, y, rf, kids⟩, s3, rfl, rfl, hf3, hg3⟩
              simp [PO, Tr.av, Tr.cells]
              refine Again.mk 6 ((s3, .mk k x m a y rf kids, some (0, [.mk k x m a y rf kids]))) (by simp) (by simp) (by simp) rfl ?_ ?_ ?_
              · simp [neF, PO, flatN, Tr.cells, Tok.cells, h2]
              · exact ⟨hf2.trans hf3, rfl, Nat.zero_le _, fun e => ⟨by have := hg3 e; omega, fun _ _ => trivial⟩⟩
              · exact meas_lt hf3 hb hg3
            | some (n, l), hc =>
              obtain ⟨_, hl1, hl2, hl3⟩ := hc
              have hlt2 := hf2.lt
              have hl4 := (hl3 hb).1
              obtain ⟨hq1, hq2⟩ := len_ok (n := n + 1 + 1) (by omega)
              have hta := flatN_take l (n + 1) hl1.symm
              simp [neF, PO, hb]
              refine acallC_by 1 (his) ?_ (by kernel_rfl) ?_ ?_ ?_ ?_ ?_ ?_ ?_ ?_ ?_ <;> simp [PO, Tok.cells, h2]
              refine acallC_of 1 (hcl s2 false hf2.lt (by omega)) ?_ (by kernel_rfl) ?_ ?_ ?_ ?_ ?_ ?_ <;> simp [PO]
              rintro r o ⟨⟨k, y, m, a, z, rf, kids⟩, s4, rfl, rfl, hf4, hg4⟩
              have hle4 := hf4.le
              simp [PO, Tr.av, Tr.cells, flatN_length, hl1, hq1, hq2, hta]
              refine Again.mk 6 ((s4, j, some (n + 1, l ++ [.mk k y m a z rf kids]))) (by simp) (by simp) (by simp) rfl ?_ ?_ ?_
              · simp [neF, PO, flatN, Tr.cells, flatN_append, Tok.cells, h2]
              · exact ⟨hf2.trans hf4, by simp [hl1], by show n + 1 ≤ s4.at_; omega, fun e => ⟨by show n + 1 < s4.at_; have := hg4 e; omega, fun _ _ => trivial⟩⟩
              · exact meas_lt hf4 hb hg4
          · match g, hc with
            | none, hc =>
              simp [neF, PO, hb]
              refine acallC_by 1 (his) ?_ (by kernel_rfl) ?_ ?_ ?_ ?_ ?_ ?_ ?_ ?_ ?_ <;> simp [PO]
              refine Left.mk ((s2, j, none)) rfl ?_ ?_
              · simp [neF, PO]
              · exact hc
            | some (n, l), hc =>
              simp [neF, PO, hb]
              refine acallC_by 1 (his) ?_ (by kernel_rfl) ?_ ?_ ?_ ?_ ?_ ?_ ?_ ?_ ?_ <;> simp [PO]
              refine Left.mk ((s2, j, some (n, l))) rfl ?_ ?_
              · simp [neF, PO]
              · exact hc
        · match g, hc with
          | none, hc =>
            simp [neF, PO, hb]
            refine Left.mk ((s2, j, none)) rfl ?_ ?_
            · simp [neF, PO]
            · exact hc
          | some (n, l), hc =>
            simp [neF, PO, hb]
            refine Left.mk ((s2, j, some (n, l))) rfl ?_ ?_
            · simp [neF, PO]
            · exact hc
      · rintro v ⟨s2, j, g⟩ hc
        have hf2 := hc.fwd
        simp only at hf2
        have hf0 : Fwd toks s2 { s2 with head := sw.head } := ⟨Nat.le_refl _, hf2.lt, id⟩
        obtain ⟨s3, hw3, hf3, hg3⟩ := want_b hk hf0.lt [125]
        have hF3 := (((hFs).trans hf2).trans hf0).trans hf3
        have hpr : s.at_ < s3.at_ := by have h1 : s.at_ + 1 ≤ (({ sw with head := false } : PS)).at_ := hNX; have h2 := hf2.le; have h3 := (hf0.trans hf3).le; have h4 : (({ sw with head := false } : PS)).at_ ≤ s2.at_ := h2; omega
        match g, hc with
        | none, hc =>
          simp [neF, PO, Tok.cells, h2]
          refine acallC_by 1 (hw3) ?_ (by kernel_rfl) ?_ ?_ ?_ ?_ ?_ ?_ ?_ ?_ ?_ <;> simp [PO, h2]
          refine acallC_by 0 (t_one 25 t.at_ ⟨#[]⟩ 0 0 []) ?_ (by kernel_rfl) ?_ ?_ ?_ ?_ ?_ ?_ ?_ ?_ ?_ <;> simp [PO]
          exact ⟨.mk 25 [] 0 t.at_ [] 0 [], s3, rfl, rfl, hF3, fun _ => hpr⟩
        | some (n, l), hc =>
          obtain ⟨_, hl1, hl2, hl3⟩ := hc
          have hta := flatN_take l (n + 1) hl1.symm
          simp [neF, PO, Tok.cells, h2]
          refine acallC_by 1 (hw3) ?_ (by kernel_rfl) ?_ ?_ ?_ ?_ ?_ ?_ ?_ ?_ ?_ <;> simp [PO, h2]
          refine acallC_by 0 (t_one 25 t.at_ ⟨#[]⟩ 7 (n + 1) (flatN l)) ?_ (by kernel_rfl) ?_ ?_ ?_ ?_ ?_ ?_ ?_ ?_ ?_ <;> simp [PO, flatN_length, hl1, hta]
          exact ⟨.mk 25 [] 0 t.at_ [] 0 l, s3, by simp [Tr.av, Tr.cells, hl1, vecNs], rfl, hF3, fun _ => hpr⟩
end Go.Proofs.Ytoaodlfmhioigaa
end
