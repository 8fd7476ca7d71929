/- A part of the proof of TypesWrittenSaid. No condition. -/
import Derived.Test.YtoaodlfmhioigaaM15
set_option linter.unusedSimpArgs false
set_option linter.unusedVariables false
section
namespace Go.Proofs.Ytoaodlfmhioigaa

abbrev TO' (t : Tok) (x : Bytes) : AO := ⟨true, 0, none, 45, [I t.kind, S x, I t.num, I t.at_]⟩
def lnF (toks : List Tok) (t : Tok) (x : Bytes) (v : Nat → AV) : Gat2 → AS
  | (s, _, _, none) => ⟨[.ref 0 0 0, v 1, v 2, .ref 1 0 0, .ref 2 0 0, .val (.slice none 0 0), S x, I 49, v 8, v 9, v 10, v 11, v 12, v 13, v 14, v 15, v 16, v 17, v 18, v 19, v 20, v 21, v 22, v 23, v 24, v 25, v 26, v 27, v 28, v 29, v 30, v 31, v 32, v 33, v 34, v 35, v 36, v 37, v 38, v 39, v 40, v 41, v 42, v 43, v 44, v 45, v 46, v 47, v 48, v 49, v 50, v 51, v 52, v 53, v 54, v 55, v 56, v 57, v 58, v 59, v 60, v 61, v 62, v 63, v 64, v 65, v 66, v 67, v 68, v 69, v 70, v 71, v 72, v 73, v 74, v 75], [PO toks s, TO' t [38], ZO]⟩
  | (s, j, q, some (n, l)) => ⟨[.ref 0 0 0, v 1, v 2, .ref 1 0 0, .ref 2 0 0, .row 6 7 0 (n + 1) n, S x, I 49, v 8, v 9, v 10, v 11, v 12, v 13, v 14, v 15, v 16, v 17, v 18, v 19, v 20, v 21, v 22, v 23, v 24, v 25, v 26, v 27, v 28, v 29, v 30, v 31, v 32, v 33, v 34, v 35, v 36, v 37, v 38, v 39, v 40, v 41, v 42, v 43, v 44, v 45, v 46, v 47, v 48, v 49, v 50, v 51, v 52, v 53, v 54, v 55, v 56, v 57, v 58, v 59, v 60, v 61, v 62, v 63, v 64, v 65, v 66, v 67, v 68, v 69, v 70, v 71, v 72, v 73, v 74, v 75], [PO toks s, TO' t [38], ZO, ⟨true, 0, none, 25, j.cells⟩, ⟨false, 0, some 7, 25, j.cells⟩, ⟨true, 0, some 7, 25, q.cells⟩, ⟨true, n, some 7, 25, flatN l⟩]⟩
def llF (toks : List Tok) (t : Tok) (j : Tr) (v : Nat → AV) : PS × Nat × List Tr → AS
  | (s, n, l) => ⟨[.ref 0 0 0, v 1, v 2, .ref 1 0 0, .ref 2 0 0, .row 5 7 0 (n + 1) n, S [], I 50, v 8, v 9, v 10, v 11, v 12, v 13, v 14, v 15, v 16, v 17, v 18, v 19, v 20, v 21, v 22, v 23, v 24, v 25, v 26, v 27, v 28, v 29, v 30, v 31, v 32, v 33, v 34, v 35, v 36, v 37, v 38, v 39, v 40, v 41, v 42, v 43, v 44, v 45, v 46, v 47, v 48, v 49, v 50, v 51, v 52, v 53, v 54, v 55, v 56, v 57, v 58, v 59, v 60, v 61, v 62, v 63, v 64, v 65, v 66, v 67, v 68, v 69, v 70, v 71, v 72, v 73, v 74, v 75], [PO toks s, TO' t t.text, ZO, ⟨true, 0, none, 25, j.cells⟩, ⟨true, 0, some 7, 25, j.cells⟩, ⟨true, n, some 7, 25, flatN l⟩]⟩
def LlC (toks : List Tok) (s0 : PS) (i : PS × Nat × List Tr) : Prop := Fwd toks s0 i.1 ∧ i.2.2.length = i.2.1 + 1 ∧ i.2.1 ≤ i.1.at_ + 1 ∧ (i.1.bad < 0 → i.2.1 ≤ i.1.at_)

set_option maxRecDepth 20000 in
set_option maxHeartbeats 4000000 in
theorem t_literal_step {toks : List Tok} (hk : TK toks) {n0 : Nat} (hp : ∀ s' : PS, s'.at_ < toks.length → meas toks s' ≤ n0 → NodeAt toks 69 s')
    (s : PS) (t : Tok) (h : s.at_ < toks.length) (hm : meas toks s ≤ n0) : Tri Try.prog 82 [.ref 0 0 0, .agg t.cells] [PO toks s] (FwdR toks s) := by
  have hlen := hk.len
  refine tri_by Try.func82 (by rfl) _ Try.ntmps82 _ (by rfl) ?_
  by_cases c1 : t.text = [38]
  · obtain ⟨x, s0, hnm, hf0, hg0⟩ := name_b hk h
    obtain ⟨s1, hw1, hf1, hg1⟩ := want_b hk hf0.lt [123]
    have hF1 := hf0.trans hf1
    simp [PO, Tok.cells, c1]
    refine acallC_by 1 (hnm) ?_ (by kernel_rfl) ?_ ?_ ?_ ?_ ?_ ?_ ?_ ?_ ?_ <;> simp [PO]
    refine acallC_by 1 (hw1) ?_ (by kernel_rfl) ?_ ?_ ?_ ?_ ?_ ?_ ?_ ?_ ?_ <;> simp [PO]
    refine loopC_to 0 (lnF toks t x) (GatC2 toks s1) (GatC2 toks s1) (fun i => meas toks i.1) (s1, noneT, noneT, none) (by rfl) (Fwd.refl hf1.lt) ?_ ?_
    · rintro v ⟨s2, j, q, g⟩ hc
      have hf2 := hc.fwd
      simp only at hf2
      have hM2 := meas_fwd (hF1.trans hf2)
      by_cases hb : s2.bad < 0
      · obtain ⟨b, his, hib⟩ := is_b hk hf2.lt [125]
        cases b
        · obtain ⟨u, hpk2, hu, hok2⟩ := peek_b hk hf2.lt
          obtain ⟨y, s3, hnm3, hf3, hg3⟩ := name_b hk hf2.lt
          obtain ⟨s4, hw4, hf4, hg4⟩ := want_b hk hf3.lt [58]
          have hf24 := hf3.trans hf4
          have hM4 := meas_fwd hf24
          have hex := hp s4 hf4.lt (by omega)
          have hlt2 := hf2.lt
          match g, hc with
          | none, hc =>
            simp [lnF, PO, hb]
            refine acallC_by 1 (his) ?_ (by kernel_rfl) ?_ ?_ ?_ ?_ ?_ ?_ ?_ ?_ ?_ <;> simp [PO]
            refine acallC_by 1 (hpk2) ?_ (by kernel_rfl) ?_ ?_ ?_ ?_ ?_ ?_ ?_ ?_ ?_ <;> simp [PO, Tok.cells]
            refine acallC_by 1 (hnm3) ?_ (by kernel_rfl) ?_ ?_ ?_ ?_ ?_ ?_ ?_ ?_ ?_ <;> simp [PO]
            refine acallC_by 1 (hw4) ?_ (by kernel_rfl) ?_ ?_ ?_ ?_ ?_ ?_ ?_ ?_ ?_ <;> simp [PO]
            refine acallC_of 1 (hex) ?_ (by kernel_rfl) ?_ ?_ ?_ ?_ ?_ ?_ <;> simp [PO]
            rintro r o ⟨⟨k, a, m, c, z, rf, kids⟩, s5, rfl, rfl, hf5, hg5⟩
            have hf25 := hf24.trans hf5
            have hg25 : s5.bad < 0 → s2.at_ < s5.at_ := fun e => by have := (hg3 (hf4.bad (hf5.bad e))).1; have := hf4.le; have := hf5.le; omega
            simp [PO, Tr.av, Tr.cells]
            refine acallC_by 0 (t_one 5 u.at_ ⟨y.toArray⟩ 7 1 (Tr.mk k a m c z rf kids).cells) ?_ (by kernel_rfl) ?_ ?_ ?_ ?_ ?_ ?_ ?_ ?_ ?_ <;> simp [PO, Tr.cells]
            obtain ⟨b6, his6, _⟩ := is_b hk hf5.lt [125]
            cases b6
            · obtain ⟨s7, hw7, hf7, hg7⟩ := want_b hk hf5.lt [44]
              have hf27 := hf25.trans hf7
              have hg27 : s7.bad < 0 → s2.at_ < s7.at_ := fun e => by have := hg25 (hf7.bad e); have := hf7.le; omega
              refine acallC_by 1 (his6) ?_ (by kernel_rfl) ?_ ?_ ?_ ?_ ?_ ?_ ?_ ?_ ?_ <;> simp [PO]
              refine acallC_by 1 (hw7) ?_ (by kernel_rfl) ?_ ?_ ?_ ?_ ?_ ?_ ?_ ?_ ?_ <;> simp [PO]
              refine Again.mk 7 ((s7, .mk k a m c z rf kids, .mk 5 y 0 u.at_ [] 0 [.mk k a m c z rf kids], some (0, [.mk 5 y 0 u.at_ [] 0 [.mk k a m c z rf kids]]))) (by simp) (by simp) (by simp) rfl ?_ ?_ ?_
              · simp [lnF, PO, flatN, Tr.cells, vecN1]
              · exact ⟨hf2.trans hf27, rfl, Nat.zero_le _, fun e => by show 0 < (s7).at_; have := hg27 e; omega⟩
              · exact meas_lt hf27 hb hg27
            · refine acallC_by 1 (his6) ?_ (by kernel_rfl) ?_ ?_ ?_ ?_ ?_ ?_ ?_ ?_ ?_ <;> simp [PO]
              refine Again.mk 7 ((s5, .mk k a m c z rf kids, .mk 5 y 0 u.at_ [] 0 [.mk k a m c z rf kids], some (0, [.mk 5 y 0 u.at_ [] 0 [.mk k a m c z rf kids]]))) (by simp) (by simp) (by simp) rfl ?_ ?_ ?_
              · simp [lnF, PO, flatN, Tr.cells, vecN1]
              · exact ⟨hf2.trans hf25, rfl, Nat.zero_le _, fun e => by show 0 < (s5).at_; have := hg25 e; omega⟩
              · exact meas_lt hf25 hb hg25
          | some (n, l), hc =>
            obtain ⟨_, hl1, hl2, hl3⟩ := hc
            have hl3 : n < s2.at_ := hl3 hb
            obtain ⟨hq1, hq2⟩ := len_ok (n := n + 1 + 1) (by omega)
            have hta := flatN_take l (n + 1) hl1.symm
            simp [lnF, PO, hb]
            refine acallC_by 1 (his) ?_ (by kernel_rfl) ?_ ?_ ?_ ?_ ?_ ?_ ?_ ?_ ?_ <;> simp [PO]
            refine acallC_by 1 (hpk2) ?_ (by kernel_rfl) ?_ ?_ ?_ ?_ ?_ ?_ ?_ ?_ ?_ <;> simp [PO, Tok.cells]
            refine acallC_by 1 (hnm3) ?_ (by kernel_rfl) ?_ ?_ ?_ ?_ ?_ ?_ ?_ ?_ ?_ <;> simp [PO]
            refine acallC_by 1 (hw4) ?_ (by kernel_rfl) ?_ ?_ ?_ ?_ ?_ ?_ ?_ ?_ ?_ <;> simp [PO]
            refine acallC_of 1 (hex) ?_ (by kernel_rfl) ?_ ?_ ?_ ?_ ?_ ?_ <;> simp [PO]
            rintro r o ⟨⟨k, a, m, c, z, rf, kids⟩, s5, rfl, rfl, hf5, hg5⟩
            have hf25 := hf24.trans hf5
            have hg25 : s5.bad < 0 → s2.at_ < s5.at_ := fun e => by have := (hg3 (hf4.bad (hf5.bad e))).1; have := hf4.le; have := hf5.le; omega
            simp [PO, Tr.av, Tr.cells]
            refine acallC_by 0 (t_one 5 u.at_ ⟨y.toArray⟩ 7 1 (Tr.mk k a m c z rf kids).cells) ?_ (by kernel_rfl) ?_ ?_ ?_ ?_ ?_ ?_ ?_ ?_ ?_ <;> simp [PO, Tr.cells, flatN_length, hl1, hq1, hq2, hta]
            obtain ⟨b6, his6, _⟩ := is_b hk hf5.lt [125]
            cases b6
            · obtain ⟨s7, hw7, hf7, hg7⟩ := want_b hk hf5.lt [44]
              have hf27 := hf25.trans hf7
              have hg27 : s7.bad < 0 → s2.at_ < s7.at_ := fun e => by have := hg25 (hf7.bad e); have := hf7.le; omega
              refine acallC_by 1 (his6) ?_ (by kernel_rfl) ?_ ?_ ?_ ?_ ?_ ?_ ?_ ?_ ?_ <;> simp [PO]
              refine acallC_by 1 (hw7) ?_ (by kernel_rfl) ?_ ?_ ?_ ?_ ?_ ?_ ?_ ?_ ?_ <;> simp [PO]
              refine Again.mk 7 ((s7, j, q, some (n + 1, l ++ [.mk 5 y 0 u.at_ [] 0 [.mk k a m c z rf kids]]))) (by simp) (by simp) (by simp) rfl ?_ ?_ ?_
              · simp [lnF, PO, flatN, Tr.cells, flatN_append, vecN1]
              · exact ⟨hf2.trans hf27, by simp [hl1], by show n + 1 ≤ (s7).at_; have := (hf27).le; omega, fun e => by show n + 1 < (s7).at_; have := hg27 e; omega⟩
              · exact meas_lt hf27 hb hg27
            · refine acallC_by 1 (his6) ?_ (by kernel_rfl) ?_ ?_ ?_ ?_ ?_ ?_ ?_ ?_ ?_ <;> simp [PO]
              refine Again.mk 7 ((s5, j, q, some (n + 1, l ++ [.mk 5 y 0 u.at_ [] 0 [.mk k a m c z rf kids]]))) (by simp) (by simp) (by simp) rfl ?_ ?_ ?_
              · simp [lnF, PO, flatN, Tr.cells, flatN_append, vecN1]
              · exact ⟨hf2.trans hf25, by simp [hl1], by show n + 1 ≤ (s5).at_; have := (hf25).le; omega, fun e => by show n + 1 < (s5).at_; have := hg25 e; omega⟩
              · exact meas_lt hf25 hb hg25
        · skip
          match g, hc with
          | none, hc =>
            simp [lnF, PO, hb]
            refine acallC_by 1 (his) ?_ (by kernel_rfl) ?_ ?_ ?_ ?_ ?_ ?_ ?_ ?_ ?_ <;> simp [PO]
            refine Left.mk ((s2, j, q, none)) rfl ?_ ?_
            · simp [lnF, PO]
            · exact hc
          | some (n, l), hc =>
            simp [lnF, PO, hb]
            refine acallC_by 1 (his) ?_ (by kernel_rfl) ?_ ?_ ?_ ?_ ?_ ?_ ?_ ?_ ?_ <;> simp [PO]
            refine Left.mk ((s2, j, q, some (n, l))) rfl ?_ ?_
            · simp [lnF, PO]
            · exact hc
      · skip
        match g, hc with
        | none, hc =>
          simp [lnF, PO, hb]
          refine Left.mk ((s2, j, q, none)) rfl ?_ ?_
          · simp [lnF, PO]
          · exact hc
        | some (n, l), hc =>
          simp [lnF, PO, hb]
          refine Left.mk ((s2, j, q, some (n, l))) rfl ?_ ?_
          · simp [lnF, PO]
          · exact hc
    · rintro v ⟨s2, j, q, g⟩ hc
      have hf2 := hc.fwd
      simp only at hf2
      obtain ⟨s3, hw3, hf3, hg3⟩ := want_b hk hf2.lt [125]
      have hF3 := (hF1.trans hf2).trans hf3
      match g, hc with
      | none, hc =>
        simp [lnF, PO]
        refine acallC_by 1 (hw3) ?_ (by kernel_rfl) ?_ ?_ ?_ ?_ ?_ ?_ ?_ ?_ ?_ <;> simp [PO]
        refine acallC_by 0 (t_one 49 t.at_ ⟨x.toArray⟩ 0 0 []) ?_ (by kernel_rfl) ?_ ?_ ?_ ?_ ?_ ?_ ?_ ?_ ?_ <;> simp [PO]
        exact ⟨.mk 49 x 0 t.at_ [] 0 [], s3, rfl, rfl, hF3⟩
      | some (n, l), hc =>
        obtain ⟨_, hl1, hl2, hl3⟩ := hc
        have hta := flatN_take l (n + 1) hl1.symm
        simp [lnF, PO]
        refine acallC_by 1 (hw3) ?_ (by kernel_rfl) ?_ ?_ ?_ ?_ ?_ ?_ ?_ ?_ ?_ <;> simp [PO]
        refine acallC_by 0 (t_one 49 t.at_ ⟨x.toArray⟩ 7 (n + 1) (flatN l)) ?_ (by kernel_rfl) ?_ ?_ ?_ ?_ ?_ ?_ ?_ ?_ ?_ <;> simp [PO, flatN_length, hl1, hta]
        exact ⟨.mk 49 x 0 t.at_ [] 0 l, s3, by simp [Tr.av, Tr.cells, hl1, vecNs], rfl, hF3⟩
  · obtain ⟨s0, hw0, hf0, hg0⟩ := want_b hk h [93]
    simp [PO, Tok.cells, c1]
    refine acallC_by 1 (hw0) ?_ (by kernel_rfl) ?_ ?_ ?_ ?_ ?_ ?_ ?_ ?_ ?_ <;> simp [PO]
    refine acallC_of 1 (t_typ hk s0 hf0.lt) ?_ (by kernel_rfl) ?_ ?_ ?_ ?_ ?_ ?_ <;> simp [PO]
    rintro r o ⟨⟨kt, xt, mt, ct, yt, rt, kidst⟩, s0', rfl, rfl, hf0', hg0'⟩
    obtain ⟨s1, hw1, hf1, hg1⟩ := want_b hk hf0'.lt [123]
    have hF1 := (hf0.trans hf0').trans hf1
    simp [PO, Tr.av, Tr.cells]
    refine acallC_by 1 (hw1) ?_ (by kernel_rfl) ?_ ?_ ?_ ?_ ?_ ?_ ?_ ?_ ?_ <;> simp [PO]
    refine loopC_to 0 (llF toks t (.mk kt xt mt ct yt rt kidst)) (LlC toks s1) (LlC toks s1) (fun i => meas toks i.1) (s1, 0, [.mk kt xt mt ct yt rt kidst]) (by rfl) ⟨Fwd.refl hf1.lt, rfl, Nat.zero_le _, fun _ => Nat.zero_le _⟩ ?_ ?_
    · rintro v ⟨s2, n, l⟩ ⟨hf2, hl1, hl2, hl3⟩
      simp only at hf2 hl1 hl2 hl3
      have hM2 := meas_fwd (hF1.trans hf2)
      by_cases hb : s2.bad < 0
      · obtain ⟨b, his, hib⟩ := is_b hk hf2.lt [125]
        cases b
        · obtain ⟨u, hpk2, hu, hok2⟩ := peek_b hk hf2.lt
          have hex := hp s2 hf2.lt (by omega)
          have hlt2 := hf2.lt
          obtain ⟨hq1, hq2⟩ := len_ok (n := n + 1 + 1) (by omega)
          have hta := flatN_take l (n + 1) hl1.symm
          simp [llF, PO, hb]
          refine acallC_by 1 (his) ?_ (by kernel_rfl) ?_ ?_ ?_ ?_ ?_ ?_ ?_ ?_ ?_ <;> simp [PO]
          refine acallC_by 1 (hpk2) ?_ (by kernel_rfl) ?_ ?_ ?_ ?_ ?_ ?_ ?_ ?_ ?_ <;> simp [PO, Tok.cells]
          refine acallC_of 1 (hex) ?_ (by kernel_rfl) ?_ ?_ ?_ ?_ ?_ ?_ <;> simp [PO]
          rintro r o ⟨⟨k, a, m, c, z, rf, kids⟩, s5, rfl, rfl, hf5, hg5⟩
          simp [PO, Tr.av, Tr.cells, flatN_length, hl1, hq1, hq2, hta]
          obtain ⟨b6, his6, _⟩ := is_b hk hf5.lt [125]
          cases b6
          · obtain ⟨s7, hw7, hf7, hg7⟩ := want_b hk hf5.lt [44]
            have hf27 := hf5.trans hf7
            have hg27 : s7.bad < 0 → s2.at_ < s7.at_ := fun e => by have := hg5 (hf7.bad e); have := hf7.le; omega
            refine acallC_by 1 (his6) ?_ (by kernel_rfl) ?_ ?_ ?_ ?_ ?_ ?_ ?_ ?_ ?_ <;> simp [PO]
            refine acallC_by 1 (hw7) ?_ (by kernel_rfl) ?_ ?_ ?_ ?_ ?_ ?_ ?_ ?_ ?_ <;> simp [PO]
            refine Again.mk 6 ((s7, n + 1, l ++ [.mk k a m c z rf kids])) (by simp) (by simp) (by simp) rfl ?_ ?_ ?_
            · simp [llF, PO, flatN, Tr.cells, flatN_append]
            · exact ⟨hf2.trans hf27, by simp [hl1], by show n + 1 ≤ s7.at_ + 1; have := hf27.le; have := hl3 hb; omega, fun e => by show n + 1 ≤ s7.at_; have := hg27 e; have := hl3 hb; omega⟩
            · exact meas_lt hf27 hb hg27
          · refine acallC_by 1 (his6) ?_ (by kernel_rfl) ?_ ?_ ?_ ?_ ?_ ?_ ?_ ?_ ?_ <;> simp [PO]
            refine Again.mk 6 ((s5, n + 1, l ++ [.mk k a m c z rf kids])) (by simp) (by simp) (by simp) rfl ?_ ?_ ?_
            · simp [llF, PO, flatN, Tr.cells, flatN_append]
            · exact ⟨hf2.trans hf5, by simp [hl1], by show n + 1 ≤ s5.at_ + 1; have := hf5.le; have := hl3 hb; omega, fun e => by show n + 1 ≤ s5.at_; have := hg5 e; have := hl3 hb; omega⟩
            · exact meas_lt hf5 hb hg5
        · simp [llF, PO, hb]
          refine acallC_by 1 (his) ?_ (by kernel_rfl) ?_ ?_ ?_ ?_ ?_ ?_ ?_ ?_ ?_ <;> simp [PO]
          refine Left.mk ((s2, n, l)) rfl ?_ ?_
          · simp [llF, PO]
          · exact ⟨hf2, hl1, hl2, hl3⟩
      · simp [llF, PO, hb]
        refine Left.mk ((s2, n, l)) rfl ?_ ?_
        · simp [llF, PO]
        · exact ⟨hf2, hl1, hl2, hl3⟩
    · rintro v ⟨s2, n, l⟩ ⟨hf2, hl1, hl2, hl3⟩
      simp only at hf2 hl1 hl2 hl3
      obtain ⟨s3, hw3, hf3, hg3⟩ := want_b hk hf2.lt [125]
      have hF3 := (hF1.trans hf2).trans hf3
      have hta := flatN_take l (n + 1) hl1.symm
      simp [llF, PO]
      refine acallC_by 1 (hw3) ?_ (by kernel_rfl) ?_ ?_ ?_ ?_ ?_ ?_ ?_ ?_ ?_ <;> simp [PO]
      refine acallC_by 0 (t_one 50 t.at_ ⟨#[]⟩ 7 (n + 1) (flatN l)) ?_ (by kernel_rfl) ?_ ?_ ?_ ?_ ?_ ?_ ?_ ?_ ?_ <;> simp [PO, flatN_length, hl1, hta]
      exact ⟨.mk 50 [] 0 t.at_ [] 0 l, s3, by simp [Tr.av, Tr.cells, hl1, vecNs], rfl, hF3⟩
end Go.Proofs.Ytoaodlfmhioigaa
end
