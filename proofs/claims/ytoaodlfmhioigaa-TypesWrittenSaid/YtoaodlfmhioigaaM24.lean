/- A part of the proof of TypesWrittenSaid. No condition. -/
import Derived.Test.YtoaodlfmhioigaaM12
set_option linter.unusedSimpArgs false
set_option linter.unusedVariables false
section
namespace Go.Proofs.Ytoaodlfmhioigaa

set_option maxRecDepth 20000 in
set_option maxHeartbeats 4000000 in
theorem t_worded_step {toks : List Tok} (hk : TK toks) {n : Nat} (hp : ∀ s' : PS, s'.at_ < toks.length → meas toks s' ≤ n → NodeAt toks 69 s')
    (hpr : ∀ s' : PS, s'.at_ < toks.length → meas toks s' ≤ n → NodeAt toks 70 s')
    (s : PS) (t : Tok) (h : s.at_ < toks.length) (hm : meas toks s ≤ n) : Tri Try.prog 64 [.ref 0 0 0, .agg t.cells] [PO toks s] (FwdR toks s) := by
  have hlen := hk.len
  have h2m : (2 : Nat) ≤ maxLen := by decide
  refine tri_by Try.func64 (by rfl) _ Try.ntmps64 _ (by rfl) ?_
  by_cases w1 : t.text = [118, 97, 114]
  · obtain ⟨x, s1, hnm, hf1, hg1⟩ := name_b hk h
    simp [PO, Tok.cells, w1]
    refine acallC_by 1 (hnm) ?_ (by kernel_rfl) ?_ ?_ ?_ ?_ ?_ ?_ ?_ ?_ ?_ <;> simp [PO]
    refine acallC_of 1 (t_typ hk s1 hf1.lt) ?_ (by kernel_rfl) ?_ ?_ ?_ ?_ ?_ ?_ <;> simp [PO]
    rintro r o ⟨⟨k, y, m, c, z, rf, kids⟩, s2, rfl, rfl, hf2, hg2⟩
    have hF2 := hf1.trans hf2
    obtain ⟨b, s3, hgt, hf3, hb3, _⟩ := got_b hk hf2.lt [61]
    have hF3 := hF2.trans hf3
    have hM3 := meas_fwd hF3
    simp [PO, Tr.av, Tr.cells]
    refine acallC_by 0 (t_none) ?_ (by kernel_rfl) ?_ ?_ ?_ ?_ ?_ ?_ ?_ ?_ ?_ <;> simp [h2m]
    cases b
    · refine acallC_by 1 (hgt) ?_ (by kernel_rfl) ?_ ?_ ?_ ?_ ?_ ?_ ?_ ?_ ?_ <;> simp [PO]
      refine acallC_by 0 (t_one 18 t.at_ ⟨x.toArray⟩ 7 2 ((Tr.mk k y m c z rf kids).cells ++ noneT.cells)) ?_ (by kernel_rfl) ?_ ?_ ?_ ?_ ?_ ?_ ?_ ?_ ?_ <;> simp [PO, Tr.cells, noneT_cells]
      exact ⟨.mk 18 x 0 t.at_ [] 0 [.mk k y m c z rf kids, noneT], s3, rfl, rfl, hF3⟩
    · refine acallC_by 1 (hgt) ?_ (by kernel_rfl) ?_ ?_ ?_ ?_ ?_ ?_ ?_ ?_ ?_ <;> simp [PO]
      refine acallC_of 1 (hp s3 hf3.lt (by omega)) ?_ (by kernel_rfl) ?_ ?_ ?_ ?_ ?_ ?_ <;> simp [PO]
      rintro r o ⟨⟨k2, x2, m2, c2, y2, r2, kids2⟩, s4, rfl, rfl, hf4, hg4⟩
      simp [PO, Tr.av, Tr.cells]
      refine acallC_by 0 (t_one 18 t.at_ ⟨x.toArray⟩ 7 2 ((Tr.mk k y m c z rf kids).cells ++ (Tr.mk k2 x2 m2 c2 y2 r2 kids2).cells)) ?_ (by kernel_rfl) ?_ ?_ ?_ ?_ ?_ ?_ ?_ ?_ ?_ <;> simp [PO, Tr.cells]
      exact ⟨.mk 18 x 0 t.at_ [] 0 [.mk k y m c z rf kids, .mk k2 x2 m2 c2 y2 r2 kids2], s4, rfl, rfl, hF3.trans hf4⟩
  · by_cases w2 : t.text = [98, 114, 101, 97, 107]
    · obtain ⟨u, hpk, hu, hok⟩ := peek_b hk h
      by_cases h1 : u.kind = 1
      · obtain ⟨x, s1, hnm, hf1, hg1⟩ := name_b hk h
        simp [PO, Tok.cells, w2]
        refine acallC_by 1 (hpk) ?_ (by kernel_rfl) ?_ ?_ ?_ ?_ ?_ ?_ ?_ ?_ ?_ <;> simp [PO, Tok.cells, h1, w2]
        refine acallC_by 1 (hnm) ?_ (by kernel_rfl) ?_ ?_ ?_ ?_ ?_ ?_ ?_ ?_ ?_ <;> simp [PO, w2]
        refine acallC_by 0 (t_one 27 t.at_ ⟨x.toArray⟩ 0 0 []) ?_ (by kernel_rfl) ?_ ?_ ?_ ?_ ?_ ?_ ?_ ?_ ?_ <;> simp [PO]
        exact ⟨.mk 27 x 0 t.at_ [] 0 [], s1, rfl, rfl, hf1⟩
      · simp [PO, Tok.cells, w2]
        refine acallC_by 1 (hpk) ?_ (by kernel_rfl) ?_ ?_ ?_ ?_ ?_ ?_ ?_ ?_ ?_ <;> simp [PO, Tok.cells, h1, w2]
        refine acallC_by 0 (t_one 27 t.at_ ⟨#[]⟩ 0 0 []) ?_ (by kernel_rfl) ?_ ?_ ?_ ?_ ?_ ?_ ?_ ?_ ?_ <;> simp [PO]
        exact ⟨.mk 27 [] 0 t.at_ [] 0 [], s, rfl, rfl, Fwd.refl h⟩
    · by_cases w3 : t.text = [99, 111, 110, 116, 105, 110, 117, 101]
      · obtain ⟨u, hpk, hu, hok⟩ := peek_b hk h
        by_cases h1 : u.kind = 1
        · obtain ⟨x, s1, hnm, hf1, hg1⟩ := name_b hk h
          simp [PO, Tok.cells, w3]
          refine acallC_by 1 (hpk) ?_ (by kernel_rfl) ?_ ?_ ?_ ?_ ?_ ?_ ?_ ?_ ?_ <;> simp [PO, Tok.cells, h1, w3]
          refine acallC_by 1 (hnm) ?_ (by kernel_rfl) ?_ ?_ ?_ ?_ ?_ ?_ ?_ ?_ ?_ <;> simp [PO, w3]
          refine acallC_by 0 (t_one 28 t.at_ ⟨x.toArray⟩ 0 0 []) ?_ (by kernel_rfl) ?_ ?_ ?_ ?_ ?_ ?_ ?_ ?_ ?_ <;> simp [PO]
          exact ⟨.mk 28 x 0 t.at_ [] 0 [], s1, rfl, rfl, hf1⟩
        · simp [PO, Tok.cells, w3]
          refine acallC_by 1 (hpk) ?_ (by kernel_rfl) ?_ ?_ ?_ ?_ ?_ ?_ ?_ ?_ ?_ <;> simp [PO, Tok.cells, h1, w3]
          refine acallC_by 0 (t_one 28 t.at_ ⟨#[]⟩ 0 0 []) ?_ (by kernel_rfl) ?_ ?_ ?_ ?_ ?_ ?_ ?_ ?_ ?_ <;> simp [PO]
          exact ⟨.mk 28 [] 0 t.at_ [] 0 [], s, rfl, rfl, Fwd.refl h⟩
      · by_cases w4 : t.text = [102, 97, 108, 108, 116, 104, 114, 111, 117, 103, 104]
        · simp [PO, Tok.cells, w4]
          refine acallC_by 0 (t_one 29 t.at_ ⟨#[]⟩ 0 0 []) ?_ (by kernel_rfl) ?_ ?_ ?_ ?_ ?_ ?_ ?_ ?_ ?_ <;> simp [PO]
          exact ⟨.mk 29 [] 0 t.at_ [] 0 [], s, rfl, rfl, Fwd.refl h⟩
        · by_cases w5 : t.text = [114, 101, 116, 117, 114, 110]
          · obtain ⟨b, hi, hj⟩ := among_b hk h [32, 59, 32, 125, 32, 99, 97, 115, 101, 32, 100, 101, 102, 97, 117, 108, 116, 32] (by decide)
            cases b
            · simp [PO, Tok.cells, w5]
              refine acallC_by 1 (hi) ?_ (by kernel_rfl) ?_ ?_ ?_ ?_ ?_ ?_ ?_ ?_ ?_ <;> simp [PO]
              refine acallC_of 1 (hp s h hm) ?_ (by kernel_rfl) ?_ ?_ ?_ ?_ ?_ ?_ <;> simp [PO]
              rintro r o ⟨⟨k2, x2, m2, c2, y2, r2, kids2⟩, s2, rfl, rfl, hf2, hg2⟩
              simp [PO, Tr.av, Tr.cells]
              refine acallC_by 0 (t_one 30 t.at_ ⟨#[]⟩ 7 1 (Tr.mk k2 x2 m2 c2 y2 r2 kids2).cells) ?_ (by kernel_rfl) ?_ ?_ ?_ ?_ ?_ ?_ ?_ ?_ ?_ <;> simp [PO, Tr.cells]
              exact ⟨.mk 30 [] 0 t.at_ [] 0 [.mk k2 x2 m2 c2 y2 r2 kids2], s2, rfl, rfl, hf2⟩
            · simp [PO, Tok.cells, w5]
              refine acallC_by 1 (hi) ?_ (by kernel_rfl) ?_ ?_ ?_ ?_ ?_ ?_ ?_ ?_ ?_ <;> simp [PO]
              refine adrawC_by [2] [0, 1] (.late 2 (.late 3 (.late 4 (.late 5 .fin)))) (by kernel_rfl) (by kernel_rfl) (by kernel_rfl) ?_
              simp [PO, Tok.cells, w5]
              refine acallC_by 0 (t_none) ?_ (by kernel_rfl) ?_ ?_ ?_ ?_ ?_ ?_ ?_ ?_ ?_ <;> simp
              refine acallC_by 0 (t_one 30 t.at_ ⟨#[]⟩ 7 1 noneT.cells) ?_ (by kernel_rfl) ?_ ?_ ?_ ?_ ?_ ?_ ?_ ?_ ?_ <;> simp [PO, noneT_cells]
              exact ⟨.mk 30 [] 0 t.at_ [] 0 [noneT], s, rfl, rfl, Fwd.refl h⟩
          · skip
            have hcl := hpr s h hm
            have hcl : Tri Try.prog 70 [.ref 0 0 0] [PO toks s] (NodeR toks s) := hcl
            by_cases w6 : t.text = [100, 101, 102, 101, 114]
            · simp [PO, Tok.cells, w6]
              refine acallC_of 1 (hcl) ?_ (by kernel_rfl) ?_ ?_ ?_ ?_ ?_ ?_ <;> first | rintro r o ⟨⟨k2, x2, m2, c2, y2, r2, kids2⟩, s2, rfl, rfl, hf2, hg2⟩ | simp [PO]
              obtain ⟨sw, hwr, hfw, hgw⟩ := wrong_b hk hf2.lt
              by_cases hb : s2.bad < 0
              · have hb2 : ¬ 0 ≤ s2.bad := by omega
                have hcc := t_called (.mk k2 x2 m2 c2 y2 r2 kids2)
                simp [Tr.av, Tr.cells] at hcc
                cases hbr : s2.bare
                · simp [PO, Tr.av, Tr.cells, hb2, hbr]
                  refine acallC_of 0 (hcc) ?_ (by kernel_rfl) ?_ ?_ ?_ ?_ ?_ ?_ <;> first | rintro r o ⟨rfl | rfl, rfl⟩ | simp [PO, hbr]
                  · simp [PO, hbr, w6]
                    refine acallC_by 1 (hwr) ?_ (by kernel_rfl) ?_ ?_ ?_ ?_ ?_ ?_ ?_ ?_ ?_ <;> simp [PO, hbr]
                    exact ⟨.mk 0 [] 0 0 [] 0 [], sw, rfl, rfl, hf2.trans hfw⟩
                  · simp [PO, hbr, w6, Tok.cells]
                    refine acallC_by 0 (t_one 32 t.at_ ⟨#[]⟩ 7 1 (Tr.mk k2 x2 m2 c2 y2 r2 kids2).cells) ?_ (by kernel_rfl) ?_ ?_ ?_ ?_ ?_ ?_ ?_ ?_ ?_ <;> simp [PO, Tr.cells]
                    exact ⟨.mk 32 [] 0 t.at_ [] 0 [.mk k2 x2 m2 c2 y2 r2 kids2], s2, rfl, by simp [PO, hbr], hf2⟩
                · simp [PO, Tr.av, Tr.cells, hb2, hbr]
                  refine acallC_of 0 (hcc) ?_ (by kernel_rfl) ?_ ?_ ?_ ?_ ?_ ?_ <;> first | rintro r o ⟨rfl | rfl, rfl⟩ | simp [PO, hbr]
                  · simp [PO, hbr, w6]
                    refine acallC_by 1 (hwr) ?_ (by kernel_rfl) ?_ ?_ ?_ ?_ ?_ ?_ ?_ ?_ ?_ <;> simp [PO, hbr]
                    exact ⟨.mk 0 [] 0 0 [] 0 [], sw, rfl, rfl, hf2.trans hfw⟩
                  · simp [PO, hbr, w6]
                    refine acallC_by 1 (hwr) ?_ (by kernel_rfl) ?_ ?_ ?_ ?_ ?_ ?_ ?_ ?_ ?_ <;> simp [PO, hbr]
                    exact ⟨.mk 0 [] 0 0 [] 0 [], sw, rfl, rfl, hf2.trans hfw⟩
              · have hb2 : 0 ≤ s2.bad := by omega
                simp [PO, Tr.av, Tr.cells, hb2]
                refine acallC_by 1 (hwr) ?_ (by kernel_rfl) ?_ ?_ ?_ ?_ ?_ ?_ ?_ ?_ ?_ <;> simp [PO]
                exact ⟨.mk 0 [] 0 0 [] 0 [], sw, rfl, rfl, hf2.trans hfw⟩
            · simp [PO, Tok.cells, w1, w2, w3, w4, w5, w6]
              refine acallC_of 1 (hcl) ?_ (by kernel_rfl) ?_ ?_ ?_ ?_ ?_ ?_ <;> first | rintro r o ⟨⟨k2, x2, m2, c2, y2, r2, kids2⟩, s2, rfl, rfl, hf2, hg2⟩ | simp [PO]
              obtain ⟨sw, hwr, hfw, hgw⟩ := wrong_b hk hf2.lt
              by_cases hb : s2.bad < 0
              · have hb2 : ¬ 0 ≤ s2.bad := by omega
                have hcc := t_called (.mk k2 x2 m2 c2 y2 r2 kids2)
                simp [Tr.av, Tr.cells] at hcc
                cases hbr : s2.bare
                · simp [PO, Tr.av, Tr.cells, hb2, hbr]
                  refine acallC_of 0 (hcc) ?_ (by kernel_rfl) ?_ ?_ ?_ ?_ ?_ ?_ <;> first | rintro r o ⟨rfl | rfl, rfl⟩ | simp [PO, hbr]
                  · simp [PO, hbr, w1, w2, w3, w4, w5, w6]
                    refine acallC_by 1 (hwr) ?_ (by kernel_rfl) ?_ ?_ ?_ ?_ ?_ ?_ ?_ ?_ ?_ <;> simp [PO, hbr]
                    exact ⟨.mk 0 [] 0 0 [] 0 [], sw, rfl, rfl, hf2.trans hfw⟩
                  · simp [PO, hbr, w1, w2, w3, w4, w5, w6, Tok.cells]
                    refine acallC_by 0 (t_one 31 t.at_ ⟨#[]⟩ 7 1 (Tr.mk k2 x2 m2 c2 y2 r2 kids2).cells) ?_ (by kernel_rfl) ?_ ?_ ?_ ?_ ?_ ?_ ?_ ?_ ?_ <;> simp [PO, Tr.cells]
                    exact ⟨.mk 31 [] 0 t.at_ [] 0 [.mk k2 x2 m2 c2 y2 r2 kids2], s2, rfl, by simp [PO, hbr], hf2⟩
                · simp [PO, Tr.av, Tr.cells, hb2, hbr]
                  refine acallC_of 0 (hcc) ?_ (by kernel_rfl) ?_ ?_ ?_ ?_ ?_ ?_ <;> first | rintro r o ⟨rfl | rfl, rfl⟩ | simp [PO, hbr]
                  · simp [PO, hbr, w1, w2, w3, w4, w5, w6]
                    refine acallC_by 1 (hwr) ?_ (by kernel_rfl) ?_ ?_ ?_ ?_ ?_ ?_ ?_ ?_ ?_ <;> simp [PO, hbr]
                    exact ⟨.mk 0 [] 0 0 [] 0 [], sw, rfl, rfl, hf2.trans hfw⟩
                  · simp [PO, hbr, w1, w2, w3, w4, w5, w6]
                    refine acallC_by 1 (hwr) ?_ (by kernel_rfl) ?_ ?_ ?_ ?_ ?_ ?_ ?_ ?_ ?_ <;> simp [PO, hbr]
                    exact ⟨.mk 0 [] 0 0 [] 0 [], sw, rfl, rfl, hf2.trans hfw⟩
              · have hb2 : 0 ≤ s2.bad := by omega
                simp [PO, Tr.av, Tr.cells, hb2]
                refine acallC_by 1 (hwr) ?_ (by kernel_rfl) ?_ ?_ ?_ ?_ ?_ ?_ ?_ ?_ ?_ <;> simp [PO]
                exact ⟨.mk 0 [] 0 0 [] 0 [], sw, rfl, rfl, hf2.trans hfw⟩
end Go.Proofs.Ytoaodlfmhioigaa
end
