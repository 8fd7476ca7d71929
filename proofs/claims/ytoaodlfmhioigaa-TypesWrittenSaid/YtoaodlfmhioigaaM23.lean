/- A part of the proof of TypesWrittenSaid. No condition. -/
import Derived.Test.YtoaodlfmhioigaaM12
set_option linter.unusedSimpArgs false
set_option linter.unusedVariables false
section
namespace Go.Proofs.Ytoaodlfmhioigaa

set_option maxRecDepth 20000 in
set_option maxHeartbeats 4000000 in
theorem t_stmt_step {toks : List Tok} (hk : TK toks) {n : Nat} (hbl : ∀ s' : PS, s'.at_ < toks.length → meas toks s' ≤ n → NodeAt toks 50 s')
    (hne : ∀ s' : PS, s'.at_ < toks.length → s'.bad < 0 → s'.at_ + 1 < toks.length → meas toks s' ≤ n → NodeAt toks 61 s')
    (hbr : ∀ s' : PS, s'.at_ < toks.length → meas toks s' ≤ n → NodeAt toks 63 s') (hsi : ∀ s' : PS, s'.at_ < toks.length → meas toks s' ≤ n → NodeAt toks 65 s')
    (hwo : ∀ (s' : PS) (t : Tok), s'.at_ < toks.length → meas toks s' < n → Tri Try.prog 64 [.ref 0 0 0, .agg t.cells] [PO toks s'] (FwdR toks s'))
    (s : PS) (h : s.at_ < toks.length) (hb : s.bad < 0) (hm : meas toks s ≤ n) : NodeAt toks 60 s := by
  have hlen := hk.len
  obtain ⟨t, hpk, ht, hok⟩ := peek_b hk h
  obtain ⟨b1, hi1, hj1⟩ := is_b hk h [123]
  obtain ⟨b2, hi2, hj2⟩ := among_b hk h [32, 102, 111, 114, 32, 115, 119, 105, 116, 99, 104, 32, 115, 101, 108, 101, 99, 116, 32] (by decide)
  obtain ⟨b3, hi3, hj3⟩ := is_b hk h [105, 102]
  have hfo := t_follows toks s t [58] hlen ht
  have hin := t_In t.text [32, 118, 97, 114, 32, 98, 114, 101, 97, 107, 32, 99, 111, 110, 116, 105, 110, 117, 101, 32, 102, 97, 108, 108, 116, 104, 114, 111, 117, 103, 104, 32, 114, 101, 116, 117, 114, 110, 32, 103, 111, 32, 100, 101, 102, 101, 114, 32] hok.text (by decide)
  have hw := wrap_one (n := s.at_) (by omega)
  have hmn := meas_next h hb
  refine tri_by Try.func60 (by rfl) _ Try.ntmps60 _ (by rfl) ?_
  cases b1
  · skip
    cases b2
    · by_cases h1 : t.kind = 1
      · skip
        simp [PO]
        refine acallC_by 1 (hpk) ?_ (by kernel_rfl) ?_ ?_ ?_ ?_ ?_ ?_ ?_ ?_ ?_ <;> simp [PO, Tok.cells, h1]
        refine acallC_by 1 (hi1) ?_ (by kernel_rfl) ?_ ?_ ?_ ?_ ?_ ?_ ?_ ?_ ?_ <;> simp [PO, h1]
        refine acallC_by 1 (hi2) ?_ (by kernel_rfl) ?_ ?_ ?_ ?_ ?_ ?_ ?_ ?_ ?_ <;> simp [PO, h1]
        refine acallC_of 1 (hfo) ?_ (by kernel_rfl) ?_ ?_ ?_ ?_ ?_ ?_ <;> simp [PO]
        rintro r o (⟨rfl, rfl⟩ | ⟨rfl, rfl, v, hv1, hv2⟩)
        · simp [PO]
          cases b3
          · refine acallC_by 1 (hi3) ?_ (by kernel_rfl) ?_ ?_ ?_ ?_ ?_ ?_ ?_ ?_ ?_ <;> simp [PO]
            refine acallC_of 1 (hsi s h hm) ?_ (by kernel_rfl) ?_ ?_ ?_ ?_ ?_ ?_ <;> simp [PO]
            rintro r o ⟨⟨k, x, m, c, y, rf, kids⟩, s2, rfl, rfl, hf2, hg2⟩
            simp [PO, Tr.av, Tr.cells]
            exact ⟨.mk k x m c y rf kids, s2, rfl, rfl, hf2, hg2⟩
          · refine acallC_by 1 (hi3) ?_ (by kernel_rfl) ?_ ?_ ?_ ?_ ?_ ?_ ?_ ?_ ?_ <;> simp [PO]
            refine acallC_of 1 (hbr s h hm) ?_ (by kernel_rfl) ?_ ?_ ?_ ?_ ?_ ?_ <;> simp [PO]
            rintro r o ⟨⟨k, x, m, c, y, rf, kids⟩, s2, rfl, rfl, hf2, hg2⟩
            simp [PO, Tr.av, Tr.cells]
            exact ⟨.mk k x m c y rf kids, s2, rfl, rfl, hf2, hg2⟩
        · have hl2 : s.at_ + 2 < toks.length := (hk.ok _ _ hv1).last (by rw [hv2]; decide)
          have hw2 : IntKind.i64.wrap ((s.at_ : Int) + 2) = (s.at_ : Int) + 2 := wrap_i (by omega)
          have hfn : Fwd toks s { s with at_ := s.at_ + 2 } := ⟨by show s.at_ ≤ s.at_ + 2; omega, hl2, id⟩
          have hmm := meas_fwd hfn
          obtain ⟨b5, hi5, hj5⟩ := among_b hk hfn.lt [32, 102, 111, 114, 32, 115, 119, 105, 116, 99, 104, 32, 115, 101, 108, 101, 99, 116, 32] (by decide)
          obtain ⟨sw, hwr, hfw, hgw⟩ := wrong_b hk hfn.lt
          simp [PO, hw2]
          cases b5
          · refine acallC_by 1 (hi5) ?_ (by kernel_rfl) ?_ ?_ ?_ ?_ ?_ ?_ ?_ ?_ ?_ <;> simp [PO]
            refine acallC_by 1 (hwr) ?_ (by kernel_rfl) ?_ ?_ ?_ ?_ ?_ ?_ ?_ ?_ ?_ <;> simp [PO]
            exact ⟨.mk 0 [] 0 0 [] 0 [], sw, rfl, rfl, hfn.trans hfw, fun e => absurd e hgw⟩
          · obtain ⟨hb5, hf5⟩ := hj5 rfl
            refine acallC_by 1 (hi5) ?_ (by kernel_rfl) ?_ ?_ ?_ ?_ ?_ ?_ ?_ ?_ ?_ <;> simp [PO]
            refine acallC_of 1 (hne { s with at_ := s.at_ + 2 } hl2 hb hf5.lt (by omega)) ?_ (by kernel_rfl) ?_ ?_ ?_ ?_ ?_ ?_ <;> simp [PO]
            rintro r o ⟨⟨k, x, m, c, y, rf, kids⟩, s2, rfl, rfl, hf2, hg2⟩
            have hle2 : s.at_ + 2 ≤ s2.at_ := hf2.le
            simp [PO, Tr.av, Tr.cells]
            refine acallC_by 0 (t_one 35 t.at_ ⟨t.text.toArray⟩ 7 1 (Tr.mk k x m c y rf kids).cells) ?_ (by kernel_rfl) ?_ ?_ ?_ ?_ ?_ ?_ ?_ ?_ ?_ <;> simp [PO, Tr.cells]
            exact ⟨.mk 35 t.text 0 t.at_ [] 0 [.mk k x m c y rf kids], s2, rfl, rfl, hfn.trans hf2, fun _ => by omega⟩
      · skip
        cases b3
        · by_cases h4 : t.kind = 4
          · have hin2 := hin
            generalize inW t.text [32, 118, 97, 114, 32, 98, 114, 101, 97, 107, 32, 99, 111, 110, 116, 105, 110, 117, 101, 32, 102, 97, 108, 108, 116, 104, 114, 111, 117, 103, 104, 32, 114, 101, 116, 117, 114, 110, 32, 103, 111, 32, 100, 101, 102, 101, 114, 32] = b5 at hin2
            cases b5
            · skip
              simp [PO]
              refine acallC_by 1 (hpk) ?_ (by kernel_rfl) ?_ ?_ ?_ ?_ ?_ ?_ ?_ ?_ ?_ <;> simp [PO, Tok.cells, h1, h4]
              refine acallC_by 1 (hi1) ?_ (by kernel_rfl) ?_ ?_ ?_ ?_ ?_ ?_ ?_ ?_ ?_ <;> simp [PO, h1, h4]
              refine acallC_by 1 (hi2) ?_ (by kernel_rfl) ?_ ?_ ?_ ?_ ?_ ?_ ?_ ?_ ?_ <;> simp [PO, h1, h4]
              refine acallC_by 1 (hi3) ?_ (by kernel_rfl) ?_ ?_ ?_ ?_ ?_ ?_ ?_ ?_ ?_ <;> simp [PO, h4]
              refine acallC_by 0 (hin2) ?_ (by kernel_rfl) ?_ ?_ ?_ ?_ ?_ ?_ ?_ ?_ ?_ <;> simp [PO]
              refine acallC_of 1 (hsi s h hm) ?_ (by kernel_rfl) ?_ ?_ ?_ ?_ ?_ ?_ <;> simp [PO]
              rintro r o ⟨⟨k, x, m, c, y, rf, kids⟩, s2, rfl, rfl, hf2, hg2⟩
              simp [PO, Tr.av, Tr.cells]
              exact ⟨.mk k x m c y rf kids, s2, rfl, rfl, hf2, hg2⟩
            · skip
              simp [PO]
              refine acallC_by 1 (hpk) ?_ (by kernel_rfl) ?_ ?_ ?_ ?_ ?_ ?_ ?_ ?_ ?_ <;> simp [PO, Tok.cells, h1, h4]
              refine acallC_by 1 (hi1) ?_ (by kernel_rfl) ?_ ?_ ?_ ?_ ?_ ?_ ?_ ?_ ?_ <;> simp [PO, h1, h4]
              refine acallC_by 1 (hi2) ?_ (by kernel_rfl) ?_ ?_ ?_ ?_ ?_ ?_ ?_ ?_ ?_ <;> simp [PO, h1, h4]
              have hfn := fwd_next hk ht (by rw [h4]; decide)
              refine acallC_by 1 (hi3) ?_ (by kernel_rfl) ?_ ?_ ?_ ?_ ?_ ?_ ?_ ?_ ?_ <;> simp [PO, h4]
              refine acallC_by 0 (hin2) ?_ (by kernel_rfl) ?_ ?_ ?_ ?_ ?_ ?_ ?_ ?_ ?_ <;> simp [PO, hw]
              have hww := hwo s.next t hfn.lt (by omega)
              simp [PO, PS.next, Tok.cells, h4] at hww
              refine acallC_of 1 (hww) ?_ (by kernel_rfl) ?_ ?_ ?_ ?_ ?_ ?_ <;> simp [PO]
              rintro r o ⟨⟨k, x, m, c, y, rf, kids⟩, s2, rfl, rfl, hf2⟩
              simp [PO, Tr.av, Tr.cells]
              exact ⟨.mk k x m c y rf kids, s2, rfl, rfl, hfn.trans hf2, fun _ => hf2.le⟩
          · skip
            simp [PO]
            refine acallC_by 1 (hpk) ?_ (by kernel_rfl) ?_ ?_ ?_ ?_ ?_ ?_ ?_ ?_ ?_ <;> simp [PO, Tok.cells, h1, h4]
            refine acallC_by 1 (hi1) ?_ (by kernel_rfl) ?_ ?_ ?_ ?_ ?_ ?_ ?_ ?_ ?_ <;> simp [PO, h1, h4]
            refine acallC_by 1 (hi2) ?_ (by kernel_rfl) ?_ ?_ ?_ ?_ ?_ ?_ ?_ ?_ ?_ <;> simp [PO, h1, h4]
            refine acallC_by 1 (hi3) ?_ (by kernel_rfl) ?_ ?_ ?_ ?_ ?_ ?_ ?_ ?_ ?_ <;> simp [PO, h4]
            refine acallC_of 1 (hsi s h hm) ?_ (by kernel_rfl) ?_ ?_ ?_ ?_ ?_ ?_ <;> simp [PO]
            rintro r o ⟨⟨k, x, m, c, y, rf, kids⟩, s2, rfl, rfl, hf2, hg2⟩
            simp [PO, Tr.av, Tr.cells]
            exact ⟨.mk k x m c y rf kids, s2, rfl, rfl, hf2, hg2⟩
        · skip
          simp [PO]
          refine acallC_by 1 (hpk) ?_ (by kernel_rfl) ?_ ?_ ?_ ?_ ?_ ?_ ?_ ?_ ?_ <;> simp [PO, Tok.cells, h1]
          refine acallC_by 1 (hi1) ?_ (by kernel_rfl) ?_ ?_ ?_ ?_ ?_ ?_ ?_ ?_ ?_ <;> simp [PO, h1]
          refine acallC_by 1 (hi2) ?_ (by kernel_rfl) ?_ ?_ ?_ ?_ ?_ ?_ ?_ ?_ ?_ <;> simp [PO, h1]
          refine acallC_by 1 (hi3) ?_ (by kernel_rfl) ?_ ?_ ?_ ?_ ?_ ?_ ?_ ?_ ?_ <;> simp [PO]
          refine acallC_of 1 (hbr s h hm) ?_ (by kernel_rfl) ?_ ?_ ?_ ?_ ?_ ?_ <;> simp [PO]
          rintro r o ⟨⟨k, x, m, c, y, rf, kids⟩, s2, rfl, rfl, hf2, hg2⟩
          simp [PO, Tr.av, Tr.cells]
          exact ⟨.mk k x m c y rf kids, s2, rfl, rfl, hf2, hg2⟩
    · obtain ⟨_, hf2'⟩ := hj2 rfl
      simp [PO]
      refine acallC_by 1 (hpk) ?_ (by kernel_rfl) ?_ ?_ ?_ ?_ ?_ ?_ ?_ ?_ ?_ <;> simp [PO, Tok.cells, h]
      refine acallC_by 1 (hi1) ?_ (by kernel_rfl) ?_ ?_ ?_ ?_ ?_ ?_ ?_ ?_ ?_ <;> simp [PO, h]
      refine acallC_by 1 (hi2) ?_ (by kernel_rfl) ?_ ?_ ?_ ?_ ?_ ?_ ?_ ?_ ?_ <;> simp [PO, h]
      refine acallC_of 1 (hne s h hb hf2'.lt hm) ?_ (by kernel_rfl) ?_ ?_ ?_ ?_ ?_ ?_ <;> simp [PO]
      rintro r o ⟨⟨k, x, m, c, y, rf, kids⟩, s2, rfl, rfl, hf2, hg2⟩
      simp [PO, Tr.av, Tr.cells]
      exact ⟨.mk k x m c y rf kids, s2, rfl, rfl, hf2, hg2⟩
  · skip
    simp [PO]
    refine acallC_by 1 (hpk) ?_ (by kernel_rfl) ?_ ?_ ?_ ?_ ?_ ?_ ?_ ?_ ?_ <;> simp [PO, Tok.cells, h]
    refine acallC_by 1 (hi1) ?_ (by kernel_rfl) ?_ ?_ ?_ ?_ ?_ ?_ ?_ ?_ ?_ <;> simp [PO, h]
    refine acallC_of 1 (hbl s h hm) ?_ (by kernel_rfl) ?_ ?_ ?_ ?_ ?_ ?_ <;> simp [PO]
    rintro r o ⟨⟨k, x, m, c, y, rf, kids⟩, s2, rfl, rfl, hf2, hg2⟩
    simp [PO, Tr.av, Tr.cells]
    exact ⟨.mk k x m c y rf kids, s2, rfl, rfl, hf2, hg2⟩
end Go.Proofs.Ytoaodlfmhioigaa
end
