/- A part of the proof of TypesWrittenSaid. No condition. -/
import Derived.Test.YtoaodlfmhioigaaM12
set_option linter.unusedSimpArgs false
set_option linter.unusedVariables false
section
namespace Go.Proofs.Ytoaodlfmhioigaa

set_option maxRecDepth 20000 in
set_option maxHeartbeats 4000000 in
theorem t_rest_step {toks : List Tok} (hk : TK toks) {n : Nat} (hp : ∀ s' : PS, s'.at_ < toks.length → meas toks s' ≤ n → NodeAt toks 69 s')
    (s : PS) (t : Tr) (bare : Bool) (h : s.at_ < toks.length) (hm : meas toks s ≤ n) : Tri Try.prog 73 [.ref 0 0 0, t.av, B bare] [PO toks s] (FwdR toks s) := by
  have hlen := hk.len
  obtain ⟨k, x, m, c, y, rf, kids⟩ := t
  obtain ⟨t, hpk, ht, hok⟩ := peek_b hk h
  obtain ⟨b1, hi1, hj1⟩ := is_b hk h [60, 45]
  obtain ⟨b2, hi2, hj2⟩ := is_b hk h [58, 61]
  obtain ⟨b3, hi3, hj3⟩ := among_b hk h [32, 61, 32, 43, 61, 32, 45, 61, 32, 42, 61, 32] (by decide)
  obtain ⟨b4, hi4, hj4⟩ := among_b hk h [32, 43, 43, 32, 45, 45, 32] (by decide)
  obtain ⟨sw, hwr, hfw, hgw⟩ := wrong_b hk h
  have hcl := t_called (.mk k x m c y rf kids)
  have h2m : (2 : Nat) ≤ maxLen := by decide
  have hw := wrap_one (n := s.at_) (by omega)
  have hmn : s.bad < 0 → meas toks s.next ≤ n := fun hb => by have := meas_next h hb; omega
  have hcs : (bare = false ∧ (k = 40 ∨ k = 45 ∨ k = 47)) ∨ bare = true ∨ (bare = false ∧ k ≠ 40 ∧ k ≠ 45 ∧ k ≠ 47) := by
    cases bare <;> simp <;> omega
  refine tri_by Try.func73 (by rfl) _ Try.ntmps73 _ (by rfl) ?_
  rcases hcs with ⟨rfl, rfl | rfl | rfl⟩ | rfl | ⟨rfl, e1, e2, e3⟩
  · skip
    cases b1
    · skip
      cases b2
      · skip
        cases b3
        · cases b4
          · by_cases hb : s.bad < 0
            · have hcl0 := hcl
              simp [Tr.av, Tr.cells, h] at hcl0
              simp [PO, Tr.av, Tr.cells]
              refine acallC_by 1 (hpk) ?_ (by kernel_rfl) ?_ ?_ ?_ ?_ ?_ ?_ ?_ ?_ ?_ <;> simp [PO, Tok.cells, h, hb]
              refine acallC_by 1 (hi1) ?_ (by kernel_rfl) ?_ ?_ ?_ ?_ ?_ ?_ ?_ ?_ ?_ <;> simp [PO, hw, h, hb]
              refine acallC_by 1 (hi2) ?_ (by kernel_rfl) ?_ ?_ ?_ ?_ ?_ ?_ ?_ ?_ ?_ <;> simp [PO, hw, h, hb]
              refine acallC_by 1 (hi3) ?_ (by kernel_rfl) ?_ ?_ ?_ ?_ ?_ ?_ ?_ ?_ ?_ <;> simp [PO, hw, h, hb]
              refine acallC_by 1 (hi4) ?_ (by kernel_rfl) ?_ ?_ ?_ ?_ ?_ ?_ ?_ ?_ ?_ <;> simp [PO, hw, h, hb]
              refine acallC_of 0 (hcl0) ?_ (by kernel_rfl) ?_ ?_ ?_ ?_ ?_ ?_ <;> simp [h]
              refine ⟨?_, ?_⟩
              · refine acallC_by 1 (hwr) ?_ (by kernel_rfl) ?_ ?_ ?_ ?_ ?_ ?_ ?_ ?_ ?_ <;> simp [PO]
                exact ⟨.mk 0 [] 0 0 [] 0 [], sw, rfl, rfl, hfw⟩
              · refine acallC_by 0 (t_one 34 c ⟨#[]⟩ 7 1 (Tr.mk 40 x m c y rf kids).cells) ?_ (by kernel_rfl) ?_ ?_ ?_ ?_ ?_ ?_ ?_ ?_ ?_ <;> simp [PO, Tr.cells, h]
                exact ⟨.mk 34 [] 0 c [] 0 [.mk 40 x m c y rf kids], s, by simp [Tr.av, Tr.cells, flatN, vecN1, h], rfl, Fwd.refl h⟩
            · skip
              simp [PO, Tr.av, Tr.cells]
              refine acallC_by 1 (hpk) ?_ (by kernel_rfl) ?_ ?_ ?_ ?_ ?_ ?_ ?_ ?_ ?_ <;> simp [PO, Tok.cells, h, hb]
              refine acallC_by 1 (hi1) ?_ (by kernel_rfl) ?_ ?_ ?_ ?_ ?_ ?_ ?_ ?_ ?_ <;> simp [PO, hw, h, hb]
              refine acallC_by 1 (hi2) ?_ (by kernel_rfl) ?_ ?_ ?_ ?_ ?_ ?_ ?_ ?_ ?_ <;> simp [PO, hw, h, hb]
              refine acallC_by 1 (hi3) ?_ (by kernel_rfl) ?_ ?_ ?_ ?_ ?_ ?_ ?_ ?_ ?_ <;> simp [PO, hw, h, hb]
              refine acallC_by 1 (hi4) ?_ (by kernel_rfl) ?_ ?_ ?_ ?_ ?_ ?_ ?_ ?_ ?_ <;> simp [PO, hw, h, hb]
              refine acallC_by 1 (hwr) ?_ (by kernel_rfl) ?_ ?_ ?_ ?_ ?_ ?_ ?_ ?_ ?_ <;> simp [PO]
              exact ⟨.mk 0 [] 0 0 [] 0 [], sw, rfl, rfl, hfw⟩
          · obtain ⟨hb, hfn⟩ := hj4 rfl
            simp [PO, Tr.av, Tr.cells]
            refine acallC_by 1 (hpk) ?_ (by kernel_rfl) ?_ ?_ ?_ ?_ ?_ ?_ ?_ ?_ ?_ <;> simp [PO, Tok.cells, h]
            refine acallC_by 1 (hi1) ?_ (by kernel_rfl) ?_ ?_ ?_ ?_ ?_ ?_ ?_ ?_ ?_ <;> simp [PO, hw, h]
            refine acallC_by 1 (hi2) ?_ (by kernel_rfl) ?_ ?_ ?_ ?_ ?_ ?_ ?_ ?_ ?_ <;> simp [PO, hw, h]
            refine acallC_by 1 (hi3) ?_ (by kernel_rfl) ?_ ?_ ?_ ?_ ?_ ?_ ?_ ?_ ?_ <;> simp [PO, hw, h]
            refine acallC_by 1 (hi4) ?_ (by kernel_rfl) ?_ ?_ ?_ ?_ ?_ ?_ ?_ ?_ ?_ <;> simp [PO, hw, h]
            refine acallC_by 0 (t_one 20 t.at_ ⟨t.text.toArray⟩ 7 1 (Tr.mk 40 x m c y rf kids).cells) ?_ (by kernel_rfl) ?_ ?_ ?_ ?_ ?_ ?_ ?_ ?_ ?_ <;> simp [PO, Tr.cells, h]
            exact ⟨.mk 20 t.text 0 t.at_ [] 0 [.mk 40 x m c y rf kids], s.next, by simp [Tr.av, Tr.cells, flatN, vecN1, h], rfl, hfn⟩
        · obtain ⟨hb, hfn⟩ := hj3 rfl
          simp [PO, Tr.av, Tr.cells]
          refine acallC_by 1 (hpk) ?_ (by kernel_rfl) ?_ ?_ ?_ ?_ ?_ ?_ ?_ ?_ ?_ <;> simp [PO, Tok.cells, h]
          refine acallC_by 1 (hi1) ?_ (by kernel_rfl) ?_ ?_ ?_ ?_ ?_ ?_ ?_ ?_ ?_ <;> simp [PO, hw, h]
          refine acallC_by 1 (hi2) ?_ (by kernel_rfl) ?_ ?_ ?_ ?_ ?_ ?_ ?_ ?_ ?_ <;> simp [PO, hw, h]
          refine acallC_by 1 (hi3) ?_ (by kernel_rfl) ?_ ?_ ?_ ?_ ?_ ?_ ?_ ?_ ?_ <;> simp [PO, hw, h]
          refine acallC_of 1 (hp s.next hfn.lt (hmn hb)) ?_ (by kernel_rfl) ?_ ?_ ?_ ?_ ?_ ?_ <;> simp [PO, PS.next]
          rintro r o ⟨⟨k2, x2, m2, c2, y2, r2, kids2⟩, s2, rfl, rfl, hf2, hg2⟩
          simp [PO, Tr.av, Tr.cells, h2m]
          refine acallC_by 0 (t_one 19 t.at_ ⟨t.text.toArray⟩ 7 2 ((Tr.mk 40 x m c y rf kids).cells ++ (Tr.mk k2 x2 m2 c2 y2 r2 kids2).cells)) ?_ (by kernel_rfl) ?_ ?_ ?_ ?_ ?_ ?_ ?_ ?_ ?_ <;> simp [PO, Tr.cells, h]
          exact ⟨.mk 19 t.text 0 t.at_ [] 0 [.mk 40 x m c y rf kids, .mk k2 x2 m2 c2 y2 r2 kids2], s2, by simp [Tr.av, Tr.cells, flatN, vecN2, h], rfl, hfn.trans hf2⟩
      · obtain ⟨hb, hfn⟩ := hj2 rfl
        simp [PO, Tr.av, Tr.cells]
        refine acallC_by 1 (hpk) ?_ (by kernel_rfl) ?_ ?_ ?_ ?_ ?_ ?_ ?_ ?_ ?_ <;> simp [PO, Tok.cells, h]
        refine acallC_by 1 (hi1) ?_ (by kernel_rfl) ?_ ?_ ?_ ?_ ?_ ?_ ?_ ?_ ?_ <;> simp [PO, hw, h]
        refine acallC_by 1 (hi2) ?_ (by kernel_rfl) ?_ ?_ ?_ ?_ ?_ ?_ ?_ ?_ ?_ <;> simp [PO, hw, h]
        refine acallC_of 1 (hp s.next hfn.lt (hmn hb)) ?_ (by kernel_rfl) ?_ ?_ ?_ ?_ ?_ ?_ <;> simp [PO, PS.next]
        rintro r o ⟨⟨k2, x2, m2, c2, y2, r2, kids2⟩, s2, rfl, rfl, hf2, hg2⟩
        simp [PO, Tr.av, Tr.cells]
        refine acallC_by 0 (t_one 17 c ⟨x.toArray⟩ 7 1 ((Tr.mk k2 x2 m2 c2 y2 r2 kids2).cells)) ?_ (by kernel_rfl) ?_ ?_ ?_ ?_ ?_ ?_ ?_ ?_ ?_ <;> simp [PO, Tr.cells]
        exact ⟨.mk 17 x 0 c [] 0 [.mk k2 x2 m2 c2 y2 r2 kids2], s2, by simp [Tr.av, Tr.cells, flatN, vecN1], rfl, hfn.trans hf2⟩
    · obtain ⟨hb, hfn⟩ := hj1 rfl
      simp [PO, Tr.av, Tr.cells]
      refine acallC_by 1 (hpk) ?_ (by kernel_rfl) ?_ ?_ ?_ ?_ ?_ ?_ ?_ ?_ ?_ <;> simp [PO, Tok.cells, h]
      refine acallC_by 1 (hi1) ?_ (by kernel_rfl) ?_ ?_ ?_ ?_ ?_ ?_ ?_ ?_ ?_ <;> simp [PO, hw]
      refine acallC_of 1 (hp s.next hfn.lt (hmn hb)) ?_ (by kernel_rfl) ?_ ?_ ?_ ?_ ?_ ?_ <;> simp [PO, PS.next]
      rintro r o ⟨⟨k2, x2, m2, c2, y2, r2, kids2⟩, s2, rfl, rfl, hf2, hg2⟩
      simp [PO, Tr.av, Tr.cells, h2m]
      refine acallC_by 0 (t_one 33 t.at_ ⟨#[]⟩ 7 2 ((Tr.mk 40 x m c y rf kids).cells ++ (Tr.mk k2 x2 m2 c2 y2 r2 kids2).cells)) ?_ (by kernel_rfl) ?_ ?_ ?_ ?_ ?_ ?_ ?_ ?_ ?_ <;> simp [PO, Tr.cells, h]
      exact ⟨.mk 33 [] 0 t.at_ [] 0 [.mk 40 x m c y rf kids, .mk k2 x2 m2 c2 y2 r2 kids2], s2, by simp [Tr.av, Tr.cells, flatN, vecN2, h], rfl, hfn.trans hf2⟩
  · skip
    cases b1
    · skip
      cases b3
      · cases b4
        · by_cases hb : s.bad < 0
          · have hcl0 := hcl
            simp [Tr.av, Tr.cells, h] at hcl0
            simp [PO, Tr.av, Tr.cells]
            refine acallC_by 1 (hpk) ?_ (by kernel_rfl) ?_ ?_ ?_ ?_ ?_ ?_ ?_ ?_ ?_ <;> simp [PO, Tok.cells, h, hb]
            refine acallC_by 1 (hi1) ?_ (by kernel_rfl) ?_ ?_ ?_ ?_ ?_ ?_ ?_ ?_ ?_ <;> simp [PO, hw, h, hb]
            refine acallC_by 1 (hi3) ?_ (by kernel_rfl) ?_ ?_ ?_ ?_ ?_ ?_ ?_ ?_ ?_ <;> simp [PO, hw, h, hb]
            refine acallC_by 1 (hi4) ?_ (by kernel_rfl) ?_ ?_ ?_ ?_ ?_ ?_ ?_ ?_ ?_ <;> simp [PO, hw, h, hb]
            refine acallC_of 0 (hcl0) ?_ (by kernel_rfl) ?_ ?_ ?_ ?_ ?_ ?_ <;> simp [h]
            refine ⟨?_, ?_⟩
            · refine acallC_by 1 (hwr) ?_ (by kernel_rfl) ?_ ?_ ?_ ?_ ?_ ?_ ?_ ?_ ?_ <;> simp [PO]
              exact ⟨.mk 0 [] 0 0 [] 0 [], sw, rfl, rfl, hfw⟩
            · refine acallC_by 0 (t_one 34 c ⟨#[]⟩ 7 1 (Tr.mk 45 x m c y rf kids).cells) ?_ (by kernel_rfl) ?_ ?_ ?_ ?_ ?_ ?_ ?_ ?_ ?_ <;> simp [PO, Tr.cells, h]
              exact ⟨.mk 34 [] 0 c [] 0 [.mk 45 x m c y rf kids], s, by simp [Tr.av, Tr.cells, flatN, vecN1, h], rfl, Fwd.refl h⟩
          · skip
            simp [PO, Tr.av, Tr.cells]
            refine acallC_by 1 (hpk) ?_ (by kernel_rfl) ?_ ?_ ?_ ?_ ?_ ?_ ?_ ?_ ?_ <;> simp [PO, Tok.cells, h, hb]
            refine acallC_by 1 (hi1) ?_ (by kernel_rfl) ?_ ?_ ?_ ?_ ?_ ?_ ?_ ?_ ?_ <;> simp [PO, hw, h, hb]
            refine acallC_by 1 (hi3) ?_ (by kernel_rfl) ?_ ?_ ?_ ?_ ?_ ?_ ?_ ?_ ?_ <;> simp [PO, hw, h, hb]
            refine acallC_by 1 (hi4) ?_ (by kernel_rfl) ?_ ?_ ?_ ?_ ?_ ?_ ?_ ?_ ?_ <;> simp [PO, hw, h, hb]
            refine acallC_by 1 (hwr) ?_ (by kernel_rfl) ?_ ?_ ?_ ?_ ?_ ?_ ?_ ?_ ?_ <;> simp [PO]
            exact ⟨.mk 0 [] 0 0 [] 0 [], sw, rfl, rfl, hfw⟩
        · obtain ⟨hb, hfn⟩ := hj4 rfl
          simp [PO, Tr.av, Tr.cells]
          refine acallC_by 1 (hpk) ?_ (by kernel_rfl) ?_ ?_ ?_ ?_ ?_ ?_ ?_ ?_ ?_ <;> simp [PO, Tok.cells, h]
          refine acallC_by 1 (hi1) ?_ (by kernel_rfl) ?_ ?_ ?_ ?_ ?_ ?_ ?_ ?_ ?_ <;> simp [PO, hw, h]
          refine acallC_by 1 (hi3) ?_ (by kernel_rfl) ?_ ?_ ?_ ?_ ?_ ?_ ?_ ?_ ?_ <;> simp [PO, hw, h]
          refine acallC_by 1 (hi4) ?_ (by kernel_rfl) ?_ ?_ ?_ ?_ ?_ ?_ ?_ ?_ ?_ <;> simp [PO, hw, h]
          refine acallC_by 0 (t_one 20 t.at_ ⟨t.text.toArray⟩ 7 1 (Tr.mk 45 x m c y rf kids).cells) ?_ (by kernel_rfl) ?_ ?_ ?_ ?_ ?_ ?_ ?_ ?_ ?_ <;> simp [PO, Tr.cells, h]
          exact ⟨.mk 20 t.text 0 t.at_ [] 0 [.mk 45 x m c y rf kids], s.next, by simp [Tr.av, Tr.cells, flatN, vecN1, h], rfl, hfn⟩
      · obtain ⟨hb, hfn⟩ := hj3 rfl
        simp [PO, Tr.av, Tr.cells]
        refine acallC_by 1 (hpk) ?_ (by kernel_rfl) ?_ ?_ ?_ ?_ ?_ ?_ ?_ ?_ ?_ <;> simp [PO, Tok.cells, h]
        refine acallC_by 1 (hi1) ?_ (by kernel_rfl) ?_ ?_ ?_ ?_ ?_ ?_ ?_ ?_ ?_ <;> simp [PO, hw, h]
        refine acallC_by 1 (hi3) ?_ (by kernel_rfl) ?_ ?_ ?_ ?_ ?_ ?_ ?_ ?_ ?_ <;> simp [PO, hw, h]
        refine acallC_of 1 (hp s.next hfn.lt (hmn hb)) ?_ (by kernel_rfl) ?_ ?_ ?_ ?_ ?_ ?_ <;> simp [PO, PS.next]
        rintro r o ⟨⟨k2, x2, m2, c2, y2, r2, kids2⟩, s2, rfl, rfl, hf2, hg2⟩
        simp [PO, Tr.av, Tr.cells, h2m]
        refine acallC_by 0 (t_one 19 t.at_ ⟨t.text.toArray⟩ 7 2 ((Tr.mk 45 x m c y rf kids).cells ++ (Tr.mk k2 x2 m2 c2 y2 r2 kids2).cells)) ?_ (by kernel_rfl) ?_ ?_ ?_ ?_ ?_ ?_ ?_ ?_ ?_ <;> simp [PO, Tr.cells, h]
        exact ⟨.mk 19 t.text 0 t.at_ [] 0 [.mk 45 x m c y rf kids, .mk k2 x2 m2 c2 y2 r2 kids2], s2, by simp [Tr.av, Tr.cells, flatN, vecN2, h], rfl, hfn.trans hf2⟩
    · obtain ⟨hb, hfn⟩ := hj1 rfl
      simp [PO, Tr.av, Tr.cells]
      refine acallC_by 1 (hpk) ?_ (by kernel_rfl) ?_ ?_ ?_ ?_ ?_ ?_ ?_ ?_ ?_ <;> simp [PO, Tok.cells, h]
      refine acallC_by 1 (hi1) ?_ (by kernel_rfl) ?_ ?_ ?_ ?_ ?_ ?_ ?_ ?_ ?_ <;> simp [PO, hw]
      refine acallC_of 1 (hp s.next hfn.lt (hmn hb)) ?_ (by kernel_rfl) ?_ ?_ ?_ ?_ ?_ ?_ <;> simp [PO, PS.next]
      rintro r o ⟨⟨k2, x2, m2, c2, y2, r2, kids2⟩, s2, rfl, rfl, hf2, hg2⟩
      simp [PO, Tr.av, Tr.cells, h2m]
      refine acallC_by 0 (t_one 33 t.at_ ⟨#[]⟩ 7 2 ((Tr.mk 45 x m c y rf kids).cells ++ (Tr.mk k2 x2 m2 c2 y2 r2 kids2).cells)) ?_ (by kernel_rfl) ?_ ?_ ?_ ?_ ?_ ?_ ?_ ?_ ?_ <;> simp [PO, Tr.cells, h]
      exact ⟨.mk 33 [] 0 t.at_ [] 0 [.mk 45 x m c y rf kids, .mk k2 x2 m2 c2 y2 r2 kids2], s2, by simp [Tr.av, Tr.cells, flatN, vecN2, h], rfl, hfn.trans hf2⟩
  · skip
    cases b1
    · skip
      cases b3
      · cases b4
        · by_cases hb : s.bad < 0
          · have hcl0 := hcl
            simp [Tr.av, Tr.cells, h] at hcl0
            simp [PO, Tr.av, Tr.cells]
            refine acallC_by 1 (hpk) ?_ (by kernel_rfl) ?_ ?_ ?_ ?_ ?_ ?_ ?_ ?_ ?_ <;> simp [PO, Tok.cells, h, hb]
            refine acallC_by 1 (hi1) ?_ (by kernel_rfl) ?_ ?_ ?_ ?_ ?_ ?_ ?_ ?_ ?_ <;> simp [PO, hw, h, hb]
            refine acallC_by 1 (hi3) ?_ (by kernel_rfl) ?_ ?_ ?_ ?_ ?_ ?_ ?_ ?_ ?_ <;> simp [PO, hw, h, hb]
            refine acallC_by 1 (hi4) ?_ (by kernel_rfl) ?_ ?_ ?_ ?_ ?_ ?_ ?_ ?_ ?_ <;> simp [PO, hw, h, hb]
            refine acallC_of 0 (hcl0) ?_ (by kernel_rfl) ?_ ?_ ?_ ?_ ?_ ?_ <;> simp [h]
            refine ⟨?_, ?_⟩
            · refine acallC_by 1 (hwr) ?_ (by kernel_rfl) ?_ ?_ ?_ ?_ ?_ ?_ ?_ ?_ ?_ <;> simp [PO]
              exact ⟨.mk 0 [] 0 0 [] 0 [], sw, rfl, rfl, hfw⟩
            · refine acallC_by 0 (t_one 34 c ⟨#[]⟩ 7 1 (Tr.mk 47 x m c y rf kids).cells) ?_ (by kernel_rfl) ?_ ?_ ?_ ?_ ?_ ?_ ?_ ?_ ?_ <;> simp [PO, Tr.cells, h]
              exact ⟨.mk 34 [] 0 c [] 0 [.mk 47 x m c y rf kids], s, by simp [Tr.av, Tr.cells, flatN, vecN1, h], rfl, Fwd.refl h⟩
          · skip
            simp [PO, Tr.av, Tr.cells]
            refine acallC_by 1 (hpk) ?_ (by kernel_rfl) ?_ ?_ ?_ ?_ ?_ ?_ ?_ ?_ ?_ <;> simp [PO, Tok.cells, h, hb]
            refine acallC_by 1 (hi1) ?_ (by kernel_rfl) ?_ ?_ ?_ ?_ ?_ ?_ ?_ ?_ ?_ <;> simp [PO, hw, h, hb]
            refine acallC_by 1 (hi3) ?_ (by kernel_rfl) ?_ ?_ ?_ ?_ ?_ ?_ ?_ ?_ ?_ <;> simp [PO, hw, h, hb]
            refine acallC_by 1 (hi4) ?_ (by kernel_rfl) ?_ ?_ ?_ ?_ ?_ ?_ ?_ ?_ ?_ <;> simp [PO, hw, h, hb]
            refine acallC_by 1 (hwr) ?_ (by kernel_rfl) ?_ ?_ ?_ ?_ ?_ ?_ ?_ ?_ ?_ <;> simp [PO]
            exact ⟨.mk 0 [] 0 0 [] 0 [], sw, rfl, rfl, hfw⟩
        · obtain ⟨hb, hfn⟩ := hj4 rfl
          simp [PO, Tr.av, Tr.cells]
          refine acallC_by 1 (hpk) ?_ (by kernel_rfl) ?_ ?_ ?_ ?_ ?_ ?_ ?_ ?_ ?_ <;> simp [PO, Tok.cells, h]
          refine acallC_by 1 (hi1) ?_ (by kernel_rfl) ?_ ?_ ?_ ?_ ?_ ?_ ?_ ?_ ?_ <;> simp [PO, hw, h]
          refine acallC_by 1 (hi3) ?_ (by kernel_rfl) ?_ ?_ ?_ ?_ ?_ ?_ ?_ ?_ ?_ <;> simp [PO, hw, h]
          refine acallC_by 1 (hi4) ?_ (by kernel_rfl) ?_ ?_ ?_ ?_ ?_ ?_ ?_ ?_ ?_ <;> simp [PO, hw, h]
          refine acallC_by 0 (t_one 20 t.at_ ⟨t.text.toArray⟩ 7 1 (Tr.mk 47 x m c y rf kids).cells) ?_ (by kernel_rfl) ?_ ?_ ?_ ?_ ?_ ?_ ?_ ?_ ?_ <;> simp [PO, Tr.cells, h]
          exact ⟨.mk 20 t.text 0 t.at_ [] 0 [.mk 47 x m c y rf kids], s.next, by simp [Tr.av, Tr.cells, flatN, vecN1, h], rfl, hfn⟩
      · obtain ⟨hb, hfn⟩ := hj3 rfl
        simp [PO, Tr.av, Tr.cells]
        refine acallC_by 1 (hpk) ?_ (by kernel_rfl) ?_ ?_ ?_ ?_ ?_ ?_ ?_ ?_ ?_ <;> simp [PO, Tok.cells, h]
        refine acallC_by 1 (hi1) ?_ (by kernel_rfl) ?_ ?_ ?_ ?_ ?_ ?_ ?_ ?_ ?_ <;> simp [PO, hw, h]
        refine acallC_by 1 (hi3) ?_ (by kernel_rfl) ?_ ?_ ?_ ?_ ?_ ?_ ?_ ?_ ?_ <;> simp [PO, hw, h]
        refine acallC_of 1 (hp s.next hfn.lt (hmn hb)) ?_ (by kernel_rfl) ?_ ?_ ?_ ?_ ?_ ?_ <;> simp [PO, PS.next]
        rintro r o ⟨⟨k2, x2, m2, c2, y2, r2, kids2⟩, s2, rfl, rfl, hf2, hg2⟩
        simp [PO, Tr.av, Tr.cells, h2m]
        refine acallC_by 0 (t_one 19 t.at_ ⟨t.text.toArray⟩ 7 2 ((Tr.mk 47 x m c y rf kids).cells ++ (Tr.mk k2 x2 m2 c2 y2 r2 kids2).cells)) ?_ (by kernel_rfl) ?_ ?_ ?_ ?_ ?_ ?_ ?_ ?_ ?_ <;> simp [PO, Tr.cells, h]
        exact ⟨.mk 19 t.text 0 t.at_ [] 0 [.mk 47 x m c y rf kids, .mk k2 x2 m2 c2 y2 r2 kids2], s2, by simp [Tr.av, Tr.cells, flatN, vecN2, h], rfl, hfn.trans hf2⟩
    · obtain ⟨hb, hfn⟩ := hj1 rfl
      simp [PO, Tr.av, Tr.cells]
      refine acallC_by 1 (hpk) ?_ (by kernel_rfl) ?_ ?_ ?_ ?_ ?_ ?_ ?_ ?_ ?_ <;> simp [PO, Tok.cells, h]
      refine acallC_by 1 (hi1) ?_ (by kernel_rfl) ?_ ?_ ?_ ?_ ?_ ?_ ?_ ?_ ?_ <;> simp [PO, hw]
      refine acallC_of 1 (hp s.next hfn.lt (hmn hb)) ?_ (by kernel_rfl) ?_ ?_ ?_ ?_ ?_ ?_ <;> simp [PO, PS.next]
      rintro r o ⟨⟨k2, x2, m2, c2, y2, r2, kids2⟩, s2, rfl, rfl, hf2, hg2⟩
      simp [PO, Tr.av, Tr.cells, h2m]
      refine acallC_by 0 (t_one 33 t.at_ ⟨#[]⟩ 7 2 ((Tr.mk 47 x m c y rf kids).cells ++ (Tr.mk k2 x2 m2 c2 y2 r2 kids2).cells)) ?_ (by kernel_rfl) ?_ ?_ ?_ ?_ ?_ ?_ ?_ ?_ ?_ <;> simp [PO, Tr.cells, h]
      exact ⟨.mk 33 [] 0 t.at_ [] 0 [.mk 47 x m c y rf kids, .mk k2 x2 m2 c2 y2 r2 kids2], s2, by simp [Tr.av, Tr.cells, flatN, vecN2, h], rfl, hfn.trans hf2⟩
  · skip
    cases b1
    · by_cases hb : s.bad < 0
      · have hcl0 := hcl
        simp [Tr.av, Tr.cells, h] at hcl0
        simp [PO, Tr.av, Tr.cells]
        refine acallC_by 1 (hpk) ?_ (by kernel_rfl) ?_ ?_ ?_ ?_ ?_ ?_ ?_ ?_ ?_ <;> simp [PO, Tok.cells, h, hb]
        refine acallC_by 1 (hi1) ?_ (by kernel_rfl) ?_ ?_ ?_ ?_ ?_ ?_ ?_ ?_ ?_ <;> simp [PO, hw, h, hb]
        refine acallC_of 0 (hcl0) ?_ (by kernel_rfl) ?_ ?_ ?_ ?_ ?_ ?_ <;> simp [h]
        refine ⟨?_, ?_⟩
        · refine acallC_by 1 (hwr) ?_ (by kernel_rfl) ?_ ?_ ?_ ?_ ?_ ?_ ?_ ?_ ?_ <;> simp [PO]
          exact ⟨.mk 0 [] 0 0 [] 0 [], sw, rfl, rfl, hfw⟩
        · refine acallC_by 1 (hwr) ?_ (by kernel_rfl) ?_ ?_ ?_ ?_ ?_ ?_ ?_ ?_ ?_ <;> simp [PO]
          exact ⟨.mk 0 [] 0 0 [] 0 [], sw, rfl, rfl, hfw⟩
      · skip
        simp [PO, Tr.av, Tr.cells]
        refine acallC_by 1 (hpk) ?_ (by kernel_rfl) ?_ ?_ ?_ ?_ ?_ ?_ ?_ ?_ ?_ <;> simp [PO, Tok.cells, h, hb]
        refine acallC_by 1 (hi1) ?_ (by kernel_rfl) ?_ ?_ ?_ ?_ ?_ ?_ ?_ ?_ ?_ <;> simp [PO, hw, h, hb]
        refine acallC_by 1 (hwr) ?_ (by kernel_rfl) ?_ ?_ ?_ ?_ ?_ ?_ ?_ ?_ ?_ <;> simp [PO]
        exact ⟨.mk 0 [] 0 0 [] 0 [], sw, rfl, rfl, hfw⟩
    · obtain ⟨hb, hfn⟩ := hj1 rfl
      simp [PO, Tr.av, Tr.cells]
      refine acallC_by 1 (hpk) ?_ (by kernel_rfl) ?_ ?_ ?_ ?_ ?_ ?_ ?_ ?_ ?_ <;> simp [PO, Tok.cells, h]
      refine acallC_by 1 (hi1) ?_ (by kernel_rfl) ?_ ?_ ?_ ?_ ?_ ?_ ?_ ?_ ?_ <;> simp [PO, hw]
      refine acallC_of 1 (hp s.next hfn.lt (hmn hb)) ?_ (by kernel_rfl) ?_ ?_ ?_ ?_ ?_ ?_ <;> simp [PO, PS.next]
      rintro r o ⟨⟨k2, x2, m2, c2, y2, r2, kids2⟩, s2, rfl, rfl, hf2, hg2⟩
      simp [PO, Tr.av, Tr.cells, h2m]
      refine acallC_by 0 (t_one 33 t.at_ ⟨#[]⟩ 7 2 ((Tr.mk k x m c y rf kids).cells ++ (Tr.mk k2 x2 m2 c2 y2 r2 kids2).cells)) ?_ (by kernel_rfl) ?_ ?_ ?_ ?_ ?_ ?_ ?_ ?_ ?_ <;> simp [PO, Tr.cells, h]
      exact ⟨.mk 33 [] 0 t.at_ [] 0 [.mk k x m c y rf kids, .mk k2 x2 m2 c2 y2 r2 kids2], s2, by simp [Tr.av, Tr.cells, flatN, vecN2, h], rfl, hfn.trans hf2⟩
  · skip
    cases b1
    · by_cases hb : s.bad < 0
      · have hcl0 := hcl
        simp [Tr.av, Tr.cells, e1, e2, e3] at hcl0
        simp [PO, Tr.av, Tr.cells]
        refine acallC_by 1 (hpk) ?_ (by kernel_rfl) ?_ ?_ ?_ ?_ ?_ ?_ ?_ ?_ ?_ <;> simp [PO, Tok.cells, e1, e2, e3, hb]
        refine acallC_by 1 (hi1) ?_ (by kernel_rfl) ?_ ?_ ?_ ?_ ?_ ?_ ?_ ?_ ?_ <;> simp [PO, hw, e1, e2, e3, hb]
        refine acallC_of 0 (hcl0) ?_ (by kernel_rfl) ?_ ?_ ?_ ?_ ?_ ?_ <;> simp [e1, e2, e3]
        refine ⟨?_, ?_⟩
        · refine acallC_by 1 (hwr) ?_ (by kernel_rfl) ?_ ?_ ?_ ?_ ?_ ?_ ?_ ?_ ?_ <;> simp [PO]
          exact ⟨.mk 0 [] 0 0 [] 0 [], sw, rfl, rfl, hfw⟩
        · refine acallC_by 0 (t_one 34 c ⟨#[]⟩ 7 1 (Tr.mk k x m c y rf kids).cells) ?_ (by kernel_rfl) ?_ ?_ ?_ ?_ ?_ ?_ ?_ ?_ ?_ <;> simp [PO, Tr.cells, e1, e2, e3]
          exact ⟨.mk 34 [] 0 c [] 0 [.mk k x m c y rf kids], s, by simp [Tr.av, Tr.cells, flatN, vecN1, e1, e2, e3], rfl, Fwd.refl h⟩
      · skip
        simp [PO, Tr.av, Tr.cells]
        refine acallC_by 1 (hpk) ?_ (by kernel_rfl) ?_ ?_ ?_ ?_ ?_ ?_ ?_ ?_ ?_ <;> simp [PO, Tok.cells, e1, e2, e3, hb]
        refine acallC_by 1 (hi1) ?_ (by kernel_rfl) ?_ ?_ ?_ ?_ ?_ ?_ ?_ ?_ ?_ <;> simp [PO, hw, e1, e2, e3, hb]
        refine acallC_by 1 (hwr) ?_ (by kernel_rfl) ?_ ?_ ?_ ?_ ?_ ?_ ?_ ?_ ?_ <;> simp [PO]
        exact ⟨.mk 0 [] 0 0 [] 0 [], sw, rfl, rfl, hfw⟩
    · obtain ⟨hb, hfn⟩ := hj1 rfl
      simp [PO, Tr.av, Tr.cells]
      refine acallC_by 1 (hpk) ?_ (by kernel_rfl) ?_ ?_ ?_ ?_ ?_ ?_ ?_ ?_ ?_ <;> simp [PO, Tok.cells, e1, e2, e3]
      refine acallC_by 1 (hi1) ?_ (by kernel_rfl) ?_ ?_ ?_ ?_ ?_ ?_ ?_ ?_ ?_ <;> simp [PO, hw]
      refine acallC_of 1 (hp s.next hfn.lt (hmn hb)) ?_ (by kernel_rfl) ?_ ?_ ?_ ?_ ?_ ?_ <;> simp [PO, PS.next]
      rintro r o ⟨⟨k2, x2, m2, c2, y2, r2, kids2⟩, s2, rfl, rfl, hf2, hg2⟩
      simp [PO, Tr.av, Tr.cells, h2m]
      refine acallC_by 0 (t_one 33 t.at_ ⟨#[]⟩ 7 2 ((Tr.mk k x m c y rf kids).cells ++ (Tr.mk k2 x2 m2 c2 y2 r2 kids2).cells)) ?_ (by kernel_rfl) ?_ ?_ ?_ ?_ ?_ ?_ ?_ ?_ ?_ <;> simp [PO, Tr.cells, e1, e2, e3]
      exact ⟨.mk 33 [] 0 t.at_ [] 0 [.mk k x m c y rf kids, .mk k2 x2 m2 c2 y2 r2 kids2], s2, by simp [Tr.av, Tr.cells, flatN, vecN2, e1, e2, e3], rfl, hfn.trans hf2⟩
end Go.Proofs.Ytoaodlfmhioigaa
end
