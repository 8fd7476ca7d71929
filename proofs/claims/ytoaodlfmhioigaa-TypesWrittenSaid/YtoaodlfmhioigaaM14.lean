/- A part of the proof of TypesWrittenSaid. No condition. -/
import Derived.Test.YtoaodlfmhioigaaM12
set_option linter.unusedSimpArgs false
set_option linter.unusedVariables false
section
namespace Go.Proofs.Ytoaodlfmhioigaa

theorem vecN0 (cs : List AV) : vecN 0 cs = .vec 0 0 [] := rfl

set_option maxRecDepth 20000 in
set_option maxHeartbeats 4000000 in
theorem t_comm_step {toks : List Tok} (hk : TK toks) {n : Nat} (hp : ∀ s' : PS, s'.at_ < toks.length → meas toks s' ≤ n → NodeAt toks 69 s')
    (hu : ∀ s' : PS, s'.at_ < toks.length → meas toks s' ≤ n → NodeAt toks 72 s') (hpr : ∀ s' : PS, s'.at_ < toks.length → meas toks s' ≤ n → NodeAt toks 70 s')
    (hbh : ∀ s' : PS, s'.at_ < toks.length → meas toks s' ≤ n → NodeAt toks 75 s')
    (s : PS) (a : Int) (h : s.at_ < toks.length) (hm : meas toks s ≤ n) : Tri Try.prog 76 [.ref 0 0 0, I a] [PO toks s] (FwdR toks s) := by
  have hlen := hk.len
  have h2m : (2 : Nat) ≤ maxLen := by decide
  have h3m : (3 : Nat) ≤ maxLen := by decide
  obtain ⟨t, hpk, ht, hok⟩ := peek_b hk h
  refine tri_by Try.func76 (by rfl) _ Try.ntmps76 _ (by rfl) ?_
  by_cases hb : s.bad < 0
  · by_cases h1 : t.kind = 1
    · have hfo := t_follows toks s t [58, 61] hlen ht
      simp [PO]
      refine acallC_by 1 (hpk) ?_ (by kernel_rfl) ?_ ?_ ?_ ?_ ?_ ?_ ?_ ?_ ?_ <;> simp [PO, Tok.cells, hb, h1]
      refine acallC_of 1 (hfo) ?_ (by kernel_rfl) ?_ ?_ ?_ ?_ ?_ ?_ <;> simp [PO]
      rintro r o (⟨rfl, rfl⟩ | ⟨rfl, rfl, v, hv1, hv2⟩)
      · simp [PO]
        obtain ⟨bg, sg, hgt, hfg, hbg, hbg'⟩ := got_b hk (Fwd.refl h).lt [60, 45]
        have hFg := (Fwd.refl h).trans hfg
        have hMg := meas_fwd hFg
        cases bg
        · refine acallC_by 1 (hgt) ?_ (by kernel_rfl) ?_ ?_ ?_ ?_ ?_ ?_ ?_ ?_ ?_ <;> simp [PO]
          refine acallC_of 1 (hpr sg hfg.lt (by omega)) ?_ (by kernel_rfl) ?_ ?_ ?_ ?_ ?_ ?_ <;> simp [PO]
          rintro r o ⟨⟨k1, x1, m1, c1, y1, r1, kids1⟩, s1, rfl, rfl, hf1, hg1⟩
          have hF1 := hFg.trans hf1
          obtain ⟨s2, hw2, hf2, hg2⟩ := want_b hk hf1.lt [60, 45]
          have hF2 := hF1.trans hf2
          have hM2 := meas_fwd hF2
          simp [PO, Tr.av, Tr.cells]
          refine acallC_by 1 (hw2) ?_ (by kernel_rfl) ?_ ?_ ?_ ?_ ?_ ?_ ?_ ?_ ?_ <;> simp [PO]
          refine acallC_of 1 (hp s2 hf2.lt (by omega)) ?_ (by kernel_rfl) ?_ ?_ ?_ ?_ ?_ ?_ <;> simp [PO]
          rintro r o ⟨⟨k3, x3, m3, c3, y3, r3, kids3⟩, s3, rfl, rfl, hf3, hg3⟩
          have hF3 := hF2.trans hf3
          have hM3 := meas_fwd hF3
          simp [PO, Tr.av, Tr.cells]
          refine acallC_of 1 (hbh s3 hf3.lt (by omega)) ?_ (by kernel_rfl) ?_ ?_ ?_ ?_ ?_ ?_ <;> simp [PO]
          rintro r o ⟨⟨k4, x4, m4, c4, y4, r4, kids4⟩, s4, rfl, rfl, hf4, hg4⟩
          simp [PO, Tr.av, Tr.cells, h3m]
          refine acallC_by 0 (t_one 26 a ⟨#[115, 101, 110, 100]⟩ 7 3 ((Tr.mk k1 x1 m1 c1 y1 r1 kids1).cells ++ (Tr.mk k3 x3 m3 c3 y3 r3 kids3).cells ++ (Tr.mk k4 x4 m4 c4 y4 r4 kids4).cells)) ?_ (by kernel_rfl) ?_ ?_ ?_ ?_ ?_ ?_ ?_ ?_ ?_ <;> simp [PO, Tr.cells]
          exact ⟨.mk 26 [115, 101, 110, 100] 0 a [] 0 [.mk k1 x1 m1 c1 y1 r1 kids1, .mk k3 x3 m3 c3 y3 r3 kids3, .mk k4 x4 m4 c4 y4 r4 kids4], s4, rfl, rfl, hF3.trans hf4⟩
        · refine acallC_by 1 (hgt) ?_ (by kernel_rfl) ?_ ?_ ?_ ?_ ?_ ?_ ?_ ?_ ?_ <;> simp [PO]
          refine acallC_of 1 (hu sg hfg.lt (by omega)) ?_ (by kernel_rfl) ?_ ?_ ?_ ?_ ?_ ?_ <;> simp [PO]
          rintro r o ⟨⟨k1, x1, m1, c1, y1, r1, kids1⟩, s1, rfl, rfl, hf1, hg1⟩
          have hF1 := hFg.trans hf1
          have hM1 := meas_fwd hF1
          simp [PO, Tr.av, Tr.cells]
          refine acallC_of 1 (hbh s1 hf1.lt (by omega)) ?_ (by kernel_rfl) ?_ ?_ ?_ ?_ ?_ ?_ <;> simp [PO]
          rintro r o ⟨⟨k4, x4, m4, c4, y4, r4, kids4⟩, s4, rfl, rfl, hf4, hg4⟩
          simp [PO, Tr.av, Tr.cells, h3m, h2m]
          refine acallC_by 0 (t_one 26 a ⟨#[114, 101, 99, 118]⟩ 7 2 ((Tr.mk k1 x1 m1 c1 y1 r1 kids1).cells ++ (Tr.mk k4 x4 m4 c4 y4 r4 kids4).cells)) ?_ (by kernel_rfl) ?_ ?_ ?_ ?_ ?_ ?_ ?_ ?_ ?_ <;> simp [PO, Tr.cells, vecN0, flatN]
          exact ⟨.mk 26 [114, 101, 99, 118] 0 a [] 0 [Tr.mk k1 x1 m1 c1 y1 r1 kids1, Tr.mk k4 x4 m4 c4 y4 r4 kids4], s4, rfl, rfl, hF1.trans hf4⟩
      · have hl2 : s.at_ + 2 < toks.length := (hk.ok _ _ hv1).last (by rw [hv2]; decide)
        have hw2 : IntKind.i64.wrap ((s.at_ : Int) + 2) = (s.at_ : Int) + 2 := wrap_i (by omega)
        have hfn : Fwd toks s { s with at_ := s.at_ + 2 } := ⟨by show s.at_ ≤ s.at_ + 2; omega, hl2, id⟩
        obtain ⟨b5, hi5, hj5⟩ := is_b hk hfn.lt [60, 45]
        obtain ⟨sw, hwr, hfw, hgw⟩ := wrong_b hk hfn.lt
        simp [PO, hw2]
        refine acallC_by 0 (t_one 7 t.at_ ⟨t.text.toArray⟩ 0 0 []) ?_ (by kernel_rfl) ?_ ?_ ?_ ?_ ?_ ?_ ?_ ?_ ?_ <;> simp [PO]
        cases b5
        · refine acallC_by 1 (hi5) ?_ (by kernel_rfl) ?_ ?_ ?_ ?_ ?_ ?_ ?_ ?_ ?_ <;> simp [PO]
          refine acallC_by 1 (hwr) ?_ (by kernel_rfl) ?_ ?_ ?_ ?_ ?_ ?_ ?_ ?_ ?_ <;> simp [PO]
          exact ⟨.mk 0 [] 0 0 [] 0 [], sw, rfl, rfl, hfn.trans hfw⟩
        · refine acallC_by 1 (hi5) ?_ (by kernel_rfl) ?_ ?_ ?_ ?_ ?_ ?_ ?_ ?_ ?_ <;> simp [PO]
          obtain ⟨bg, sg, hgt, hfg, hbg, hbg'⟩ := got_b hk (hfn).lt [60, 45]
          have hFg := (hfn).trans hfg
          have hMg := meas_fwd hFg
          cases bg
          · refine acallC_by 1 (hgt) ?_ (by kernel_rfl) ?_ ?_ ?_ ?_ ?_ ?_ ?_ ?_ ?_ <;> simp [PO]
            refine acallC_of 1 (hpr sg hfg.lt (by omega)) ?_ (by kernel_rfl) ?_ ?_ ?_ ?_ ?_ ?_ <;> simp [PO]
            rintro r o ⟨⟨k1, x1, m1, c1, y1, r1, kids1⟩, s1, rfl, rfl, hf1, hg1⟩
            have hF1 := hFg.trans hf1
            obtain ⟨s2, hw2, hf2, hg2⟩ := want_b hk hf1.lt [60, 45]
            have hF2 := hF1.trans hf2
            have hM2 := meas_fwd hF2
            simp [PO, Tr.av, Tr.cells]
            refine acallC_by 1 (hw2) ?_ (by kernel_rfl) ?_ ?_ ?_ ?_ ?_ ?_ ?_ ?_ ?_ <;> simp [PO]
            refine acallC_of 1 (hp s2 hf2.lt (by omega)) ?_ (by kernel_rfl) ?_ ?_ ?_ ?_ ?_ ?_ <;> simp [PO]
            rintro r o ⟨⟨k3, x3, m3, c3, y3, r3, kids3⟩, s3, rfl, rfl, hf3, hg3⟩
            have hF3 := hF2.trans hf3
            have hM3 := meas_fwd hF3
            simp [PO, Tr.av, Tr.cells]
            refine acallC_of 1 (hbh s3 hf3.lt (by omega)) ?_ (by kernel_rfl) ?_ ?_ ?_ ?_ ?_ ?_ <;> simp [PO]
            rintro r o ⟨⟨k4, x4, m4, c4, y4, r4, kids4⟩, s4, rfl, rfl, hf4, hg4⟩
            simp [PO, Tr.av, Tr.cells, h3m]
            refine acallC_by 0 (t_one 26 a ⟨#[115, 101, 110, 100]⟩ 7 3 ((Tr.mk k1 x1 m1 c1 y1 r1 kids1).cells ++ (Tr.mk k3 x3 m3 c3 y3 r3 kids3).cells ++ (Tr.mk k4 x4 m4 c4 y4 r4 kids4).cells)) ?_ (by kernel_rfl) ?_ ?_ ?_ ?_ ?_ ?_ ?_ ?_ ?_ <;> simp [PO, Tr.cells]
            exact ⟨.mk 26 [115, 101, 110, 100] 0 a [] 0 [.mk k1 x1 m1 c1 y1 r1 kids1, .mk k3 x3 m3 c3 y3 r3 kids3, .mk k4 x4 m4 c4 y4 r4 kids4], s4, rfl, rfl, hF3.trans hf4⟩
          · refine acallC_by 1 (hgt) ?_ (by kernel_rfl) ?_ ?_ ?_ ?_ ?_ ?_ ?_ ?_ ?_ <;> simp [PO]
            refine acallC_of 1 (hu sg hfg.lt (by omega)) ?_ (by kernel_rfl) ?_ ?_ ?_ ?_ ?_ ?_ <;> simp [PO]
            rintro r o ⟨⟨k1, x1, m1, c1, y1, r1, kids1⟩, s1, rfl, rfl, hf1, hg1⟩
            have hF1 := hFg.trans hf1
            have hM1 := meas_fwd hF1
            simp [PO, Tr.av, Tr.cells]
            refine acallC_of 1 (hbh s1 hf1.lt (by omega)) ?_ (by kernel_rfl) ?_ ?_ ?_ ?_ ?_ ?_ <;> simp [PO]
            rintro r o ⟨⟨k4, x4, m4, c4, y4, r4, kids4⟩, s4, rfl, rfl, hf4, hg4⟩
            simp [PO, Tr.av, Tr.cells, h3m, h2m]
            refine acallC_by 0 (t_one 26 a ⟨#[114, 101, 99, 118]⟩ 7 3 ((Tr.mk 7 t.text 0 t.at_ [] 0 []).cells ++ (Tr.mk k1 x1 m1 c1 y1 r1 kids1).cells ++ (Tr.mk k4 x4 m4 c4 y4 r4 kids4).cells)) ?_ (by kernel_rfl) ?_ ?_ ?_ ?_ ?_ ?_ ?_ ?_ ?_ <;> simp [PO, Tr.cells, vecN0, flatN]
            exact ⟨.mk 26 [114, 101, 99, 118] 0 a [] 0 [Tr.mk 7 t.text 0 t.at_ [] 0 [], Tr.mk k1 x1 m1 c1 y1 r1 kids1, Tr.mk k4 x4 m4 c4 y4 r4 kids4], s4, rfl, rfl, hF1.trans hf4⟩
    · simp [PO]
      refine acallC_by 1 (hpk) ?_ (by kernel_rfl) ?_ ?_ ?_ ?_ ?_ ?_ ?_ ?_ ?_ <;> simp [PO, Tok.cells, hb, h1]
      obtain ⟨bg, sg, hgt, hfg, hbg, hbg'⟩ := got_b hk (Fwd.refl h).lt [60, 45]
      have hFg := (Fwd.refl h).trans hfg
      have hMg := meas_fwd hFg
      cases bg
      · refine acallC_by 1 (hgt) ?_ (by kernel_rfl) ?_ ?_ ?_ ?_ ?_ ?_ ?_ ?_ ?_ <;> simp [PO]
        refine acallC_of 1 (hpr sg hfg.lt (by omega)) ?_ (by kernel_rfl) ?_ ?_ ?_ ?_ ?_ ?_ <;> simp [PO]
        rintro r o ⟨⟨k1, x1, m1, c1, y1, r1, kids1⟩, s1, rfl, rfl, hf1, hg1⟩
        have hF1 := hFg.trans hf1
        obtain ⟨s2, hw2, hf2, hg2⟩ := want_b hk hf1.lt [60, 45]
        have hF2 := hF1.trans hf2
        have hM2 := meas_fwd hF2
        simp [PO, Tr.av, Tr.cells]
        refine acallC_by 1 (hw2) ?_ (by kernel_rfl) ?_ ?_ ?_ ?_ ?_ ?_ ?_ ?_ ?_ <;> simp [PO]
        refine acallC_of 1 (hp s2 hf2.lt (by omega)) ?_ (by kernel_rfl) ?_ ?_ ?_ ?_ ?_ ?_ <;> simp [PO]
        rintro r o ⟨⟨k3, x3, m3, c3, y3, r3, kids3⟩, s3, rfl, rfl, hf3, hg3⟩
        have hF3 := hF2.trans hf3
        have hM3 := meas_fwd hF3
        simp [PO, Tr.av, Tr.cells]
        refine acallC_of 1 (hbh s3 hf3.lt (by omega)) ?_ (by kernel_rfl) ?_ ?_ ?_ ?_ ?_ ?_ <;> simp [PO]
        rintro r o ⟨⟨k4, x4, m4, c4, y4, r4, kids4⟩, s4, rfl, rfl, hf4, hg4⟩
        simp [PO, Tr.av, Tr.cells, h3m]
        refine acallC_by 0 (t_one 26 a ⟨#[115, 101, 110, 100]⟩ 7 3 ((Tr.mk k1 x1 m1 c1 y1 r1 kids1).cells ++ (Tr.mk k3 x3 m3 c3 y3 r3 kids3).cells ++ (Tr.mk k4 x4 m4 c4 y4 r4 kids4).cells)) ?_ (by kernel_rfl) ?_ ?_ ?_ ?_ ?_ ?_ ?_ ?_ ?_ <;> simp [PO, Tr.cells]
        exact ⟨.mk 26 [115, 101, 110, 100] 0 a [] 0 [.mk k1 x1 m1 c1 y1 r1 kids1, .mk k3 x3 m3 c3 y3 r3 kids3, .mk k4 x4 m4 c4 y4 r4 kids4], s4, rfl, rfl, hF3.trans hf4⟩
      · refine acallC_by 1 (hgt) ?_ (by kernel_rfl) ?_ ?_ ?_ ?_ ?_ ?_ ?_ ?_ ?_ <;> simp [PO]
        refine acallC_of 1 (hu sg hfg.lt (by omega)) ?_ (by kernel_rfl) ?_ ?_ ?_ ?_ ?_ ?_ <;> simp [PO]
        rintro r o ⟨⟨k1, x1, m1, c1, y1, r1, kids1⟩, s1, rfl, rfl, hf1, hg1⟩
        have hF1 := hFg.trans hf1
        have hM1 := meas_fwd hF1
        simp [PO, Tr.av, Tr.cells]
        refine acallC_of 1 (hbh s1 hf1.lt (by omega)) ?_ (by kernel_rfl) ?_ ?_ ?_ ?_ ?_ ?_ <;> simp [PO]
        rintro r o ⟨⟨k4, x4, m4, c4, y4, r4, kids4⟩, s4, rfl, rfl, hf4, hg4⟩
        simp [PO, Tr.av, Tr.cells, h3m, h2m]
        refine acallC_by 0 (t_one 26 a ⟨#[114, 101, 99, 118]⟩ 7 2 ((Tr.mk k1 x1 m1 c1 y1 r1 kids1).cells ++ (Tr.mk k4 x4 m4 c4 y4 r4 kids4).cells)) ?_ (by kernel_rfl) ?_ ?_ ?_ ?_ ?_ ?_ ?_ ?_ ?_ <;> simp [PO, Tr.cells, vecN0, flatN]
        exact ⟨.mk 26 [114, 101, 99, 118] 0 a [] 0 [Tr.mk k1 x1 m1 c1 y1 r1 kids1, Tr.mk k4 x4 m4 c4 y4 r4 kids4], s4, rfl, rfl, hF1.trans hf4⟩
  · simp [PO]
    refine acallC_by 1 (hpk) ?_ (by kernel_rfl) ?_ ?_ ?_ ?_ ?_ ?_ ?_ ?_ ?_ <;> simp [PO, Tok.cells, hb]
    obtain ⟨bg, sg, hgt, hfg, hbg, hbg'⟩ := got_b hk (Fwd.refl h).lt [60, 45]
    have hFg := (Fwd.refl h).trans hfg
    have hMg := meas_fwd hFg
    cases bg
    · refine acallC_by 1 (hgt) ?_ (by kernel_rfl) ?_ ?_ ?_ ?_ ?_ ?_ ?_ ?_ ?_ <;> simp [PO]
      refine acallC_of 1 (hpr sg hfg.lt (by omega)) ?_ (by kernel_rfl) ?_ ?_ ?_ ?_ ?_ ?_ <;> simp [PO]
      rintro r o ⟨⟨k1, x1, m1, c1, y1, r1, kids1⟩, s1, rfl, rfl, hf1, hg1⟩
      have hF1 := hFg.trans hf1
      obtain ⟨s2, hw2, hf2, hg2⟩ := want_b hk hf1.lt [60, 45]
      have hF2 := hF1.trans hf2
      have hM2 := meas_fwd hF2
      simp [PO, Tr.av, Tr.cells]
      refine acallC_by 1 (hw2) ?_ (by kernel_rfl) ?_ ?_ ?_ ?_ ?_ ?_ ?_ ?_ ?_ <;> simp [PO]
      refine acallC_of 1 (hp s2 hf2.lt (by omega)) ?_ (by kernel_rfl) ?_ ?_ ?_ ?_ ?_ ?_ <;> simp [PO]
      rintro r o ⟨⟨k3, x3, m3, c3, y3, r3, kids3⟩, s3, rfl, rfl, hf3, hg3⟩
      have hF3 := hF2.trans hf3
      have hM3 := meas_fwd hF3
      simp [PO, Tr.av, Tr.cells]
      refine acallC_of 1 (hbh s3 hf3.lt (by omega)) ?_ (by kernel_rfl) ?_ ?_ ?_ ?_ ?_ ?_ <;> simp [PO]
      rintro r o ⟨⟨k4, x4, m4, c4, y4, r4, kids4⟩, s4, rfl, rfl, hf4, hg4⟩
      simp [PO, Tr.av, Tr.cells, h3m]
      refine acallC_by 0 (t_one 26 a ⟨#[115, 101, 110, 100]⟩ 7 3 ((Tr.mk k1 x1 m1 c1 y1 r1 kids1).cells ++ (Tr.mk k3 x3 m3 c3 y3 r3 kids3).cells ++ (Tr.mk k4 x4 m4 c4 y4 r4 kids4).cells)) ?_ (by kernel_rfl) ?_ ?_ ?_ ?_ ?_ ?_ ?_ ?_ ?_ <;> simp [PO, Tr.cells]
      exact ⟨.mk 26 [115, 101, 110, 100] 0 a [] 0 [.mk k1 x1 m1 c1 y1 r1 kids1, .mk k3 x3 m3 c3 y3 r3 kids3, .mk k4 x4 m4 c4 y4 r4 kids4], s4, rfl, rfl, hF3.trans hf4⟩
    · refine acallC_by 1 (hgt) ?_ (by kernel_rfl) ?_ ?_ ?_ ?_ ?_ ?_ ?_ ?_ ?_ <;> simp [PO]
      refine acallC_of 1 (hu sg hfg.lt (by omega)) ?_ (by kernel_rfl) ?_ ?_ ?_ ?_ ?_ ?_ <;> simp [PO]
      rintro r o ⟨⟨k1, x1, m1, c1, y1, r1, kids1⟩, s1, rfl, rfl, hf1, hg1⟩
      have hF1 := hFg.trans hf1
      have hM1 := meas_fwd hF1
      simp [PO, Tr.av, Tr.cells]
      refine acallC_of 1 (hbh s1 hf1.lt (by omega)) ?_ (by kernel_rfl) ?_ ?_ ?_ ?_ ?_ ?_ <;> simp [PO]
      rintro r o ⟨⟨k4, x4, m4, c4, y4, r4, kids4⟩, s4, rfl, rfl, hf4, hg4⟩
      simp [PO, Tr.av, Tr.cells, h3m, h2m]
      refine acallC_by 0 (t_one 26 a ⟨#[114, 101, 99, 118]⟩ 7 2 ((Tr.mk k1 x1 m1 c1 y1 r1 kids1).cells ++ (Tr.mk k4 x4 m4 c4 y4 r4 kids4).cells)) ?_ (by kernel_rfl) ?_ ?_ ?_ ?_ ?_ ?_ ?_ ?_ ?_ <;> simp [PO, Tr.cells, vecN0, flatN]
      exact ⟨.mk 26 [114, 101, 99, 118] 0 a [] 0 [Tr.mk k1 x1 m1 c1 y1 r1 kids1, Tr.mk k4 x4 m4 c4 y4 r4 kids4], s4, rfl, rfl, hF1.trans hf4⟩
end Go.Proofs.Ytoaodlfmhioigaa
end
