/- A part of the proof of TypesWrittenSaid. No condition. -/
import Derived.Test.YtoaodlfmhioigaaM13
set_option linter.unusedSimpArgs false
set_option linter.unusedVariables false
section
namespace Go.Proofs.Ytoaodlfmhioigaa

set_option maxRecDepth 20000 in
set_option maxHeartbeats 4000000 in
theorem t_loop_step {toks : List Tok} (hk : TK toks) {n : Nat} (hp : ∀ s' : PS, s'.at_ < toks.length → meas toks s' ≤ n → NodeAt toks 69 s')
    (hbl : ∀ s' : PS, s'.at_ < toks.length → meas toks s' ≤ n → NodeAt toks 50 s') (hsi : ∀ s' : PS, s'.at_ < toks.length → meas toks s' ≤ n → NodeAt toks 65 s')
    (hbe : ∀ s' : PS, s'.at_ < toks.length → meas toks s' ≤ n → Tri Try.prog 74 [.ref 0 0 0, .row 2 7 0 3 0] [PO toks s', ZO, ⟨true, 0, some 7, 25, noneT.cells ++ noneT.cells ++ noneT.cells⟩] (BeginR toks s' ZV))
    (s : PS) (a : Int) (h : s.at_ < toks.length) (hm : meas toks s ≤ n) : Tri Try.prog 66 [.ref 0 0 0, I a] [PO toks s] (FwdR toks s) := by
  have hlen := hk.len
  have h3 : (3 : Nat) ≤ maxLen := by decide
  have h4 : (4 : Nat) ≤ maxLen := by decide
  have h1 : ({ s with head := true } : PS).at_ < toks.length := h
  have hm0 : meas toks { s with head := true } ≤ n := hm
  have hf0 : Fwd toks s { s with head := true } := ⟨Nat.le_refl _, h, id⟩
  obtain ⟨b1, hi1, hj1⟩ := is_b hk h1 [123]
  obtain ⟨b2, hi2, hj2⟩ := is_b hk h1 [59]
  have hbe0 := hbe _ h1 hm0
  simp [PO, noneT_cells] at hbe0
  refine tri_by Try.func66 (by rfl) _ Try.ntmps66 _ (by rfl) ?_
  simp [PO]
  refine acallC_by 0 (t_none) ?_ (by kernel_rfl) ?_ ?_ ?_ ?_ ?_ ?_ ?_ ?_ ?_ <;> simp
  refine acallC_by 0 (t_none) ?_ (by kernel_rfl) ?_ ?_ ?_ ?_ ?_ ?_ ?_ ?_ ?_ <;> simp
  refine acallC_by 0 (t_none) ?_ (by kernel_rfl) ?_ ?_ ?_ ?_ ?_ ?_ ?_ ?_ ?_ <;> simp [h3]
  cases b1
  · refine acallC_by 1 (hi1) ?_ (by kernel_rfl) ?_ ?_ ?_ ?_ ?_ ?_ ?_ ?_ ?_ <;> simp [PO]
    cases b2
    · refine acallC_by 1 (hi2) ?_ (by kernel_rfl) ?_ ?_ ?_ ?_ ?_ ?_ ?_ ?_ ?_ <;> simp [PO]
      refine acallC_of 3 (hbe0) ?_ (by kernel_rfl) ?_ ?_ ?_ ?_ ?_ ?_ <;> simp [PO]
      rintro r o ⟨b3, ⟨ka, xa, ma, ca, ya, ra, kidsa⟩, ⟨kd, xd, md, cd, yd, rd, kidsd⟩, ⟨ke, xe, me, ce, ye, re, kidse⟩, s2, rfl, rfl, hf2⟩
      have hF2 := hf0.trans hf2
      simp [PO, Tr.cells]
      cases b3
      · simp
        refine acallC_of 1 (hbl { s2 with head := s.head } hF2.lt (by have := meas_fwd (hF2); show meas toks s2 ≤ n; have : meas toks s ≤ n := hm; omega)) ?_ (by kernel_rfl) ?_ ?_ ?_ ?_ ?_ ?_ <;> simp [PO]
        rintro r o ⟨⟨kb, xb, mb, cb, yb, rb, kidsb⟩, sb, rfl, rfl, hfb, hgb⟩
        simp [PO, Tr.av, Tr.cells, h4]
        refine acallC_by 0 (t_one 22 a ⟨#[]⟩ 7 4 ((Tr.mk ka xa ma ca ya ra kidsa).cells ++ (Tr.mk kd xd md cd yd rd kidsd).cells ++ (Tr.mk ke xe me ce ye re kidse).cells ++ (Tr.mk kb xb mb cb yb rb kidsb).cells)) ?_ (by kernel_rfl) ?_ ?_ ?_ ?_ ?_ ?_ ?_ ?_ ?_ <;> simp [PO, Tr.cells, noneT_cells]
        exact ⟨.mk 22 [] 0 a [] 0 [Tr.mk ka xa ma ca ya ra kidsa, Tr.mk kd xd md cd yd rd kidsd, Tr.mk ke xe me ce ye re kidse, .mk kb xb mb cb yb rb kidsb], sb, rfl, rfl, (hF2).trans ⟨hfb.le, hfb.lt, hfb.bad⟩⟩
      · simp
        obtain ⟨s3, hw3, hf3, hg3⟩ := want_b hk hF2.lt [59]
        have hF3 : Fwd toks s s3 := (hF2).trans hf3
        have hM3 := meas_fwd hF3
        obtain ⟨b5, hi5, hj5⟩ := is_b hk hf3.lt [59]
        refine acallC_by 1 (hw3) ?_ (by kernel_rfl) ?_ ?_ ?_ ?_ ?_ ?_ ?_ ?_ ?_ <;> simp [PO]
        cases b5
        · refine acallC_by 1 (hi5) ?_ (by kernel_rfl) ?_ ?_ ?_ ?_ ?_ ?_ ?_ ?_ ?_ <;> simp [PO]
          refine acallC_of 1 (hp s3 hf3.lt (by omega)) ?_ (by kernel_rfl) ?_ ?_ ?_ ?_ ?_ ?_ <;> simp [PO]
          rintro r o ⟨⟨k5, x5, m5, c5, y5, r5, kids5⟩, s5, rfl, rfl, hf5, hg5⟩
          simp [PO, Tr.av, Tr.cells]
          have hF5 := hF3.trans hf5
          obtain ⟨s6, hw6, hf6, hg6⟩ := want_b hk hF5.lt [59]
          have hF6 := hF5.trans hf6
          have hM6 := meas_fwd hF6
          obtain ⟨b7, hi7, hj7⟩ := is_b hk hf6.lt [123]
          refine acallC_by 1 (hw6) ?_ (by kernel_rfl) ?_ ?_ ?_ ?_ ?_ ?_ ?_ ?_ ?_ <;> simp [PO]
          cases b7
          · refine acallC_by 1 (hi7) ?_ (by kernel_rfl) ?_ ?_ ?_ ?_ ?_ ?_ ?_ ?_ ?_ <;> simp [PO]
            refine acallC_of 1 (hsi s6 hf6.lt (by omega)) ?_ (by kernel_rfl) ?_ ?_ ?_ ?_ ?_ ?_ <;> simp [PO]
            rintro r o ⟨⟨k7, x7, m7, c7, y7, r7, kids7⟩, s7, rfl, rfl, hf7, hg7⟩
            simp [PO, Tr.av, Tr.cells]
            have hF7 := hF6.trans hf7
            refine acallC_of 1 (hbl { s7 with head := s.head } hF7.lt (by have := meas_fwd (hF7); show meas toks s7 ≤ n; have : meas toks s ≤ n := hm; omega)) ?_ (by kernel_rfl) ?_ ?_ ?_ ?_ ?_ ?_ <;> simp [PO]
            rintro r o ⟨⟨kb, xb, mb, cb, yb, rb, kidsb⟩, sb, rfl, rfl, hfb, hgb⟩
            simp [PO, Tr.av, Tr.cells, h4]
            refine acallC_by 0 (t_one 22 a ⟨#[]⟩ 7 4 ((Tr.mk ka xa ma ca ya ra kidsa).cells ++ (Tr.mk k5 x5 m5 c5 y5 r5 kids5).cells ++ (Tr.mk k7 x7 m7 c7 y7 r7 kids7).cells ++ (Tr.mk kb xb mb cb yb rb kidsb).cells)) ?_ (by kernel_rfl) ?_ ?_ ?_ ?_ ?_ ?_ ?_ ?_ ?_ <;> simp [PO, Tr.cells, noneT_cells]
            exact ⟨.mk 22 [] 0 a [] 0 [Tr.mk ka xa ma ca ya ra kidsa, Tr.mk k5 x5 m5 c5 y5 r5 kids5, Tr.mk k7 x7 m7 c7 y7 r7 kids7, .mk kb xb mb cb yb rb kidsb], sb, rfl, rfl, (hF7).trans ⟨hfb.le, hfb.lt, hfb.bad⟩⟩
          · refine acallC_by 1 (hi7) ?_ (by kernel_rfl) ?_ ?_ ?_ ?_ ?_ ?_ ?_ ?_ ?_ <;> simp [PO]
            refine acallC_of 1 (hbl { s6 with head := s.head } hF6.lt (by have := meas_fwd (hF6); show meas toks s6 ≤ n; have : meas toks s ≤ n := hm; omega)) ?_ (by kernel_rfl) ?_ ?_ ?_ ?_ ?_ ?_ <;> simp [PO]
            rintro r o ⟨⟨kb, xb, mb, cb, yb, rb, kidsb⟩, sb, rfl, rfl, hfb, hgb⟩
            simp [PO, Tr.av, Tr.cells, h4]
            refine acallC_by 0 (t_one 22 a ⟨#[]⟩ 7 4 ((Tr.mk ka xa ma ca ya ra kidsa).cells ++ (Tr.mk k5 x5 m5 c5 y5 r5 kids5).cells ++ (Tr.mk ke xe me ce ye re kidse).cells ++ (Tr.mk kb xb mb cb yb rb kidsb).cells)) ?_ (by kernel_rfl) ?_ ?_ ?_ ?_ ?_ ?_ ?_ ?_ ?_ <;> simp [PO, Tr.cells, noneT_cells]
            exact ⟨.mk 22 [] 0 a [] 0 [Tr.mk ka xa ma ca ya ra kidsa, Tr.mk k5 x5 m5 c5 y5 r5 kids5, Tr.mk ke xe me ce ye re kidse, .mk kb xb mb cb yb rb kidsb], sb, rfl, rfl, (hF6).trans ⟨hfb.le, hfb.lt, hfb.bad⟩⟩
        · refine acallC_by 1 (hi5) ?_ (by kernel_rfl) ?_ ?_ ?_ ?_ ?_ ?_ ?_ ?_ ?_ <;> simp [PO]
          obtain ⟨s6, hw6, hf6, hg6⟩ := want_b hk hF3.lt [59]
          have hF6 := hF3.trans hf6
          have hM6 := meas_fwd hF6
          obtain ⟨b7, hi7, hj7⟩ := is_b hk hf6.lt [123]
          refine acallC_by 1 (hw6) ?_ (by kernel_rfl) ?_ ?_ ?_ ?_ ?_ ?_ ?_ ?_ ?_ <;> simp [PO]
          cases b7
          · refine acallC_by 1 (hi7) ?_ (by kernel_rfl) ?_ ?_ ?_ ?_ ?_ ?_ ?_ ?_ ?_ <;> simp [PO]
            refine acallC_of 1 (hsi s6 hf6.lt (by omega)) ?_ (by kernel_rfl) ?_ ?_ ?_ ?_ ?_ ?_ <;> simp [PO]
            rintro r o ⟨⟨k7, x7, m7, c7, y7, r7, kids7⟩, s7, rfl, rfl, hf7, hg7⟩
            simp [PO, Tr.av, Tr.cells]
            have hF7 := hF6.trans hf7
            refine acallC_of 1 (hbl { s7 with head := s.head } hF7.lt (by have := meas_fwd (hF7); show meas toks s7 ≤ n; have : meas toks s ≤ n := hm; omega)) ?_ (by kernel_rfl) ?_ ?_ ?_ ?_ ?_ ?_ <;> simp [PO]
            rintro r o ⟨⟨kb, xb, mb, cb, yb, rb, kidsb⟩, sb, rfl, rfl, hfb, hgb⟩
            simp [PO, Tr.av, Tr.cells, h4]
            refine acallC_by 0 (t_one 22 a ⟨#[]⟩ 7 4 ((Tr.mk ka xa ma ca ya ra kidsa).cells ++ (Tr.mk kd xd md cd yd rd kidsd).cells ++ (Tr.mk k7 x7 m7 c7 y7 r7 kids7).cells ++ (Tr.mk kb xb mb cb yb rb kidsb).cells)) ?_ (by kernel_rfl) ?_ ?_ ?_ ?_ ?_ ?_ ?_ ?_ ?_ <;> simp [PO, Tr.cells, noneT_cells]
            exact ⟨.mk 22 [] 0 a [] 0 [Tr.mk ka xa ma ca ya ra kidsa, Tr.mk kd xd md cd yd rd kidsd, Tr.mk k7 x7 m7 c7 y7 r7 kids7, .mk kb xb mb cb yb rb kidsb], sb, rfl, rfl, (hF7).trans ⟨hfb.le, hfb.lt, hfb.bad⟩⟩
          · refine acallC_by 1 (hi7) ?_ (by kernel_rfl) ?_ ?_ ?_ ?_ ?_ ?_ ?_ ?_ ?_ <;> simp [PO]
            refine acallC_of 1 (hbl { s6 with head := s.head } hF6.lt (by have := meas_fwd (hF6); show meas toks s6 ≤ n; have : meas toks s ≤ n := hm; omega)) ?_ (by kernel_rfl) ?_ ?_ ?_ ?_ ?_ ?_ <;> simp [PO]
            rintro r o ⟨⟨kb, xb, mb, cb, yb, rb, kidsb⟩, sb, rfl, rfl, hfb, hgb⟩
            simp [PO, Tr.av, Tr.cells, h4]
            refine acallC_by 0 (t_one 22 a ⟨#[]⟩ 7 4 ((Tr.mk ka xa ma ca ya ra kidsa).cells ++ (Tr.mk kd xd md cd yd rd kidsd).cells ++ (Tr.mk ke xe me ce ye re kidse).cells ++ (Tr.mk kb xb mb cb yb rb kidsb).cells)) ?_ (by kernel_rfl) ?_ ?_ ?_ ?_ ?_ ?_ ?_ ?_ ?_ <;> simp [PO, Tr.cells, noneT_cells]
            exact ⟨.mk 22 [] 0 a [] 0 [Tr.mk ka xa ma ca ya ra kidsa, Tr.mk kd xd md cd yd rd kidsd, Tr.mk ke xe me ce ye re kidse, .mk kb xb mb cb yb rb kidsb], sb, rfl, rfl, (hF6).trans ⟨hfb.le, hfb.lt, hfb.bad⟩⟩
    · refine acallC_by 1 (hi2) ?_ (by kernel_rfl) ?_ ?_ ?_ ?_ ?_ ?_ ?_ ?_ ?_ <;> simp [PO]
      obtain ⟨s3, hw3, hf3, hg3⟩ := want_b hk h1 [59]
      have hF3 : Fwd toks s s3 := (hf0).trans hf3
      have hM3 := meas_fwd hF3
      obtain ⟨b5, hi5, hj5⟩ := is_b hk hf3.lt [59]
      refine acallC_by 1 (hw3) ?_ (by kernel_rfl) ?_ ?_ ?_ ?_ ?_ ?_ ?_ ?_ ?_ <;> simp [PO]
      cases b5
      · refine acallC_by 1 (hi5) ?_ (by kernel_rfl) ?_ ?_ ?_ ?_ ?_ ?_ ?_ ?_ ?_ <;> simp [PO]
        refine acallC_of 1 (hp s3 hf3.lt (by omega)) ?_ (by kernel_rfl) ?_ ?_ ?_ ?_ ?_ ?_ <;> simp [PO]
        rintro r o ⟨⟨k5, x5, m5, c5, y5, r5, kids5⟩, s5, rfl, rfl, hf5, hg5⟩
        simp [PO, Tr.av, Tr.cells]
        have hF5 := hF3.trans hf5
        obtain ⟨s6, hw6, hf6, hg6⟩ := want_b hk hF5.lt [59]
        have hF6 := hF5.trans hf6
        have hM6 := meas_fwd hF6
        obtain ⟨b7, hi7, hj7⟩ := is_b hk hf6.lt [123]
        refine acallC_by 1 (hw6) ?_ (by kernel_rfl) ?_ ?_ ?_ ?_ ?_ ?_ ?_ ?_ ?_ <;> simp [PO]
        cases b7
        · refine acallC_by 1 (hi7) ?_ (by kernel_rfl) ?_ ?_ ?_ ?_ ?_ ?_ ?_ ?_ ?_ <;> simp [PO]
          refine acallC_of 1 (hsi s6 hf6.lt (by omega)) ?_ (by kernel_rfl) ?_ ?_ ?_ ?_ ?_ ?_ <;> simp [PO]
          rintro r o ⟨⟨k7, x7, m7, c7, y7, r7, kids7⟩, s7, rfl, rfl, hf7, hg7⟩
          simp [PO, Tr.av, Tr.cells]
          have hF7 := hF6.trans hf7
          refine acallC_of 1 (hbl { s7 with head := s.head } hF7.lt (by have := meas_fwd (hF7); show meas toks s7 ≤ n; have : meas toks s ≤ n := hm; omega)) ?_ (by kernel_rfl) ?_ ?_ ?_ ?_ ?_ ?_ <;> simp [PO]
          rintro r o ⟨⟨kb, xb, mb, cb, yb, rb, kidsb⟩, sb, rfl, rfl, hfb, hgb⟩
          simp [PO, Tr.av, Tr.cells, h4]
          refine acallC_by 0 (t_one 22 a ⟨#[]⟩ 7 4 ((noneT).cells ++ (Tr.mk k5 x5 m5 c5 y5 r5 kids5).cells ++ (Tr.mk k7 x7 m7 c7 y7 r7 kids7).cells ++ (Tr.mk kb xb mb cb yb rb kidsb).cells)) ?_ (by kernel_rfl) ?_ ?_ ?_ ?_ ?_ ?_ ?_ ?_ ?_ <;> simp [PO, Tr.cells, noneT_cells]
          exact ⟨.mk 22 [] 0 a [] 0 [noneT, Tr.mk k5 x5 m5 c5 y5 r5 kids5, Tr.mk k7 x7 m7 c7 y7 r7 kids7, .mk kb xb mb cb yb rb kidsb], sb, rfl, rfl, (hF7).trans ⟨hfb.le, hfb.lt, hfb.bad⟩⟩
        · refine acallC_by 1 (hi7) ?_ (by kernel_rfl) ?_ ?_ ?_ ?_ ?_ ?_ ?_ ?_ ?_ <;> simp [PO]
          refine acallC_of 1 (hbl { s6 with head := s.head } hF6.lt (by have := meas_fwd (hF6); show meas toks s6 ≤ n; have : meas toks s ≤ n := hm; omega)) ?_ (by kernel_rfl) ?_ ?_ ?_ ?_ ?_ ?_ <;> simp [PO]
          rintro r o ⟨⟨kb, xb, mb, cb, yb, rb, kidsb⟩, sb, rfl, rfl, hfb, hgb⟩
          simp [PO, Tr.av, Tr.cells, h4]
          refine acallC_by 0 (t_one 22 a ⟨#[]⟩ 7 4 ((noneT).cells ++ (Tr.mk k5 x5 m5 c5 y5 r5 kids5).cells ++ (noneT).cells ++ (Tr.mk kb xb mb cb yb rb kidsb).cells)) ?_ (by kernel_rfl) ?_ ?_ ?_ ?_ ?_ ?_ ?_ ?_ ?_ <;> simp [PO, Tr.cells, noneT_cells]
          exact ⟨.mk 22 [] 0 a [] 0 [noneT, Tr.mk k5 x5 m5 c5 y5 r5 kids5, noneT, .mk kb xb mb cb yb rb kidsb], sb, rfl, rfl, (hF6).trans ⟨hfb.le, hfb.lt, hfb.bad⟩⟩
      · refine acallC_by 1 (hi5) ?_ (by kernel_rfl) ?_ ?_ ?_ ?_ ?_ ?_ ?_ ?_ ?_ <;> simp [PO]
        obtain ⟨s6, hw6, hf6, hg6⟩ := want_b hk hF3.lt [59]
        have hF6 := hF3.trans hf6
        have hM6 := meas_fwd hF6
        obtain ⟨b7, hi7, hj7⟩ := is_b hk hf6.lt [123]
        refine acallC_by 1 (hw6) ?_ (by kernel_rfl) ?_ ?_ ?_ ?_ ?_ ?_ ?_ ?_ ?_ <;> simp [PO]
        cases b7
        · refine acallC_by 1 (hi7) ?_ (by kernel_rfl) ?_ ?_ ?_ ?_ ?_ ?_ ?_ ?_ ?_ <;> simp [PO]
          refine acallC_of 1 (hsi s6 hf6.lt (by omega)) ?_ (by kernel_rfl) ?_ ?_ ?_ ?_ ?_ ?_ <;> simp [PO]
          rintro r o ⟨⟨k7, x7, m7, c7, y7, r7, kids7⟩, s7, rfl, rfl, hf7, hg7⟩
          simp [PO, Tr.av, Tr.cells]
          have hF7 := hF6.trans hf7
          refine acallC_of 1 (hbl { s7 with head := s.head } hF7.lt (by have := meas_fwd (hF7); show meas toks s7 ≤ n; have : meas toks s ≤ n := hm; omega)) ?_ (by kernel_rfl) ?_ ?_ ?_ ?_ ?_ ?_ <;> simp [PO]
          rintro r o ⟨⟨kb, xb, mb, cb, yb, rb, kidsb⟩, sb, rfl, rfl, hfb, hgb⟩
          simp [PO, Tr.av, Tr.cells, h4]
          refine acallC_by 0 (t_one 22 a ⟨#[]⟩ 7 4 ((noneT).cells ++ (noneT).cells ++ (Tr.mk k7 x7 m7 c7 y7 r7 kids7).cells ++ (Tr.mk kb xb mb cb yb rb kidsb).cells)) ?_ (by kernel_rfl) ?_ ?_ ?_ ?_ ?_ ?_ ?_ ?_ ?_ <;> simp [PO, Tr.cells, noneT_cells]
          exact ⟨.mk 22 [] 0 a [] 0 [noneT, noneT, Tr.mk k7 x7 m7 c7 y7 r7 kids7, .mk kb xb mb cb yb rb kidsb], sb, rfl, rfl, (hF7).trans ⟨hfb.le, hfb.lt, hfb.bad⟩⟩
        · refine acallC_by 1 (hi7) ?_ (by kernel_rfl) ?_ ?_ ?_ ?_ ?_ ?_ ?_ ?_ ?_ <;> simp [PO]
          refine acallC_of 1 (hbl { s6 with head := s.head } hF6.lt (by have := meas_fwd (hF6); show meas toks s6 ≤ n; have : meas toks s ≤ n := hm; omega)) ?_ (by kernel_rfl) ?_ ?_ ?_ ?_ ?_ ?_ <;> simp [PO]
          rintro r o ⟨⟨kb, xb, mb, cb, yb, rb, kidsb⟩, sb, rfl, rfl, hfb, hgb⟩
          simp [PO, Tr.av, Tr.cells, h4]
          refine acallC_by 0 (t_one 22 a ⟨#[]⟩ 7 4 ((noneT).cells ++ (noneT).cells ++ (noneT).cells ++ (Tr.mk kb xb mb cb yb rb kidsb).cells)) ?_ (by kernel_rfl) ?_ ?_ ?_ ?_ ?_ ?_ ?_ ?_ ?_ <;> simp [PO, Tr.cells, noneT_cells]
          exact ⟨.mk 22 [] 0 a [] 0 [noneT, noneT, noneT, .mk kb xb mb cb yb rb kidsb], sb, rfl, rfl, (hF6).trans ⟨hfb.le, hfb.lt, hfb.bad⟩⟩
  · refine acallC_by 1 (hi1) ?_ (by kernel_rfl) ?_ ?_ ?_ ?_ ?_ ?_ ?_ ?_ ?_ <;> simp [PO]
    refine acallC_of 1 (hbl { s with head := s.head } h (by have := meas_fwd (Fwd.refl h); show meas toks s ≤ n; have : meas toks s ≤ n := hm; omega)) ?_ (by kernel_rfl) ?_ ?_ ?_ ?_ ?_ ?_ <;> simp [PO]
    rintro r o ⟨⟨kb, xb, mb, cb, yb, rb, kidsb⟩, sb, rfl, rfl, hfb, hgb⟩
    simp [PO, Tr.av, Tr.cells, h4]
    refine acallC_by 0 (t_one 22 a ⟨#[]⟩ 7 4 ((noneT).cells ++ (noneT).cells ++ (noneT).cells ++ (Tr.mk kb xb mb cb yb rb kidsb).cells)) ?_ (by kernel_rfl) ?_ ?_ ?_ ?_ ?_ ?_ ?_ ?_ ?_ <;> simp [PO, Tr.cells, noneT_cells]
    exact ⟨.mk 22 [] 0 a [] 0 [noneT, noneT, noneT, .mk kb xb mb cb yb rb kidsb], sb, rfl, rfl, (Fwd.refl h).trans ⟨hfb.le, hfb.lt, hfb.bad⟩⟩
end Go.Proofs.Ytoaodlfmhioigaa
end
