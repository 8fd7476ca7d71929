/- A part of the proof of TypesWrittenSaid. No condition. -/
import Derived.Test.YtoaodlfmhioigaaM12
set_option linter.unusedSimpArgs false
set_option linter.unusedVariables false
section
namespace Go.Proofs.Ytoaodlfmhioigaa

set_option maxRecDepth 20000 in
theorem t_index_step {toks : List Tok} (hk : TK toks) {n : Nat} (hp : ∀ s' : PS, s'.at_ < toks.length → meas toks s' ≤ n → NodeAt toks 69 s')
    (s : PS) (a : Int) (t : Tr) (h : s.at_ < toks.length) (hm : meas toks s ≤ n) : Tri Try.prog 80 [.ref 0 0 0, I a, t.av] [PO toks s] (FwdR toks s) := by
  have hlen := hk.len
  obtain ⟨k, x, m, c, y, rf, kids⟩ := t
  obtain ⟨b, his, hib⟩ := is_b hk h [58]
  have h3 : (3 : Nat) ≤ maxLen := by decide
  refine tri_by Try.func80 (by rfl) _ Try.ntmps80 _ (by rfl) ?_
  simp [PO, Tr.av, Tr.cells]
  refine adrawC_by [] [0] (.late 1 (.late 2 (.late 3 (.late 4 .fin)))) (by kernel_rfl) (by kernel_rfl) (by kernel_rfl) ?_
  simp [PO, Tr.cells]
  refine acallC_by 0 (t_none) ?_ (by kernel_rfl) ?_ ?_ ?_ ?_ ?_ ?_ ?_ ?_ ?_ <;> simp
  refine acallC_by 0 (t_none) ?_ (by kernel_rfl) ?_ ?_ ?_ ?_ ?_ ?_ ?_ ?_ ?_ <;> simp [h3]
  cases b
  · refine acallC_by 1 (his) ?_ (by kernel_rfl) ?_ ?_ ?_ ?_ ?_ ?_ ?_ ?_ ?_ <;> simp [PO]
    refine acallC_of 1 (hp s h hm) ?_ (by kernel_rfl) ?_ ?_ ?_ ?_ ?_ ?_ <;> simp [PO]
    rintro r o ⟨⟨k1, x1, m1, c1, y1, r1, kids1⟩, s1, rfl, rfl, hf1, hg1⟩
    have hm1 := meas_fwd hf1
    obtain ⟨b2, s2, hgt, hf2, hb2, hb2'⟩ := got_b hk hf1.lt [93]
    simp [PO, Tr.av, Tr.cells]
    refine acallC_by 1 (hgt) ?_ (by kernel_rfl) ?_ ?_ ?_ ?_ ?_ ?_ ?_ ?_ ?_ <;> simp [PO]
    cases b2
    · obtain rfl := hb2' rfl
      obtain ⟨s3, hw3, hf3, hg3⟩ := want_b hk hf2.lt [58]
      have hm3 := meas_fwd hf3
      obtain ⟨b4, his4, _⟩ := is_b hk hf3.lt [93]
      simp
      refine acallC_by 1 (hw3) ?_ (by kernel_rfl) ?_ ?_ ?_ ?_ ?_ ?_ ?_ ?_ ?_ <;> simp [PO]
      cases b4
      · refine acallC_by 1 (his4) ?_ (by kernel_rfl) ?_ ?_ ?_ ?_ ?_ ?_ ?_ ?_ ?_ <;> simp [PO]
        refine acallC_of 1 (hp s3 hf3.lt (by omega)) ?_ (by kernel_rfl) ?_ ?_ ?_ ?_ ?_ ?_ <;> simp [PO]
        rintro r o ⟨⟨k5, x5, m5, c5, y5, r5, kids5⟩, s5, rfl, rfl, hf5, hg5⟩
        obtain ⟨s6, hw6, hf6, hg6⟩ := want_b hk hf5.lt [93]
        simp [PO, Tr.av, Tr.cells]
        refine acallC_by 1 (hw6) ?_ (by kernel_rfl) ?_ ?_ ?_ ?_ ?_ ?_ ?_ ?_ ?_ <;> simp [PO]
        refine acallC_by 0 (t_one 46 a ⟨#[]⟩ 7 3 ((Tr.mk k x m c y rf kids).cells ++ (Tr.mk k1 x1 m1 c1 y1 r1 kids1).cells ++ (Tr.mk k5 x5 m5 c5 y5 r5 kids5).cells)) ?_ (by kernel_rfl) ?_ ?_ ?_ ?_ ?_ ?_ ?_ ?_ ?_ <;> simp [PO, Tr.cells]
        exact ⟨.mk 46 [] 0 a [] 0 [.mk k x m c y rf kids, .mk k1 x1 m1 c1 y1 r1 kids1, .mk k5 x5 m5 c5 y5 r5 kids5], s6, rfl, rfl, (((hf1.trans hf2).trans hf3).trans hf5).trans hf6⟩
      · obtain ⟨s6, hw6, hf6, hg6⟩ := want_b hk hf3.lt [93]
        refine acallC_by 1 (his4) ?_ (by kernel_rfl) ?_ ?_ ?_ ?_ ?_ ?_ ?_ ?_ ?_ <;> simp [PO]
        refine acallC_by 1 (hw6) ?_ (by kernel_rfl) ?_ ?_ ?_ ?_ ?_ ?_ ?_ ?_ ?_ <;> simp [PO]
        refine acallC_by 0 (t_one 46 a ⟨#[]⟩ 7 3 ((Tr.mk k x m c y rf kids).cells ++ (Tr.mk k1 x1 m1 c1 y1 r1 kids1).cells ++ noneT.cells)) ?_ (by kernel_rfl) ?_ ?_ ?_ ?_ ?_ ?_ ?_ ?_ ?_ <;> simp [PO, Tr.cells, noneT_cells]
        exact ⟨.mk 46 [] 0 a [] 0 [.mk k x m c y rf kids, .mk k1 x1 m1 c1 y1 r1 kids1, noneT], s6, rfl, rfl, ((hf1.trans hf2).trans hf3).trans hf6⟩
    · simp
      refine acallC_by 0 (t_one 45 a ⟨#[]⟩ 7 2 ((Tr.mk k x m c y rf kids).cells ++ (Tr.mk k1 x1 m1 c1 y1 r1 kids1).cells)) ?_ (by kernel_rfl) ?_ ?_ ?_ ?_ ?_ ?_ ?_ ?_ ?_ <;> simp [PO, Tr.cells]
      exact ⟨.mk 45 [] 0 a [] 0 [.mk k x m c y rf kids, .mk k1 x1 m1 c1 y1 r1 kids1], s2, rfl, rfl, hf1.trans hf2⟩
  · obtain ⟨s3, hw3, hf3, hg3⟩ := want_b hk h [58]
    have hm3 := meas_fwd hf3
    obtain ⟨b4, his4, _⟩ := is_b hk hf3.lt [93]
    refine acallC_by 1 (his) ?_ (by kernel_rfl) ?_ ?_ ?_ ?_ ?_ ?_ ?_ ?_ ?_ <;> simp [PO]
    refine acallC_by 1 (hw3) ?_ (by kernel_rfl) ?_ ?_ ?_ ?_ ?_ ?_ ?_ ?_ ?_ <;> simp [PO]
    cases b4
    · refine acallC_by 1 (his4) ?_ (by kernel_rfl) ?_ ?_ ?_ ?_ ?_ ?_ ?_ ?_ ?_ <;> simp [PO]
      refine acallC_of 1 (hp s3 hf3.lt (by omega)) ?_ (by kernel_rfl) ?_ ?_ ?_ ?_ ?_ ?_ <;> simp [PO]
      rintro r o ⟨⟨k5, x5, m5, c5, y5, r5, kids5⟩, s5, rfl, rfl, hf5, hg5⟩
      obtain ⟨s6, hw6, hf6, hg6⟩ := want_b hk hf5.lt [93]
      simp [PO, Tr.av, Tr.cells]
      refine acallC_by 1 (hw6) ?_ (by kernel_rfl) ?_ ?_ ?_ ?_ ?_ ?_ ?_ ?_ ?_ <;> simp [PO]
      refine acallC_by 0 (t_one 46 a ⟨#[]⟩ 7 3 ((Tr.mk k x m c y rf kids).cells ++ noneT.cells ++ (Tr.mk k5 x5 m5 c5 y5 r5 kids5).cells)) ?_ (by kernel_rfl) ?_ ?_ ?_ ?_ ?_ ?_ ?_ ?_ ?_ <;> simp [PO, Tr.cells, noneT_cells]
      exact ⟨.mk 46 [] 0 a [] 0 [.mk k x m c y rf kids, noneT, .mk k5 x5 m5 c5 y5 r5 kids5], s6, rfl, rfl, (hf3.trans hf5).trans hf6⟩
    · obtain ⟨s6, hw6, hf6, hg6⟩ := want_b hk hf3.lt [93]
      refine acallC_by 1 (his4) ?_ (by kernel_rfl) ?_ ?_ ?_ ?_ ?_ ?_ ?_ ?_ ?_ <;> simp [PO]
      refine acallC_by 1 (hw6) ?_ (by kernel_rfl) ?_ ?_ ?_ ?_ ?_ ?_ ?_ ?_ ?_ <;> simp [PO]
      refine acallC_by 0 (t_one 46 a ⟨#[]⟩ 7 3 ((Tr.mk k x m c y rf kids).cells ++ noneT.cells ++ noneT.cells)) ?_ (by kernel_rfl) ?_ ?_ ?_ ?_ ?_ ?_ ?_ ?_ ?_ <;> simp [PO, Tr.cells, noneT_cells]
      exact ⟨.mk 46 [] 0 a [] 0 [.mk k x m c y rf kids, noneT, noneT], s6, rfl, rfl, hf3.trans hf6⟩
end Go.Proofs.Ytoaodlfmhioigaa
end
