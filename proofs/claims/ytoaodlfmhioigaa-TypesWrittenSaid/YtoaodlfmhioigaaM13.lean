/- A part of the proof of TypesWrittenSaid. No condition. -/
import Derived.Test.YtoaodlfmhioigaaM12
set_option linter.unusedSimpArgs false
set_option linter.unusedVariables false
section
namespace Go.Proofs.Ytoaodlfmhioigaa

abbrev ZV : AO := ⟨true, 0, none, 25, [I 0, S [], I 0, I 0, S [], I 0, .vec 0 0 []]⟩
/-- What 'begin' answers: the row of three keeps its place. -/
def BeginR (toks : List Tok) (s : PS) (z : AO) (r : AV) (o : List AO) : Prop := ∃ (b : Bool) (t0 t1 t2 : Tr) (s' : PS), r = B b ∧ o = [PO toks s', z, ⟨true, 0, some 7, 25, t0.cells ++ t1.cells ++ t2.cells⟩] ∧ Fwd toks s s'

set_option maxRecDepth 20000 in
theorem t_begin_step {toks : List Tok} (hk : TK toks) {n : Nat} (hp : ∀ s' : PS, s'.at_ < toks.length → meas toks s' ≤ n → NodeAt toks 69 s')
    (hr : ∀ (s' : PS) (t : Tr) (b : Bool), s'.at_ < toks.length → meas toks s' ≤ n → Tri Try.prog 73 [.ref 0 0 0, t.av, B b] [PO toks s'] (FwdR toks s'))
    (s : PS) (h : s.at_ < toks.length) (hm : meas toks s ≤ n) : Tri Try.prog 74 [.ref 0 0 0, .row 2 7 0 3 0] [PO toks s, ZO, ⟨true, 0, some 7, 25, noneT.cells ++ noneT.cells ++ noneT.cells⟩] (BeginR toks s ZV) := by
  have hlen := hk.len
  obtain ⟨t0, ht0⟩ := tok_at h
  have hi1 := t_among toks s t0 [32, 45, 32, 33, 32, 60, 45, 32] ht0 (hk.ok _ _ ht0).text (by decide)
  have hi2 := t_is toks s t0 [60, 45] ht0
  have hb12 : s.is t0 [60, 45] = true → s.among t0 [32, 45, 32, 33, 32, 60, 45, 32] = true := fun e => by
    have e3 := (is_facts e).2.2
    simp [PS.is] at e
    have hin : inW [60, 45] [32, 45, 32, 33, 32, 60, 45, 32] = true := by decide
    simp [PS.among, e, hin]
  generalize s.is t0 [60, 45] = b2 at hi2 hb12
  generalize s.among t0 [32, 45, 32, 33, 32, 60, 45, 32] = b1 at hi1 hb12
  refine tri_by Try.func74 (by rfl) _ Try.ntmps74 _ (by rfl) ?_
  simp [PO, noneT_cells]
  refine acallC_by 1 (hi1) ?_ (by kernel_rfl) ?_ ?_ ?_ ?_ ?_ ?_ ?_ ?_ ?_ <;> simp [PO]
  refine acallC_by 1 (hi2) ?_ (by kernel_rfl) ?_ ?_ ?_ ?_ ?_ ?_ ?_ ?_ ?_ <;> simp [PO]
  refine acallC_of 1 (hp s h hm) ?_ (by kernel_rfl) ?_ ?_ ?_ ?_ ?_ ?_ <;> simp [PO]
  rintro r o ⟨⟨k, x, m, c, y, rf, kids⟩, s1, rfl, rfl, hf1, hg1⟩
  have hm1 := meas_fwd hf1
  obtain ⟨b3, hi3, hj3⟩ := is_b hk hf1.lt [123]
  obtain ⟨b4, hi4, hj4⟩ := is_b hk hf1.lt [59]
  obtain ⟨sw, hwr, hfw, hgw⟩ := wrong_b hk hf1.lt
  have hrr := hr s1 (.mk k x m c y rf kids) s1.bare hf1.lt (by omega)
  by_cases hb : s1.bad < 0
  · have hb' : ¬ 0 ≤ s1.bad := by omega
    have rest : Tri Try.prog 73 [.ref 0 0 0, .agg (Tr.mk k x m c y rf kids).cells, B s1.bare] [PO toks s1] (FwdR toks s1) := hrr
    cases b3
    · cases b2
      · cases b1
        · by_cases h42 : k = 42
          · subst h42
            cases hbr : s1.bare
            · skip
              simp [PO, Tr.av, Tr.cells, hb', hbr]
              refine acallC_by 1 (hi3) ?_ (by kernel_rfl) ?_ ?_ ?_ ?_ ?_ ?_ ?_ ?_ ?_ <;> simp [PO, hbr]
              refine acallC_by 1 (hwr) ?_ (by kernel_rfl) ?_ ?_ ?_ ?_ ?_ ?_ ?_ ?_ ?_ <;> simp [PO, hbr]
              exact ⟨false, noneT, noneT, noneT, sw, rfl, rfl, hf1.trans hfw⟩
            · rw [hbr] at rest
              simp [PO, Tr.av, Tr.cells, hb', hbr]
              refine acallC_by 1 (hi3) ?_ (by kernel_rfl) ?_ ?_ ?_ ?_ ?_ ?_ ?_ ?_ ?_ <;> simp [PO, hbr]
              refine acallC_of 1 (rest) ?_ (by kernel_rfl) ?_ ?_ ?_ ?_ ?_ ?_ <;> simp [PO, Tr.cells, hbr]
              rintro r o ⟨⟨k2, x2, m2, c2, y2, r2, kids2⟩, s2, rfl, rfl, hf2⟩
              simp [PO, Tr.av, Tr.cells]
              exact ⟨true, .mk k2 x2 m2 c2 y2 r2 kids2, noneT, noneT, s2, rfl, rfl, hf1.trans hf2⟩
          · skip
            simp [PO, Tr.av, Tr.cells, hb', h42]
            refine acallC_by 1 (hi3) ?_ (by kernel_rfl) ?_ ?_ ?_ ?_ ?_ ?_ ?_ ?_ ?_ <;> simp [PO, h42]
            refine acallC_of 1 (rest) ?_ (by kernel_rfl) ?_ ?_ ?_ ?_ ?_ ?_ <;> simp [PO, Tr.cells, h42]
            rintro r o ⟨⟨k2, x2, m2, c2, y2, r2, kids2⟩, s2, rfl, rfl, hf2⟩
            simp [PO, Tr.av, Tr.cells]
            exact ⟨true, .mk k2 x2 m2 c2 y2 r2 kids2, noneT, noneT, s2, rfl, rfl, hf1.trans hf2⟩
        · skip
          simp [PO, Tr.av, Tr.cells, hb', h]
          refine acallC_by 1 (hi3) ?_ (by kernel_rfl) ?_ ?_ ?_ ?_ ?_ ?_ ?_ ?_ ?_ <;> simp [PO, h]
          refine acallC_by 1 (hwr) ?_ (by kernel_rfl) ?_ ?_ ?_ ?_ ?_ ?_ ?_ ?_ ?_ <;> simp [PO, h]
          exact ⟨false, noneT, noneT, noneT, sw, rfl, rfl, hf1.trans hfw⟩
      · obtain rfl : b1 = true := hb12 rfl
        by_cases h41 : k = 41
        · subst h41
          cases b4
          · skip
            simp [PO, Tr.av, Tr.cells, hb', h]
            refine acallC_by 1 (hi3) ?_ (by kernel_rfl) ?_ ?_ ?_ ?_ ?_ ?_ ?_ ?_ ?_ <;> simp [PO, h]
            refine acallC_by 1 (hi4) ?_ (by kernel_rfl) ?_ ?_ ?_ ?_ ?_ ?_ ?_ ?_ ?_ <;> simp [PO]
            refine acallC_by 1 (hwr) ?_ (by kernel_rfl) ?_ ?_ ?_ ?_ ?_ ?_ ?_ ?_ ?_ <;> simp [PO, h]
            exact ⟨false, noneT, noneT, noneT, sw, rfl, rfl, hf1.trans hfw⟩
          · skip
            simp [PO, Tr.av, Tr.cells, hb', h]
            refine acallC_by 1 (hi3) ?_ (by kernel_rfl) ?_ ?_ ?_ ?_ ?_ ?_ ?_ ?_ ?_ <;> simp [PO, h]
            refine acallC_by 1 (hi4) ?_ (by kernel_rfl) ?_ ?_ ?_ ?_ ?_ ?_ ?_ ?_ ?_ <;> simp [PO]
            refine acallC_by 0 (t_one 34 c ⟨#[]⟩ 7 1 (Tr.mk 41 x m c y rf kids).cells) ?_ (by kernel_rfl) ?_ ?_ ?_ ?_ ?_ ?_ ?_ ?_ ?_ <;> simp [PO, Tr.cells]
            exact ⟨true, .mk 34 [] 0 c [] 0 [.mk 41 x m c y rf kids], noneT, noneT, s1, rfl, rfl, hf1⟩
        · skip
          simp [PO, Tr.av, Tr.cells, hb', h41]
          refine acallC_by 1 (hi3) ?_ (by kernel_rfl) ?_ ?_ ?_ ?_ ?_ ?_ ?_ ?_ ?_ <;> simp [PO, h41]
          refine acallC_by 1 (hwr) ?_ (by kernel_rfl) ?_ ?_ ?_ ?_ ?_ ?_ ?_ ?_ ?_ <;> simp [PO, h]
          exact ⟨false, noneT, noneT, noneT, sw, rfl, rfl, hf1.trans hfw⟩
    · skip
      simp [PO, Tr.av, Tr.cells, hb', h]
      refine acallC_by 1 (hi3) ?_ (by kernel_rfl) ?_ ?_ ?_ ?_ ?_ ?_ ?_ ?_ ?_ <;> simp [PO, h]
      exact ⟨false, noneT, .mk k x m c y rf kids, noneT, s1, rfl, rfl, hf1⟩
  · have hb' : 0 ≤ s1.bad := by omega
    simp [PO, Tr.av, Tr.cells, hb']
    exact ⟨false, noneT, noneT, noneT, s1, rfl, rfl, hf1⟩
end Go.Proofs.Ytoaodlfmhioigaa
end
