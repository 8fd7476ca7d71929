/- A part of the proof of TypesWrittenSaid. No condition. -/
import Derived.Test.YtoaodlfmhioigaaM12
set_option linter.unusedSimpArgs false
set_option linter.unusedVariables false
section
namespace Go.Proofs.Ytoaodlfmhioigaa

set_option maxRecDepth 20000 in
theorem t_simple_step {toks : List Tok} (hk : TK toks) {n : Nat} (hu : ∀ s' : PS, s'.at_ < toks.length → meas toks s' ≤ n → NodeAt toks 72 s') (hp : ∀ s' : PS, s'.at_ < toks.length → meas toks s' ≤ n → NodeAt toks 70 s')
    (hr : ∀ (s' : PS) (t : Tr) (b : Bool), s'.at_ < toks.length → meas toks s' ≤ n → Tri Try.prog 73 [.ref 0 0 0, t.av, B b] [PO toks s'] (FwdR toks s'))
    (s : PS) (h : s.at_ < toks.length) (hm : meas toks s ≤ n) : NodeAt toks 65 s := by
  have hlen := hk.len
  obtain ⟨t, hpk, ht, hok⟩ := peek_b hk h
  obtain ⟨b, s1, hgt, hf1, hb1, hb2⟩ := got_b hk h [60, 45]
  have hm1 := meas_fwd hf1
  refine tri_by Try.func65 (by rfl) _ Try.ntmps65 _ (by rfl) ?_
  simp [PO]
  refine acallC_by 1 (hpk) ?_ (by kernel_rfl) ?_ ?_ ?_ ?_ ?_ ?_ ?_ ?_ ?_ <;> simp [PO, Tok.cells]
  refine acallC_by 1 (hgt) ?_ (by kernel_rfl) ?_ ?_ ?_ ?_ ?_ ?_ ?_ ?_ ?_ <;> simp [PO]
  cases b
  · obtain rfl := hb2 rfl
    simp
    refine acallC_of 1 (hp s1 hf1.lt (by omega)) ?_ (by kernel_rfl) ?_ ?_ ?_ ?_ ?_ ?_ <;> simp [PO]
    rintro r o ⟨⟨k, x, m, c, y, rf, kids⟩, s2, rfl, rfl, hf2, hg2⟩
    have hm2 := meas_fwd hf2
    have hrr := hr s2 (.mk k x m c y rf kids) s2.bare hf2.lt (by omega)
    simp [PO, Tr.av, Tr.cells]
    refine adrawC_by [0, 1] [0,2,3,4] (.two 1 5 (.late 5 (.late 6 (.late 7 .fin))) (.late 1 (.late 6 (.late 7 .fin)))) (by kernel_rfl) (by kernel_rfl) (by kernel_rfl) ?_
    simp [PO, Tr.cells]
    refine acallC_of 1 (hrr) ?_ (by kernel_rfl) ?_ ?_ ?_ ?_ ?_ ?_ <;> simp [PO, Tr.av, Tr.cells]
    rintro r o ⟨⟨k3, x3, m3, c3, y3, rf3, kids3⟩, s3, rfl, rfl, hf3⟩
    simp [PO, Tr.av, Tr.cells]
    exact ⟨.mk k3 x3 m3 c3 y3 rf3 kids3, s3, rfl, rfl, (hf1.trans hf2).trans hf3, fun e => by have := hg2 (hf3.bad e); have := hf3.le; omega⟩
  · obtain ⟨hb, rfl⟩ := hb1 rfl
    simp
    refine acallC_of 1 (hu s.next hf1.lt (by omega)) ?_ (by kernel_rfl) ?_ ?_ ?_ ?_ ?_ ?_ <;> simp [PO, PS.next]
    rintro r o ⟨⟨k, x, m, c, y, rf, kids⟩, s2, rfl, rfl, hf2, hg2⟩
    simp [PO, Tr.av, Tr.cells]
    refine acallC_by 0 (t_one 41 t.at_ ⟨#[60, 45]⟩ 7 1 (Tr.mk k x m c y rf kids).cells) ?_ (by kernel_rfl) ?_ ?_ ?_ ?_ ?_ ?_ ?_ ?_ ?_ <;> simp [PO, Tr.cells]
    refine acallC_by 0 (t_one 34 t.at_ ⟨#[]⟩ 7 1 (Tr.mk 41 [60, 45] 0 t.at_ [] 0 [.mk k x m c y rf kids]).cells) ?_ (by kernel_rfl) ?_ ?_ ?_ ?_ ?_ ?_ ?_ ?_ ?_ <;> simp [PO, Tr.cells, flatN, vecN1]
    exact ⟨.mk 34 [] 0 t.at_ [] 0 [.mk 41 [60, 45] 0 t.at_ [] 0 [.mk k x m c y rf kids]], s2, rfl, rfl, hf1.trans hf2, fun e => by have := hf2.le; have : s.at_ + 1 ≤ s2.at_ := this; omega⟩
end Go.Proofs.Ytoaodlfmhioigaa
end
