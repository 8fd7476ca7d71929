/- A part of the proof of TypesWrittenSaid. No condition. -/
import Derived.Test.YtoaodlfmhioigaaM10
set_option linter.unusedSimpArgs false
set_option linter.unusedVariables false
section
namespace Go.Proofs.Ytoaodlfmhioigaa

set_option maxRecDepth 20000 in
theorem t_inHead_step {toks : List Tok} {n : Nat} (hp : ∀ s' : PS, s'.at_ < toks.length → meas toks s' ≤ n → NodeAt toks 69 s')
    (s : PS) (h : s.at_ < toks.length) (hm : meas toks s ≤ n) : NodeAt toks 67 s := by
  have hx := hp { s with head := true } h hm
  refine tri_by Try.func67 (by rfl) _ Try.ntmps67 _ (by rfl) ?_
  simp [PO]
  refine acallC_of 1 (hx) ?_ (by kernel_rfl) ?_ ?_ ?_ ?_ ?_ ?_ <;> simp [PO]
  rintro r o ⟨⟨k, x, m, c, y, rf, kids⟩, s2, rfl, rfl, hf, hg⟩
  simp [PO, Tr.av, Tr.cells]
  exact ⟨.mk k x m c y rf kids, { s2 with head := s.head }, rfl, rfl, ⟨hf.le, hf.lt, hf.bad⟩, hg⟩
end Go.Proofs.Ytoaodlfmhioigaa
end

section
namespace Go.Proofs.Ytoaodlfmhioigaa

theorem noneT_cells : noneT.cells = [I 8, S [], I 0, I 0, S [], I 0, .vec 0 0 []] := rfl

set_option maxRecDepth 20000 in
theorem t_branch_step {toks : List Tok} (hk : TK toks) {n : Nat} (ih : ∀ s' : PS, s'.at_ < toks.length → meas toks s' < n → NodeAt toks 63 s') (hh : ∀ s' : PS, s'.at_ < toks.length → meas toks s' ≤ n → NodeAt toks 67 s') (hbl : ∀ s' : PS, s'.at_ < toks.length → meas toks s' ≤ n → NodeAt toks 50 s')
    (s : PS) (h : s.at_ < toks.length) (hm : meas toks s ≤ n) : NodeAt toks 63 s := by
  have hlen := hk.len
  obtain ⟨t, hpk, ht, hok⟩ := peek_b hk h
  obtain ⟨s1, hw1, hf1, hg1⟩ := want_b hk h [105, 102]
  have hm1 := meas_fwd hf1
  refine tri_by Try.func63 (by rfl) _ Try.ntmps63 _ (by rfl) ?_
  simp [PO]
  refine acallC_by 1 (hpk) ?_ (by kernel_rfl) ?_ ?_ ?_ ?_ ?_ ?_ ?_ ?_ ?_ <;> simp [PO, Tok.cells]
  refine acallC_by 1 (hw1) ?_ (by kernel_rfl) ?_ ?_ ?_ ?_ ?_ ?_ ?_ ?_ ?_ <;> simp [PO]
  refine acallC_of 1 (hh s1 hf1.lt (by omega)) ?_ (by kernel_rfl) ?_ ?_ ?_ ?_ ?_ ?_ <;> simp [PO]
  rintro r o ⟨⟨k, x, m, c, y, rf, kids⟩, s2, rfl, rfl, hf2, hg2⟩
  have hm2 := meas_fwd hf2
  simp [PO, Tr.av, Tr.cells]
  refine acallC_of 1 (hbl s2 hf2.lt (by omega)) ?_ (by kernel_rfl) ?_ ?_ ?_ ?_ ?_ ?_ <;> simp [PO]
  rintro r o ⟨⟨k2, x2, m2, c2, y2, rf2, kids2⟩, s3, rfl, rfl, hf3, hg3⟩
  have hm3 := meas_fwd hf3
  obtain ⟨b, s4, hgt, hf4, hb4, hb5⟩ := got_b hk hf3.lt [101, 108, 115, 101]
  have hf14 := ((hf1.trans hf2).trans hf3).trans hf4
  have hm4 := meas_fwd hf4
  have hpr : s4.bad < 0 → s.at_ < s4.at_ := fun e => by
    have := hg1 (hf2.bad (hf3.bad (hf4.bad e)))
    have := hf2.le
    have := hf3.le
    have := hf4.le
    omega
  cases b
  · simp [PO, Tr.av, Tr.cells]
    refine acallC_by 0 (t_none) ?_ (by kernel_rfl) ?_ ?_ ?_ ?_ ?_ ?_ ?_ ?_ ?_ <;> simp
    refine acallC_by 1 (hgt) ?_ (by kernel_rfl) ?_ ?_ ?_ ?_ ?_ ?_ ?_ ?_ ?_ <;> simp [PO]
    refine acallC_by 0 (t_one 21 t.at_ ⟨#[]⟩ 7 3 ((Tr.mk k x m c y rf kids).cells ++ (Tr.mk k2 x2 m2 c2 y2 rf2 kids2).cells ++ noneT.cells)) ?_ (by kernel_rfl) ?_ ?_ ?_ ?_ ?_ ?_ ?_ ?_ ?_ <;> simp [PO, Tr.cells, noneT_cells]
    exact ⟨.mk 21 [] 0 t.at_ [] 0 [.mk k x m c y rf kids, .mk k2 x2 m2 c2 y2 rf2 kids2, noneT], s4, rfl, rfl, hf14, hpr⟩
  · obtain ⟨hb3, rfl⟩ := hb4 rfl
    obtain ⟨d, his, hid⟩ := is_b hk hf4.lt [105, 102]
    have hm5 := meas_next hf3.lt hb3
    simp [PO, Tr.av, Tr.cells]
    refine acallC_by 0 (t_none) ?_ (by kernel_rfl) ?_ ?_ ?_ ?_ ?_ ?_ ?_ ?_ ?_ <;> simp
    refine acallC_by 1 (hgt) ?_ (by kernel_rfl) ?_ ?_ ?_ ?_ ?_ ?_ ?_ ?_ ?_ <;> simp [PO]
    cases d
    · refine acallC_by 1 (his) ?_ (by kernel_rfl) ?_ ?_ ?_ ?_ ?_ ?_ ?_ ?_ ?_ <;> simp [PO]
      refine acallC_of 1 (hbl s3.next hf4.lt (by omega)) ?_ (by kernel_rfl) ?_ ?_ ?_ ?_ ?_ ?_ <;> simp [PO]
      rintro r o ⟨⟨k3, x3, m3, c3, y3, rf3, kids3⟩, s5, rfl, rfl, hf5, hg5⟩
      simp [PO, Tr.av, Tr.cells]
      refine acallC_by 0 (t_one 21 t.at_ ⟨#[]⟩ 7 3 ((Tr.mk k x m c y rf kids).cells ++ (Tr.mk k2 x2 m2 c2 y2 rf2 kids2).cells ++ (Tr.mk k3 x3 m3 c3 y3 rf3 kids3).cells)) ?_ (by kernel_rfl) ?_ ?_ ?_ ?_ ?_ ?_ ?_ ?_ ?_ <;> simp [PO, Tr.cells]
      exact ⟨.mk 21 [] 0 t.at_ [] 0 [.mk k x m c y rf kids, .mk k2 x2 m2 c2 y2 rf2 kids2, .mk k3 x3 m3 c3 y3 rf3 kids3], s5, rfl, rfl, hf14.trans hf5, fun e => by have := hpr (hf5.bad e); have := hf5.le; omega⟩
    · refine acallC_by 1 (his) ?_ (by kernel_rfl) ?_ ?_ ?_ ?_ ?_ ?_ ?_ ?_ ?_ <;> simp [PO]
      refine acallC_of 1 (ih s3.next hf4.lt (by omega)) ?_ (by kernel_rfl) ?_ ?_ ?_ ?_ ?_ ?_ <;> simp [PO]
      rintro r o ⟨⟨k3, x3, m3, c3, y3, rf3, kids3⟩, s5, rfl, rfl, hf5, hg5⟩
      simp [PO, Tr.av, Tr.cells]
      refine acallC_by 0 (t_one 21 t.at_ ⟨#[]⟩ 7 3 ((Tr.mk k x m c y rf kids).cells ++ (Tr.mk k2 x2 m2 c2 y2 rf2 kids2).cells ++ (Tr.mk k3 x3 m3 c3 y3 rf3 kids3).cells)) ?_ (by kernel_rfl) ?_ ?_ ?_ ?_ ?_ ?_ ?_ ?_ ?_ <;> simp [PO, Tr.cells]
      exact ⟨.mk 21 [] 0 t.at_ [] 0 [.mk k x m c y rf kids, .mk k2 x2 m2 c2 y2 rf2 kids2, .mk k3 x3 m3 c3 y3 rf3 kids3], s5, rfl, rfl, hf14.trans hf5, fun e => by have := hpr (hf5.bad e); have := hf5.le; omega⟩
end Go.Proofs.Ytoaodlfmhioigaa
end

section
namespace Go.Proofs.Ytoaodlfmhioigaa

/-- A node is read; the place may be the same. -/
def FwdR (toks : List Tok) (s : PS) (r : AV) (o : List AO) : Prop := ∃ (t : Tr) (s' : PS), r = t.av ∧ o = [PO toks s'] ∧ Fwd toks s s'

set_option maxRecDepth 20000 in
theorem t_maker_step {toks : List Tok} (hk : TK toks) {n : Nat} (hp : ∀ s' : PS, s'.at_ < toks.length → meas toks s' ≤ n → NodeAt toks 69 s')
    (s : PS) (t : Tok) (h : s.at_ < toks.length) (hm : meas toks s ≤ n) : Tri Try.prog 83 [.ref 0 0 0, .agg t.cells] [PO toks s] (FwdR toks s) := by
  have hlen := hk.len
  obtain ⟨s1, hw1, hf1, hg1⟩ := want_b hk h [40]
  have hm1 := meas_fwd hf1
  obtain ⟨t1, hpk, ht, hok⟩ := peek_b hk hf1.lt
  refine tri_by Try.func83 (by rfl) _ Try.ntmps83 _ (by rfl) ?_
  by_cases hx : t.text = [110, 101, 119]
  · obtain ⟨x, s2, hnm, hf2, hg2⟩ := name_b hk hf1.lt
    obtain ⟨s3, hw3, hf3, hg3⟩ := want_b hk hf2.lt [41]
    simp [PO, Tok.cells, hx]
    refine acallC_by 1 (hw1) ?_ (by kernel_rfl) ?_ ?_ ?_ ?_ ?_ ?_ ?_ ?_ ?_ <;> simp [PO, hx]
    refine acallC_by 1 (hpk) ?_ (by kernel_rfl) ?_ ?_ ?_ ?_ ?_ ?_ ?_ ?_ ?_ <;> simp [PO, Tok.cells]
    refine acallC_by 1 (hnm) ?_ (by kernel_rfl) ?_ ?_ ?_ ?_ ?_ ?_ ?_ ?_ ?_ <;> simp [PO]
    refine acallC_by 0 (t_one 12 t1.at_ ⟨x.toArray⟩ 0 0 []) ?_ (by kernel_rfl) ?_ ?_ ?_ ?_ ?_ ?_ ?_ ?_ ?_ <;> simp [PO]
    refine acallC_by 1 (hw3) ?_ (by kernel_rfl) ?_ ?_ ?_ ?_ ?_ ?_ ?_ ?_ ?_ <;> simp [PO]
    refine acallC_by 0 (t_one 44 t.at_ ⟨#[110, 101, 119]⟩ 7 1 (Tr.mk 12 x 0 t1.at_ [] 0 []).cells) ?_ (by kernel_rfl) ?_ ?_ ?_ ?_ ?_ ?_ ?_ ?_ ?_ <;> simp [PO, Tr.cells, vecN]
    exact ⟨.mk 44 [110, 101, 119] 0 t.at_ [] 0 [.mk 12 x 0 t1.at_ [] 0 []], s3, rfl, rfl, (hf1.trans hf2).trans hf3⟩
  · simp [PO, Tok.cells, hx]
    refine acallC_by 1 (hw1) ?_ (by kernel_rfl) ?_ ?_ ?_ ?_ ?_ ?_ ?_ ?_ ?_ <;> simp [PO, hx]
    refine acallC_of 1 (t_typ hk s1 hf1.lt) ?_ (by kernel_rfl) ?_ ?_ ?_ ?_ ?_ ?_ <;> simp [PO]
    rintro r o ⟨⟨k, x, m, c, y, rf, kids⟩, s2, rfl, rfl, hf2, hg2⟩
    have hm2 := meas_fwd hf2
    obtain ⟨b, s3, hgt, hf3, hb3, _⟩ := got_b hk hf2.lt [44]
    have hm3 := meas_fwd hf3
    simp [PO, Tr.av, Tr.cells]
    cases b
    · obtain ⟨s4, hw4, hf4, hg4⟩ := want_b hk hf3.lt [41]
      refine acallC_by 1 (hgt) ?_ (by kernel_rfl) ?_ ?_ ?_ ?_ ?_ ?_ ?_ ?_ ?_ <;> simp [PO]
      refine acallC_by 1 (hw4) ?_ (by kernel_rfl) ?_ ?_ ?_ ?_ ?_ ?_ ?_ ?_ ?_ <;> simp [PO]
      refine acallC_by 0 (t_one 44 t.at_ ⟨t.text.toArray⟩ 7 1 (Tr.mk k x m c y rf kids).cells) ?_ (by kernel_rfl) ?_ ?_ ?_ ?_ ?_ ?_ ?_ ?_ ?_ <;> simp [PO, Tr.cells]
      exact ⟨.mk 44 t.text 0 t.at_ [] 0 [.mk k x m c y rf kids], s4, rfl, rfl, ((hf1.trans hf2).trans hf3).trans hf4⟩
    · refine acallC_by 1 (hgt) ?_ (by kernel_rfl) ?_ ?_ ?_ ?_ ?_ ?_ ?_ ?_ ?_ <;> simp [PO]
      refine acallC_of 1 (hp s3 hf3.lt (by omega)) ?_ (by kernel_rfl) ?_ ?_ ?_ ?_ ?_ ?_ <;> simp [PO]
      rintro r o ⟨⟨k2, x2, m2, c2, y2, rf2, kids2⟩, s4, rfl, rfl, hf4, hg4⟩
      obtain ⟨s5, hw5, hf5, hg5⟩ := want_b hk hf4.lt [41]
      have h2 : (2 : Nat) ≤ maxLen := by decide
      simp [PO, Tr.av, Tr.cells, h2]
      refine acallC_by 1 (hw5) ?_ (by kernel_rfl) ?_ ?_ ?_ ?_ ?_ ?_ ?_ ?_ ?_ <;> simp [PO]
      refine acallC_by 0 (t_one 44 t.at_ ⟨t.text.toArray⟩ 7 2 ((Tr.mk k x m c y rf kids).cells ++ (Tr.mk k2 x2 m2 c2 y2 rf2 kids2).cells)) ?_ (by kernel_rfl) ?_ ?_ ?_ ?_ ?_ ?_ ?_ ?_ ?_ <;> simp [PO, Tr.cells]
      exact ⟨.mk 44 t.text 0 t.at_ [] 0 [.mk k x m c y rf kids, .mk k2 x2 m2 c2 y2 rf2 kids2], s5, rfl, rfl, (((hf1.trans hf2).trans hf3).trans hf4).trans hf5⟩
end Go.Proofs.Ytoaodlfmhioigaa
end
