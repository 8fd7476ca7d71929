/- A part of the proof of TypesWrittenSaid. No condition. -/
import Derived.Test.YtoaodlfmhioigaaM15
set_option linter.unusedSimpArgs false
set_option linter.unusedVariables false
section
namespace Go.Proofs.Ytoaodlfmhioigaa

set_option maxRecDepth 20000 in
set_option maxHeartbeats 4000000 in
theorem t_special_step {toks : List Tok} (hk : TK toks) {n : Nat} (hp : ∀ s' : PS, s'.at_ < toks.length → meas toks s' ≤ n → NodeAt toks 69 s')
    (hex : ∀ (s' : PS) (e : Bytes), s'.at_ < toks.length → meas toks s' ≤ n → Tri Try.prog 79 [.ref 0 0 0, S e] [PO toks s'] (ListR toks s'))
    (hfu : ∀ s' : PS, s'.at_ < toks.length → meas toks s' ≤ n → Tri Try.prog 32 [.ref 0 0 0] [PO toks s'] (KidsR toks s'))
    (hli : ∀ (s' : PS) (t : Tok), s'.at_ < toks.length → meas toks s' ≤ n → Tri Try.prog 82 [.ref 0 0 0, .agg t.cells] [PO toks s'] (FwdR toks s'))
    (hma : ∀ (s' : PS) (t : Tok), s'.at_ < toks.length → meas toks s' ≤ n → Tri Try.prog 83 [.ref 0 0 0, .agg t.cells] [PO toks s'] (FwdR toks s'))
    (s : PS) (t : Tok) (h : t.kind ≠ 6 → s.at_ < toks.length) (hm : meas toks s ≤ n) : Tri Try.prog 81 [.ref 0 0 0, .agg t.cells] [PO toks s] (SpecR toks s) := by
  have hlen := hk.len
  refine tri_by Try.func81 (by rfl) _ Try.ntmps81 _ (by rfl) ?_
  by_cases h6 : t.kind = 6
  · simp [PO, Tok.cells, h6]
    exact ⟨.mk 0 [] 0 0 [] 0 [], false, s, rfl, rfl, (fun e => nomatch e), fun _ => ⟨rfl, rfl⟩⟩
  · have h := h h6
    have hst : ({ s with head := false } : PS).at_ < toks.length := h
    have hms : meas toks { s with head := false } ≤ n := hm
    have hf0 : Fwd toks s { s with head := false } := ⟨Nat.le_refl _, h, id⟩
    have back : ∀ s', Fwd toks { s with head := false } s' → Fwd toks s { s' with head := s.head } := fun s' hf => ⟨hf.le, hf.lt, hf.bad⟩
    by_cases c1 : t.text = [40]
    · skip
      simp [PO, Tok.cells, h6, c1]
      refine acallC_of 1 (hp { s with head := false } hst hms) ?_ (by kernel_rfl) ?_ ?_ ?_ ?_ ?_ ?_ <;> simp [PO]
      rintro r o ⟨⟨k, y, m, c, z, rf, kids⟩, s2, rfl, rfl, hf2, hg2⟩
      obtain ⟨s3, hw3, hf3, hg3⟩ := want_b hk hf2.lt [41]
      have HF := hf2.trans hf3
      simp [PO, Tr.av, Tr.cells]
      refine acallC_by 1 (hw3) ?_ (by kernel_rfl) ?_ ?_ ?_ ?_ ?_ ?_ ?_ ?_ ?_ <;> simp [PO]
      exact ⟨.mk k y m c z rf kids, true, { s3 with head := s.head }, rfl, rfl, fun _ => back _ HF, (fun e => nomatch e)⟩
    by_cases c2 : t.text = [116, 114, 117, 101]
    · skip
      simp [PO, Tok.cells, h6, c1, c2]
      have HF := Fwd.refl hst
      refine acallC_by 0 (t_one 38 t.at_ ⟨#[116, 114, 117, 101]⟩ 0 0 []) ?_ (by kernel_rfl) ?_ ?_ ?_ ?_ ?_ ?_ ?_ ?_ ?_ <;> simp [PO]
      exact ⟨.mk 38 [116, 114, 117, 101] 0 t.at_ [] 0 [], true, { { s with head := false } with head := s.head }, rfl, rfl, fun _ => back _ HF, (fun e => nomatch e)⟩
    by_cases c3 : t.text = [102, 97, 108, 115, 101]
    · skip
      simp [PO, Tok.cells, h6, c1, c2, c3]
      have HF := Fwd.refl hst
      refine acallC_by 0 (t_one 38 t.at_ ⟨#[102, 97, 108, 115, 101]⟩ 0 0 []) ?_ (by kernel_rfl) ?_ ?_ ?_ ?_ ?_ ?_ ?_ ?_ ?_ <;> simp [PO]
      exact ⟨.mk 38 [102, 97, 108, 115, 101] 0 t.at_ [] 0 [], true, { { s with head := false } with head := s.head }, rfl, rfl, fun _ => back _ HF, (fun e => nomatch e)⟩
    by_cases c4 : t.text = [110, 105, 108]
    · skip
      simp [PO, Tok.cells, h6, c1, c2, c3, c4]
      have HF := Fwd.refl hst
      refine acallC_by 0 (t_one 39 t.at_ ⟨#[]⟩ 0 0 []) ?_ (by kernel_rfl) ?_ ?_ ?_ ?_ ?_ ?_ ?_ ?_ ?_ <;> simp [PO]
      exact ⟨.mk 39 [] 0 t.at_ [] 0 [], true, { { s with head := false } with head := s.head }, rfl, rfl, fun _ => back _ HF, (fun e => nomatch e)⟩
    by_cases c5 : t.text = [102, 117, 110, 99]
    · skip
      simp [PO, Tok.cells, h6, c1, c2, c3, c4, c5]
      refine acallC_of 1 (hfu { s with head := false } hst hms) ?_ (by kernel_rfl) ?_ ?_ ?_ ?_ ?_ ?_ <;> simp [PO]
      rintro r o ⟨l, s2, rfl, rfl, HF⟩
      simp [PO, kidsV]
      refine acallC_by 0 (t_oneN 48 t.at_ ⟨#[]⟩ l.length (flatN l)) ?_ (by kernel_rfl) ?_ ?_ ?_ ?_ ?_ ?_ ?_ ?_ ?_ <;> simp [PO]
      exact ⟨.mk 48 [] 0 t.at_ [] 0 l, true, { s2 with head := s.head }, rfl, rfl, fun _ => back _ HF, (fun e => nomatch e)⟩
    by_cases c6 : t.text = [38]
    · skip
      have hll := hli { s with head := false } t hst hms
      simp [PO, Tok.cells, c6] at hll
      cases hhd : s.head
      · skip
        simp [PO, Tok.cells, h6, hhd, c1, c2, c3, c4, c5, c6]
        refine acallC_of 1 (hll) ?_ (by kernel_rfl) ?_ ?_ ?_ ?_ ?_ ?_ <;> simp [PO]
        rintro r o ⟨⟨k, y, m, c, z, rf, kids⟩, s2, rfl, rfl, HF⟩
        simp [PO, Tr.av, Tr.cells]
        exact ⟨.mk k y m c z rf kids, true, { s2 with head := s.head }, rfl, by simp [PO, hhd], fun _ => back _ HF, (fun e => nomatch e)⟩
      · skip
        simp [PO, Tok.cells, h6, hhd, c1, c2, c3, c4, c5, c6]
        exact ⟨.mk 0 [] 0 0 [] 0 [], false, s, rfl, by simp [PO, hhd], (fun e => nomatch e), fun _ => ⟨rfl, rfl⟩⟩
    by_cases c7 : t.text = [91]
    · skip
      have hll := hli { s with head := false } t hst hms
      simp [PO, Tok.cells, c7] at hll
      cases hhd : s.head
      · skip
        simp [PO, Tok.cells, h6, hhd, c1, c2, c3, c4, c5, c6, c7]
        refine acallC_of 1 (hll) ?_ (by kernel_rfl) ?_ ?_ ?_ ?_ ?_ ?_ <;> simp [PO]
        rintro r o ⟨⟨k, y, m, c, z, rf, kids⟩, s2, rfl, rfl, HF⟩
        simp [PO, Tr.av, Tr.cells]
        exact ⟨.mk k y m c z rf kids, true, { s2 with head := s.head }, rfl, by simp [PO, hhd], fun _ => back _ HF, (fun e => nomatch e)⟩
      · skip
        simp [PO, Tok.cells, h6, hhd, c1, c2, c3, c4, c5, c6, c7]
        exact ⟨.mk 0 [] 0 0 [] 0 [], false, s, rfl, by simp [PO, hhd], (fun e => nomatch e), fun _ => ⟨rfl, rfl⟩⟩
    by_cases c8 : t.text = [109, 97, 107, 101]
    · skip
      have hll := hma { s with head := false } t hst hms
      simp [PO, Tok.cells, c8] at hll
      simp [PO, Tok.cells, h6, c1, c2, c3, c4, c5, c6, c7, c8]
      refine acallC_of 1 (hll) ?_ (by kernel_rfl) ?_ ?_ ?_ ?_ ?_ ?_ <;> simp [PO]
      rintro r o ⟨⟨k, y, m, c, z, rf, kids⟩, s2, rfl, rfl, HF⟩
      simp [PO, Tr.av, Tr.cells]
      exact ⟨.mk k y m c z rf kids, true, { s2 with head := s.head }, rfl, rfl, fun _ => back _ HF, (fun e => nomatch e)⟩
    by_cases c9 : t.text = [110, 101, 119]
    · skip
      have hll := hma { s with head := false } t hst hms
      simp [PO, Tok.cells, c9] at hll
      simp [PO, Tok.cells, h6, c1, c2, c3, c4, c5, c6, c7, c8, c9]
      refine acallC_of 1 (hll) ?_ (by kernel_rfl) ?_ ?_ ?_ ?_ ?_ ?_ <;> simp [PO]
      rintro r o ⟨⟨k, y, m, c, z, rf, kids⟩, s2, rfl, rfl, HF⟩
      simp [PO, Tr.av, Tr.cells]
      exact ⟨.mk k y m c z rf kids, true, { s2 with head := s.head }, rfl, rfl, fun _ => back _ HF, (fun e => nomatch e)⟩
    by_cases d0 : t.text = [97, 112, 112, 101, 110, 100]
    · skip
      obtain ⟨s2, hw2, hf2, hg2⟩ := want_b hk hst [40]
      have hM2 := meas_fwd hf2
      simp [PO, Tok.cells, h6, c1, c2, c3, c4, c5, c6, c7, c8, c9, d0]
      refine acallC_by 1 (hw2) ?_ (by kernel_rfl) ?_ ?_ ?_ ?_ ?_ ?_ ?_ ?_ ?_ <;> simp [PO]
      refine acallC_of 1 (hex s2 [41] hf2.lt (by omega)) ?_ (by kernel_rfl) ?_ ?_ ?_ ?_ ?_ ?_ <;> simp [PO]
      rintro r o ⟨l, s3, rfl, rfl, hf3, hl⟩
      have HF := hf2.trans hf3
      simp [PO, kidsV]
      refine acallC_by 0 (t_oneN 44 t.at_ ⟨#[97, 112, 112, 101, 110, 100]⟩ l.length (flatN l)) ?_ (by kernel_rfl) ?_ ?_ ?_ ?_ ?_ ?_ ?_ ?_ ?_ <;> simp [PO]
      exact ⟨.mk 44 [97, 112, 112, 101, 110, 100] 0 t.at_ [] 0 l, true, { s3 with head := s.head }, rfl, rfl, fun _ => back _ HF, (fun e => nomatch e)⟩
    by_cases d1 : t.text = [99, 97, 112]
    · skip
      obtain ⟨s2, hw2, hf2, hg2⟩ := want_b hk hst [40]
      have hM2 := meas_fwd hf2
      simp [PO, Tok.cells, h6, c1, c2, c3, c4, c5, c6, c7, c8, c9, d0, d1]
      refine acallC_by 1 (hw2) ?_ (by kernel_rfl) ?_ ?_ ?_ ?_ ?_ ?_ ?_ ?_ ?_ <;> simp [PO]
      refine acallC_of 1 (hex s2 [41] hf2.lt (by omega)) ?_ (by kernel_rfl) ?_ ?_ ?_ ?_ ?_ ?_ <;> simp [PO]
      rintro r o ⟨l, s3, rfl, rfl, hf3, hl⟩
      have HF := hf2.trans hf3
      simp [PO, kidsV]
      refine acallC_by 0 (t_oneN 44 t.at_ ⟨#[99, 97, 112]⟩ l.length (flatN l)) ?_ (by kernel_rfl) ?_ ?_ ?_ ?_ ?_ ?_ ?_ ?_ ?_ <;> simp [PO]
      exact ⟨.mk 44 [99, 97, 112] 0 t.at_ [] 0 l, true, { s3 with head := s.head }, rfl, rfl, fun _ => back _ HF, (fun e => nomatch e)⟩
    by_cases d2 : t.text = [99, 108, 111, 115, 101]
    · skip
      obtain ⟨s2, hw2, hf2, hg2⟩ := want_b hk hst [40]
      have hM2 := meas_fwd hf2
      simp [PO, Tok.cells, h6, c1, c2, c3, c4, c5, c6, c7, c8, c9, d0, d1, d2]
      refine acallC_by 1 (hw2) ?_ (by kernel_rfl) ?_ ?_ ?_ ?_ ?_ ?_ ?_ ?_ ?_ <;> simp [PO]
      refine acallC_of 1 (hex s2 [41] hf2.lt (by omega)) ?_ (by kernel_rfl) ?_ ?_ ?_ ?_ ?_ ?_ <;> simp [PO]
      rintro r o ⟨l, s3, rfl, rfl, hf3, hl⟩
      have HF := hf2.trans hf3
      simp [PO, kidsV]
      refine acallC_by 0 (t_oneN 44 t.at_ ⟨#[99, 108, 111, 115, 101]⟩ l.length (flatN l)) ?_ (by kernel_rfl) ?_ ?_ ?_ ?_ ?_ ?_ ?_ ?_ ?_ <;> simp [PO]
      exact ⟨.mk 44 [99, 108, 111, 115, 101] 0 t.at_ [] 0 l, true, { s3 with head := s.head }, rfl, rfl, fun _ => back _ HF, (fun e => nomatch e)⟩
    by_cases d3 : t.text = [108, 101, 110]
    · skip
      obtain ⟨s2, hw2, hf2, hg2⟩ := want_b hk hst [40]
      have hM2 := meas_fwd hf2
      simp [PO, Tok.cells, h6, c1, c2, c3, c4, c5, c6, c7, c8, c9, d0, d1, d2, d3]
      refine acallC_by 1 (hw2) ?_ (by kernel_rfl) ?_ ?_ ?_ ?_ ?_ ?_ ?_ ?_ ?_ <;> simp [PO]
      refine acallC_of 1 (hex s2 [41] hf2.lt (by omega)) ?_ (by kernel_rfl) ?_ ?_ ?_ ?_ ?_ ?_ <;> simp [PO]
      rintro r o ⟨l, s3, rfl, rfl, hf3, hl⟩
      have HF := hf2.trans hf3
      simp [PO, kidsV]
      refine acallC_by 0 (t_oneN 44 t.at_ ⟨#[108, 101, 110]⟩ l.length (flatN l)) ?_ (by kernel_rfl) ?_ ?_ ?_ ?_ ?_ ?_ ?_ ?_ ?_ <;> simp [PO]
      exact ⟨.mk 44 [108, 101, 110] 0 t.at_ [] 0 l, true, { s3 with head := s.head }, rfl, rfl, fun _ => back _ HF, (fun e => nomatch e)⟩
    by_cases d4 : t.text = [112, 97, 110, 105, 99]
    · skip
      obtain ⟨s2, hw2, hf2, hg2⟩ := want_b hk hst [40]
      have hM2 := meas_fwd hf2
      simp [PO, Tok.cells, h6, c1, c2, c3, c4, c5, c6, c7, c8, c9, d0, d1, d2, d3, d4]
      refine acallC_by 1 (hw2) ?_ (by kernel_rfl) ?_ ?_ ?_ ?_ ?_ ?_ ?_ ?_ ?_ <;> simp [PO]
      refine acallC_of 1 (hex s2 [41] hf2.lt (by omega)) ?_ (by kernel_rfl) ?_ ?_ ?_ ?_ ?_ ?_ <;> simp [PO]
      rintro r o ⟨l, s3, rfl, rfl, hf3, hl⟩
      have HF := hf2.trans hf3
      simp [PO, kidsV]
      refine acallC_by 0 (t_oneN 44 t.at_ ⟨#[112, 97, 110, 105, 99]⟩ l.length (flatN l)) ?_ (by kernel_rfl) ?_ ?_ ?_ ?_ ?_ ?_ ?_ ?_ ?_ <;> simp [PO]
      exact ⟨.mk 44 [112, 97, 110, 105, 99] 0 t.at_ [] 0 l, true, { s3 with head := s.head }, rfl, rfl, fun _ => back _ HF, (fun e => nomatch e)⟩
    by_cases d5 : t.text = [112, 114, 105, 110, 116]
    · skip
      obtain ⟨s2, hw2, hf2, hg2⟩ := want_b hk hst [40]
      have hM2 := meas_fwd hf2
      simp [PO, Tok.cells, h6, c1, c2, c3, c4, c5, c6, c7, c8, c9, d0, d1, d2, d3, d4, d5]
      refine acallC_by 1 (hw2) ?_ (by kernel_rfl) ?_ ?_ ?_ ?_ ?_ ?_ ?_ ?_ ?_ <;> simp [PO]
      refine acallC_of 1 (hex s2 [41] hf2.lt (by omega)) ?_ (by kernel_rfl) ?_ ?_ ?_ ?_ ?_ ?_ <;> simp [PO]
      rintro r o ⟨l, s3, rfl, rfl, hf3, hl⟩
      have HF := hf2.trans hf3
      simp [PO, kidsV]
      refine acallC_by 0 (t_oneN 44 t.at_ ⟨#[112, 114, 105, 110, 116]⟩ l.length (flatN l)) ?_ (by kernel_rfl) ?_ ?_ ?_ ?_ ?_ ?_ ?_ ?_ ?_ <;> simp [PO]
      exact ⟨.mk 44 [112, 114, 105, 110, 116] 0 t.at_ [] 0 l, true, { s3 with head := s.head }, rfl, rfl, fun _ => back _ HF, (fun e => nomatch e)⟩
    by_cases d6 : t.text = [114, 101, 99, 111, 118, 101, 114]
    · skip
      obtain ⟨s2, hw2, hf2, hg2⟩ := want_b hk hst [40]
      have hM2 := meas_fwd hf2
      simp [PO, Tok.cells, h6, c1, c2, c3, c4, c5, c6, c7, c8, c9, d0, d1, d2, d3, d4, d5, d6]
      refine acallC_by 1 (hw2) ?_ (by kernel_rfl) ?_ ?_ ?_ ?_ ?_ ?_ ?_ ?_ ?_ <;> simp [PO]
      refine acallC_of 1 (hex s2 [41] hf2.lt (by omega)) ?_ (by kernel_rfl) ?_ ?_ ?_ ?_ ?_ ?_ <;> simp [PO]
      rintro r o ⟨l, s3, rfl, rfl, hf3, hl⟩
      have HF := hf2.trans hf3
      simp [PO, kidsV]
      refine acallC_by 0 (t_oneN 44 t.at_ ⟨#[114, 101, 99, 111, 118, 101, 114]⟩ l.length (flatN l)) ?_ (by kernel_rfl) ?_ ?_ ?_ ?_ ?_ ?_ ?_ ?_ ?_ <;> simp [PO]
      exact ⟨.mk 44 [114, 101, 99, 111, 118, 101, 114] 0 t.at_ [] 0 l, true, { s3 with head := s.head }, rfl, rfl, fun _ => back _ HF, (fun e => nomatch e)⟩
    simp [PO, Tok.cells, h6, c1, c2, c3, c4, c5, c6, c7, c8, c9, d0, d1, d2, d3, d4, d5, d6]
    exact ⟨.mk 0 [] 0 0 [] 0 [], false, s, rfl, rfl, (fun e => nomatch e), fun _ => ⟨rfl, rfl⟩⟩
end Go.Proofs.Ytoaodlfmhioigaa
end
