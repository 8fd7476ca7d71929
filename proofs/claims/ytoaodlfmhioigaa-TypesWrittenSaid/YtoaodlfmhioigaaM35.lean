/- A part of the proof of TypesWrittenSaid. No condition. -/
import Derived.Test.YtoaodlfmhioigaaM34
import Derived.Test.YtoaodlfmhioigaaM29
set_option linter.unusedSimpArgs false
set_option linter.unusedVariables false
section
namespace Go.Proofs.Ytoaodlfmhioigaa

abbrev OutO (k : AV) : AO := ⟨true, 0, none, 25, [I 1, S [], I 0, I 0, S [], I 0, k]⟩
abbrev PaI := PS × Option (Nat × Tr × List Tr)
def paF (src : Bytes) (toks : List Tok) (v : Nat → AV) : PaI → AS
  | (s, none) => ⟨[S src, v 1, .ref 0 0 0, .ref 1 0 0, .vec 4 toks.length (flatT toks), .ref 2 0 0, .ref 3 0 0, .ref 4 0 0, v 8, v 9, v 10, v 11, v 12, v 13, v 14, v 15, v 16, v 17, v 18, v 19, v 20, v 21, v 22, v 23, v 24, v 25, v 26, v 27, v 28, v 29, v 30, v 31, v 32, v 33, v 34, v 35, v 36, v 37, v 38, v 39, v 40, v 41, v 42, v 43, v 44, v 45, v 46, v 47, v 48, v 49, v 50, v 51, v 52, v 53, v 54, v 55, v 56], [ZO, FZ, FZ, PO toks s, OutO (.val (.slice none 0 0))]⟩
  | (s, some (n, d, l)) => ⟨[S src, v 1, .ref 0 0 0, .ref 1 0 0, .vec 4 toks.length (flatT toks), .ref 2 0 0, .ref 3 0 0, .ref 4 0 0, v 8, v 9, v 10, v 11, v 12, v 13, v 14, v 15, v 16, v 17, v 18, v 19, v 20, v 21, v 22, v 23, v 24, v 25, v 26, v 27, v 28, v 29, v 30, v 31, v 32, v 33, v 34, v 35, v 36, v 37, v 38, v 39, v 40, v 41, v 42, v 43, v 44, v 45, v 46, v 47, v 48, v 49, v 50, v 51, v 52, v 53, v 54, v 55, v 56], [ZO, FZ, FZ, PO toks s, OutO (.row 7 7 0 (n + 1) n), ⟨true, 0, none, 25, d.cells⟩, ⟨true, 0, some 7, 25, d.cells⟩, ⟨true, n, some 7, 25, flatN l⟩]⟩
def s00 : PS := ⟨0, -1, false, false⟩
def VarD (src : Bytes) (d : Tr) : Prop := ∃ x a k, d = .mk 3 x 0 a [] 0 [k] ∧ TyOk k ∧ wt k ≤ 2 * src.length + 2
def PaC (src : Bytes) (toks : List Tok) : PaI → Prop
  | (s, none) => s = s00
  | (s, some (n, _, l)) => Fwd toks s00 s ∧ l.length = n + 1 ∧ n ≤ s.at_ ∧ (s.bad < 0 → n < s.at_) ∧ (VarS src → s.bad < 0 → ∃ d r, l = d :: r ∧ VarD src d)
/-- What 'Parse' answers. -/
def ParseR (src : Bytes) (r : AV) (o : List AO) : Prop := o = [] ∧ ((∃ st at_ : Int, r = .tup [(Tr.mk 0 [] 0 0 [] 0 []).av, .agg [I st, I at_]] ∧ st ≠ 0) ∨
  ∃ l, r = .tup [(Tr.mk 1 [] 0 0 [] 0 l).av, .agg [I 0, I 0]] ∧ (VarS src → ∀ d, l = [d] → VarD src d))

theorem peek3 (toks : List Tok) (s : PS) (t : Tok) (ht : toks[s.at_]? = some t) : TriE Try.prog 14 [.ref 3 0 0] [ZO, FZ, FZ, PO toks s] (.agg t.cells) [ZO, FZ, FZ, PO toks s] :=
  TriE.mid (t_peek toks s t ht) rfl (by simp [PO]) rfl (by simp [PO]) rfl (by simp) rfl
theorem want3 {toks : List Tok} {s s1 : PS} {x : Bytes} (h : TriE Try.prog 16 [.ref 0 0 0, S x] [PO toks s] (.tup []) [PO toks s1]) : TriE Try.prog 16 [.ref 3 0 0, S x] [ZO, FZ, FZ, PO toks s] (.tup []) [ZO, FZ, FZ, PO toks s1] :=
  TriE.mid h rfl (by simp [PO]) rfl (by simp [PO]) rfl (by simp) rfl
theorem decl3 {toks : List Tok} (hk : TK toks) (s : PS) (t : Tok) (h : s.at_ < toks.length) (ht : toks[s.at_]? = some t) : Tri Try.prog 15 [.ref 3 0 0] [ZO, FZ, FZ, PO toks s] fun r o => ∃ (d : Tr) (s' : PS), r = d.av ∧ o = [ZO, FZ, FZ, PO toks s'] ∧ Fwd toks s s' ∧ (s'.bad < 0 → s.at_ < s'.at_) ∧ (t.kind = 4 → t.text = varB → s'.bad < 0 → ∃ x a k, d = .mk 3 x 0 a [] 0 [k] ∧ TyOk k ∧ wt k ≤ s'.at_) :=
  (Tri.mid (t_decl hk s t h ht) rfl (by simp [PO]) rfl (fun r o hd => by
    obtain ⟨d, s', rfl, rfl, _⟩ := hd
    exact ⟨_, rfl, rfl, by simp [PO], by simp [Tr.av]⟩) (os := [ZO, FZ, FZ, PO toks s]) (m := 3) rfl).mono fun r o ⟨A, hA, ho⟩ => by
    obtain ⟨d, s', h1, h2, h3⟩ := hA
    injection h2 with h2
    subst h2
    exact ⟨d, s', h1, ho, h3⟩

set_option maxRecDepth 20000 in
set_option maxHeartbeats 8000000 in
theorem t_parse (src : Bytes) (hs : src.length < 524288) : Tri Try.prog 5 [S src] [] (ParseR src) := by
  have hsc := t_scan src hs
  refine tri_by Try.func5 (by rfl) _ Try.ntmps5 _ (by rfl) ?_
  simp
  refine acallC_of 0 (hsc) ?_ (by kernel_rfl) ?_ ?_ ?_ ?_ ?_ ?_ <;> first | rintro r o ⟨rfl, ⟨st, a, rfl, hst⟩ | ⟨toks, rfl, hk, hpos, hbig, hvar⟩⟩ | simp
  · simp [hst]
    refine adrawC_by [0, 1] [0, 1] (.late 2 (.late 3 .fin)) (by kernel_rfl) (by kernel_rfl) (by kernel_rfl) ?_
    simp
    exact ⟨rfl, .inl ⟨st, a, rfl, hst⟩⟩
  · have hlen := hk.len
    simp
    refine loopC_to 0 (paF src toks) (PaC src toks) (PaC src toks) (fun i => meas toks i.1) (s00, none) (by rfl) rfl ?_ ?_
    · rintro v ⟨s, g⟩ hc
      have hF : Fwd toks s00 s := by
        match g, hc with
        | none, hc => rw [show s = s00 from hc]; exact Fwd.refl hpos
        | some (_, _, _), hc => exact hc.1
      by_cases hb : s.bad < 0
      · obtain ⟨t, ht⟩ := tok_at hF.lt
        have hpk := peek3 toks s t ht
        have hdc := decl3 hk s t hF.lt ht
        simp only [PO, Tok.cells] at hpk hdc
        by_cases h6 : t.kind = 6
        · match g, hc with
          | none, hc =>
            simp [paF, PO, hb]
            refine acallC_by 4 (hpk) ?_ (by kernel_rfl) ?_ ?_ ?_ ?_ ?_ ?_ ?_ ?_ ?_ <;> simp [PO, h6]
            refine Left.mk ((s, none)) rfl ?_ ?_
            · simp [paF, PO]
            · exact hc
          | some (n, d, l), hc =>
            simp [paF, PO, hb]
            refine acallC_by 4 (hpk) ?_ (by kernel_rfl) ?_ ?_ ?_ ?_ ?_ ?_ ?_ ?_ ?_ <;> simp [PO, h6]
            refine Left.mk ((s, some (n, d, l))) rfl ?_ ?_
            · simp [paF, PO]
            · exact hc
        · match g, hc with
          | none, hc =>
            obtain rfl : s = s00 := hc
            simp [paF, PO, hb]
            refine acallC_by 4 (hpk) ?_ (by kernel_rfl) ?_ ?_ ?_ ?_ ?_ ?_ ?_ ?_ ?_ <;> simp [PO, h6]
            refine acallC_of 4 (hdc) ?_ (by kernel_rfl) ?_ ?_ ?_ ?_ ?_ ?_ <;> first | rintro r o ⟨⟨k, x, m, a, z, rf, kids⟩, s1, rfl, rfl, hf1, hg1, hv1⟩ | simp [PO]
            obtain ⟨s2, hw2, hf2, hg2⟩ := want_b hk hf1.lt [59]
            have hw3 := want3 hw2
            simp only [PO] at hw3
            have hf12 := hf1.trans hf2
            have hg12 : s2.bad < 0 → s00.at_ < s2.at_ := fun e => by have := hg2 e; have := hf1.le; omega
            simp [PO, Tr.av, Tr.cells]
            refine acallC_by 4 (hw3) ?_ (by kernel_rfl) ?_ ?_ ?_ ?_ ?_ ?_ ?_ ?_ ?_ <;> simp [PO]
            refine Again.mk 8 ((s2, some (0, .mk k x m a z rf kids, [.mk k x m a z rf kids]))) (by simp) (by simp) (by simp) rfl ?_ ?_ ?_
            · simp [paF, PO, flatN, Tr.cells]
            · refine ⟨hf12, rfl, Nat.zero_le _, fun e => by have := hg12 e; omega, fun hv e => ⟨_, [], rfl, ?_⟩⟩
              obtain ⟨tv, e1, e2, e3⟩ := hvar hv
              have ht' : toks[0]? = some t := ht
              rw [ht'] at e1
              injection e1 with e1
              subst e1
              obtain ⟨x', a', k', q1, q2, q3⟩ := hv1 e2 e3 (hf2.bad e)
              exact ⟨x', a', k', q1, q2, by have := hf1.lt; omega⟩
            · exact meas_lt hf12 hb hg12
          | some (n, d, l), hc =>
            obtain ⟨_, hl1, hl2, hl3, hl4⟩ := hc
            have hl3 : n < s.at_ := hl3 hb
            have hlt := hF.lt
            obtain ⟨hq1, hq2⟩ := len_ok (n := n + 1 + 1) (by omega)
            have hta := flatN_take l (n + 1) hl1.symm
            simp [paF, PO, hb]
            refine acallC_by 4 (hpk) ?_ (by kernel_rfl) ?_ ?_ ?_ ?_ ?_ ?_ ?_ ?_ ?_ <;> simp [PO, h6]
            refine acallC_of 4 (hdc) ?_ (by kernel_rfl) ?_ ?_ ?_ ?_ ?_ ?_ <;> first | rintro r o ⟨⟨k, x, m, a, z, rf, kids⟩, s1, rfl, rfl, hf1, hg1, hv1⟩ | simp [PO]
            obtain ⟨s2, hw2, hf2, hg2⟩ := want_b hk hf1.lt [59]
            have hw3 := want3 hw2
            simp only [PO] at hw3
            have hf12 := hf1.trans hf2
            have hg12 : s2.bad < 0 → s.at_ < s2.at_ := fun e => by have := hg2 e; have := hf1.le; omega
            have hle12 := hf12.le
            simp [PO, Tr.av, Tr.cells, flatN_length, hl1, hq1, hq2, hta]
            refine acallC_by 4 (hw3) ?_ (by kernel_rfl) ?_ ?_ ?_ ?_ ?_ ?_ ?_ ?_ ?_ <;> simp [PO]
            refine Again.mk 8 ((s2, some (n + 1, d, l ++ [.mk k x m a z rf kids]))) (by simp) (by simp) (by simp) rfl ?_ ?_ ?_
            · simp [paF, PO, flatN, Tr.cells, flatN_append]
            · refine ⟨hF.trans hf12, by simp [hl1], by show n + 1 ≤ s2.at_; omega, fun e => by have := hg12 e; omega, fun hv e => ?_⟩
              obtain ⟨d', r', e1, e2⟩ := hl4 hv hb
              exact ⟨d', r' ++ [.mk k x m a z rf kids], by rw [e1]; rfl, e2⟩
            · exact meas_lt hf12 hb hg12
      · match g, hc with
        | none, hc =>
          simp [paF, PO, hb]
          refine Left.mk ((s, none)) rfl ?_ ?_
          · simp [paF, PO]
          · exact hc
        | some (n, d, l), hc =>
          simp [paF, PO, hb]
          refine Left.mk ((s, some (n, d, l))) rfl ?_ ?_
          · simp [paF, PO]
          · exact hc
    · rintro v ⟨s, g⟩ hc
      by_cases hb : s.bad < 0
      · have hb2 : ¬ 0 ≤ s.bad := by omega
        match g, hc with
        | none, hc =>
          simp [paF, PO, hb2]
          exact ⟨rfl, .inr ⟨[], by simp [Tr.av, Tr.cells, vecN], fun _ d e => by cases e⟩⟩
        | some (n, d, l), hc =>
          obtain ⟨_, hl1, hl2, hl3, hl4⟩ := hc
          have hta := flatN_take l (n + 1) hl1.symm
          have hfin : ParseR src (.tup [.agg [I 1, S [], I 0, I 0, S [], I 0, .vec 7 (n + 1) (flatN l)], .agg [I 0, I 0]]) [] := ⟨rfl, .inr ⟨l, by simp [Tr.av, Tr.cells, hl1, vecNs], fun hv d' e => by
            obtain ⟨d2, r2, e1, e2⟩ := hl4 hv hb
            rw [e] at e1
            injection e1 with e1
            subst e1
            exact e2⟩⟩
          simp [paF, PO, hb2, flatN_length, hl1, hta]
          exact hfin
      · have hb2 : 0 ≤ s.bad := by omega
        match g, hc with
        | none, hc =>
          simp [paF, PO, hb2]
          refine adrawC_by [0, 1] [0, 1, 2, 3, 4, 5] (.late 6 (.late 7 .fin)) (by kernel_rfl) (by kernel_rfl) (by kernel_rfl) ?_
          simp [PO]
          exact ⟨rfl, .inl ⟨4, s.bad, rfl, by decide⟩⟩
        | some (n, d, l), hc =>
          simp [paF, PO, hb2]
          refine adrawC_by [0, 1] [0, 1, 2, 3, 4, 5] (.late 6 (.late 7 .fin)) (by kernel_rfl) (by kernel_rfl) (by kernel_rfl) ?_
          simp [PO]
          exact ⟨rfl, .inl ⟨4, s.bad, rfl, by decide⟩⟩
end Go.Proofs.Ytoaodlfmhioigaa
end
