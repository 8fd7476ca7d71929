/- A part of the proof of TypesWrittenSaid. No condition. -/
import Derived.Test.YtoaodlfmhioigaaM28
import Derived.Test.YtoaodlfmhioigaaM5
set_option linter.unusedSimpArgs false
set_option linter.unusedVariables false
section
namespace Go.Proofs.Ytoaodlfmhioigaa

def deF (toks : List Tok) (a : Int) (nm : Bytes) (v : Nat → AV) : Gat2 → AS
  | (s, _, _, none) => ⟨[.ref 0 0 0, v 1, .ref 1 0 0, I a, S nm, .val (.slice none 0 0), v 6, v 7, v 8, v 9, v 10, v 11, v 12, v 13, v 14, v 15, v 16, v 17, v 18, v 19, v 20, v 21, v 22, v 23, v 24, v 25, v 26, v 27, v 28, v 29, v 30, v 31, v 32, v 33, v 34, v 35, v 36, v 37, v 38, v 39, v 40, v 41, v 42, v 43, v 44, v 45, v 46, v 47, v 48, v 49, v 50, v 51, v 52, v 53, v 54, v 55, v 56, v 57, v 58, v 59, v 60, v 61, v 62, v 63, v 64, v 65, v 66, v 67, v 68, v 69, v 70, v 71, v 72, v 73, v 74, v 75, v 76, v 77, v 78, v 79], [PO toks s, ZO]⟩
  | (s, j, q, some (n, l)) => ⟨[.ref 0 0 0, v 1, .ref 1 0 0, I a, S nm, .row 5 7 0 (n + 1) n, v 6, v 7, v 8, v 9, v 10, v 11, v 12, v 13, v 14, v 15, v 16, v 17, v 18, v 19, v 20, v 21, v 22, v 23, v 24, v 25, v 26, v 27, v 28, v 29, v 30, v 31, v 32, v 33, v 34, v 35, v 36, v 37, v 38, v 39, v 40, v 41, v 42, v 43, v 44, v 45, v 46, v 47, v 48, v 49, v 50, v 51, v 52, v 53, v 54, v 55, v 56, v 57, v 58, v 59, v 60, v 61, v 62, v 63, v 64, v 65, v 66, v 67, v 68, v 69, v 70, v 71, v 72, v 73, v 74, v 75, v 76, v 77, v 78, v 79], [PO toks s, ZO, ⟨true, 0, none, 25, j.cells⟩, ⟨false, 0, some 7, 25, j.cells⟩, ⟨true, 0, some 7, 25, q.cells⟩, ⟨true, n, some 7, 25, flatN l⟩]⟩
/-- What 'decl' answers at a token. -/
def DeclR (toks : List Tok) (t : Tok) (s : PS) (r : AV) (o : List AO) : Prop := ∃ (d : Tr) (s' : PS), r = d.av ∧ o = [PO toks s'] ∧ Fwd toks s s' ∧ (s'.bad < 0 → s.at_ < s'.at_) ∧ (t.kind = 4 → t.text = [118, 97, 114] → s'.bad < 0 → ∃ x a k, d = .mk 3 x 0 a [] 0 [k] ∧ TyOk k ∧ wt k ≤ s'.at_)
theorem got_c {toks : List Tok} (hk : TK toks) {s : PS} {t : Tok} (ht : toks[s.at_]? = some t) (x : Bytes) : ∃ b s1, TriE Try.prog 27 [.ref 0 0 0, S x] [PO toks s] (B b) [PO toks s1] ∧ Fwd toks s s1 ∧ b = s.is t x ∧ (b = true → s.bad < 0 ∧ s1 = s.next ∧ t.text = x) ∧ (b = false → s1 = s) := by
  refine ⟨_, _, t_got toks s t x hk.len ht, fwd_got hk x ht, rfl, fun e => ?_, fun e => ?_⟩
  · exact ⟨(is_facts e).1, by simp [PS.got, e, PS.next], (is_facts e).2.2⟩
  · simp [PS.got, e]

set_option maxRecDepth 20000 in
set_option maxHeartbeats 4000000 in
theorem t_decl {toks : List Tok} (hk : TK toks) (s : PS) (t : Tok) (h : s.at_ < toks.length) (ht : toks[s.at_]? = some t) : Tri Try.prog 15 [.ref 0 0 0] [PO toks s] (DeclR toks t s) := by
  have hlen := hk.len
  have hpk := t_peek toks s t ht
  obtain ⟨b1, s1, hg1, hf1, he1, hb1, hb1'⟩ := got_c hk ht [116, 121, 112, 101]
  obtain ⟨b2, s2, hg2, hf2, he2, hb2, hb2'⟩ := got_c hk ht [118, 97, 114]
  obtain ⟨b3, s3, hg3, hf3, he3, hb3, hb3'⟩ := got_c hk ht [102, 117, 110, 99]
  refine tri_by Try.func15 (by rfl) _ Try.ntmps15 _ (by rfl) ?_
  simp [PO]
  refine acallC_by 1 (hpk) ?_ (by kernel_rfl) ?_ ?_ ?_ ?_ ?_ ?_ ?_ ?_ ?_ <;> simp [PO, Tok.cells]
  cases b1
  · obtain rfl := hb1' rfl
    refine acallC_by 1 (hg1) ?_ (by kernel_rfl) ?_ ?_ ?_ ?_ ?_ ?_ ?_ ?_ ?_ <;> simp [PO]
    cases b2
    · obtain rfl := hb2' rfl
      have hnv : ∀ s' : PS, Fwd toks s2 s' → t.kind = 4 → t.text = [118, 97, 114] → ¬ s'.bad < 0 := fun s' hf h4 hx hb => by
        have hb0 := hf.bad hb
        simp [PS.is, h4, hx, hb0] at he2
      refine acallC_by 1 (hg2) ?_ (by kernel_rfl) ?_ ?_ ?_ ?_ ?_ ?_ ?_ ?_ ?_ <;> simp [PO]
      cases b3
      · obtain rfl := hb3' rfl
        obtain ⟨sw, hwr, hfw, hgw⟩ := wrong_b hk h
        refine acallC_by 1 (hg3) ?_ (by kernel_rfl) ?_ ?_ ?_ ?_ ?_ ?_ ?_ ?_ ?_ <;> simp [PO]
        refine acallC_by 1 (hwr) ?_ (by kernel_rfl) ?_ ?_ ?_ ?_ ?_ ?_ ?_ ?_ ?_ <;> simp [PO]
        exact ⟨.mk 0 [] 0 0 [] 0 [], sw, rfl, rfl, hfw, fun e => absurd e hgw, fun _ _ e => absurd e hgw⟩
      · obtain ⟨hb, rfl, hx⟩ := hb3 rfl
        obtain ⟨x, s4, hnm, hf4, hg4⟩ := name_b hk hf3.lt
        refine acallC_by 1 (hg3) ?_ (by kernel_rfl) ?_ ?_ ?_ ?_ ?_ ?_ ?_ ?_ ?_ <;> simp [PO]
        refine acallC_by 1 (hnm) ?_ (by kernel_rfl) ?_ ?_ ?_ ?_ ?_ ?_ ?_ ?_ ?_ <;> simp [PO]
        refine acallC_of 1 (t_function hk s4 hf4.lt) ?_ (by kernel_rfl) ?_ ?_ ?_ ?_ ?_ ?_ <;> simp [PO]
        rintro r o ⟨l, s5, rfl, rfl, hf5⟩
        have hle5 : s2.at_ + 1 ≤ s5.at_ := (hf4.trans hf5).le
        simp [PO, kidsV]
        refine acallC_by 0 (t_oneN 4 t.at_ ⟨x.toArray⟩ l.length (flatN l)) ?_ (by kernel_rfl) ?_ ?_ ?_ ?_ ?_ ?_ ?_ ?_ ?_ <;> simp [PO]
        exact ⟨.mk 4 x 0 t.at_ [] 0 l, s5, rfl, rfl, (hf3.trans hf4).trans hf5, fun _ => hle5, fun h4 hx e => absurd e (hnv _ ((hf3.trans hf4).trans hf5) h4 hx)⟩
    · obtain ⟨hb, rfl, hx⟩ := hb2 rfl
      obtain ⟨x, s4, hnm, hf4, hg4⟩ := name_b hk hf2.lt
      refine acallC_by 1 (hg2) ?_ (by kernel_rfl) ?_ ?_ ?_ ?_ ?_ ?_ ?_ ?_ ?_ <;> simp [PO]
      refine acallC_by 1 (hnm) ?_ (by kernel_rfl) ?_ ?_ ?_ ?_ ?_ ?_ ?_ ?_ ?_ <;> simp [PO]
      refine acallC_of 1 (t_typ hk s4 hf4.lt) ?_ (by kernel_rfl) ?_ ?_ ?_ ?_ ?_ ?_ <;> simp [PO]
      rintro r o ⟨⟨k, y, m, c, z, rf, kids⟩, s5, rfl, rfl, hf5, hg5⟩
      have hle5 : s1.at_ + 1 ≤ s5.at_ := (hf4.trans hf5).le
      simp [PO, Tr.av, Tr.cells]
      refine acallC_by 0 (t_one 3 t.at_ ⟨x.toArray⟩ 7 1 (Tr.mk k y m c z rf kids).cells) ?_ (by kernel_rfl) ?_ ?_ ?_ ?_ ?_ ?_ ?_ ?_ ?_ <;> simp [PO, Tr.cells]
      exact ⟨.mk 3 x 0 t.at_ [] 0 [.mk k y m c z rf kids], s5, by simp [Tr.av, Tr.cells, flatN, vecN1], rfl, (hf2.trans hf4).trans hf5, fun _ => hle5, fun _ _ e => ⟨x, t.at_, _, rfl, (hg5 e).2.1, by have := (hg5 e).2.2; omega⟩⟩
  · obtain ⟨hb, rfl, hx⟩ := hb1 rfl
    obtain ⟨nm, s4, hnm, hf4, hg4⟩ := name_b hk hf1.lt
    obtain ⟨s5, hw5, hf5, hg5⟩ := want_b hk hf4.lt [115, 116, 114, 117, 99, 116]
    obtain ⟨s6, hw6, hf6, hg6⟩ := want_b hk hf5.lt [123]
    have hF6 := (hf4.trans hf5).trans hf6
    refine acallC_by 1 (hg1) ?_ (by kernel_rfl) ?_ ?_ ?_ ?_ ?_ ?_ ?_ ?_ ?_ <;> simp [PO]
    refine acallC_by 1 (hnm) ?_ (by kernel_rfl) ?_ ?_ ?_ ?_ ?_ ?_ ?_ ?_ ?_ <;> simp [PO]
    refine acallC_by 1 (hw5) ?_ (by kernel_rfl) ?_ ?_ ?_ ?_ ?_ ?_ ?_ ?_ ?_ <;> simp [PO]
    refine acallC_by 1 (hw6) ?_ (by kernel_rfl) ?_ ?_ ?_ ?_ ?_ ?_ ?_ ?_ ?_ <;> simp [PO]
    refine loopC_to 0 (deF toks t.at_ nm) (GatC2 toks s6) (GatC2 toks s6) (fun i => meas toks i.1) (s6, noneT, noneT, none) (by rfl) (Fwd.refl hf6.lt) ?_ ?_
    · rintro v ⟨sa, j, q, g⟩ hc
      have hf2 := hc.fwd
      simp only at hf2
      by_cases hba : sa.bad < 0
      · obtain ⟨b, his, hib⟩ := is_b hk hf2.lt [125]
        cases b
        · obtain ⟨u, hpk2, hu, hok2⟩ := peek_b hk hf2.lt
          obtain ⟨x, sb, hnm2, hfb, hgb⟩ := name_b hk hf2.lt
          match g, hc with
          | none, hc =>
            simp [deF, PO, hba]
            refine acallC_by 1 (his) ?_ (by kernel_rfl) ?_ ?_ ?_ ?_ ?_ ?_ ?_ ?_ ?_ <;> simp [PO]
            refine acallC_by 1 (hpk2) ?_ (by kernel_rfl) ?_ ?_ ?_ ?_ ?_ ?_ ?_ ?_ ?_ <;> simp [PO, Tok.cells]
            refine acallC_by 1 (hnm2) ?_ (by kernel_rfl) ?_ ?_ ?_ ?_ ?_ ?_ ?_ ?_ ?_ <;> simp [PO]
            refine acallC_of 1 (t_typ hk sb hfb.lt) ?_ (by kernel_rfl) ?_ ?_ ?_ ?_ ?_ ?_ <;> simp [PO]
            rintro r o ⟨⟨k, y, m, c, z, rf, kids⟩, sc, rfl, rfl, hfc, hgc⟩
            obtain ⟨sd, hwd, hfd, hgd⟩ := want_b hk hfc.lt [59]
            have hfad := (hfb.trans hfc).trans hfd
            have hgad : sd.bad < 0 → sa.at_ < sd.at_ := fun e => by have := (hgb (hfc.bad (hfd.bad e))).1; have := hfc.le; have := hfd.le; omega
            simp [PO, Tr.av, Tr.cells]
            refine acallC_by 0 (t_one 5 u.at_ ⟨x.toArray⟩ 7 1 (Tr.mk k y m c z rf kids).cells) ?_ (by kernel_rfl) ?_ ?_ ?_ ?_ ?_ ?_ ?_ ?_ ?_ <;> simp [PO, Tr.cells]
            refine acallC_by 1 (hwd) ?_ (by kernel_rfl) ?_ ?_ ?_ ?_ ?_ ?_ ?_ ?_ ?_ <;> simp [PO]
            refine Again.mk 6 ((sd, .mk k y m c z rf kids, .mk 5 x 0 u.at_ [] 0 [.mk k y m c z rf kids], some (0, [.mk 5 x 0 u.at_ [] 0 [.mk k y m c z rf kids]]))) (by simp) (by simp) (by simp) rfl ?_ ?_ ?_
            · simp [deF, PO, flatN, Tr.cells, vecN1]
            · exact ⟨hf2.trans hfad, rfl, Nat.zero_le _, fun e => by show 0 < sd.at_; have := hgad e; omega⟩
            · exact meas_lt hfad hba hgad
          | some (n, l), hc =>
            obtain ⟨_, hl1, hl2, hl3⟩ := hc
            have hl3 : n < sa.at_ := hl3 hba
            have hlt2 := hf2.lt
            obtain ⟨hq1, hq2⟩ := len_ok (n := n + 1 + 1) (by omega)
            have hta := flatN_take l (n + 1) hl1.symm
            simp [deF, PO, hba]
            refine acallC_by 1 (his) ?_ (by kernel_rfl) ?_ ?_ ?_ ?_ ?_ ?_ ?_ ?_ ?_ <;> simp [PO]
            refine acallC_by 1 (hpk2) ?_ (by kernel_rfl) ?_ ?_ ?_ ?_ ?_ ?_ ?_ ?_ ?_ <;> simp [PO, Tok.cells]
            refine acallC_by 1 (hnm2) ?_ (by kernel_rfl) ?_ ?_ ?_ ?_ ?_ ?_ ?_ ?_ ?_ <;> simp [PO]
            refine acallC_of 1 (t_typ hk sb hfb.lt) ?_ (by kernel_rfl) ?_ ?_ ?_ ?_ ?_ ?_ <;> simp [PO]
            rintro r o ⟨⟨k, y, m, c, z, rf, kids⟩, sc, rfl, rfl, hfc, hgc⟩
            obtain ⟨sd, hwd, hfd, hgd⟩ := want_b hk hfc.lt [59]
            have hfad := (hfb.trans hfc).trans hfd
            have hgad : sd.bad < 0 → sa.at_ < sd.at_ := fun e => by have := (hgb (hfc.bad (hfd.bad e))).1; have := hfc.le; have := hfd.le; omega
            have hlead := hfad.le
            simp [PO, Tr.av, Tr.cells]
            refine acallC_by 0 (t_one 5 u.at_ ⟨x.toArray⟩ 7 1 (Tr.mk k y m c z rf kids).cells) ?_ (by kernel_rfl) ?_ ?_ ?_ ?_ ?_ ?_ ?_ ?_ ?_ <;> simp [PO, Tr.cells, flatN_length, hl1, hq1, hq2, hta]
            refine acallC_by 1 (hwd) ?_ (by kernel_rfl) ?_ ?_ ?_ ?_ ?_ ?_ ?_ ?_ ?_ <;> simp [PO]
            refine Again.mk 6 ((sd, j, q, some (n + 1, l ++ [.mk 5 x 0 u.at_ [] 0 [.mk k y m c z rf kids]]))) (by simp) (by simp) (by simp) rfl ?_ ?_ ?_
            · simp [deF, PO, flatN, Tr.cells, flatN_append, vecN1]
            · exact ⟨hf2.trans hfad, by simp [hl1], by show n + 1 ≤ sd.at_; omega, fun e => by show n + 1 < sd.at_; have := hgad e; omega⟩
            · exact meas_lt hfad hba hgad
        · match g, hc with
          | none, hc =>
            simp [deF, PO, hba]
            refine acallC_by 1 (his) ?_ (by kernel_rfl) ?_ ?_ ?_ ?_ ?_ ?_ ?_ ?_ ?_ <;> simp [PO]
            refine Left.mk ((sa, j, q, none)) rfl ?_ ?_
            · simp [deF, PO]
            · exact hc
          | some (n, l), hc =>
            simp [deF, PO, hba]
            refine acallC_by 1 (his) ?_ (by kernel_rfl) ?_ ?_ ?_ ?_ ?_ ?_ ?_ ?_ ?_ <;> simp [PO]
            refine Left.mk ((sa, j, q, some (n, l))) rfl ?_ ?_
            · simp [deF, PO]
            · exact hc
      · match g, hc with
        | none, hc =>
          simp [deF, PO, hba]
          refine Left.mk ((sa, j, q, none)) rfl ?_ ?_
          · simp [deF, PO]
          · exact hc
        | some (n, l), hc =>
          simp [deF, PO, hba]
          refine Left.mk ((sa, j, q, some (n, l))) rfl ?_ ?_
          · simp [deF, PO]
          · exact hc
    · rintro v ⟨sa, j, q, g⟩ hc
      have hf2 := hc.fwd
      simp only at hf2
      obtain ⟨sb, hwb, hfb, hgb⟩ := want_b hk hf2.lt [125]
      have hFb := ((hf1.trans hF6).trans hf2).trans hfb
      have hleb : s.at_ + 1 ≤ sb.at_ := ((hF6.trans hf2).trans hfb).le
      have hnv : t.kind = 4 → t.text = [118, 97, 114] → ∀ P : Prop, P := fun _ e P => by rw [hx] at e; simp at e
      match g, hc with
      | none, hc =>
        simp [deF, PO]
        refine acallC_by 1 (hwb) ?_ (by kernel_rfl) ?_ ?_ ?_ ?_ ?_ ?_ ?_ ?_ ?_ <;> simp [PO]
        refine acallC_by 0 (t_one 2 t.at_ ⟨nm.toArray⟩ 0 0 []) ?_ (by kernel_rfl) ?_ ?_ ?_ ?_ ?_ ?_ ?_ ?_ ?_ <;> simp [PO]
        exact ⟨.mk 2 nm 0 t.at_ [] 0 [], sb, rfl, rfl, hFb, fun _ => hleb, fun h4 e _ => hnv h4 e _⟩
      | some (n, l), hc =>
        obtain ⟨_, hl1, hl2, hl3⟩ := hc
        have hta := flatN_take l (n + 1) hl1.symm
        simp [deF, PO]
        refine acallC_by 1 (hwb) ?_ (by kernel_rfl) ?_ ?_ ?_ ?_ ?_ ?_ ?_ ?_ ?_ <;> simp [PO]
        refine acallC_by 0 (t_one 2 t.at_ ⟨nm.toArray⟩ 7 (n + 1) (flatN l)) ?_ (by kernel_rfl) ?_ ?_ ?_ ?_ ?_ ?_ ?_ ?_ ?_ <;> simp [PO, flatN_length, hl1, hta]
        exact ⟨.mk 2 nm 0 t.at_ [] 0 l, sb, by simp [Tr.av, Tr.cells, hl1, vecNs], rfl, hFb, fun _ => hleb, fun h4 e _ => hnv h4 e _⟩
end Go.Proofs.Ytoaodlfmhioigaa
end
