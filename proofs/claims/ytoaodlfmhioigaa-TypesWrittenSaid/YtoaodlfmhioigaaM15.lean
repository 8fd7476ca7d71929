/- A part of the proof of TypesWrittenSaid. No condition. -/
import Derived.Test.YtoaodlfmhioigaaM14
set_option linter.unusedSimpArgs false
set_option linter.unusedVariables false
section
namespace Go.Proofs.Ytoaodlfmhioigaa

abbrev Gat2 := PS × Tr × Tr × Option (Nat × List Tr)
def fuF (toks : List Tok) (a : Int) (v : Nat → AV) : Gat2 → AS
  | (s, _, _, none) => ⟨[.ref 0 0 0, v 1, .val (.slice none 0 0), I a, .val (.slice none 0 0), v 5, v 6, v 7, v 8, v 9, v 10, v 11, v 12, v 13, v 14, v 15, v 16, v 17, v 18, v 19, v 20, v 21, v 22, v 23, v 24, v 25, v 26, v 27, v 28, v 29, v 30, v 31, v 32, v 33, v 34, v 35, v 36, v 37, v 38, v 39, v 40, v 41, v 42, v 43, v 44, v 45, v 46, v 47, v 48, v 49, v 50, v 51, v 52, v 53, v 54, v 55, v 56, v 57, v 58, v 59, v 60, v 61, v 62, v 63, v 64, v 65, v 66, v 67, v 68, v 69, v 70, v 71, v 72, v 73, v 74, v 75, v 76, v 77, v 78, v 79], [PO toks s]⟩
  | (s, j, q, some (n, l)) => ⟨[.ref 0 0 0, v 1, .val (.slice none 0 0), I a, .row 4 7 0 (n + 1) n, v 5, v 6, v 7, v 8, v 9, v 10, v 11, v 12, v 13, v 14, v 15, v 16, v 17, v 18, v 19, v 20, v 21, v 22, v 23, v 24, v 25, v 26, v 27, v 28, v 29, v 30, v 31, v 32, v 33, v 34, v 35, v 36, v 37, v 38, v 39, v 40, v 41, v 42, v 43, v 44, v 45, v 46, v 47, v 48, v 49, v 50, v 51, v 52, v 53, v 54, v 55, v 56, v 57, v 58, v 59, v 60, v 61, v 62, v 63, v 64, v 65, v 66, v 67, v 68, v 69, v 70, v 71, v 72, v 73, v 74, v 75, v 76, v 77, v 78, v 79], [PO toks s, ⟨true, 0, none, 25, j.cells⟩, ⟨false, 0, some 7, 25, j.cells⟩, ⟨true, 0, some 7, 25, q.cells⟩, ⟨true, n, some 7, 25, flatN l⟩]⟩
def GatC2 (toks : List Tok) (s1 : PS) : Gat2 → Prop
  | (s, _, _, none) => Fwd toks s1 s
  | (s, _, _, some (n, l)) => Fwd toks s1 s ∧ l.length = n + 1 ∧ n ≤ s.at_ ∧ (s.bad < 0 → n < s.at_)
theorem GatC2.fwd {toks : List Tok} {s1 : PS} : ∀ {i : Gat2}, GatC2 toks s1 i → Fwd toks s1 i.1
  | (_, _, _, none), h => h
  | (_, _, _, some (_, _)), h => h.1
def KidsR (toks : List Tok) (s : PS) (r : AV) (o : List AO) : Prop := ∃ (l : List Tr) (s' : PS), r = kidsV l ∧ o = [PO toks s'] ∧ Fwd toks s s'

set_option maxRecDepth 20000 in
set_option maxHeartbeats 4000000 in
theorem t_function_step {toks : List Tok} (hk : TK toks) {n0 : Nat} (hbl : ∀ s' : PS, s'.at_ < toks.length → meas toks s' ≤ n0 → NodeAt toks 50 s')
    (s : PS) (h : s.at_ < toks.length) (hm : meas toks s ≤ n0) : Tri Try.prog 32 [.ref 0 0 0] [PO toks s] (KidsR toks s) := by
  have hlen := hk.len
  have h3m : (3 : Nat) ≤ maxLen := by decide
  obtain ⟨t, hpk, ht, hok⟩ := peek_b hk h
  obtain ⟨s1, hw1, hf1, hg1⟩ := want_b hk h [40]
  refine tri_by Try.func32 (by rfl) _ Try.ntmps32 _ (by rfl) ?_
  simp [PO]
  refine acallC_by 1 (hpk) ?_ (by kernel_rfl) ?_ ?_ ?_ ?_ ?_ ?_ ?_ ?_ ?_ <;> simp [PO, Tok.cells]
  refine acallC_by 1 (hw1) ?_ (by kernel_rfl) ?_ ?_ ?_ ?_ ?_ ?_ ?_ ?_ ?_ <;> simp [PO]
  refine loopC_to 0 (fuF toks t.at_) (GatC2 toks s1) (GatC2 toks s1) (fun i => meas toks i.1) (s1, noneT, noneT, none) (by rfl) (Fwd.refl hf1.lt) ?_ ?_
  · rintro v ⟨s2, j, q, g⟩ hc
    have hf2 := hc.fwd
    simp only at hf2
    by_cases hb : s2.bad < 0
    · obtain ⟨b, his, hib⟩ := is_b hk hf2.lt [41]
      cases b
      · match g, hc with
        | none, hc =>
          obtain ⟨u, hpk2, hu, hok2⟩ := peek_b hk hf2.lt
          obtain ⟨x, s3, hnm, hf3, hg3⟩ := name_b hk hf2.lt
          simp [fuF, PO, hb]
          refine acallC_by 1 (his) ?_ (by kernel_rfl) ?_ ?_ ?_ ?_ ?_ ?_ ?_ ?_ ?_ <;> simp [PO]
          refine acallC_by 1 (hpk2) ?_ (by kernel_rfl) ?_ ?_ ?_ ?_ ?_ ?_ ?_ ?_ ?_ <;> simp [PO, Tok.cells]
          refine acallC_by 1 (hnm) ?_ (by kernel_rfl) ?_ ?_ ?_ ?_ ?_ ?_ ?_ ?_ ?_ <;> simp [PO]
          refine acallC_of 1 (t_typ hk s3 hf3.lt) ?_ (by kernel_rfl) ?_ ?_ ?_ ?_ ?_ ?_ <;> simp [PO]
          rintro r o ⟨⟨k, y, m, c, z, rf, kids⟩, s4, rfl, rfl, hf4, hg4⟩
          have hf34 := hf3.trans hf4
          have hg34 : s4.bad < 0 → s2.at_ < s4.at_ := fun e => by have := (hg3 (hf4.bad e)).1; have := hf4.le; omega
          simp [PO, Tr.av, Tr.cells]
          refine acallC_by 0 (t_one 7 u.at_ ⟨x.toArray⟩ 7 1 (Tr.mk k y m c z rf kids).cells) ?_ (by kernel_rfl) ?_ ?_ ?_ ?_ ?_ ?_ ?_ ?_ ?_ <;> simp [PO, Tr.cells]
          refine Again.mk 5 ((s4, .mk k y m c z rf kids, .mk 7 x 0 u.at_ [] 0 [.mk k y m c z rf kids], some (0, [.mk 7 x 0 u.at_ [] 0 [.mk k y m c z rf kids]]))) (by simp) (by simp) (by simp) rfl ?_ ?_ ?_
          · simp [fuF, PO, flatN, Tr.cells, vecN1]
          · exact ⟨hf2.trans hf34, rfl, Nat.zero_le _, fun e => by show 0 < s4.at_; have := hg34 e; omega⟩
          · exact meas_lt hf34 hb hg34
        | some (n, l), hc =>
          obtain ⟨_, hl1, hl2, hl3⟩ := hc
          have hl3 : n < s2.at_ := hl3 hb
          obtain ⟨s3, hw3, hf3, hg3⟩ := want_b hk hf2.lt [44]
          obtain ⟨u, hpk2, hu, hok2⟩ := peek_b hk hf3.lt
          obtain ⟨x, s4, hnm, hf4, hg4⟩ := name_b hk hf3.lt
          have hlt2 := hf2.lt
          obtain ⟨hq1, hq2⟩ := len_ok (n := n + 1 + 1) (by omega)
          have hta := flatN_take l (n + 1) hl1.symm
          simp [fuF, PO, hb]
          refine acallC_by 1 (his) ?_ (by kernel_rfl) ?_ ?_ ?_ ?_ ?_ ?_ ?_ ?_ ?_ <;> simp [PO]
          refine acallC_by 1 (hw3) ?_ (by kernel_rfl) ?_ ?_ ?_ ?_ ?_ ?_ ?_ ?_ ?_ <;> simp [PO]
          refine acallC_by 1 (hpk2) ?_ (by kernel_rfl) ?_ ?_ ?_ ?_ ?_ ?_ ?_ ?_ ?_ <;> simp [PO, Tok.cells]
          refine acallC_by 1 (hnm) ?_ (by kernel_rfl) ?_ ?_ ?_ ?_ ?_ ?_ ?_ ?_ ?_ <;> simp [PO]
          refine acallC_of 1 (t_typ hk s4 hf4.lt) ?_ (by kernel_rfl) ?_ ?_ ?_ ?_ ?_ ?_ <;> simp [PO]
          rintro r o ⟨⟨k, y, m, c, z, rf, kids⟩, s5, rfl, rfl, hf5, hg5⟩
          have hf35 := (hf3.trans hf4).trans hf5
          have hg35 : s5.bad < 0 → s2.at_ < s5.at_ := fun e => by have := hg3 (hf4.bad (hf5.bad e)); have := hf4.le; have := hf5.le; omega
          have hle35 := hf35.le
          simp [PO, Tr.av, Tr.cells]
          refine acallC_by 0 (t_one 7 u.at_ ⟨x.toArray⟩ 7 1 (Tr.mk k y m c z rf kids).cells) ?_ (by kernel_rfl) ?_ ?_ ?_ ?_ ?_ ?_ ?_ ?_ ?_ <;> simp [PO, Tr.cells, flatN_length, hl1, hq1, hq2, hta]
          refine Again.mk 5 ((s5, j, q, some (n + 1, l ++ [.mk 7 x 0 u.at_ [] 0 [.mk k y m c z rf kids]]))) (by simp) (by simp) (by simp) rfl ?_ ?_ ?_
          · simp [fuF, PO, flatN, Tr.cells, flatN_append, vecN1]
          · exact ⟨hf2.trans hf35, by simp [hl1], by show n + 1 ≤ s5.at_; omega, fun e => by show n + 1 < s5.at_; have := hg35 e; omega⟩
          · exact meas_lt hf35 hb hg35
      · match g, hc with
        | none, hc =>
          simp [fuF, PO, hb]
          refine acallC_by 1 (his) ?_ (by kernel_rfl) ?_ ?_ ?_ ?_ ?_ ?_ ?_ ?_ ?_ <;> simp [PO]
          refine Left.mk ((s2, j, q, none)) rfl ?_ ?_
          · simp [fuF, PO]
          · exact hc
        | some (n, l), hc =>
          simp [fuF, PO, hb]
          refine acallC_by 1 (his) ?_ (by kernel_rfl) ?_ ?_ ?_ ?_ ?_ ?_ ?_ ?_ ?_ <;> simp [PO]
          refine Left.mk ((s2, j, q, some (n, l))) rfl ?_ ?_
          · simp [fuF, PO]
          · exact hc
    · match g, hc with
      | none, hc =>
        simp [fuF, PO, hb]
        refine Left.mk ((s2, j, q, none)) rfl ?_ ?_
        · simp [fuF, PO]
        · exact hc
      | some (n, l), hc =>
        simp [fuF, PO, hb]
        refine Left.mk ((s2, j, q, some (n, l))) rfl ?_ ?_
        · simp [fuF, PO]
        · exact hc
  · rintro v ⟨s2, j, q, g⟩ hc
    have hf2 := hc.fwd
    simp only at hf2
    obtain ⟨s3, hw3, hf3, hg3⟩ := want_b hk hf2.lt [41]
    have hF3 := (hf1.trans hf2).trans hf3
    match g, hc with
    | none, hc =>
      by_cases hb : s3.bad < 0
      · obtain ⟨b, his, hib⟩ := is_b hk hf3.lt [123]
        cases b
        · skip
          simp [fuF, PO]
          refine acallC_by 1 (hw3) ?_ (by kernel_rfl) ?_ ?_ ?_ ?_ ?_ ?_ ?_ ?_ ?_ <;> simp [PO]
          refine acallC_by 0 (t_none) ?_ (by kernel_rfl) ?_ ?_ ?_ ?_ ?_ ?_ ?_ ?_ ?_ <;> simp [hb]
          refine acallC_by 1 (his) ?_ (by kernel_rfl) ?_ ?_ ?_ ?_ ?_ ?_ ?_ ?_ ?_ <;> simp [PO]
          refine acallC_of 1 (t_typ hk s3 hf3.lt) ?_ (by kernel_rfl) ?_ ?_ ?_ ?_ ?_ ?_ <;> simp [PO]
          rintro r o ⟨⟨k, y, m, c, z, rf, kids⟩, s4, rfl, rfl, hf4, hg4⟩
          have hF4 := hF3.trans hf4
          simp [PO, Tr.av, Tr.cells]
          have hst : ({ s4 with head := false } : PS).at_ < toks.length := (hF4).lt
          have hms : meas toks { s4 with head := false } ≤ n0 := by have := meas_fwd (hF4); show meas toks s4 ≤ n0; omega
          refine acallC_of 1 (hbl { s4 with head := false } hst hms) ?_ (by kernel_rfl) ?_ ?_ ?_ ?_ ?_ ?_ <;> simp [PO]
          rintro r o ⟨⟨kb, xb, mb, cb, yb, rb, kidsb⟩, sb, rfl, rfl, hfb, hgb⟩
          simp [PO, Tr.av, Tr.cells]
          refine adrawC_by [] [0, 1, 3, 4] (.late 2 (.late 5 (.late 6 .fin))) (by kernel_rfl) (by kernel_rfl) (by kernel_rfl) ?_
          simp [PO, Tr.cells]
          refine acallC_by 0 (t_one 6 t.at_ ⟨#[]⟩ 0 0 []) ?_ (by kernel_rfl) ?_ ?_ ?_ ?_ ?_ ?_ ?_ ?_ ?_ <;> simp [PO, Tr.cells, noneT_cells, h3m, vecN0, flatN]
          exact ⟨[(Tr.mk 6 [] 0 t.at_ [] 0 []), Tr.mk k y m c z rf kids, .mk kb xb mb cb yb rb kidsb], { sb with head := s4.head }, by simp [kidsV, vecN3, flatN, Tr.cells, noneT_cells, vecN0], rfl, ⟨Nat.le_trans (hF4).le hfb.le, hfb.lt, fun e => (hF4).bad (hfb.bad e)⟩⟩
        · skip
          simp [fuF, PO]
          refine acallC_by 1 (hw3) ?_ (by kernel_rfl) ?_ ?_ ?_ ?_ ?_ ?_ ?_ ?_ ?_ <;> simp [PO]
          refine acallC_by 0 (t_none) ?_ (by kernel_rfl) ?_ ?_ ?_ ?_ ?_ ?_ ?_ ?_ ?_ <;> simp [hb]
          refine acallC_by 1 (his) ?_ (by kernel_rfl) ?_ ?_ ?_ ?_ ?_ ?_ ?_ ?_ ?_ <;> simp [PO]
          have hst : ({ s3 with head := false } : PS).at_ < toks.length := (hF3).lt
          have hms : meas toks { s3 with head := false } ≤ n0 := by have := meas_fwd (hF3); show meas toks s3 ≤ n0; omega
          refine acallC_of 1 (hbl { s3 with head := false } hst hms) ?_ (by kernel_rfl) ?_ ?_ ?_ ?_ ?_ ?_ <;> simp [PO]
          rintro r o ⟨⟨kb, xb, mb, cb, yb, rb, kidsb⟩, sb, rfl, rfl, hfb, hgb⟩
          simp [PO, Tr.av, Tr.cells]
          refine adrawC_by [] [0, 1, 3, 4] (.late 2 (.late 5 (.late 6 .fin))) (by kernel_rfl) (by kernel_rfl) (by kernel_rfl) ?_
          simp [PO, Tr.cells]
          refine acallC_by 0 (t_one 6 t.at_ ⟨#[]⟩ 0 0 []) ?_ (by kernel_rfl) ?_ ?_ ?_ ?_ ?_ ?_ ?_ ?_ ?_ <;> simp [PO, Tr.cells, noneT_cells, h3m, vecN0, flatN]
          exact ⟨[(Tr.mk 6 [] 0 t.at_ [] 0 []), noneT, .mk kb xb mb cb yb rb kidsb], { sb with head := s3.head }, by simp [kidsV, vecN3, flatN, Tr.cells, noneT_cells, vecN0], rfl, ⟨Nat.le_trans (hF3).le hfb.le, hfb.lt, fun e => (hF3).bad (hfb.bad e)⟩⟩
      · skip
        simp [fuF, PO]
        refine acallC_by 1 (hw3) ?_ (by kernel_rfl) ?_ ?_ ?_ ?_ ?_ ?_ ?_ ?_ ?_ <;> simp [PO]
        refine acallC_by 0 (t_none) ?_ (by kernel_rfl) ?_ ?_ ?_ ?_ ?_ ?_ ?_ ?_ ?_ <;> simp [hb]
        have hst : ({ s3 with head := false } : PS).at_ < toks.length := (hF3).lt
        have hms : meas toks { s3 with head := false } ≤ n0 := by have := meas_fwd (hF3); show meas toks s3 ≤ n0; omega
        refine acallC_of 1 (hbl { s3 with head := false } hst hms) ?_ (by kernel_rfl) ?_ ?_ ?_ ?_ ?_ ?_ <;> simp [PO]
        rintro r o ⟨⟨kb, xb, mb, cb, yb, rb, kidsb⟩, sb, rfl, rfl, hfb, hgb⟩
        simp [PO, Tr.av, Tr.cells]
        refine adrawC_by [] [0, 1, 3, 4] (.late 2 (.late 5 (.late 6 .fin))) (by kernel_rfl) (by kernel_rfl) (by kernel_rfl) ?_
        simp [PO, Tr.cells]
        refine acallC_by 0 (t_one 6 t.at_ ⟨#[]⟩ 0 0 []) ?_ (by kernel_rfl) ?_ ?_ ?_ ?_ ?_ ?_ ?_ ?_ ?_ <;> simp [PO, Tr.cells, noneT_cells, h3m, vecN0, flatN]
        exact ⟨[(Tr.mk 6 [] 0 t.at_ [] 0 []), noneT, .mk kb xb mb cb yb rb kidsb], { sb with head := s3.head }, by simp [kidsV, vecN3, flatN, Tr.cells, noneT_cells, vecN0], rfl, ⟨Nat.le_trans (hF3).le hfb.le, hfb.lt, fun e => (hF3).bad (hfb.bad e)⟩⟩
    | some (n, l), hc =>
      obtain ⟨_, hl1, hl2, hl3⟩ := hc
      have hta := flatN_take l (n + 1) hl1.symm
      by_cases hb : s3.bad < 0
      · obtain ⟨b, his, hib⟩ := is_b hk hf3.lt [123]
        cases b
        · skip
          simp [fuF, PO]
          refine acallC_by 1 (hw3) ?_ (by kernel_rfl) ?_ ?_ ?_ ?_ ?_ ?_ ?_ ?_ ?_ <;> simp [PO]
          refine acallC_by 0 (t_none) ?_ (by kernel_rfl) ?_ ?_ ?_ ?_ ?_ ?_ ?_ ?_ ?_ <;> simp [hb]
          refine acallC_by 1 (his) ?_ (by kernel_rfl) ?_ ?_ ?_ ?_ ?_ ?_ ?_ ?_ ?_ <;> simp [PO]
          refine acallC_of 1 (t_typ hk s3 hf3.lt) ?_ (by kernel_rfl) ?_ ?_ ?_ ?_ ?_ ?_ <;> simp [PO]
          rintro r o ⟨⟨k, y, m, c, z, rf, kids⟩, s4, rfl, rfl, hf4, hg4⟩
          have hF4 := hF3.trans hf4
          simp [PO, Tr.av, Tr.cells]
          have hst : ({ s4 with head := false } : PS).at_ < toks.length := (hF4).lt
          have hms : meas toks { s4 with head := false } ≤ n0 := by have := meas_fwd (hF4); show meas toks s4 ≤ n0; omega
          refine acallC_of 1 (hbl { s4 with head := false } hst hms) ?_ (by kernel_rfl) ?_ ?_ ?_ ?_ ?_ ?_ <;> simp [PO]
          rintro r o ⟨⟨kb, xb, mb, cb, yb, rb, kidsb⟩, sb, rfl, rfl, hfb, hgb⟩
          simp [PO, Tr.av, Tr.cells]
          refine adrawC_by [] [0, 1, 3, 4] (.late 2 (.late 5 (.late 6 .fin))) (by kernel_rfl) (by kernel_rfl) (by kernel_rfl) ?_
          simp [PO, Tr.cells]
          refine acallC_by 0 (t_one 6 t.at_ ⟨#[]⟩ 7 (n + 1) (flatN l)) ?_ (by kernel_rfl) ?_ ?_ ?_ ?_ ?_ ?_ ?_ ?_ ?_ <;> simp [PO, Tr.cells, noneT_cells, h3m, flatN_length, hl1, hta]
          exact ⟨[(Tr.mk 6 [] 0 t.at_ [] 0 l), Tr.mk k y m c z rf kids, .mk kb xb mb cb yb rb kidsb], { sb with head := s4.head }, by simp [kidsV, vecN3, flatN, Tr.cells, noneT_cells, hl1, vecNs], rfl, ⟨Nat.le_trans (hF4).le hfb.le, hfb.lt, fun e => (hF4).bad (hfb.bad e)⟩⟩
        · skip
          simp [fuF, PO]
          refine acallC_by 1 (hw3) ?_ (by kernel_rfl) ?_ ?_ ?_ ?_ ?_ ?_ ?_ ?_ ?_ <;> simp [PO]
          refine acallC_by 0 (t_none) ?_ (by kernel_rfl) ?_ ?_ ?_ ?_ ?_ ?_ ?_ ?_ ?_ <;> simp [hb]
          refine acallC_by 1 (his) ?_ (by kernel_rfl) ?_ ?_ ?_ ?_ ?_ ?_ ?_ ?_ ?_ <;> simp [PO]
          have hst : ({ s3 with head := false } : PS).at_ < toks.length := (hF3).lt
          have hms : meas toks { s3 with head := false } ≤ n0 := by have := meas_fwd (hF3); show meas toks s3 ≤ n0; omega
          refine acallC_of 1 (hbl { s3 with head := false } hst hms) ?_ (by kernel_rfl) ?_ ?_ ?_ ?_ ?_ ?_ <;> simp [PO]
          rintro r o ⟨⟨kb, xb, mb, cb, yb, rb, kidsb⟩, sb, rfl, rfl, hfb, hgb⟩
          simp [PO, Tr.av, Tr.cells]
          refine adrawC_by [] [0, 1, 3, 4] (.late 2 (.late 5 (.late 6 .fin))) (by kernel_rfl) (by kernel_rfl) (by kernel_rfl) ?_
          simp [PO, Tr.cells]
          refine acallC_by 0 (t_one 6 t.at_ ⟨#[]⟩ 7 (n + 1) (flatN l)) ?_ (by kernel_rfl) ?_ ?_ ?_ ?_ ?_ ?_ ?_ ?_ ?_ <;> simp [PO, Tr.cells, noneT_cells, h3m, flatN_length, hl1, hta]
          exact ⟨[(Tr.mk 6 [] 0 t.at_ [] 0 l), noneT, .mk kb xb mb cb yb rb kidsb], { sb with head := s3.head }, by simp [kidsV, vecN3, flatN, Tr.cells, noneT_cells, hl1, vecNs], rfl, ⟨Nat.le_trans (hF3).le hfb.le, hfb.lt, fun e => (hF3).bad (hfb.bad e)⟩⟩
      · skip
        simp [fuF, PO]
        refine acallC_by 1 (hw3) ?_ (by kernel_rfl) ?_ ?_ ?_ ?_ ?_ ?_ ?_ ?_ ?_ <;> simp [PO]
        refine acallC_by 0 (t_none) ?_ (by kernel_rfl) ?_ ?_ ?_ ?_ ?_ ?_ ?_ ?_ ?_ <;> simp [hb]
        have hst : ({ s3 with head := false } : PS).at_ < toks.length := (hF3).lt
        have hms : meas toks { s3 with head := false } ≤ n0 := by have := meas_fwd (hF3); show meas toks s3 ≤ n0; omega
        refine acallC_of 1 (hbl { s3 with head := false } hst hms) ?_ (by kernel_rfl) ?_ ?_ ?_ ?_ ?_ ?_ <;> simp [PO]
        rintro r o ⟨⟨kb, xb, mb, cb, yb, rb, kidsb⟩, sb, rfl, rfl, hfb, hgb⟩
        simp [PO, Tr.av, Tr.cells]
        refine adrawC_by [] [0, 1, 3, 4] (.late 2 (.late 5 (.late 6 .fin))) (by kernel_rfl) (by kernel_rfl) (by kernel_rfl) ?_
        simp [PO, Tr.cells]
        refine acallC_by 0 (t_one 6 t.at_ ⟨#[]⟩ 7 (n + 1) (flatN l)) ?_ (by kernel_rfl) ?_ ?_ ?_ ?_ ?_ ?_ ?_ ?_ ?_ <;> simp [PO, Tr.cells, noneT_cells, h3m, flatN_length, hl1, hta]
        exact ⟨[(Tr.mk 6 [] 0 t.at_ [] 0 l), noneT, .mk kb xb mb cb yb rb kidsb], { sb with head := s3.head }, by simp [kidsV, vecN3, flatN, Tr.cells, noneT_cells, hl1, vecNs], rfl, ⟨Nat.le_trans (hF3).le hfb.le, hfb.lt, fun e => (hF3).bad (hfb.bad e)⟩⟩
end Go.Proofs.Ytoaodlfmhioigaa
end
