/- A part of the proof of TypesWrittenSaid. No condition. -/
import Derived.Test.YtoaodlfmhioigaaM12
set_option linter.unusedSimpArgs false
set_option linter.unusedVariables false
section
namespace Go.Proofs.Ytoaodlfmhioigaa

def stF (toks : List Tok) (v : Nat → AV) : Gat → AS
  | (s, _, none) => ⟨[.ref 0 0 0, v 1, .val (.slice none 0 0), .val (.slice none 0 0), v 4, v 5, v 6, v 7, v 8, v 9, v 10, v 11, v 12, v 13, v 14, v 15, v 16, v 17, v 18, v 19, v 20, v 21, v 22, v 23, v 24, v 25, v 26, v 27, v 28, v 29, v 30, v 31, v 32, v 33, v 34, v 35, v 36, v 37], [PO toks s]⟩
  | (s, j, some (n, l)) => ⟨[.ref 0 0 0, v 1, .val (.slice none 0 0), .row 3 7 0 (n + 1) n, v 4, v 5, v 6, v 7, v 8, v 9, v 10, v 11, v 12, v 13, v 14, v 15, v 16, v 17, v 18, v 19, v 20, v 21, v 22, v 23, v 24, v 25, v 26, v 27, v 28, v 29, v 30, v 31, v 32, v 33, v 34, v 35, v 36, v 37], [PO toks s, ⟨true, 0, none, 25, j.cells⟩, ⟨true, 0, some 7, 25, j.cells⟩, ⟨true, n, some 7, 25, flatN l⟩]⟩

set_option maxRecDepth 20000 in
set_option maxHeartbeats 4000000 in
theorem t_stmts_step {toks : List Tok} (hk : TK toks) {n : Nat} (hp : ∀ s' : PS, s'.at_ < toks.length → s'.bad < 0 → meas toks s' ≤ n → NodeAt toks 60 s')
    (s : PS) (h : s.at_ < toks.length) (hm : meas toks s ≤ n) : Tri Try.prog 56 [.ref 0 0 0] [PO toks s] (ListR toks s) := by
  have hlen := hk.len
  refine tri_by Try.func56 (by rfl) _ Try.ntmps56 _ (by rfl) ?_
  simp [PO]
  refine loopC_to 0 (stF toks) (GatC (fun _ => True) toks s) (GatC (fun _ => True) toks s) (fun i => meas toks i.1) (s, noneT, none) (by rfl) (Fwd.refl h) ?_ ?_
  · rintro v ⟨s2, j, g⟩ hc
    have hf2 := hc.fwd
    simp only at hf2
    have hm2 := meas_fwd hf2
    by_cases hb : s2.bad < 0
    · obtain ⟨b, his, hib⟩ := among_b hk hf2.lt [32, 125, 32, 99, 97, 115, 101, 32, 100, 101, 102, 97, 117, 108, 116, 32] (by decide)
      obtain ⟨b2, s2', hgt, hfg, hg1, hg2⟩ := got_b hk hf2.lt [59]
      cases b
      · skip
        match g, hc with
        | none, hc =>
          cases b2
          · obtain rfl := hg2 rfl
            have hst := hp s2' hf2.lt hb (by omega)
            simp [stF, PO, hb]
            refine acallC_by 1 (his) ?_ (by kernel_rfl) ?_ ?_ ?_ ?_ ?_ ?_ ?_ ?_ ?_ <;> simp [PO]
            refine acallC_by 1 (hgt) ?_ (by kernel_rfl) ?_ ?_ ?_ ?_ ?_ ?_ ?_ ?_ ?_ <;> simp [PO]
            refine acallC_of 1 (hst) ?_ (by kernel_rfl) ?_ ?_ ?_ ?_ ?_ ?_ <;> simp [PO]
            rintro r o ⟨⟨k, x, m, a, y, rf, kids⟩, s3, rfl, rfl, hf3, hg3⟩
            have hle3 := hf3.le
            by_cases hb3 : s3.bad < 0
            · obtain ⟨b4, his4, _⟩ := among_b hk hf3.lt [32, 125, 32, 99, 97, 115, 101, 32, 100, 101, 102, 97, 117, 108, 116, 32] (by decide)
              simp [PO, Tr.av, Tr.cells, hb3]
              cases b4
              · obtain ⟨s5, hw5, hf5, hg5⟩ := want_b hk hf3.lt [59]
                have hf35 := hf3.trans hf5
                have hg35 : s5.bad < 0 → s2'.at_ < s5.at_ := fun e => by have := hg5 e; omega
                refine acallC_by 1 (his4) ?_ (by kernel_rfl) ?_ ?_ ?_ ?_ ?_ ?_ ?_ ?_ ?_ <;> simp [PO]
                refine acallC_by 1 (hw5) ?_ (by kernel_rfl) ?_ ?_ ?_ ?_ ?_ ?_ ?_ ?_ ?_ <;> simp [PO]
                refine Again.mk 4 ((s5, .mk k x m a y rf kids, some (0, [.mk k x m a y rf kids]))) (by simp) (by simp) (by simp) rfl ?_ ?_ ?_
                · simp [stF, PO, flatN, Tr.cells]
                · exact ⟨hf2.trans hf35, rfl, Nat.zero_le _, fun e => ⟨by have := hg35 e; show 0 < (s5).at_; omega, fun _ _ => trivial⟩⟩
                · exact meas_lt hf35 hb hg35
              · refine acallC_by 1 (his4) ?_ (by kernel_rfl) ?_ ?_ ?_ ?_ ?_ ?_ ?_ ?_ ?_ <;> simp [PO]
                refine Again.mk 4 ((s3, .mk k x m a y rf kids, some (0, [.mk k x m a y rf kids]))) (by simp) (by simp) (by simp) rfl ?_ ?_ ?_
                · simp [stF, PO, flatN, Tr.cells]
                · exact ⟨hf2.trans hf3, rfl, Nat.zero_le _, fun e => ⟨by have := hg3 e; show 0 < (s3).at_; omega, fun _ _ => trivial⟩⟩
                · exact meas_lt hf3 hb hg3
            · simp [PO, Tr.av, Tr.cells, hb3]
              refine Again.mk 4 ((s3, .mk k x m a y rf kids, some (0, [.mk k x m a y rf kids]))) (by simp) (by simp) (by simp) rfl ?_ ?_ ?_
              · simp [stF, PO, flatN, Tr.cells]
              · exact ⟨hf2.trans hf3, rfl, Nat.zero_le _, fun e => ⟨by have := hg3 e; show 0 < (s3).at_; omega, fun _ _ => trivial⟩⟩
              · exact meas_lt hf3 hb hg3
          · obtain ⟨hb2, rfl⟩ := hg1 rfl
            simp [stF, PO, hb]
            refine acallC_by 1 (his) ?_ (by kernel_rfl) ?_ ?_ ?_ ?_ ?_ ?_ ?_ ?_ ?_ <;> simp [PO]
            refine acallC_by 1 (hgt) ?_ (by kernel_rfl) ?_ ?_ ?_ ?_ ?_ ?_ ?_ ?_ ?_ <;> simp [PO, PS.next]
            refine Again.mk 1 ((s2.next, j, none)) (by simp) (by simp) (by simp) rfl ?_ ?_ ?_
            · simp [stF, PO, PS.next]
            · exact hf2.trans hfg
            · exact meas_next hf2.lt hb
        | some (n, l), hc =>
          obtain ⟨_, hl1, hl2, hl3⟩ := hc
          have hlt2 := hf2.lt
          cases b2
          · obtain rfl := hg2 rfl
            have hst := hp s2' hf2.lt hb (by omega)
            simp [stF, PO, hb]
            refine acallC_by 1 (his) ?_ (by kernel_rfl) ?_ ?_ ?_ ?_ ?_ ?_ ?_ ?_ ?_ <;> simp [PO]
            refine acallC_by 1 (hgt) ?_ (by kernel_rfl) ?_ ?_ ?_ ?_ ?_ ?_ ?_ ?_ ?_ <;> simp [PO]
            refine acallC_of 1 (hst) ?_ (by kernel_rfl) ?_ ?_ ?_ ?_ ?_ ?_ <;> simp [PO]
            rintro r o ⟨⟨k, x, m, a, y, rf, kids⟩, s3, rfl, rfl, hf3, hg3⟩
            have hle3 := hf3.le
            have hl4 := (hl3 hb).1
            obtain ⟨hq1, hq2⟩ := len_ok (n := n + 1 + 1) (by omega)
            have ht := flatN_take l (n + 1) hl1.symm
            by_cases hb3 : s3.bad < 0
            · obtain ⟨b4, his4, _⟩ := among_b hk hf3.lt [32, 125, 32, 99, 97, 115, 101, 32, 100, 101, 102, 97, 117, 108, 116, 32] (by decide)
              simp [PO, Tr.av, Tr.cells, hb3, flatN_length, hl1, hq1, hq2, ht]
              cases b4
              · obtain ⟨s5, hw5, hf5, hg5⟩ := want_b hk hf3.lt [59]
                have hf35 := hf3.trans hf5
                have hg35 : s5.bad < 0 → s2'.at_ < s5.at_ := fun e => by have := hg5 e; omega
                refine acallC_by 1 (his4) ?_ (by kernel_rfl) ?_ ?_ ?_ ?_ ?_ ?_ ?_ ?_ ?_ <;> simp [PO]
                refine acallC_by 1 (hw5) ?_ (by kernel_rfl) ?_ ?_ ?_ ?_ ?_ ?_ ?_ ?_ ?_ <;> simp [PO]
                refine Again.mk 4 ((s5, j, some (n + 1, l ++ [.mk k x m a y rf kids]))) (by simp) (by simp) (by simp) rfl ?_ ?_ ?_
                · simp [stF, PO, flatN, Tr.cells, flatN_append]
                · exact ⟨hf2.trans hf35, by simp [hl1], by show n + 1 ≤ (s5).at_; have := (hf35).le; omega, fun e => ⟨by show n + 1 < (s5).at_; have := hg35 e; omega, fun _ _ => trivial⟩⟩
                · exact meas_lt hf35 hb hg35
              · refine acallC_by 1 (his4) ?_ (by kernel_rfl) ?_ ?_ ?_ ?_ ?_ ?_ ?_ ?_ ?_ <;> simp [PO]
                refine Again.mk 4 ((s3, j, some (n + 1, l ++ [.mk k x m a y rf kids]))) (by simp) (by simp) (by simp) rfl ?_ ?_ ?_
                · simp [stF, PO, flatN, Tr.cells, flatN_append]
                · exact ⟨hf2.trans hf3, by simp [hl1], by show n + 1 ≤ (s3).at_; have := (hf3).le; omega, fun e => ⟨by show n + 1 < (s3).at_; have := hg3 e; omega, fun _ _ => trivial⟩⟩
                · exact meas_lt hf3 hb hg3
            · simp [PO, Tr.av, Tr.cells, hb3, flatN_length, hl1, hq1, hq2, ht]
              refine Again.mk 4 ((s3, j, some (n + 1, l ++ [.mk k x m a y rf kids]))) (by simp) (by simp) (by simp) rfl ?_ ?_ ?_
              · simp [stF, PO, flatN, Tr.cells, flatN_append]
              · exact ⟨hf2.trans hf3, by simp [hl1], by show n + 1 ≤ (s3).at_; have := (hf3).le; omega, fun e => ⟨by show n + 1 < (s3).at_; have := hg3 e; omega, fun _ _ => trivial⟩⟩
              · exact meas_lt hf3 hb hg3
          · obtain ⟨hb2, rfl⟩ := hg1 rfl
            simp [stF, PO, hb]
            refine acallC_by 1 (his) ?_ (by kernel_rfl) ?_ ?_ ?_ ?_ ?_ ?_ ?_ ?_ ?_ <;> simp [PO]
            refine acallC_by 1 (hgt) ?_ (by kernel_rfl) ?_ ?_ ?_ ?_ ?_ ?_ ?_ ?_ ?_ <;> simp [PO, PS.next]
            refine Again.mk 4 ((s2.next, j, some (n, l))) (by simp) (by simp) (by simp) rfl ?_ ?_ ?_
            · simp [stF, PO, PS.next]
            · exact ⟨hf2.trans hfg, hl1, by show n ≤ s2.at_ + 1; have : n ≤ s2.at_ := hl2; omega, fun e => ⟨by show n < s2.at_ + 1; have : n ≤ s2.at_ := hl2; omega, fun _ _ => trivial⟩⟩
            · exact meas_next hf2.lt hb
      · skip
        match g, hc with
        | none, hc =>
          simp [stF, PO, hb]
          refine acallC_by 1 (his) ?_ (by kernel_rfl) ?_ ?_ ?_ ?_ ?_ ?_ ?_ ?_ ?_ <;> simp [PO]
          refine Left.mk ((s2, j, none)) rfl ?_ ?_
          · simp [stF, PO]
          · exact hc
        | some (n, l), hc =>
          simp [stF, PO, hb]
          refine acallC_by 1 (his) ?_ (by kernel_rfl) ?_ ?_ ?_ ?_ ?_ ?_ ?_ ?_ ?_ <;> simp [PO]
          refine Left.mk ((s2, j, some (n, l))) rfl ?_ ?_
          · simp [stF, PO]
          · exact hc
    · skip
      match g, hc with
      | none, hc =>
        simp [stF, PO, hb]
        refine Left.mk ((s2, j, none)) rfl ?_ ?_
        · simp [stF, PO]
        · exact hc
      | some (n, l), hc =>
        simp [stF, PO, hb]
        refine Left.mk ((s2, j, some (n, l))) rfl ?_ ?_
        · simp [stF, PO]
        · exact hc
  · rintro v ⟨s2, j, g⟩ hc
    have hf2 := hc.fwd
    simp only at hf2
    match g, hc with
    | none, hc =>
      simp [stF, PO]
      exact ⟨[], s2, rfl, rfl, hf2, Nat.zero_le _⟩
    | some (n, l), hc =>
      obtain ⟨_, hl1, hl2, hl3⟩ := hc
      have hl2 : n ≤ s2.at_ := hl2
      have ht := flatN_take l (n + 1) hl1.symm
      simp [stF, PO, flatN_length, hl1, ht]
      exact ⟨l, s2, by simp [kidsV, vecN, hl1], rfl, hf2, by omega⟩
end Go.Proofs.Ytoaodlfmhioigaa
end
