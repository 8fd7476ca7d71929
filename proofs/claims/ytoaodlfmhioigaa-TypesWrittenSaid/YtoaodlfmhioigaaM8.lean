/- A part of the proof of TypesWrittenSaid. No condition. -/
import Derived.Test.YtoaodlfmhioigaaM7
set_option linter.unusedSimpArgs false
set_option linter.unusedVariables false
section
namespace Go.Proofs.Ytoaodlfmhioigaa
section
variable {toks : List Tok} (hk : TK toks) {s : PS} (h : s.at_ < toks.length)
include hk h

theorem peek_b : ∃ t, TriE Try.prog 14 [.ref 0 0 0] [PO toks s] (.agg t.cells) [PO toks s] ∧ toks[s.at_]? = some t ∧ TokOk toks s.at_ t := by
  obtain ⟨t, ht⟩ := tok_at h
  exact ⟨t, t_peek toks s t ht, ht, hk.ok _ _ ht⟩
theorem wrong_b : ∃ s1, TriE Try.prog 33 [.ref 0 0 0] [PO toks s] zeroN [PO toks s1] ∧ Fwd toks s s1 ∧ ¬ s1.bad < 0 := by
  obtain ⟨t, ht⟩ := tok_at h
  exact ⟨_, t_wrong toks s t ht, fwd_wrong hk ht⟩
theorem is_b (x : Bytes) : ∃ b, TriE Try.prog 29 [.ref 0 0 0, S x] [PO toks s] (B b) [PO toks s] ∧ (b = true → s.bad < 0 ∧ Fwd toks s s.next) := by
  obtain ⟨t, ht⟩ := tok_at h
  refine ⟨_, t_is toks s t x ht, fun e => ?_⟩
  obtain ⟨h1, h2, _⟩ := is_facts e
  exact ⟨h1, fwd_next hk ht h2⟩
theorem among_b (x : Bytes) (hx : x.length < 1048576) : ∃ b, TriE Try.prog 47 [.ref 0 0 0, S x] [PO toks s] (B b) [PO toks s] ∧ (b = true → s.bad < 0 ∧ Fwd toks s s.next) := by
  obtain ⟨t, ht⟩ := tok_at h
  refine ⟨_, t_among toks s t x ht (hk.ok _ _ ht).text hx, fun e => ?_⟩
  obtain ⟨h1, h2, _⟩ := among_facts e
  exact ⟨h1, fwd_next hk ht h2⟩
theorem got_b (x : Bytes) : ∃ b s1, TriE Try.prog 27 [.ref 0 0 0, S x] [PO toks s] (B b) [PO toks s1] ∧ Fwd toks s s1 ∧ (b = true → s.bad < 0 ∧ s1 = s.next) ∧ (b = false → s1 = s) := by
  obtain ⟨t, ht⟩ := tok_at h
  refine ⟨_, _, t_got toks s t x hk.len ht, fwd_got hk x ht, fun e => ?_, fun e => ?_⟩
  · exact ⟨(is_facts e).1, by simp [PS.got, e, PS.next]⟩
  · simp [PS.got, e]
theorem want_b (x : Bytes) : ∃ s1, TriE Try.prog 16 [.ref 0 0 0, S x] [PO toks s] (.tup []) [PO toks s1] ∧ Fwd toks s s1 ∧ (s1.bad < 0 → s.at_ < s1.at_) := by
  obtain ⟨t, ht⟩ := tok_at h
  exact ⟨_, t_want toks s t x hk.len ht, fwd_want hk x ht⟩
theorem name_b : ∃ x s1, TriE Try.prog 28 [.ref 0 0 0] [PO toks s] (S x) [PO toks s1] ∧ Fwd toks s s1 ∧ (s1.bad < 0 → s.at_ < s1.at_ ∧ nameOk x) := by
  obtain ⟨t, ht⟩ := tok_at h
  obtain ⟨h1, h2⟩ := fwd_name hk ht
  refine ⟨_, _, t_name toks s t hk.len ht, h1, fun hb => ?_⟩
  obtain ⟨e1, e2, e3⟩ := h2 hb
  rw [e3]
  exact ⟨e1, e2⟩
end
end Go.Proofs.Ytoaodlfmhioigaa
end

section
namespace Go.Proofs.Ytoaodlfmhioigaa

set_option maxRecDepth 20000 in
theorem t_typ_step {toks : List Tok} (hk : TK toks) {n : Nat} (ih : ∀ s' : PS, s'.at_ < toks.length → meas toks s' < n → Tri Try.prog 30 [.ref 0 0 0] [PO toks s'] (TypR toks s')) (ihf : ∀ (s' : PS) (a : Int), s'.at_ < toks.length → meas toks s' < n → Tri Try.prog 48 [.ref 0 0 0, I a] [PO toks s'] (TypR toks s'))
    (s : PS) (h : s.at_ < toks.length) (hm : meas toks s ≤ n) : Tri Try.prog 30 [.ref 0 0 0] [PO toks s] (TypR toks s) := by
  have hlen := hk.len
  obtain ⟨t, hpk, ht, hok⟩ := peek_b hk h
  obtain ⟨b, ham, hb⟩ := among_b hk h typeB (by decide)
  have hw := wrap_one (n := s.at_) (by omega)
  refine tri_by Try.func30 (by rfl) _ Try.ntmps30 _ (by rfl) ?_
  cases b
  · obtain ⟨s1, hwr, hf, hnb⟩ := wrong_b hk h
    simp [PO]
    refine acallC_by 1 (hpk) ?_ (by kernel_rfl) ?_ ?_ ?_ ?_ ?_ ?_ ?_ ?_ ?_ <;> simp [PO, Tok.cells]
    refine acallC_by 1 (ham) ?_ (by kernel_rfl) ?_ ?_ ?_ ?_ ?_ ?_ ?_ ?_ ?_ <;> simp [PO, typeB]
    refine acallC_by 1 (hwr) ?_ (by kernel_rfl) ?_ ?_ ?_ ?_ ?_ ?_ ?_ ?_ ?_ <;> simp [PO]
    exact ⟨.mk 0 [] 0 0 [] 0 [], s1, rfl, rfl, hf, fun e => absurd e hnb⟩
  · obtain ⟨hb0, hfn⟩ := hb rfl
    have hmn := meas_next h hb0
    simp [PO]
    refine acallC_by 1 (hpk) ?_ (by kernel_rfl) ?_ ?_ ?_ ?_ ?_ ?_ ?_ ?_ ?_ <;> simp [PO, Tok.cells]
    refine acallC_by 1 (ham) ?_ (by kernel_rfl) ?_ ?_ ?_ ?_ ?_ ?_ ?_ ?_ ?_ <;> simp [PO, typeB]
    refine acallC_by 1 (hpk) ?_ (by kernel_rfl) ?_ ?_ ?_ ?_ ?_ ?_ ?_ ?_ ?_ <;> simp [PO, Tok.cells, hw]
    have hn : s.next.at_ < toks.length := hfn.lt
    have ofs : ∀ (s1 s2 : PS), Fwd toks s.next s1 → Fwd toks s1 s2 → Fwd toks s s2 ∧ s.at_ < s2.at_ := fun s1 s2 f1 f2 => ⟨(hfn.trans f1).trans f2, Nat.lt_of_lt_of_le (Nat.lt_succ_self _) (f1.trans f2).le⟩
    split
    · refine acallC_by 0 (t_one 9 t.at_ ⟨#[]⟩ 0 0 []) ?_ (by kernel_rfl) ?_ ?_ ?_ ?_ ?_ ?_ ?_ ?_ ?_ <;> simp [PO]
      exact ⟨.mk 9 [] 0 t.at_ [] 0 [], s.next, rfl, rfl, hfn, fun _ => ⟨Nat.lt_succ_self _, .base _ _ (.inl rfl), by rw [wt_one _ _ _ (by decide)]; show 1 + s.at_ ≤ s.at_ + 1; omega⟩⟩
    · split
      · refine acallC_by 0 (t_one 10 t.at_ ⟨#[]⟩ 0 0 []) ?_ (by kernel_rfl) ?_ ?_ ?_ ?_ ?_ ?_ ?_ ?_ ?_ <;> simp [PO]
        exact ⟨.mk 10 [] 0 t.at_ [] 0 [], s.next, rfl, rfl, hfn, fun _ => ⟨Nat.lt_succ_self _, .base _ _ (.inr (.inl rfl)), by rw [wt_one _ _ _ (by decide)]; show 1 + s.at_ ≤ s.at_ + 1; omega⟩⟩
      · split
        · refine acallC_by 0 (t_one 11 t.at_ ⟨#[]⟩ 0 0 []) ?_ (by kernel_rfl) ?_ ?_ ?_ ?_ ?_ ?_ ?_ ?_ ?_ <;> simp [PO]
          exact ⟨.mk 11 [] 0 t.at_ [] 0 [], s.next, rfl, rfl, hfn, fun _ => ⟨Nat.lt_succ_self _, .base _ _ (.inr (.inr rfl)), by rw [wt_one _ _ _ (by decide)]; show 1 + s.at_ ≤ s.at_ + 1; omega⟩⟩
        · split
          · obtain ⟨x, s1, hnm, hf1, hx⟩ := name_b hk hn
            refine acallC_by 1 (hnm) ?_ (by kernel_rfl) ?_ ?_ ?_ ?_ ?_ ?_ ?_ ?_ ?_ <;> simp [PO, PS.next]
            refine acallC_by 0 (t_one 12 t.at_ ⟨x.toArray⟩ 0 0 []) ?_ (by kernel_rfl) ?_ ?_ ?_ ?_ ?_ ?_ ?_ ?_ ?_ <;> simp [PO]
            exact ⟨.mk 12 x 0 t.at_ [] 0 [], s1, rfl, rfl, hfn.trans hf1, fun e => ⟨(ofs _ _ (Fwd.refl hn) hf1).2, .ptr _ _ (hx e).2, by rw [wt_one _ _ _ (by decide)]; have : s.at_ + 1 ≤ s1.at_ := hf1.le; omega⟩⟩
          · split
            · obtain ⟨s1, hwt, hf1, hx⟩ := want_b hk hn [93]
              refine acallC_by 1 (hwt) ?_ (by kernel_rfl) ?_ ?_ ?_ ?_ ?_ ?_ ?_ ?_ ?_ <;> simp [PO, PS.next]
              refine acallC_of 1 (ih s1 hf1.lt (by have := meas_fwd hf1; omega)) ?_ (by kernel_rfl) ?_ ?_ ?_ ?_ ?_ ?_ <;> simp [PO]
              rintro r o ⟨⟨k, x, m, a, y, rf, kids⟩, s2, rfl, rfl, hf2, hg2⟩
              simp [PO, Tr.av, Tr.cells]
              refine acallC_by 0 (t_one 13 t.at_ ⟨#[]⟩ 7 1 [I k, S x, I m, I a, S y, I rf, vecN kids.length (flatN kids)]) ?_ (by kernel_rfl) ?_ ?_ ?_ ?_ ?_ ?_ ?_ ?_ ?_ <;> simp [PO]
              exact ⟨.mk 13 [] 0 t.at_ [] 0 [.mk k x m a y rf kids], s2, rfl, rfl, (ofs _ _ hf1 hf2).1, fun e => ⟨(ofs _ _ hf1 hf2).2, .of _ _ _ (.inl rfl) (hg2 e).2.1, by rw [wt_kid _ _ _ (by decide)]; have := (hg2 e).2.2; have : s.at_ + 1 ≤ s1.at_ := hf1.le; omega⟩⟩
            · split
              · refine acallC_of 1 (ih s.next hfn.lt (by omega)) ?_ (by kernel_rfl) ?_ ?_ ?_ ?_ ?_ ?_ <;> simp [PO, PS.next]
                rintro r o ⟨⟨k, x, m, a, y, rf, kids⟩, s2, rfl, rfl, hf2, hg2⟩
                simp [PO, Tr.av, Tr.cells]
                refine acallC_by 0 (t_one 14 t.at_ ⟨#[]⟩ 7 1 [I k, S x, I m, I a, S y, I rf, vecN kids.length (flatN kids)]) ?_ (by kernel_rfl) ?_ ?_ ?_ ?_ ?_ ?_ ?_ ?_ ?_ <;> simp [PO]
                exact ⟨.mk 14 [] 0 t.at_ [] 0 [.mk k x m a y rf kids], s2, rfl, rfl, (ofs _ _ (Fwd.refl hn) hf2).1, fun e => ⟨(ofs _ _ (Fwd.refl hn) hf2).2, .of _ _ _ (.inr rfl) (hg2 e).2.1, by rw [wt_kid _ _ _ (by decide)]; have := (hg2 e).2.2; have : wt _ + (s.at_ + 1) ≤ s2.at_ := this; omega⟩⟩
              · refine acallC_of 1 (ihf s.next t.at_ hfn.lt (by omega)) ?_ (by kernel_rfl) ?_ ?_ ?_ ?_ ?_ ?_ <;> simp [PO, PS.next]
                rintro r o ⟨⟨k, x, m, a, y, rf, kids⟩, s2, rfl, rfl, hf2, hg2⟩
                simp [PO, Tr.av, Tr.cells]
                exact ⟨.mk k x m a y rf kids, s2, rfl, rfl, (ofs _ _ (Fwd.refl hn) hf2).1, fun e => ⟨(ofs _ _ (Fwd.refl hn) hf2).2, (hg2 e).2.1, by have := (hg2 e).2.2; have : wt _ + (s.at_ + 1) ≤ s2.at_ := this; omega⟩⟩
end Go.Proofs.Ytoaodlfmhioigaa
end
