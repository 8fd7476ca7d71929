/- A part of the proof of TypesWrittenSaid. No condition. -/
import Derived.Test.YtoaodlfmhioigaaM9
set_option linter.unusedSimpArgs false
set_option linter.unusedVariables false
section
namespace Go.Proofs.Ytoaodlfmhioigaa

/-- What 'special' answers. -/
def SpecR (toks : List Tok) (s : PS) (r : AV) (o : List AO) : Prop := ∃ (t : Tr) (b : Bool) (s' : PS), r = .tup [t.av, B b] ∧ o = [PO toks s'] ∧ (b = true → Fwd toks s s') ∧ (b = false → s'.at_ = s.at_ ∧ s'.bad = s.bad)

set_option maxRecDepth 20000 in
theorem t_operand_step {toks : List Tok} (hk : TK toks) {n : Nat} (ihs : ∀ (s' : PS) (t : Tok), meas toks s' < n → (t.kind ≠ 6 → s'.at_ < toks.length) → TokOk toks (s'.at_ - 1) t → Tri Try.prog 81 [.ref 0 0 0, .agg t.cells] [PO toks s'] (SpecR toks s'))
    (s : PS) (h : s.at_ < toks.length) (hm : meas toks s ≤ n) : Tri Try.prog 78 [.ref 0 0 0] [PO toks s] (NodeR toks s) := by
  have hlen := hk.len
  obtain ⟨t, hpk, ht, hok⟩ := peek_b hk h
  have hw := wrap_one (n := s.at_) (by omega)
  refine tri_by Try.func78 (by rfl) _ Try.ntmps78 _ (by rfl) ?_
  by_cases hb : s.bad < 0
  · have hb2 : ¬ 0 ≤ s.bad := by omega
    have hmn := meas_next h hb
    by_cases h1 : t.kind = 1
    · have hfn := fwd_next hk ht (by rw [h1]; decide)
      simp [PO]
      refine acallC_by 1 (hpk) ?_ (by kernel_rfl) ?_ ?_ ?_ ?_ ?_ ?_ ?_ ?_ ?_ <;> simp [PO, Tok.cells, hb2, hw, h1]
      refine acallC_by 0 (t_one 40 t.at_ ⟨t.text.toArray⟩ 0 0 []) ?_ (by kernel_rfl) ?_ ?_ ?_ ?_ ?_ ?_ ?_ ?_ ?_ <;> simp [PO]
      exact ⟨.mk 40 t.text 0 t.at_ [] 0 [], s.next, rfl, rfl, hfn, fun _ => Nat.lt_succ_self _⟩
    · by_cases h2 : t.kind = 2
      · have hfn := fwd_next hk ht (by rw [h2]; decide)
        simp [PO]
        refine acallC_by 1 (hpk) ?_ (by kernel_rfl) ?_ ?_ ?_ ?_ ?_ ?_ ?_ ?_ ?_ <;> simp [PO, Tok.cells, hb2, hw, h2]
        exact ⟨.mk 36 [] t.num t.at_ [] 0 [], s.next, rfl, rfl, hfn, fun _ => Nat.lt_succ_self _⟩
      · by_cases h3 : t.kind = 3
        · have hfn := fwd_next hk ht (by rw [h3]; decide)
          simp [PO]
          refine acallC_by 1 (hpk) ?_ (by kernel_rfl) ?_ ?_ ?_ ?_ ?_ ?_ ?_ ?_ ?_ <;> simp [PO, Tok.cells, hb2, hw, h3]
          refine acallC_by 0 (t_one 37 t.at_ ⟨t.text.toArray⟩ 0 0 []) ?_ (by kernel_rfl) ?_ ?_ ?_ ?_ ?_ ?_ ?_ ?_ ?_ <;> simp [PO]
          exact ⟨.mk 37 t.text 0 t.at_ [] 0 [], s.next, rfl, rfl, hfn, fun _ => Nat.lt_succ_self _⟩
        · have hsp := ihs s.next t (by omega) (fun e => (fwd_next hk ht e).lt) (by simpa [PS.next] using hok)
          simp [PO]
          refine acallC_by 1 (hpk) ?_ (by kernel_rfl) ?_ ?_ ?_ ?_ ?_ ?_ ?_ ?_ ?_ <;> simp [PO, Tok.cells, hb2, hw, h1, h2, h3]
          refine acallC_of 1 (hsp) ?_ (by kernel_rfl) ?_ ?_ ?_ ?_ ?_ ?_ <;> simp [PO, PS.next, Tok.cells]
          rintro r o ⟨⟨k, x, m, c, y, rf, kids⟩, b, s2, rfl, rfl, hy, hn⟩
          cases b
          · obtain ⟨ha, hbd⟩ := hn rfl
            have ha : s2.at_ = s.at_ + 1 := ha
            have hbd : s2.bad = s.bad := hbd
            have hb4 : s2.bad < 0 := by omega
            have hw2 : IntKind.i64.wrap ((s2.at_ : Int) - 1) = (s.at_ : Int) := by rw [wrap_i (by omega)]; omega
            obtain ⟨s3, hwr, hf3, hb3⟩ := wrong_b hk (s := { s2 with at_ := s.at_ }) h
            simp [PO, Tr.av, Tr.cells, hw2, hb4]
            refine acallC_by 1 (hwr) ?_ (by kernel_rfl) ?_ ?_ ?_ ?_ ?_ ?_ ?_ ?_ ?_ <;> simp [PO]
            exact ⟨.mk 0 [] 0 0 [] 0 [], s3, rfl, rfl, ⟨hf3.le, hf3.lt, fun e => absurd e hb3⟩, fun e => absurd e hb3⟩
          · have hf2 : Fwd toks s.next s2 := hy rfl
            have hle := hf2.le
            simp [PO, Tr.av, Tr.cells]
            exact ⟨.mk k x m c y rf kids, s2, rfl, rfl, ⟨by have : s.at_ + 1 ≤ s2.at_ := hle; omega, hf2.lt, fun e => hb⟩, fun _ => hle⟩
  · have hb2 : 0 ≤ s.bad := by omega
    simp [PO]
    refine acallC_by 1 (hpk) ?_ (by kernel_rfl) ?_ ?_ ?_ ?_ ?_ ?_ ?_ ?_ ?_ <;> simp [PO, Tok.cells, hb2]
    exact ⟨.mk 0 [] 0 0 [] 0 [], s, rfl, rfl, Fwd.refl h, fun e => absurd e hb⟩
end Go.Proofs.Ytoaodlfmhioigaa
end

section
namespace Go.Proofs.Ytoaodlfmhioigaa

/-- A function without further arguments that reads a node: what is asked of it at a state. -/
def NodeAt (toks : List Tok) (f : FuncId) (s : PS) : Prop := Tri Try.prog f [.ref 0 0 0] [PO toks s] (NodeR toks s)

set_option maxRecDepth 20000 in
theorem t_unary_step {toks : List Tok} (hk : TK toks) {n : Nat} (ih : ∀ s' : PS, s'.at_ < toks.length → meas toks s' < n → NodeAt toks 72 s') (hp : ∀ s' : PS, s'.at_ < toks.length → meas toks s' ≤ n → NodeAt toks 70 s')
    (s : PS) (h : s.at_ < toks.length) (hm : meas toks s ≤ n) : NodeAt toks 72 s := by
  have hlen := hk.len
  obtain ⟨t, hpk, ht, hok⟩ := peek_b hk h
  obtain ⟨b, ham, hab⟩ := among_b hk h [32, 45, 32, 33, 32, 60, 45, 32] (by decide)
  have hw := wrap_one (n := s.at_) (by omega)
  refine tri_by Try.func72 (by rfl) _ Try.ntmps72 _ (by rfl) ?_
  cases b
  · simp [PO]
    refine acallC_by 1 (hpk) ?_ (by kernel_rfl) ?_ ?_ ?_ ?_ ?_ ?_ ?_ ?_ ?_ <;> simp [PO, Tok.cells]
    refine acallC_by 1 (ham) ?_ (by kernel_rfl) ?_ ?_ ?_ ?_ ?_ ?_ ?_ ?_ ?_ <;> simp [PO]
    refine acallC_of 1 (hp s h hm) ?_ (by kernel_rfl) ?_ ?_ ?_ ?_ ?_ ?_ <;> simp [PO]
    rintro r o ⟨⟨k, x, m, c, y, rf, kids⟩, s2, rfl, rfl, hf, hg⟩
    simp [PO, Tr.av, Tr.cells]
    exact ⟨.mk k x m c y rf kids, s2, rfl, rfl, hf, hg⟩
  · obtain ⟨hb, hfn⟩ := hab rfl
    have hmn := meas_next h hb
    simp [PO]
    refine acallC_by 1 (hpk) ?_ (by kernel_rfl) ?_ ?_ ?_ ?_ ?_ ?_ ?_ ?_ ?_ <;> simp [PO, Tok.cells]
    refine acallC_by 1 (ham) ?_ (by kernel_rfl) ?_ ?_ ?_ ?_ ?_ ?_ ?_ ?_ ?_ <;> simp [PO, hw]
    refine acallC_of 1 (ih s.next hfn.lt (by omega)) ?_ (by kernel_rfl) ?_ ?_ ?_ ?_ ?_ ?_ <;> simp [PO, PS.next]
    rintro r o ⟨⟨k, x, m, c, y, rf, kids⟩, s2, rfl, rfl, hf, hg⟩
    simp [PO, Tr.av, Tr.cells]
    refine acallC_by 0 (t_one 41 t.at_ ⟨t.text.toArray⟩ 7 1 [I k, S x, I m, I c, S y, I rf, vecN kids.length (flatN kids)]) ?_ (by kernel_rfl) ?_ ?_ ?_ ?_ ?_ ?_ ?_ ?_ ?_ <;> simp [PO]
    have hle := hf.le
    have hle : s.at_ + 1 ≤ s2.at_ := hle
    exact ⟨.mk 41 t.text 0 t.at_ [] 0 [.mk k x m c y rf kids], { s2 with bare := false }, rfl, rfl, ⟨by show s.at_ ≤ s2.at_; omega, hf.lt, fun _ => hb⟩, fun _ => hle⟩
end Go.Proofs.Ytoaodlfmhioigaa
end

section
namespace Go.Proofs.Ytoaodlfmhioigaa

def exF (toks : List Tok) (e : Bytes) (v : Nat → AV) : Gat → AS
  | (s, _, none) => ⟨[.ref 0 0 0, S e, v 2, v 3, v 4, .val (.slice none 0 0), v 6, v 7, v 8, v 9, v 10, v 11, v 12, v 13, v 14, v 15, v 16, v 17, v 18, v 19, v 20, v 21, v 22, v 23, v 24, v 25, v 26, v 27, v 28, v 29, v 30, v 31, v 32], [PO toks s]⟩
  | (s, j, some (n, l)) => ⟨[.ref 0 0 0, S e, v 2, v 3, v 4, .row 3 7 0 (n + 1) n, v 6, v 7, v 8, v 9, v 10, v 11, v 12, v 13, v 14, v 15, v 16, v 17, v 18, v 19, v 20, v 21, v 22, v 23, v 24, v 25, v 26, v 27, v 28, v 29, v 30, v 31, v 32], [PO toks s, ⟨true, 0, none, 25, j.cells⟩, ⟨true, 0, some 7, 25, j.cells⟩, ⟨true, n, some 7, 25, flatN l⟩]⟩
/-- What a function that reads nodes does. -/
def ListR (toks : List Tok) (s : PS) (r : AV) (o : List AO) : Prop := ∃ (l : List Tr) (s' : PS), r = kidsV l ∧ o = [PO toks s'] ∧ Fwd toks s s' ∧ l.length ≤ s'.at_ + 1

set_option maxRecDepth 20000 in
theorem t_exprs_step {toks : List Tok} (hk : TK toks) {n : Nat} (hp : ∀ s' : PS, s'.at_ < toks.length → meas toks s' ≤ n → NodeAt toks 69 s')
    (s : PS) (e : Bytes) (h : s.at_ < toks.length) (hm : meas toks s ≤ n) : Tri Try.prog 79 [.ref 0 0 0, S e] [PO toks s] (ListR toks s) := by
  have hlen := hk.len
  refine tri_by Try.func79 (by rfl) _ Try.ntmps79 _ (by rfl) ?_
  simp [PO]
  refine loopC_to 0 (exF toks e) (GatC (fun _ => True) toks s) (GatC (fun _ => True) toks s) (fun i => meas toks i.1) (s, noneT, none) (by rfl) (Fwd.refl h) ?_ ?_
  · rintro v ⟨s2, j, g⟩ hc
    have hf2 := hc.fwd
    simp only at hf2
    have hm2 := meas_fwd hf2
    by_cases hb : s2.bad < 0
    · obtain ⟨b, his, hib⟩ := is_b hk hf2.lt e
      cases b
      · match g, hc with
        | none, hc =>
          simp [exF, PO, hb]
          refine acallC_by 1 (his) ?_ (by kernel_rfl) ?_ ?_ ?_ ?_ ?_ ?_ ?_ ?_ ?_ <;> simp [PO]
          refine acallC_of 1 (hp s2 hf2.lt (by omega)) ?_ (by kernel_rfl) ?_ ?_ ?_ ?_ ?_ ?_ <;> simp [PO]
          rintro r o ⟨⟨k, x, m, a, y, rf, kids⟩, s3, rfl, rfl, hf3, hg3⟩
          simp [PO, Tr.av, Tr.cells]
          refine Again.mk 4 ((s3, .mk k x m a y rf kids, some (0, [.mk k x m a y rf kids]))) (by simp) (by simp) (by simp) rfl ?_ ?_ ?_
          · simp [exF, PO, flatN, Tr.cells]
          · exact ⟨hf2.trans hf3, rfl, Nat.zero_le _, fun e => ⟨by have := hg3 e; omega, fun _ _ => trivial⟩⟩
          · exact meas_lt hf3 hb hg3
        | some (n, l), hc =>
          obtain ⟨_, hl1, hl2, hl3⟩ := hc
          obtain ⟨s3, hw2, hf3, hg3⟩ := want_b hk hf2.lt [44]
          have hm3 := meas_fwd hf3
          have hlt2 := hf2.lt
          have hle3 := hf3.le
          obtain ⟨hq1, hq2⟩ := len_ok (n := n + 1 + 1) (by omega)
          have ht := flatN_take l (n + 1) hl1.symm
          simp [exF, PO, hb]
          refine acallC_by 1 (his) ?_ (by kernel_rfl) ?_ ?_ ?_ ?_ ?_ ?_ ?_ ?_ ?_ <;> simp [PO]
          refine acallC_by 1 (hw2) ?_ (by kernel_rfl) ?_ ?_ ?_ ?_ ?_ ?_ ?_ ?_ ?_ <;> simp [PO]
          refine acallC_of 1 (hp s3 hf3.lt (by omega)) ?_ (by kernel_rfl) ?_ ?_ ?_ ?_ ?_ ?_ <;> simp [PO]
          rintro r o ⟨⟨k, y, m, a, z, rf, kids⟩, s4, rfl, rfl, hf4, hg4⟩
          have hle4 := hf4.le
          simp [PO, Tr.av, Tr.cells, flatN_length, hl1, hq1, hq2, ht]
          refine Again.mk 4 ((s4, j, some (n + 1, l ++ [.mk k y m a z rf kids]))) (by simp) (by simp) (by simp) rfl ?_ ?_ ?_
          · simp [exF, PO, flatN, Tr.cells, flatN_append]
          · exact ⟨(hf2.trans hf3).trans hf4, by simp [hl1], by show n + 1 ≤ s4.at_; have := (hl3 hb).1; omega, fun e => ⟨by show n + 1 < s4.at_; have := hg4 e; have := (hl3 hb).1; omega, fun _ _ => trivial⟩⟩
          · exact meas_lt (hf3.trans hf4) hb (fun e => by show s2.at_ < s4.at_; have := hg4 e; omega)
      · match g, hc with
        | none, hc =>
          simp [exF, PO, hb]
          refine acallC_by 1 (his) ?_ (by kernel_rfl) ?_ ?_ ?_ ?_ ?_ ?_ ?_ ?_ ?_ <;> simp [PO]
          refine Left.mk ((s2, j, none)) rfl ?_ ?_
          · simp [exF, PO]
          · exact hc
        | some (n, l), hc =>
          simp [exF, PO, hb]
          refine acallC_by 1 (his) ?_ (by kernel_rfl) ?_ ?_ ?_ ?_ ?_ ?_ ?_ ?_ ?_ <;> simp [PO]
          refine Left.mk ((s2, j, some (n, l))) rfl ?_ ?_
          · simp [exF, PO]
          · exact hc
    · match g, hc with
      | none, hc =>
        simp [exF, PO, hb]
        refine Left.mk ((s2, j, none)) rfl ?_ ?_
        · simp [exF, PO]
        · exact hc
      | some (n, l), hc =>
        simp [exF, PO, hb]
        refine Left.mk ((s2, j, some (n, l))) rfl ?_ ?_
        · simp [exF, PO]
        · exact hc
  · rintro v ⟨s2, j, g⟩ hc
    have hf2 := hc.fwd
    simp only at hf2
    obtain ⟨s3, hw2, hf3, hg3⟩ := want_b hk hf2.lt e
    match g, hc with
    | none, hc =>
      simp [exF, PO]
      refine acallC_by 1 (hw2) ?_ (by kernel_rfl) ?_ ?_ ?_ ?_ ?_ ?_ ?_ ?_ ?_ <;> simp [PO]
      exact ⟨[], s3, rfl, rfl, hf2.trans hf3, Nat.zero_le _⟩
    | some (n, l), hc =>
      obtain ⟨_, hl1, hl2, hl3⟩ := hc
      have hl2 : n ≤ s2.at_ := hl2
      have hle3 := hf3.le
      simp [exF, PO]
      have ht := flatN_take l (n + 1) hl1.symm
      refine acallC_by 1 (hw2) ?_ (by kernel_rfl) ?_ ?_ ?_ ?_ ?_ ?_ ?_ ?_ ?_ <;> simp [PO, flatN_length, hl1, ht]
      exact ⟨l, s3, by simp [kidsV, vecN, hl1], rfl, hf2.trans hf3, by omega⟩
end Go.Proofs.Ytoaodlfmhioigaa
end

section
namespace Go.Proofs.Ytoaodlfmhioigaa

theorem t_oneN (k at_ : Int) (x : ByteArray) (n : Nat) (cs : List AV) : TriE Try.prog 31 [I k, I at_, .val (.string x), vecN n cs] [] (.agg [I k, .val (.string x), I 0, I at_, S [], I 0, vecN n cs]) [] := by
  unfold vecN
  split
  · exact t_one k at_ x 0 0 []
  · exact t_one k at_ x 7 n cs

set_option maxRecDepth 20000 in
theorem t_block_step {toks : List Tok} (hk : TK toks) {n : Nat} (hs : ∀ s' : PS, s'.at_ < toks.length → (meas toks s' < n ∨ ¬ s'.bad < 0) → Tri Try.prog 56 [.ref 0 0 0] [PO toks s'] (ListR toks s'))
    (s : PS) (h : s.at_ < toks.length) (hm : meas toks s ≤ n) : NodeAt toks 50 s := by
  have hlen := hk.len
  obtain ⟨t, hpk, ht, hok⟩ := peek_b hk h
  obtain ⟨s1, hw1, hf1, hg1⟩ := want_b hk h [123]
  have hm1 : meas toks s1 < n ∨ ¬ s1.bad < 0 := by
    by_cases hb : s1.bad < 0
    · have := meas_lt hf1 (hf1.bad hb) hg1
      exact .inl (by omega)
    · exact .inr hb
  refine tri_by Try.func50 (by rfl) _ Try.ntmps50 _ (by rfl) ?_
  simp [PO]
  refine acallC_by 1 (hpk) ?_ (by kernel_rfl) ?_ ?_ ?_ ?_ ?_ ?_ ?_ ?_ ?_ <;> simp [PO, Tok.cells]
  refine acallC_by 1 (hw1) ?_ (by kernel_rfl) ?_ ?_ ?_ ?_ ?_ ?_ ?_ ?_ ?_ <;> simp [PO]
  refine acallC_of 1 (hs s1 hf1.lt hm1) ?_ (by kernel_rfl) ?_ ?_ ?_ ?_ ?_ ?_ <;> simp [PO]
  rintro r o ⟨l, s2, rfl, rfl, hf2, hl⟩
  obtain ⟨s3, hw3, hf3, hg3⟩ := want_b hk hf2.lt [125]
  simp [PO, kidsV]
  refine acallC_by 1 (hw3) ?_ (by kernel_rfl) ?_ ?_ ?_ ?_ ?_ ?_ ?_ ?_ ?_ <;> simp [PO]
  refine acallC_by 0 (t_oneN 16 t.at_ ⟨#[]⟩ l.length (flatN l)) ?_ (by kernel_rfl) ?_ ?_ ?_ ?_ ?_ ?_ ?_ ?_ ?_ <;> simp [PO]
  have hle := hf1.le
  exact ⟨.mk 16 [] 0 t.at_ [] 0 l, s3, rfl, rfl, (hf1.trans hf2).trans hf3, fun e => by have := hg3 e; have := hf2.le; omega⟩
set_option maxRecDepth 20000 in
theorem t_behind_step {toks : List Tok} (hk : TK toks) {n : Nat} (hs : ∀ s' : PS, s'.at_ < toks.length → (meas toks s' < n ∨ ¬ s'.bad < 0) → Tri Try.prog 56 [.ref 0 0 0] [PO toks s'] (ListR toks s'))
    (s : PS) (h : s.at_ < toks.length) (hm : meas toks s ≤ n) : NodeAt toks 75 s := by
  have hlen := hk.len
  obtain ⟨t, hpk, ht, hok⟩ := peek_b hk h
  obtain ⟨s1, hw1, hf1, hg1⟩ := want_b hk h [58]
  have hm1 : meas toks s1 < n ∨ ¬ s1.bad < 0 := by
    by_cases hb : s1.bad < 0
    · have := meas_lt hf1 (hf1.bad hb) hg1
      exact .inl (by omega)
    · exact .inr hb
  refine tri_by Try.func75 (by rfl) _ Try.ntmps75 _ (by rfl) ?_
  simp [PO]
  refine acallC_by 1 (hpk) ?_ (by kernel_rfl) ?_ ?_ ?_ ?_ ?_ ?_ ?_ ?_ ?_ <;> simp [PO, Tok.cells]
  refine acallC_by 1 (hw1) ?_ (by kernel_rfl) ?_ ?_ ?_ ?_ ?_ ?_ ?_ ?_ ?_ <;> simp [PO]
  refine acallC_of 1 (hs s1 hf1.lt hm1) ?_ (by kernel_rfl) ?_ ?_ ?_ ?_ ?_ ?_ <;> simp [PO]
  rintro r o ⟨l, s2, rfl, rfl, hf2, hl⟩
  simp [PO, kidsV]
  refine acallC_by 0 (t_oneN 16 t.at_ ⟨#[]⟩ l.length (flatN l)) ?_ (by kernel_rfl) ?_ ?_ ?_ ?_ ?_ ?_ ?_ ?_ ?_ <;> simp [PO]
  have hle := hf1.le
  exact ⟨.mk 16 [] 0 t.at_ [] 0 l, s2, rfl, rfl, hf1.trans hf2, fun e => by have := hg1 (hf2.bad e); have := hf2.le; omega⟩
end Go.Proofs.Ytoaodlfmhioigaa
end
