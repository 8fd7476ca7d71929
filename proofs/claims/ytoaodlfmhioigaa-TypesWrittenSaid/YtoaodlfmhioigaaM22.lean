/- A part of the proof of TypesWrittenSaid. No condition. -/
import Derived.Test.YtoaodlfmhioigaaM12
set_option linter.unusedSimpArgs false
set_option linter.unusedVariables false
section
namespace Go.Proofs.Ytoaodlfmhioigaa

def clF (toks : List Tok) (at_ : Int) (v : Nat → AV) : PS × Nat × List Tr → AS
  | (s, n, l) => ⟨[.ref 0 0 0, B true, v 2, v 3, .ref 1 0 0, I at_, I 24, v 7, v 8, .row 2 7 0 (n + 1) n, v 10, v 11, v 12, v 13, v 14, v 15, v 16, v 17, v 18, v 19, v 20, v 21, v 22, v 23, v 24, v 25, v 26, v 27, v 28, v 29, v 30, v 31, v 32, v 33, v 34, v 35, v 36, v 37, v 38, v 39, v 40, v 41, v 42, v 43, v 44, v 45, v 46, v 47, v 48, v 49, v 50, v 51, v 52, v 53], [PO toks s, ZO, ⟨true, n, some 7, 25, flatN l⟩]⟩
def ClC (toks : List Tok) (s0 : PS) (i : PS × Nat × List Tr) : Prop := Fwd toks s0 i.1 ∧ i.2.2.length = i.2.1 + 1 ∧ i.2.1 ≤ i.1.at_ ∧ (i.1.bad < 0 → i.2.1 < i.1.at_)

set_option maxRecDepth 20000 in
set_option maxHeartbeats 4000000 in
theorem t_clause_step {toks : List Tok} (hk : TK toks) {n : Nat} (hp : ∀ s' : PS, s'.at_ < toks.length → meas toks s' ≤ n → NodeAt toks 69 s')
    (hbh : ∀ s' : PS, s'.at_ < toks.length → meas toks s' ≤ n → NodeAt toks 75 s') (hco : ∀ (s' : PS) (a : Int), s'.at_ < toks.length → meas toks s' ≤ n → Tri Try.prog 76 [.ref 0 0 0, I a] [PO toks s'] (FwdR toks s'))
    (s : PS) (sw : Bool) (h : s.at_ < toks.length) (hm : meas toks s ≤ n) : Tri Try.prog 68 [.ref 0 0 0, B sw] [PO toks s] (NodeR toks s) := by
  have hlen := hk.len
  obtain ⟨t, hpk, ht, hok⟩ := peek_b hk h
  obtain ⟨b1, s1, hgt, hf1, hb1, hb1'⟩ := got_b hk h [100, 101, 102, 97, 117, 108, 116]
  have hm1 := meas_fwd hf1
  refine tri_by Try.func68 (by rfl) _ Try.ntmps68 _ (by rfl) ?_
  cases sw
  · cases b1
    · obtain rfl := hb1' rfl
      obtain ⟨s2, hw2, hf2, hg2⟩ := want_b hk h [99, 97, 115, 101]
      have hm2 := meas_fwd hf2
      simp [PO]
      refine acallC_by 1 (hpk) ?_ (by kernel_rfl) ?_ ?_ ?_ ?_ ?_ ?_ ?_ ?_ ?_ <;> simp [PO, Tok.cells]
      refine acallC_by 1 (hgt) ?_ (by kernel_rfl) ?_ ?_ ?_ ?_ ?_ ?_ ?_ ?_ ?_ <;> simp [PO]
      refine acallC_by 1 (hw2) ?_ (by kernel_rfl) ?_ ?_ ?_ ?_ ?_ ?_ ?_ ?_ ?_ <;> simp [PO]
      refine acallC_of 1 (hco s2 t.at_ hf2.lt (by omega)) ?_ (by kernel_rfl) ?_ ?_ ?_ ?_ ?_ ?_ <;> simp [PO]
      rintro r o ⟨⟨k, x, m, c, y, rf, kids⟩, s3, rfl, rfl, hf3⟩
      simp [PO, Tr.av, Tr.cells]
      exact ⟨.mk k x m c y rf kids, s3, rfl, rfl, hf2.trans hf3, fun e => by have := hg2 (hf3.bad e); have := hf3.le; omega⟩
    · obtain ⟨hb, rfl⟩ := hb1 rfl
      simp [PO]
      refine acallC_by 1 (hpk) ?_ (by kernel_rfl) ?_ ?_ ?_ ?_ ?_ ?_ ?_ ?_ ?_ <;> simp [PO, Tok.cells]
      refine acallC_by 1 (hgt) ?_ (by kernel_rfl) ?_ ?_ ?_ ?_ ?_ ?_ ?_ ?_ ?_ <;> simp [PO]
      refine acallC_of 1 (hbh s.next hf1.lt (by omega)) ?_ (by kernel_rfl) ?_ ?_ ?_ ?_ ?_ ?_ <;> simp [PO, PS.next]
      rintro r o ⟨⟨k, x, m, c, y, rf, kids⟩, s2, rfl, rfl, hf2, hg2⟩
      simp [PO, Tr.av, Tr.cells]
      refine acallC_by 0 (t_one 26 t.at_ ⟨#[100, 101, 102, 97, 117, 108, 116]⟩ 7 1 (Tr.mk k x m c y rf kids).cells) ?_ (by kernel_rfl) ?_ ?_ ?_ ?_ ?_ ?_ ?_ ?_ ?_ <;> simp [PO, Tr.cells]
      exact ⟨.mk 26 [100, 101, 102, 97, 117, 108, 116] 0 t.at_ [] 0 [.mk k x m c y rf kids], s2, rfl, rfl, hf1.trans hf2, fun _ => hf2.le⟩
  · cases b1
    · obtain rfl := hb1' rfl
      obtain ⟨s2, hw2, hf2, hg2⟩ := want_b hk h [99, 97, 115, 101]
      have hm2 := meas_fwd hf2
      simp [PO]
      refine acallC_by 1 (hpk) ?_ (by kernel_rfl) ?_ ?_ ?_ ?_ ?_ ?_ ?_ ?_ ?_ <;> simp [PO, Tok.cells]
      refine acallC_by 1 (hgt) ?_ (by kernel_rfl) ?_ ?_ ?_ ?_ ?_ ?_ ?_ ?_ ?_ <;> simp [PO]
      refine acallC_by 1 (hw2) ?_ (by kernel_rfl) ?_ ?_ ?_ ?_ ?_ ?_ ?_ ?_ ?_ <;> simp [PO]
      refine acallC_of 1 (hp s2 hf2.lt (by omega)) ?_ (by kernel_rfl) ?_ ?_ ?_ ?_ ?_ ?_ <;> simp [PO]
      rintro r o ⟨⟨k, x, m, c, y, rf, kids⟩, s3, rfl, rfl, hf3, hg3⟩
      simp [PO, Tr.av, Tr.cells]
      have hf23 := hf2.trans hf3
      have hg23 : s3.bad < 0 → s1.at_ < s3.at_ := fun e => by have := hg2 (hf3.bad e); have := hf3.le; omega
      refine loopC_to 0 (clF toks t.at_) (ClC toks s3) (ClC toks s3) (fun i => meas toks i.1) (s3, 0, [.mk k x m c y rf kids]) (by rfl) ⟨Fwd.refl hf3.lt, rfl, Nat.zero_le _, fun e => by have := hg23 e; show 0 < s3.at_; omega⟩ ?_ ?_
      · rintro v ⟨s4, i, l⟩ ⟨hf4, hl1, hl2, hl3⟩
        simp only at hf4 hl1 hl2 hl3
        have hm4 := meas_fwd (hf23.trans hf4)
        obtain ⟨b2, s5, hgt5, hf5, hb5, hb5'⟩ := got_b hk hf4.lt [44]
        cases b2
        · obtain rfl := hb5' rfl
          simp [clF, PO]
          refine acallC_by 1 (hgt5) ?_ (by kernel_rfl) ?_ ?_ ?_ ?_ ?_ ?_ ?_ ?_ ?_ <;> simp [PO]
          refine Left.mk ((s5, i, l)) rfl ?_ ?_
          · simp [clF, PO]
          · exact ⟨hf4, hl1, hl2, hl3⟩
        · obtain ⟨hb4, rfl⟩ := hb5 rfl
          have hm5 := meas_fwd hf5
          have hlt4 := hf4.lt
          obtain ⟨hq1, hq2⟩ := len_ok (n := i + 1 + 1) (by omega)
          have hta := flatN_take l (i + 1) hl1.symm
          simp [clF, PO]
          refine acallC_by 1 (hgt5) ?_ (by kernel_rfl) ?_ ?_ ?_ ?_ ?_ ?_ ?_ ?_ ?_ <;> simp [PO]
          refine acallC_of 1 (hp s4.next hf5.lt (by omega)) ?_ (by kernel_rfl) ?_ ?_ ?_ ?_ ?_ ?_ <;> simp [PO, PS.next]
          rintro r o ⟨⟨k, y, m, a, z, rf, kids⟩, s6, rfl, rfl, hf6, hg6⟩
          have hle6 : s4.at_ + 1 ≤ s6.at_ := hf6.le
          simp [PO, Tr.av, Tr.cells, flatN_length, hl1, hq1, hq2, hta]
          refine Again.mk 3 ((s6, i + 1, l ++ [.mk k y m a z rf kids])) (by simp) (by simp) (by simp) rfl ?_ ?_ ?_
          · simp [clF, PO, flatN, Tr.cells, flatN_append]
          · exact ⟨(hf4.trans hf5).trans hf6, by simp [hl1], by show i + 1 ≤ s6.at_; omega, fun e => by show i + 1 < s6.at_; have := hg6 e; have := hl3 hb4; have : s4.at_ + 1 < s6.at_ := hg6 e; omega⟩
          · exact meas_lt (hf5.trans hf6) hb4 (fun e => by show s4.at_ < s6.at_; omega)
      · rintro v ⟨s4, i, l⟩ ⟨hf4, hl1, hl2, hl3⟩
        simp only at hf4 hl1 hl2 hl3
        have hm4 := meas_fwd (hf23.trans hf4)
        have hlt4 := hf4.lt
        obtain ⟨hq1, hq2⟩ := len_ok (n := i + 1 + 1) (by omega)
        have hta := flatN_take l (i + 1) hl1.symm
        have hle : (i + 1 + 1) * 7 ≤ (i + 1) * 7 + 7 := by omega
        have htk := flatN_take7 l i hl1
        simp [clF, PO]
        refine acallC_of 1 (hbh s4 hf4.lt (by omega)) ?_ (by kernel_rfl) ?_ ?_ ?_ ?_ ?_ ?_ <;> simp [PO]
        rintro r o ⟨⟨k2, x2, m2, c2, y2, r2, kids2⟩, s6, rfl, rfl, hf6, hg6⟩
        simp [PO, Tr.av, Tr.cells, flatN_length, hl1, hq1, hq2, hta]
        refine acallC_by 0 (t_one 24 t.at_ ⟨#[99, 97, 115, 101]⟩ 7 (i + 1 + 1) (flatN (l ++ [.mk k2 x2 m2 c2 y2 r2 kids2]))) ?_ (by kernel_rfl) ?_ ?_ ?_ ?_ ?_ ?_ ?_ ?_ ?_ <;> simp [PO, Tr.cells, flatN_append, flatN, flatN_length, hl1, hle, htk]
        exact ⟨.mk 24 [99, 97, 115, 101] 0 t.at_ [] 0 (l ++ [.mk k2 x2 m2 c2 y2 r2 kids2]), s6, by simp [Tr.av, Tr.cells, vecN, flatN_append, flatN, hl1], rfl, (hf23.trans hf4).trans hf6, fun e => by have := hg23 (hf4.bad (hf6.bad e)); have := hf4.le; have := hf6.le; omega⟩
    · obtain ⟨hb, rfl⟩ := hb1 rfl
      simp [PO]
      refine acallC_by 1 (hpk) ?_ (by kernel_rfl) ?_ ?_ ?_ ?_ ?_ ?_ ?_ ?_ ?_ <;> simp [PO, Tok.cells]
      refine acallC_by 1 (hgt) ?_ (by kernel_rfl) ?_ ?_ ?_ ?_ ?_ ?_ ?_ ?_ ?_ <;> simp [PO]
      refine acallC_of 1 (hbh s.next hf1.lt (by omega)) ?_ (by kernel_rfl) ?_ ?_ ?_ ?_ ?_ ?_ <;> simp [PO, PS.next]
      rintro r o ⟨⟨k, x, m, c, y, rf, kids⟩, s2, rfl, rfl, hf2, hg2⟩
      simp [PO, Tr.av, Tr.cells]
      refine acallC_by 0 (t_one 24 t.at_ ⟨#[100, 101, 102, 97, 117, 108, 116]⟩ 7 1 (Tr.mk k x m c y rf kids).cells) ?_ (by kernel_rfl) ?_ ?_ ?_ ?_ ?_ ?_ ?_ ?_ ?_ <;> simp [PO, Tr.cells]
      exact ⟨.mk 24 [100, 101, 102, 97, 117, 108, 116] 0 t.at_ [] 0 [.mk k x m c y rf kids], s2, rfl, rfl, hf1.trans hf2, fun _ => hf2.le⟩
end Go.Proofs.Ytoaodlfmhioigaa
end
