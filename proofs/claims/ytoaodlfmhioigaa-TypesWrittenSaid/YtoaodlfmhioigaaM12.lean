/- A part of the proof of TypesWrittenSaid. No condition. -/
import Derived.Test.YtoaodlfmhioigaaM11
set_option linter.unusedSimpArgs false
set_option linter.unusedVariables false
section
namespace Go.Proofs.Ytoaodlfmhioigaa

theorem vecN1 (cs : List AV) : vecN 1 cs = .vec 7 1 cs := rfl
theorem vecN2 (cs : List AV) : vecN 2 cs = .vec 7 2 cs := rfl
theorem vecN3 (cs : List AV) : vecN 3 cs = .vec 7 3 cs := rfl
theorem vecNs (n : Nat) (cs : List AV) : vecN (n + 1) cs = .vec 7 (n + 1) cs := rfl
theorem vecN1s (n : Nat) (cs : List AV) : vecN (1 + n) cs = .vec 7 (1 + n) cs := by unfold vecN; rw [if_neg (by omega)]
theorem kidsV_nil : kidsV [] = .vec 0 0 [] := rfl
theorem kidsV_cons (a : Tr) (l : List Tr) : kidsV (a :: l) = .vec 7 (l.length + 1) (flatN (a :: l)) := rfl
theorem flatN_ones (l : List Tr) : ∀ x, x ∈ flatN l → oneA x = true := List.all_eq_true.1 (flatN_one l)
theorem flatN_onesT (l : List Tr) : (∀ x, x ∈ flatN l → oneA x = true) ↔ True := iff_true_intro (flatN_ones l)
theorem flatN_take1 (l : List Tr) (n : Nat) (h : l.length = n) (a b c d e f g : AV) : (a :: b :: c :: d :: e :: f :: g :: flatN l).take ((1 + n) * 7) = a :: b :: c :: d :: e :: f :: g :: flatN l := List.take_of_length_le (by simp [flatN_length, h]; omega)

def prF (toks : List Tok) (hd : Bool) (v : Nat → AV) : PS × Tr × Bool → AS
  | (s, t, b) => ⟨[.ref 0 0 0, v 1, .ref 1 0 0, B b, .ref 2 0 0, B hd, v 6, v 7, v 8, v 9, v 10, v 11, v 12, v 13, v 14, v 15, v 16, v 17, v 18, v 19, v 20, v 21, v 22, v 23, v 24, v 25, v 26, v 27, v 28, v 29, v 30, v 31, v 32, v 33, v 34, v 35, v 36, v 37, v 38, v 39, v 40, v 41, v 42, v 43, v 44, v 45, v 46, v 47, v 48, v 49, v 50, v 51, v 52, v 53, v 54, v 55, v 56, v 57, v 58, v 59, v 60, v 61, v 62, v 63, v 64, v 65, v 66, v 67, v 68], [PO toks s, ZO, ⟨true, 0, none, 25, t.cells⟩]⟩
def PrC (toks : List Tok) (s : PS) (i : PS × Tr × Bool) : Prop := Fwd toks s i.1 ∧ (i.1.bad < 0 → s.at_ < i.1.at_)

set_option maxRecDepth 20000 in
theorem t_primary_step {toks : List Tok} (hk : TK toks) {n : Nat} (hop : ∀ s' : PS, s'.at_ < toks.length → meas toks s' ≤ n → NodeAt toks 78 s')
    (hex : ∀ (s' : PS) (e : Bytes), s'.at_ < toks.length → meas toks s' < n → Tri Try.prog 79 [.ref 0 0 0, S e] [PO toks s'] (ListR toks s'))
    (hix : ∀ (s' : PS) (a : Int) (t : Tr), s'.at_ < toks.length → meas toks s' < n → Tri Try.prog 80 [.ref 0 0 0, I a, t.av] [PO toks s'] (FwdR toks s'))
    (s : PS) (h : s.at_ < toks.length) (hm : meas toks s ≤ n) : NodeAt toks 70 s := by
  have hlen := hk.len
  obtain ⟨b0, his, hib⟩ := is_b hk h [40]
  refine tri_by Try.func70 (by rfl) _ Try.ntmps70 _ (by rfl) ?_
  simp [PO]
  refine acallC_by 1 (his) ?_ (by kernel_rfl) ?_ ?_ ?_ ?_ ?_ ?_ ?_ ?_ ?_ <;> simp [PO]
  refine acallC_of 1 (hop s h hm) ?_ (by kernel_rfl) ?_ ?_ ?_ ?_ ?_ ?_ <;> simp [PO]
  rintro r o ⟨⟨k0, x0, m0, c0, y0, r0, kids0⟩, s1, rfl, rfl, hf1, hg1⟩
  simp [PO, Tr.av, Tr.cells]
  refine loopC_to 0 (prF toks s1.head) (PrC toks s) (PrC toks s) (fun i => meas toks i.1) (s1, .mk k0 x0 m0 c0 y0 r0 kids0, b0) (by rfl) ⟨hf1, hg1⟩ ?_ ?_
  · rintro v ⟨s2, ⟨k, x, m, c, y, rf, kids⟩, b⟩ ⟨hf2, hg2⟩
    simp only at hf2 hg2
    obtain ⟨b2, ham, hab⟩ := among_b hk hf2.lt [32, 40, 32, 91, 32, 46, 32] (by decide)
    cases b2
    · simp [prF, PO]
      refine acallC_by 1 (ham) ?_ (by kernel_rfl) ?_ ?_ ?_ ?_ ?_ ?_ ?_ ?_ ?_ <;> simp [PO]
      refine Left.mk ((s2, .mk k x m c y rf kids, b)) rfl ?_ ?_
      · simp [prF, PO, Tr.cells]
      · exact ⟨hf2, hg2⟩
    · obtain ⟨hb2, hfn⟩ := hab rfl
      obtain ⟨t, hpk, ht, hok⟩ := peek_b hk hf2.lt
      have hw := wrap_one (n := s2.at_) (by have := hf2.lt; omega)
      have hmn := meas_next hf2.lt hb2
      have hm2 := meas_lt hf2 (hf2.bad hb2) hg2
      simp [prF, PO]
      refine acallC_by 1 (ham) ?_ (by kernel_rfl) ?_ ?_ ?_ ?_ ?_ ?_ ?_ ?_ ?_ <;> simp [PO]
      refine acallC_by 1 (hpk) ?_ (by kernel_rfl) ?_ ?_ ?_ ?_ ?_ ?_ ?_ ?_ ?_ <;> simp [PO, Tok.cells, hw]
      by_cases h1 : t.text = [40]
      · simp [h1, Tr.cells]
        refine acallC_of 1 (hex { s2.next with head := false } [41] hfn.lt (by show meas toks s2.next < n; omega)) ?_ (by kernel_rfl) ?_ ?_ ?_ ?_ ?_ ?_ <;> simp [PO, PS.next]
        rintro r o ⟨l, s3, rfl, rfl, hf3, hl⟩
        have hf23 : Fwd toks s2 s3 := ⟨by have : s2.at_ + 1 ≤ s3.at_ := hf3.le; omega, hf3.lt, fun _ => hb2⟩
        have hle3 : s2.at_ + 1 ≤ s3.at_ := hf3.le
        have hlt3 := hf3.lt
        obtain ⟨hq1, hq2⟩ := len_ok (n := 1 + l.length) (by omega)
        cases hl0 : l.length with
        | zero =>
          obtain rfl := List.eq_nil_of_length_eq_zero hl0
          simp [PO, kidsV_nil]
          refine acallC_by 0 (t_one 43 t.at_ ⟨#[]⟩ 7 1 (Tr.mk k x m c y rf kids).cells) ?_ (by kernel_rfl) ?_ ?_ ?_ ?_ ?_ ?_ ?_ ?_ ?_ <;> simp [PO, Tr.cells]
          refine Again.mk 3 (({ s3 with head := s1.head }, Tr.mk 43 [] 0 t.at_ [] 0 [.mk k x m c y rf kids], false)) (by simp) (by simp) (by simp) rfl ?_ ?_ ?_
          · simp [prF, PO, flatN, Tr.cells, vecN1, vecNs]
          · exact ⟨⟨by have := hf2.le; show s.at_ ≤ s3.at_; omega, hf3.lt, fun _ => hf2.bad hb2⟩, fun _ => by have := hf2.le; show s.at_ < s3.at_; omega⟩
          · exact meas_lt (s' := { s3 with head := s1.head }) ⟨hf23.le, hf23.lt, hf23.bad⟩ hb2 (fun _ => hle3)
        | succ m' =>
          have hkv : kidsV l = .vec 7 (m' + 1) (flatN l) := by unfold kidsV; rw [hl0]; rfl
          have hfl : (flatN l).length = (m' + 1) * 7 := by rw [flatN_length, hl0]
          have hta : (flatN l).take ((m' + 1) * 7) = flatN l := flatN_take _ _ hl0.symm
          have htb := flatN_take1 l (m' + 1) hl0
          have hle7 : (1 + (m' + 1)) * 7 ≤ (m' + 1) * 7 + 1 + 1 + 1 + 1 + 1 + 1 + 1 := by omega
          have hcom : m' + 1 + 1 = 1 + (m' + 1) := by omega
          rw [hl0] at hq1 hq2
          simp [PO, hkv, hfl, flatN_onesT, hta, hq1, hq2]
          refine acallC_by 0 (t_one 43 t.at_ ⟨#[]⟩ 7 (1 + (m' + 1)) ((Tr.mk k x m c y rf kids).cells ++ flatN l)) ?_ (by kernel_rfl) ?_ ?_ ?_ ?_ ?_ ?_ ?_ ?_ ?_ <;> simp [PO, Tr.cells, hfl, hle7, htb]
          refine Again.mk 3 (({ s3 with head := s1.head }, Tr.mk 43 [] 0 t.at_ [] 0 (Tr.mk k x m c y rf kids :: l), false)) (by simp) (by simp) (by simp) rfl ?_ ?_ ?_
          · simp [prF, PO, flatN, Tr.cells, hl0, hcom, vecN1s]
          · exact ⟨⟨by have := hf2.le; show s.at_ ≤ s3.at_; omega, hf3.lt, fun _ => hf2.bad hb2⟩, fun _ => by have := hf2.le; show s.at_ < s3.at_; omega⟩
          · exact meas_lt (s' := { s3 with head := s1.head }) ⟨hf23.le, hf23.lt, hf23.bad⟩ hb2 (fun _ => hle3)
      · by_cases h2 : t.text = [91]
        · simp [h1, h2, Tr.cells]
          refine acallC_of 1 (hix { s2.next with head := false } t.at_ (.mk k x m c y rf kids) hfn.lt (by show meas toks s2.next < n; omega)) ?_ (by kernel_rfl) ?_ ?_ ?_ ?_ ?_ ?_ <;> simp [PO, PS.next, Tr.av, Tr.cells]
          rintro r o ⟨⟨k3, x3, m3, c3, y3, rf3, kids3⟩, s3, rfl, rfl, hf3⟩
          have hf23 : Fwd toks s2 s3 := ⟨by have : s2.at_ + 1 ≤ s3.at_ := hf3.le; omega, hf3.lt, fun _ => hb2⟩
          have hle3 : s2.at_ + 1 ≤ s3.at_ := hf3.le
          simp [PO, Tr.av, Tr.cells]
          refine Again.mk 3 (({ s3 with head := s1.head }, Tr.mk k3 x3 m3 c3 y3 rf3 kids3, false)) (by simp) (by simp) (by simp) rfl ?_ ?_ ?_
          · simp [prF, PO, Tr.cells]
          · exact ⟨⟨by have := hf2.le; show s.at_ ≤ s3.at_; omega, hf3.lt, fun _ => hf2.bad hb2⟩, fun _ => by have := hf2.le; show s.at_ < s3.at_; omega⟩
          · exact meas_lt (s' := { s3 with head := s1.head }) ⟨hf23.le, hf23.lt, hf23.bad⟩ hb2 (fun _ => hle3)
        · obtain ⟨w, s3, hnm, hf3, hg3⟩ := name_b hk (s := { s2.next with head := false }) hfn.lt
          have hf23 : Fwd toks s2 s3 := ⟨by have : s2.at_ + 1 ≤ s3.at_ := hf3.le; omega, hf3.lt, fun _ => hb2⟩
          have hle3 : s2.at_ + 1 ≤ s3.at_ := hf3.le
          simp [h1, h2, Tr.cells]
          refine acallC_by 1 (hnm) ?_ (by kernel_rfl) ?_ ?_ ?_ ?_ ?_ ?_ ?_ ?_ ?_ <;> simp [PO, PS.next, Tr.cells]
          refine acallC_by 0 (t_one 47 t.at_ ⟨w.toArray⟩ 7 1 (Tr.mk k x m c y rf kids).cells) ?_ (by kernel_rfl) ?_ ?_ ?_ ?_ ?_ ?_ ?_ ?_ ?_ <;> simp [PO, Tr.cells]
          refine Again.mk 3 (({ s3 with head := s1.head }, Tr.mk 47 w 0 t.at_ [] 0 [.mk k x m c y rf kids], false)) (by simp) (by simp) (by simp) rfl ?_ ?_ ?_
          · simp [prF, PO, flatN, Tr.cells, vecN1, vecNs]
          · exact ⟨⟨by have := hf2.le; show s.at_ ≤ s3.at_; omega, hf3.lt, fun _ => hf2.bad hb2⟩, fun _ => by have := hf2.le; show s.at_ < s3.at_; omega⟩
          · exact meas_lt (s' := { s3 with head := s1.head }) ⟨hf23.le, hf23.lt, hf23.bad⟩ hb2 (fun _ => hle3)
  · rintro v ⟨s2, ⟨k, x, m, c, y, rf, kids⟩, b⟩ ⟨hf2, hg2⟩
    simp only at hf2 hg2
    simp [prF, PO, Tr.cells]
    exact ⟨.mk k x m c y rf kids, { s2 with bare := b }, rfl, rfl, ⟨hf2.le, hf2.lt, hf2.bad⟩, hg2⟩
end Go.Proofs.Ytoaodlfmhioigaa
end
