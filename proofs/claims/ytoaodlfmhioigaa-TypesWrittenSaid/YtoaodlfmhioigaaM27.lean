/- A part of the proof of TypesWrittenSaid. No condition. -/
import Derived.Test.YtoaodlfmhioigaaM15
set_option linter.unusedSimpArgs false
set_option linter.unusedVariables false
section
namespace Go.Proofs.Ytoaodlfmhioigaa

abbrev X1 := PS × Bool × List Tr × Tok × Option (Nat × List Tok)
def x1F (toks : List Tok) (v : Nat → AV) : X1 → AS
  | (s, b, us, _, none) => ⟨[.ref 0 0 0, v 1, .ref 1 0 0, .row 2 7 0 1 0, B b, .val (.slice none 0 0), v 6, v 7, v 8, v 9, v 10, v 11, v 12, v 13, v 14, v 15, v 16, v 17, v 18, v 19, v 20, v 21, v 22, v 23, v 24, v 25, v 26, v 27, v 28, v 29, v 30, v 31, v 32, v 33, v 34, v 35, v 36, v 37, v 38, v 39, v 40, v 41, v 42, v 43, v 44, v 45, v 46, v 47, v 48, v 49, v 50, v 51, v 52, v 53, v 54, v 55, v 56, v 57, v 58, v 59, v 60, v 61, v 62, v 63, v 64, v 65, v 66, v 67, v 68, v 69, v 70, v 71, v 72, v 73, v 74, v 75, v 76, v 77, v 78, v 79, v 80, v 81, v 82, v 83, v 84, v 85, v 86, v 87, v 88, v 89, v 90, v 91, v 92, v 93, v 94, v 95, v 96, v 97, v 98, v 99, v 100, v 101, v 102, v 103, v 104, v 105, v 106, v 107, v 108, v 109], [PO toks s, ZO, ⟨true, 0, some 7, 25, flatN us⟩]⟩
  | (s, b, us, t0, some (n, ts)) => ⟨[.ref 0 0 0, v 1, .ref 1 0 0, .row 2 7 0 (n + 2) (n + 1), B b, .row 4 4 0 (n + 1) n, v 6, v 7, v 8, v 9, v 10, v 11, v 12, v 13, v 14, v 15, v 16, v 17, v 18, v 19, v 20, v 21, v 22, v 23, v 24, v 25, v 26, v 27, v 28, v 29, v 30, v 31, v 32, v 33, v 34, v 35, v 36, v 37, v 38, v 39, v 40, v 41, v 42, v 43, v 44, v 45, v 46, v 47, v 48, v 49, v 50, v 51, v 52, v 53, v 54, v 55, v 56, v 57, v 58, v 59, v 60, v 61, v 62, v 63, v 64, v 65, v 66, v 67, v 68, v 69, v 70, v 71, v 72, v 73, v 74, v 75, v 76, v 77, v 78, v 79, v 80, v 81, v 82, v 83, v 84, v 85, v 86, v 87, v 88, v 89, v 90, v 91, v 92, v 93, v 94, v 95, v 96, v 97, v 98, v 99, v 100, v 101, v 102, v 103, v 104, v 105, v 106, v 107, v 108, v 109], [PO toks s, ZO, ⟨true, n + 1, some 7, 25, flatN us⟩, ⟨true, 0, some 4, 45, t0.cells⟩, ⟨true, n, some 4, 45, flatT ts⟩]⟩
def X1C (toks : List Tok) (s1 : PS) : X1 → Prop
  | (s, _, us, _, none) => Fwd toks s1 s ∧ us.length = 1
  | (s, _, us, _, some (n, ts)) => Fwd toks s1 s ∧ us.length = n + 2 ∧ ts.length = n + 1 ∧ n + 1 ≤ s.at_
theorem X1C.fwd {toks : List Tok} {s1 : PS} : ∀ {i : X1}, X1C toks s1 i → Fwd toks s1 i.1
  | (_, _, _, _, none), h => h.1
  | (_, _, _, _, some (_, _)), h => h.1
structure XS where
  us : List Tr
  ju : List AV
  gu : Nat
  a : Nat
  ts : List Tok
  jt : List AV
  gt : Nat
  m : Nat
  t0 : Tok
def XS.os (x : XS) : List AO := [⟨true, x.gu, some 7, 25, flatN x.us ++ x.ju⟩, ⟨true, 0, some 4, 45, x.t0.cells⟩, ⟨true, x.gt, some 4, 45, flatT x.ts ++ x.jt⟩]
def XS.Ok (x : XS) : Prop := x.a = x.m + 1 ∧ x.us.length = x.a ∧ x.ts.length = x.m ∧ x.m < 1048576 ∧ (∀ f, AV.closedL f x.ju = true) ∧ (∀ f, AV.closedL f x.jt = true)
def x2N (toks : List Tok) (s : PS) (b : Bool) (us : List Tr) (v : Nat → AV) : Nat → AS
  | k => ⟨[.ref 0 0 0, v 1, .ref 1 0 0, .row 2 7 0 1 0, B b, .val (.slice none 0 0), v 6, I (k : Int), v 8, v 9, v 10, v 11, v 12, v 13, v 14, v 15, v 16, v 17, v 18, v 19, v 20, v 21, v 22, v 23, v 24, v 25, v 26, v 27, v 28, v 29, v 30, v 31, v 32, v 33, v 34, v 35, v 36, v 37, v 38, v 39, v 40, v 41, v 42, v 43, v 44, v 45, v 46, v 47, v 48, v 49, v 50, v 51, v 52, v 53, v 54, v 55, v 56, v 57, v 58, v 59, v 60, v 61, v 62, v 63, v 64, v 65, v 66, v 67, v 68, v 69, v 70, v 71, v 72, v 73, v 74, v 75, v 76, v 77, v 78, v 79, v 80, v 81, v 82, v 83, v 84, v 85, v 86, v 87, v 88, v 89, v 90, v 91, v 92, v 93, v 94, v 95, v 96, v 97, v 98, v 99, v 100, v 101, v 102, v 103, v 104, v 105, v 106, v 107, v 108, v 109], [PO toks s, ZO, ⟨true, 0, some 7, 25, flatN us⟩]⟩
def x2S (toks : List Tok) (s : PS) (b : Bool) (v : Nat → AV) : Nat × XS → AS
  | (k, x) => ⟨[.ref 0 0 0, v 1, .ref 1 0 0, .row 2 7 0 x.a x.gu, B b, .row 4 4 0 x.m x.gt, v 6, I (k : Int), v 8, v 9, v 10, v 11, v 12, v 13, v 14, v 15, v 16, v 17, v 18, v 19, v 20, v 21, v 22, v 23, v 24, v 25, v 26, v 27, v 28, v 29, v 30, v 31, v 32, v 33, v 34, v 35, v 36, v 37, v 38, v 39, v 40, v 41, v 42, v 43, v 44, v 45, v 46, v 47, v 48, v 49, v 50, v 51, v 52, v 53, v 54, v 55, v 56, v 57, v 58, v 59, v 60, v 61, v 62, v 63, v 64, v 65, v 66, v 67, v 68, v 69, v 70, v 71, v 72, v 73, v 74, v 75, v 76, v 77, v 78, v 79, v 80, v 81, v 82, v 83, v 84, v 85, v 86, v 87, v 88, v 89, v 90, v 91, v 92, v 93, v 94, v 95, v 96, v 97, v 98, v 99, v 100, v 101, v 102, v 103, v 104, v 105, v 106, v 107, v 108, v 109], PO toks s :: ZO :: x.os⟩
def x3N (toks : List Tok) (s : PS) (b : Bool) (us : List Tr) (k : Int) (v : Nat → AV) : Nat → AS
  | i => ⟨[.ref 0 0 0, v 1, .ref 1 0 0, .row 2 7 0 1 0, B b, .val (.slice none 0 0), v 6, I k, I (i : Int), v 9, v 10, v 11, v 12, v 13, v 14, v 15, v 16, v 17, v 18, v 19, v 20, v 21, v 22, v 23, v 24, v 25, v 26, v 27, v 28, v 29, v 30, v 31, v 32, v 33, v 34, v 35, v 36, v 37, v 38, v 39, v 40, v 41, v 42, v 43, v 44, v 45, v 46, v 47, v 48, v 49, v 50, v 51, v 52, v 53, v 54, v 55, v 56, v 57, v 58, v 59, v 60, v 61, v 62, v 63, v 64, v 65, v 66, v 67, v 68, v 69, v 70, v 71, v 72, v 73, v 74, v 75, v 76, v 77, v 78, v 79, v 80, v 81, v 82, v 83, v 84, v 85, v 86, v 87, v 88, v 89, v 90, v 91, v 92, v 93, v 94, v 95, v 96, v 97, v 98, v 99, v 100, v 101, v 102, v 103, v 104, v 105, v 106, v 107, v 108, v 109], [PO toks s, ZO, ⟨true, 0, some 7, 25, flatN us⟩]⟩
def x3S (toks : List Tok) (s : PS) (b : Bool) (k : Int) (v : Nat → AV) : Nat × XS → AS
  | (i, x) => ⟨[.ref 0 0 0, v 1, .ref 1 0 0, .row 2 7 0 x.a x.gu, B b, .row 4 4 0 x.m x.gt, v 6, I k, I (i : Int), v 9, v 10, v 11, v 12, v 13, v 14, v 15, v 16, v 17, v 18, v 19, v 20, v 21, v 22, v 23, v 24, v 25, v 26, v 27, v 28, v 29, v 30, v 31, v 32, v 33, v 34, v 35, v 36, v 37, v 38, v 39, v 40, v 41, v 42, v 43, v 44, v 45, v 46, v 47, v 48, v 49, v 50, v 51, v 52, v 53, v 54, v 55, v 56, v 57, v 58, v 59, v 60, v 61, v 62, v 63, v 64, v 65, v 66, v 67, v 68, v 69, v 70, v 71, v 72, v 73, v 74, v 75, v 76, v 77, v 78, v 79, v 80, v 81, v 82, v 83, v 84, v 85, v 86, v 87, v 88, v 89, v 90, v 91, v 92, v 93, v 94, v 95, v 96, v 97, v 98, v 99, v 100, v 101, v 102, v 103, v 104, v 105, v 106, v 107, v 108, v 109], PO toks s :: ZO :: x.os⟩
def X2C (i : Nat × XS) : Prop := i.1 ≤ 5 ∧ i.2.Ok
def X3C (i : Nat × XS) : Prop := i.1 ≤ i.2.m ∧ i.2.Ok
theorem flatN_split (us : List Tr) (i : Nat) (h : i + 1 < us.length) : ∃ ul a b ur, us = ul ++ a :: b :: ur ∧ ul.length = i := by
  refine ⟨us.take i, us[i], us[i + 1], us.drop (i + 2), ?_, by simp; omega⟩
  rw [List.getElem_cons_drop, List.getElem_cons_drop, List.take_append_drop]
theorem flatT_split (ts : List Tok) (i : Nat) (h : i < ts.length) : ∃ tl a tr, ts = tl ++ a :: tr ∧ tl.length = i := by
  refine ⟨ts.take i, ts[i], ts.drop (i + 1), ?_, by simp; omega⟩
  rw [List.getElem_cons_drop, List.take_append_drop]
theorem flatT_append : ∀ l m : List Tok, flatT (l ++ m) = flatT l ++ flatT m
  | [], m => rfl
  | t :: l, m => by simp [flatT, flatT_append l m]
theorem flatT_take (l : List Tok) (n : Nat) (h : n = l.length) : (flatT l).take (n * 4) = flatT l := List.take_of_length_le (by rw [flatT_length, h]; omega)
@[simp] theorem flatT_closed (f : Nat → Bool) : ∀ l : List Tok, AV.closedL f (flatT l) = true
  | [] => rfl
  | t :: l => by rw [flatT, closedL_append, flatT_closed f l]; simp [Tok.cells]
theorem flatT_onesT (l : List Tok) : (∀ x, x ∈ flatT l → oneA x = true) ↔ True := iff_true_intro (by
  induction l with
  | nil => intro x h; cases h
  | cons t l ih =>
    intro x h
    rcases List.mem_append.1 h with h | h
    · simp [Tok.cells] at h; rcases h with rfl | rfl | rfl | rfl <;> simp [Value.oneCell']
    · exact ih x h)
@[simp] theorem Tok.closed (f : Nat → Bool) (t : Tok) : AV.closedL f t.cells = true := by simp [Tok.cells]
@[simp] theorem Tok.ones (t : Tok) : t.cells.all oneA = true := by simp [Tok.cells, Value.oneCell']

set_option maxRecDepth 20000 in
set_option maxHeartbeats 4000000 in
theorem t_expr_step {toks : List Tok} (hk : TK toks) {n0 : Nat} (hu : ∀ s' : PS, s'.at_ < toks.length → meas toks s' ≤ n0 → NodeAt toks 72 s')
    (s : PS) (h : s.at_ < toks.length) (hm : meas toks s ≤ n0) : NodeAt toks 69 s := by
  have hlen := hk.len
  have h2m : (2 : Nat) ≤ maxLen := by decide
  refine tri_by Try.func69 (by rfl) _ Try.ntmps69 _ (by rfl) ?_
  simp [PO]
  refine acallC_of 1 (hu s h hm) ?_ (by kernel_rfl) ?_ ?_ ?_ ?_ ?_ ?_ <;> simp [PO]
  rintro r o ⟨⟨k, x, m, c, y, rf, kids⟩, s1, rfl, rfl, hf1, hg1⟩
  simp [PO, Tr.av, Tr.cells]
  refine loopC_to 0 (x1F toks) (X1C toks s1) (X1C toks s1) (fun i => meas toks i.1) (s1, s1.bare, [.mk k x m c y rf kids], ⟨0, [], 0, 0⟩, none) (by rfl) ⟨Fwd.refl hf1.lt, rfl⟩ ?_ ?_
  · rintro v ⟨s2, b, us, t0, g⟩ hc
    have hf2 := hc.fwd
    simp only at hf2
    have hM2 := meas_fwd (hf1.trans hf2)
    by_cases hb : s2.bad < 0
    · obtain ⟨u, hpk, hu2, hok⟩ := peek_b hk hf2.lt
      have hlv := t_level u
      have hw := wrap_one (n := s2.at_) (by have := hf2.lt; omega)
      simp only [Tok.cells] at hlv
      match g, hc with
      | none, hc =>
        obtain ⟨_, hl1⟩ := hc
        have hl1 : us.length = 1 := hl1
        have hta : (flatN us).take 7 = flatN us := flatN_take us 1 hl1.symm
        simp [x1F, PO, hb]
        refine acallC_by 1 (hpk) ?_ (by kernel_rfl) ?_ ?_ ?_ ?_ ?_ ?_ ?_ ?_ ?_ <;> simp [PO, Tok.cells]
        refine acallC_of 0 (hlv) ?_ (by kernel_rfl) ?_ ?_ ?_ ?_ ?_ ?_ <;> first | rintro r o ⟨lv, rfl, rfl, hl5⟩ | simp [PO]
        by_cases hl : 0 < lv
        · have h5 : u.kind = 5 := by
            by_cases h5 : u.kind = 5
            · exact h5
            · have := hl5 h5; omega
          have hfn := fwd_next hk hu2 (by rw [h5]; decide)
          have hmn := meas_next hf2.lt hb
          simp [PO, hl]
          refine acallC_by 1 (hpk) ?_ (by kernel_rfl) ?_ ?_ ?_ ?_ ?_ ?_ ?_ ?_ ?_ <;> simp [PO, Tok.cells, hw]
          refine acallC_of 1 (hu s2.next hfn.lt (by omega)) ?_ (by kernel_rfl) ?_ ?_ ?_ ?_ ?_ ?_ <;> first | rintro r o ⟨⟨k3, x3, m3, c3, y3, r3, kids3⟩, s3, rfl, rfl, hf3, hg3⟩ | simp [PO, PS.next]
          simp [PO, Tr.av, Tr.cells, flatN_length, hl1, hta, h2m]
          refine Again.mk 5 ((s3, false, us ++ [.mk k3 x3 m3 c3 y3 r3 kids3], u, some (0, [u]))) (by simp) (by simp) (by simp) rfl ?_ ?_ ?_
          · simp [x1F, PO, flatN, flatT, Tr.cells, Tok.cells, flatN_append]
          · exact ⟨(hf2.trans hfn).trans hf3, by simp [hl1], rfl, by have : s2.at_ + 1 ≤ s3.at_ := hf3.le; show 0 + 1 ≤ s3.at_; omega⟩
          · exact meas_lt (hfn.trans hf3) hb (fun _ => hf3.le)
        · simp [PO, hl]
          refine Left.mk ((s2, b, us, t0, none)) rfl ?_ ?_
          · simp [x1F, PO, Tok.cells]
          · exact ⟨hf2, hl1⟩
      | some (n, ts), hc =>
        obtain ⟨_, hl1, hl2, hl3⟩ := hc
        have hl3 : n + 1 ≤ s2.at_ := hl3
        have hlt2 := hf2.lt
        obtain ⟨hq1, hq2⟩ := len_ok (n := n + 1 + 1) (by omega)
        obtain ⟨hq3, hq4⟩ := len_ok (n := n + 2 + 1) (by omega)
        have hq5 : (n + 1 + 1) * 40 ≤ 140737488355328 := Nat.le_trans (Nat.mul_le_mul_left _ (by decide)) hq2
        have hta := flatN_take us (n + 2) hl1.symm
        have htb := flatT_take ts (n + 1) hl2.symm
        simp [x1F, PO, hb]
        refine acallC_by 1 (hpk) ?_ (by kernel_rfl) ?_ ?_ ?_ ?_ ?_ ?_ ?_ ?_ ?_ <;> simp [PO, Tok.cells]
        refine acallC_of 0 (hlv) ?_ (by kernel_rfl) ?_ ?_ ?_ ?_ ?_ ?_ <;> first | rintro r o ⟨lv, rfl, rfl, hl5⟩ | simp [PO]
        by_cases hl : 0 < lv
        · have h5 : u.kind = 5 := by
            by_cases h5 : u.kind = 5
            · exact h5
            · have := hl5 h5; omega
          have hfn := fwd_next hk hu2 (by rw [h5]; decide)
          have hmn := meas_next hf2.lt hb
          simp [PO, hl]
          refine acallC_by 1 (hpk) ?_ (by kernel_rfl) ?_ ?_ ?_ ?_ ?_ ?_ ?_ ?_ ?_ <;> simp [PO, Tok.cells, hw, flatT_length, hl2, hq1, hq5, htb]
          refine acallC_of 1 (hu s2.next hfn.lt (by omega)) ?_ (by kernel_rfl) ?_ ?_ ?_ ?_ ?_ ?_ <;> first | rintro r o ⟨⟨k3, x3, m3, c3, y3, r3, kids3⟩, s3, rfl, rfl, hf3, hg3⟩ | simp [PO, PS.next]
          simp [PO, Tr.av, Tr.cells, flatN_length, hl1, hta, h2m, flatT_length, hl2, hq1, hq2, hq3, hq4, hq5, htb]
          refine Again.mk 5 ((s3, false, us ++ [.mk k3 x3 m3 c3 y3 r3 kids3], t0, some (n + 1, ts ++ [u]))) (by simp) (by simp) (by simp) rfl ?_ ?_ ?_
          · simp [x1F, PO, flatN, flatT, Tr.cells, Tok.cells, flatN_append, flatT_append]
          · exact ⟨(hf2.trans hfn).trans hf3, by simp [hl1], by simp [hl2], by have : s2.at_ + 1 ≤ s3.at_ := hf3.le; show n + 1 + 1 ≤ s3.at_; omega⟩
          · exact meas_lt (hfn.trans hf3) hb (fun _ => hf3.le)
        · simp [PO, hl]
          refine Left.mk ((s2, b, us, t0, some (n, ts))) rfl ?_ ?_
          · simp [x1F, PO, Tok.cells]
          · exact ⟨hf2, hl1, hl2, hl3⟩
    · match g, hc with
      | none, hc =>
        simp [x1F, PO, hb]
        refine Left.mk ((s2, b, us, t0, none)) rfl ?_ ?_
        · simp [x1F, PO]
        · exact hc
      | some (n, ts), hc =>
        simp [x1F, PO, hb]
        refine Left.mk ((s2, b, us, t0, some (n, ts))) rfl ?_ ?_
        · simp [x1F, PO, Tok.cells]
        · exact hc
  · rintro v ⟨s2, b, us, t0, g⟩ hc
    have hf2 := hc.fwd
    simp only at hf2
    match g, hc with
    | none, hc =>
      obtain ⟨_, hl1⟩ := hc
      have hl1 : us.length = 1 := hl1
      have hta : (flatN us).take 7 = flatN us := flatN_take us 1 hl1.symm
      simp [x1F, PO]
      refine loopC_to 2 (x2N toks s2 b us) (fun k => k ≤ 5) (fun k => k ≤ 5) id 5 (by rfl) (Nat.le_refl _) ?_ ?_
      · rintro v k hk5
        cases k with
        | zero =>
          simp [x2N, PO]
          refine Left.mk (0) rfl ?_ ?_
          · simp [x2N, PO]
          · exact hk5
        | succ k =>
          have hw1 : IntKind.i64.wrap (k : Int) = (k : Int) := wrap_i (by omega)
          have hge : (1 : Int) ≤ (k : Int) + 1 := by omega
          simp [x2N, PO, hge]
          refine loopC_to 4 (x3N toks s2 b us ((k : Int) + 1)) (fun i => i = 0) (fun i => i = 0) id 0 (by rfl) rfl ?_ ?_
          · rintro v i rfl
            simp [x3N, PO]
            refine Left.mk (0) rfl ?_ ?_
            · simp [x3N, PO]
            · rfl
          · rintro v i rfl
            simp [x3N, PO, hw1]
            refine Again.mk 3 (k) (by simp) (by simp) (by simp) rfl ?_ ?_ ?_
            · simp [x2N, PO]
            · exact Nat.le_of_succ_le hk5
            · exact Nat.lt_succ_self _
      · rintro v k hk5
        simp [x2N, PO, flatN_length, hl1, hta]
        obtain ⟨u0, rfl⟩ := List.length_eq_one_iff.1 hl1
        exact ⟨u0, { s2 with bare := b }, by simp [flatN, Tr.av], rfl, ⟨Nat.le_trans hf1.le hf2.le, hf2.lt, fun e => hf1.bad (hf2.bad e)⟩, fun e => Nat.lt_of_lt_of_le (hg1 (hf2.bad e)) hf2.le⟩
    | some (n, ts), hc =>
      obtain ⟨_, hl1, hl2, hl3⟩ := hc
      have hl3 : n + 1 ≤ s2.at_ := hl3
      have hlt2 := hf2.lt
      simp [x1F, PO]
      refine loopC_to 2 (x2S toks s2 b) X2C X2C (fun i => i.1) (5, ⟨us, [], n + 1, n + 2, ts, [], n, n + 1, t0⟩) (by simp [x2S, XS.os, PO]) ⟨Nat.le_refl _, rfl, hl1, hl2, by show n + 1 < 1048576; omega, fun _ => rfl, fun _ => rfl⟩ ?_ ?_
      · rintro v ⟨k, x⟩ ⟨hk5, hx⟩
        simp only at hk5 hx
        cases k with
        | zero =>
          simp [x2S, PO, XS.os]
          refine Left.mk ((0, x)) rfl ?_ ?_
          · simp [x2S, PO, XS.os]
          · exact ⟨hk5, hx⟩
        | succ k =>
          have hw1 : IntKind.i64.wrap (k : Int) = (k : Int) := wrap_i (by omega)
          have hge : (1 : Int) ≤ (k : Int) + 1 := by omega
          simp [x2S, PO, XS.os, hge]
          refine loopC_to 4 (x3S toks s2 b ((k : Int) + 1)) X3C X3C (fun i => i.2.m - i.1) (0, x) (by rfl) ⟨Nat.zero_le _, hx⟩ ?_ ?_
          · rintro v ⟨i, x⟩ ⟨hi, hx⟩
            simp only at hi hx
            by_cases hlt : i < x.m
            · obtain ⟨hx1, hx2, hx3, hx4, hx5, hx6⟩ := hx
              obtain ⟨us, ju, gu, a, ts, jt, gt, m, t1⟩ := x
              simp only at hi hlt hx1 hx2 hx3 hx4 hx5 hx6
              obtain ⟨tl, tk, tr, rfl, htl⟩ := flatT_split ts i (by omega)
              obtain ⟨ul, ⟨ka, xa, ma, ca, ya, ra, kidsa⟩, ⟨kb, xb, mb, cb, yb, rb, kidsb⟩, ur, rfl, hul⟩ := flatN_split us i (by omega)
              have hlv := t_level tk
              simp only [Tok.cells] at hlv
              have hwi := wrap_one (n := i) (by omega)
              have hT : flatT (tl ++ tk :: tr) = flatT tl ++ ([I tk.kind, S tk.text, I tk.num, I tk.at_] ++ flatT tr) := by rw [flatT_append]; rfl
              have hTl : (flatT tl).length = i * 4 := by rw [flatT_length, htl]
              have hN : flatN (ul ++ .mk ka xa ma ca ya ra kidsa :: .mk kb xb mb cb yb rb kidsb :: ur) = flatN ul ++ ([I ka, S xa, I ma, I ca, S ya, I ra, vecN kidsa.length (flatN kidsa)] ++ ([I kb, S xb, I mb, I cb, S yb, I rb, vecN kidsb.length (flatN kidsb)] ++ flatN ur)) := by rw [flatN_append]; rfl
              have hNl : (flatN ul).length = i * 7 := by rw [flatN_length, hul]
              have hd1 : ∀ r : List AV, (flatT tl ++ r).drop (i * 4) = r := fun r => by rw [← hTl, List.drop_left]
              have hle1 : i * 4 + 4 ≤ i * 4 + ((flatT tr).length + jt.length + 1 + 1 + 1 + 1) := by omega
              simp [x3S, PO, XS.os, hlt, hT, hTl, hd1, hle1]
              refine acallC_of 0 (hlv) ?_ (by kernel_rfl) ?_ ?_ ?_ ?_ ?_ ?_ <;> first | rintro r o ⟨lv, rfl, rfl, hl5⟩ | simp [PO]
              by_cases hk : lv = (k : Int) + 1
              · simp [hk]
                have hia : i < a := by omega
                have hia1 : i + 1 < a := by omega
                have hd2 : ∀ r : List AV, (flatN ul ++ r).drop (i * 7) = r := fun r => by rw [← hNl, List.drop_left]
                have hd3 : ∀ (a b c d e f g : AV) (r : List AV), (flatN ul ++ a :: b :: c :: d :: e :: f :: g :: r).drop ((i + 1) * 7) = r := fun a b c d e f g r => by
                  rw [show (i + 1) * 7 = (flatN ul ++ [a, b, c, d, e, f, g]).length by simp [hNl]; omega, show flatN ul ++ a :: b :: c :: d :: e :: f :: g :: r = (flatN ul ++ [a, b, c, d, e, f, g]) ++ r by simp, List.drop_left]
                have hd4 : ∀ (q : Nat) (r : List AV), (flatT tl ++ r).drop (i * 4 + q) = r.drop q := fun q r => by rw [← hTl, List.drop_append]; simp
                have hd5 : ∀ (q : Nat) (r : List AV), (flatN ul ++ r).drop (i * 7 + q) = r.drop q := fun q r => by rw [← hNl, List.drop_append]; simp
                have ht5 : ∀ (r : List AV), (flatN ul ++ r).take (i * 7) = flatN ul := fun r => by rw [← hNl, List.take_left]
                have hc1 : (0 : Int) ≤ (i : Int) + 1 := by omega
                have hc2 : (i : Int) + 1 < (a : Int) := by omega
                have hle4 : i * 4 + 1 + 1 ≤ i * 4 + ((flatT tr).length + jt.length + 1 + 1 + 1 + 1) := by omega
                have hle5 : i * 4 + 3 + 1 ≤ i * 4 + ((flatT tr).length + jt.length + 1 + 1 + 1 + 1) := by omega
                have hle2 : i * 7 + 7 ≤ i * 7 + ((flatN ur).length + ju.length + 1 + 1 + 1 + 1 + 1 + 1 + 1 + 1 + 1 + 1 + 1 + 1 + 1 + 1) := by omega
                have hle3 : (i + 1) * 7 + 7 ≤ i * 7 + ((flatN ur).length + ju.length + 1 + 1 + 1 + 1 + 1 + 1 + 1 + 1 + 1 + 1 + 1 + 1 + 1 + 1) := by omega
                refine adrawC_by [2] [0,1,2,3,4,5,6,7,8,9,10,11,12,13,14,16,17,18,19] (.two 15 20 (.late 20 (.late 21 (.late 22 (.late 23 (.late 24 .fin))))) (.late 15 (.late 21 (.late 22 (.late 23 (.late 24 .fin)))))) (by kernel_rfl) (by kernel_rfl) (by kernel_rfl) ?_
                simp [hlt, hT, hTl, hd1, hle1, hia, hia1, hwi, hN, hNl, hd2, hd3, hle2, hle3, h2m, hd4, hd5, ht5, hc1, hc2, hle4, hle5]
                refine acallC_by 0 (t_one 42 tk.at_ ⟨tk.text.toArray⟩ 7 2 [I ka, S xa, I ma, I ca, S ya, I ra, vecN kidsa.length (flatN kidsa), I kb, S xb, I mb, I cb, S yb, I rb, vecN kidsb.length (flatN kidsb)]) ?_ (by kernel_rfl) ?_ ?_ ?_ ?_ ?_ ?_ ?_ ?_ ?_ <;> simp [hia, hN, hNl, hd2, hd3, hd5, ht5, hle2]
                refine adrawC_by [2] [0,1,2,3,4,5,6,7] (.late 8 (.late 9 .fin)) (by kernel_rfl) (by kernel_rfl) (by kernel_rfl) ?_
                have hul' : ur.length = a - (i + 2) := by simp at hx2; omega
                have htr' : tr.length = m - (i + 1) := by simp at hx3; omega
                have hwi2 : IntKind.i64.wrap ((i : Int) + 2) = (i : Int) + 2 := wrap_i (by omega)
                have hnn2 : (0 : Int) ≤ (i : Int) + 2 := by omega
                have htn2 : ((i : Int) + 2).toNat = i + 2 := by omega
                have htn1 : ((i : Int) + 1).toNat = i + 1 := by omega
                have hia' : i + 1 ≤ a := by omega
                have hia2 : i + 2 ≤ a := by omega
                have him' : i + 1 ≤ m := by omega
                have him : i ≤ m := by omega
                have hfu : (flatN ur).length = (a - (i + 2)) * 7 := by rw [flatN_length, hul']
                have hft : (flatT tr).length = (m - (i + 1)) * 4 := by rw [flatT_length, htr']
                have hn1 : ∀ q : Nat, (i + 2) * 7 + (a - (i + 2)) * 7 ≤ i * 7 + ((a - (i + 2)) * 7 + q + 1 + 1 + 1 + 1 + 1 + 1 + 1 + 1 + 1 + 1 + 1 + 1 + 1 + 1) := fun q => by omega
                have hn2 : ∀ q : Nat, (i + 1) * 7 ≤ i * 7 + (q + 1 + 1 + 1 + 1 + 1 + 1 + 1 + 1 + 1 + 1 + 1 + 1 + 1 + 1) := fun q => by omega
                have hn3 : ∀ q : Nat, (i + 1) * 4 + (m - (i + 1)) * 4 ≤ i * 4 + ((m - (i + 1)) * 4 + q + 1 + 1 + 1 + 1) := fun q => by omega
                have hn1' : ∀ q : Nat, (i + 2) * 7 ≤ i * 7 + (q + 1 + 1 + 1 + 1 + 1 + 1 + 1 + 1 + 1 + 1 + 1 + 1 + 1 + 1) := fun q => by omega
                have hn3' : ∀ q : Nat, (i + 1) * 4 ≤ i * 4 + (q + 1 + 1 + 1 + 1) := fun q => by omega
                have hn4 : ∀ q : Nat, i * 4 ≤ i * 4 + q := fun q => by omega
                obtain ⟨hq1, hq2⟩ := len_ok (n := i + 1 + (a - (i + 2))) (by omega)
                obtain ⟨hq3, hq4'⟩ := len_ok (n := i + (m - (i + 1))) (by omega)
                have hq4 : (i + (m - (i + 1))) * 40 ≤ 140737488355328 := Nat.le_trans (Nat.mul_le_mul_left _ (by decide)) hq4'
                have hdr : ∀ (x1 x2 x3 x4 x5 x6 x7 x8 x9 x10 x11 x12 x13 x14 : AV) (r : List AV), (flatN ul ++ x1 :: x2 :: x3 :: x4 :: x5 :: x6 :: x7 :: x8 :: x9 :: x10 :: x11 :: x12 :: x13 :: x14 :: r).drop ((i + 2) * 7) = r := fun x1 x2 x3 x4 x5 x6 x7 x8 x9 x10 x11 x12 x13 x14 r => by
                  rw [show (i + 2) * 7 = (flatN ul ++ [x1, x2, x3, x4, x5, x6, x7, x8, x9, x10, x11, x12, x13, x14]).length by simp [hNl]; omega, show flatN ul ++ x1 :: x2 :: x3 :: x4 :: x5 :: x6 :: x7 :: x8 :: x9 :: x10 :: x11 :: x12 :: x13 :: x14 :: r = (flatN ul ++ [x1, x2, x3, x4, x5, x6, x7, x8, x9, x10, x11, x12, x13, x14]) ++ r by simp, List.drop_left]
                have hdt : ∀ (x1 x2 x3 x4 : AV) (r : List AV), (flatT tl ++ x1 :: x2 :: x3 :: x4 :: r).drop ((i + 1) * 4) = r := fun x1 x2 x3 x4 r => by
                  rw [show (i + 1) * 4 = (flatT tl ++ [x1, x2, x3, x4]).length by simp [hTl]; omega, show flatT tl ++ x1 :: x2 :: x3 :: x4 :: r = (flatT tl ++ [x1, x2, x3, x4]) ++ r by simp, List.drop_left]
                have htk1 : ∀ (x1 x2 x3 x4 x5 x6 x7 : AV) (r : List AV), (flatN ul ++ x1 :: x2 :: x3 :: x4 :: x5 :: x6 :: x7 :: r).take ((i + 1) * 7) = flatN ul ++ [x1, x2, x3, x4, x5, x6, x7] := fun x1 x2 x3 x4 x5 x6 x7 r => by
                  rw [show (i + 1) * 7 = (flatN ul ++ [x1, x2, x3, x4, x5, x6, x7]).length by simp [hNl]; omega, show flatN ul ++ x1 :: x2 :: x3 :: x4 :: x5 :: x6 :: x7 :: r = (flatN ul ++ [x1, x2, x3, x4, x5, x6, x7]) ++ r by simp, List.take_left]
                have htk2 : ∀ r : List AV, (flatT tl ++ r).take (i * 4) = flatT tl := fun r => by rw [← hTl, List.take_left]
                have htu : (flatN ur ++ ju).take ((a - (i + 2)) * 7) = flatN ur := by rw [← hfu, List.take_left]
                have htt : (flatT tr ++ jt).take ((m - (i + 1)) * 4) = flatT tr := by rw [← hft, List.take_left]
                by_cases hd : a - (i + 2) = 0
                · have he : m - (i + 1) = 0 := by omega
                  simp [hia, hia', hia2, hwi2, hnn2, htn2, htn1, hwi, hN, hNl, hdr, htk1, htu, hfu, hn1, hn2, hc1, hc2, hd, hn1', flatN_onesT]
                  refine adrawC_by [4] [0,1,2,3,4,5,6] (.late 7 (.late 8 .fin)) (by kernel_rfl) (by kernel_rfl) (by kernel_rfl) ?_
                  simp [him, him', htn1, hwi, hT, hTl, hdt, htk2, htt, hft, hn3, hn4, hc1, hc2, he, hn3', flatT_onesT]
                  have htr0 := List.eq_nil_of_length_eq_zero (htr'.trans he)
                  have hur0 := List.eq_nil_of_length_eq_zero (hul'.trans hd)
                  refine Again.mk 5 (i, ⟨ul ++ [.mk 42 tk.text 0 tk.at_ [] 0 [.mk ka xa ma ca ya ra kidsa, .mk kb xb mb cb yb rb kidsb]], [I kb, S xb, I mb, I cb, S yb, I rb, vecN kidsb.length (flatN kidsb)] ++ (flatN ur ++ ju), gu, i + 1, tl, [I tk.kind, S tk.text, I tk.num, I tk.at_] ++ (flatT tr ++ jt), gt, i, t1⟩) (by simp) (by simp) (by simp [hx5, hx6]) rfl ?_ ?_ ?_
                  · simp [x3S, PO, XS.os, flatN_append, flatN, Tr.cells, vecN2]
                  · exact ⟨Nat.le_refl _, rfl, by simp [hul], htl, by show i < 1048576; omega, fun f => by simp [hx5], fun f => by simp [hx6]⟩
                  · show i - i < m - i; omega
                · have he : ¬ m - (i + 1) = 0 := by omega
                  simp [hia, hia', hia2, hwi2, hnn2, htn2, htn1, hwi, hN, hNl, hdr, htk1, htu, hfu, hn1, hn2, hc1, hc2, hd, hq1, hq2, flatN_onesT]
                  refine adrawC_by [4] [0,1,2,3,4,5,6] (.late 7 (.late 8 .fin)) (by kernel_rfl) (by kernel_rfl) (by kernel_rfl) ?_
                  simp [him, him', htn1, hwi, hT, hTl, hdt, htk2, htt, hft, hn3, hn4, hc1, hc2, he, hq3, hq4, flatT_onesT]
                  refine Again.mk 5 (i, ⟨ul ++ .mk 42 tk.text 0 tk.at_ [] 0 [.mk ka xa ma ca ya ra kidsa, .mk kb xb mb cb yb rb kidsb] :: ur, [], gu + 1, i + 1 + (a - (i + 2)), tl ++ tr, [], gt + 1, i + (m - (i + 1)), t1⟩) (by simp) (by simp) (by simp) rfl ?_ ?_ ?_
                  · simp [x3S, PO, XS.os, flatN_append, flatN, flatT_append, Tr.cells, vecN2]
                  · exact ⟨Nat.le_add_right _ _, by show i + 1 + (a - (i + 2)) = i + (m - (i + 1)) + 1; omega, by simp [hul, hul']; omega, by simp [htl, htr'], by show i + (m - (i + 1)) < 1048576; omega, fun f => rfl, fun f => rfl⟩
                  · show i + (m - (i + 1)) - i < m - i; omega
              · simp [hk, hwi]
                refine Again.mk 5 (i + 1, ⟨ul ++ .mk ka xa ma ca ya ra kidsa :: .mk kb xb mb cb yb rb kidsb :: ur, ju, gu, a, tl ++ tk :: tr, jt, gt, m, t1⟩) (by simp) (by simp) (by simp [hx5, hx6]) rfl ?_ ?_ ?_
                · simp [x3S, PO, XS.os, hT, hx5, hx6]
                · exact ⟨hlt, hx1, hx2, hx3, hx4, hx5, hx6⟩
                · show m - (i + 1) < m - i; omega
            · simp [x3S, PO, XS.os, hlt]
              refine Left.mk ((i, x)) rfl ?_ ?_
              · simp [x3S, PO, XS.os]
              · exact ⟨hi, hx⟩
          · rintro v ⟨i, x⟩ ⟨hi, hx⟩
            simp only at hi hx
            have hx5 := hx.2.2.2.2.1
            have hx6 := hx.2.2.2.2.2
            simp [x3S, PO, XS.os, hw1]
            refine Again.mk 5 (k, x) (by simp) (by simp) (by simp [hx5, hx6]) rfl ?_ ?_ ?_
            · simp [x2S, PO, XS.os, hx5, hx6]
            · exact ⟨Nat.le_of_succ_le hk5, hx⟩
            · exact Nat.lt_succ_self _
      · rintro v ⟨k, x⟩ ⟨hk5, hx1, hx2, hx3, hx4, hx5, hx6⟩
        simp only at hk5 hx1 hx2 hx3 hx4 hx5 hx6
        have h0a : 0 < x.a := by omega
        obtain ⟨us, ju, gu, a, ts, jt, gt, m, t1⟩ := x
        simp only at hx1 hx2 hx3 hx4 hx5 hx6 h0a
        rcases us with _ | ⟨⟨ka, xa, ma, ca, ya, ra, kidsa⟩, ur⟩
        · simp at hx2; omega
        · have hle : 7 ≤ (flatN ur).length + ju.length + 1 + 1 + 1 + 1 + 1 + 1 + 1 := by omega
          simp [x2S, PO, XS.os, h0a, flatN, Tr.cells, hle]
          exact ⟨.mk ka xa ma ca ya ra kidsa, { s2 with bare := b }, by simp [Tr.av, Tr.cells], rfl, ⟨Nat.le_trans hf1.le hf2.le, hf2.lt, fun e => hf1.bad (hf2.bad e)⟩, fun e => Nat.lt_of_lt_of_le (hg1 (hf2.bad e)) hf2.le⟩
end Go.Proofs.Ytoaodlfmhioigaa
end
