/- A part of the proof of TypesWrittenSaid. No condition. -/
import Derived.Test.YtoaodlfmhioigaaM7
import Derived.Test.YtoaodlfmhioigaaM5
set_option linter.unusedSimpArgs false
set_option linter.unusedVariables false
section
namespace Go.Proofs.Ytoaodlfmhioigaa

abbrev U (c : UInt8) : AV := .val (.int .u8 c.toNat)
theorem letterB_eq (c : UInt8) : letterB c = ((decide ((97 : Int) ≤ c.toNat) && decide ((c.toNat : Int) ≤ 122)) || (decide ((65 : Int) ≤ c.toNat) && decide ((c.toNat : Int) ≤ 90)) || decide ((c.toNat : Int) = 95)) := by
  unfold letterB
  simp only [UInt8.le_iff_toNat_le, ← UInt8.toNat_inj]
  have e : ∀ n : Nat, (decide (n ≤ c.toNat)) = decide ((n : Int) ≤ c.toNat) := fun n => by simp
  congr 1
  · congr 1 <;> congr 1 <;> (apply decide_eq_decide.2; simp; try omega)
  · apply decide_eq_decide.2; simp; omega
theorem digitB_eq (c : UInt8) : digitB c = (decide ((48 : Int) ≤ c.toNat) && decide ((c.toNat : Int) ≤ 57)) := by
  unfold digitB
  simp only [UInt8.le_iff_toNat_le]
  congr 1 <;> (apply decide_eq_decide.2; simp; try omega)

theorem t_letter (c : UInt8) : TriE Try.prog 42 [U c] [] (B (letterB c)) [] := by
  refine tri_by Try.func42 (by rfl) _ Try.ntmps42 _ (by rfl) ?_
  rw [letterB_eq]
  by_cases h1 : (97 : Int) ≤ c.toNat
  · by_cases h2 : (c.toNat : Int) ≤ 122
    · simp [h1, h2]
    · have h3 : (65 : Int) ≤ c.toNat := by omega
      have h4 : ¬ (c.toNat : Int) ≤ 90 := by omega
      have h5 : ¬ (c.toNat : Int) = 95 := by omega
      simp [h1, h2, h3, h4, h5]
  · by_cases h3 : (65 : Int) ≤ c.toNat
    · by_cases h4 : (c.toNat : Int) ≤ 90
      · simp [h1, h3, h4]
      · by_cases h5 : (c.toNat : Int) = 95
        · simp [h5]
        · simp [h1, h3, h4, h5]
    · have h5 : ¬ (c.toNat : Int) = 95 := by omega
      simp [h1, h3, h5]
theorem t_digit (c : UInt8) : TriE Try.prog 44 [U c] [] (B (digitB c)) [] := by
  refine tri_by Try.func44 (by rfl) _ Try.ntmps44 _ (by rfl) ?_
  rw [digitB_eq]
  by_cases h1 : (48 : Int) ≤ c.toNat <;> by_cases h2 : (c.toNat : Int) ≤ 57 <;> simp [h1, h2]
end Go.Proofs.Ytoaodlfmhioigaa
end

section
namespace Go.Proofs.Ytoaodlfmhioigaa

def wordC (c : UInt8) : Bool := letterB c || digitB c
/-- How long a name is at a place. -/
def wlen (s : Bytes) (i : Nat) : Nat := ((s.drop i).takeWhile wordC).length
theorem wlen_step {s : Bytes} {i : Nat} {c : UInt8} (h : s[i]? = some c) : wlen s i = if wordC c then wlen s (i + 1) + 1 else 0 := by
  obtain ⟨hlt, rfl⟩ := List.getElem?_eq_some_iff.1 h
  unfold wlen
  rw [List.drop_eq_getElem_cons hlt, List.takeWhile_cons]
  split <;> simp
theorem wlen_end {s : Bytes} {i : Nat} (h : s.length ≤ i) : wlen s i = 0 := by
  unfold wlen
  rw [List.drop_eq_nil_of_le h]
  rfl
theorem wlen_le (s : Bytes) (i : Nat) (h : i ≤ s.length) : i + wlen s i ≤ s.length := by
  unfold wlen
  have := List.takeWhile_prefix wordC (l := s.drop i)
  have := this.length_le
  simp at this
  omega

set_option maxRecDepth 20000 in
theorem t_word (s : Bytes) (at_ : Nat) (hs : s.length < 1048576) (h : at_ ≤ s.length) : TriE Try.prog 43 [S s, I at_] [] (I ((at_ + wlen s at_ : Nat) : Int)) [] := by
  refine tri_by Try.func43 (by rfl) _ Try.ntmps43 _ (by rfl) ?_
  simp
  refine loopC_to 0 (fun v (i : Nat) => ⟨[S s, I (i : Int), v 2, v 3, I 0, v 5, v 6, v 7, v 8, v 9, v 10, v 11, v 12, v 13, v 14, v 15, v 16, v 17, v 18, v 19, v 20, v 21, v 22, v 23], []⟩) (fun i => i ≤ s.length ∧ i + wlen s i = at_ + wlen s at_) (fun i => i ≤ s.length ∧ i = at_ + wlen s at_) (fun i => s.length - i) at_ (by rfl) ⟨h, rfl⟩ ?_ ?_
  · rintro v i ⟨hi, he⟩
    by_cases hlt : i < s.length
    · obtain ⟨c, hc⟩ : ∃ c, s[i]? = some c := ⟨_, List.getElem?_eq_getElem hlt⟩
      have hc2 : s[i] = c := (List.getElem?_eq_some_iff.1 hc).2
      have hst := wlen_step hc
      have hw := wrap_one (n := i) (by omega)
      have tl := t_letter c
      have td := t_digit c
      cases hl : letterB c
      · rw [hl] at tl
        cases hd : digitB c
        · rw [hd] at td
          simp [hlt, hc2]
          refine acallC_by 0 (tl) ?_ (by kernel_rfl) ?_ ?_ ?_ ?_ ?_ ?_ ?_ ?_ ?_ <;> simp [hlt, hc2]
          refine acallC_by 0 (td) ?_ (by kernel_rfl) ?_ ?_ ?_ ?_ ?_ ?_ ?_ ?_ ?_ <;> simp [hlt, hc2]
          refine Left.mk (i) rfl ?_ ?_
          · simp
          · refine ⟨hi, ?_⟩
            rw [hst, if_neg (by simp [wordC, hl, hd])] at he
            exact he
        · rw [hd] at td
          simp [hlt, hc2]
          refine acallC_by 0 (tl) ?_ (by kernel_rfl) ?_ ?_ ?_ ?_ ?_ ?_ ?_ ?_ ?_ <;> simp [hlt, hc2]
          refine acallC_by 0 (td) ?_ (by kernel_rfl) ?_ ?_ ?_ ?_ ?_ ?_ ?_ ?_ ?_ <;> simp [hlt, hw, hc2]
          refine Again.mk 0 ((i + 1)) (by simp) (by simp) (by simp) rfl ?_ ?_ ?_
          · simp
          · refine ⟨hlt, ?_⟩
            rw [hst, if_pos (by simp [wordC, hd])] at he
            omega
          · omega
      · rw [hl] at tl
        simp [hlt, hc2]
        refine acallC_by 0 (tl) ?_ (by kernel_rfl) ?_ ?_ ?_ ?_ ?_ ?_ ?_ ?_ ?_ <;> simp [hlt, hw, hc2]
        refine Again.mk 0 ((i + 1)) (by simp) (by simp) (by simp) rfl ?_ ?_ ?_
        · simp
        · refine ⟨hlt, ?_⟩
          rw [hst, if_pos (by simp [wordC, hl])] at he
          omega
        · omega
    · simp [hlt]
      refine Left.mk (i) rfl ?_ ?_
      · simp
      · refine ⟨hi, ?_⟩
        rw [wlen_end (by omega)] at he
        exact he
  · rintro v i ⟨hi, rfl⟩
    simp
end Go.Proofs.Ytoaodlfmhioigaa
end

section
namespace Go.Proofs.Ytoaodlfmhioigaa

abbrev TZ : AO := ⟨true, 0, none, 45, [I 0, S [], I 0, I 0]⟩
/-- A token that was read at a place. -/
structure TokAt (s : Bytes) (a : Nat) (t : Tok) (nx : Nat) : Prop where
  lt : a < nx
  le : nx ≤ s.length
  kind : t.kind ≠ 6
  pos : t.at_ = a
  text : t.text.length ≤ s.length + 256
  name : t.kind = 1 → nameOk t.text
/-- What a function that reads a token answers. -/
def TokR (s : Bytes) (a : Nat) (r : AV) (o : List AO) : Prop := ∃ (t : Tok) (next wrong : Int), r = .tup [.agg t.cells, I next, I wrong] ∧ o = [] ∧ (wrong < 0 → ∃ nx : Nat, next = nx ∧ TokAt s a t nx)
theorem TokR.bad {s : Bytes} {a : Nat} (next wrong : Int) (h : ¬ wrong < 0) : TokR s a (.tup [.agg [I 0, S [], I 0, I 0], I next, I wrong]) [] := ⟨⟨0, [], 0, 0⟩, next, wrong, rfl, rfl, fun e => absurd e h⟩

set_option maxRecDepth 20000 in
set_option maxHeartbeats 4000000 in
theorem t_number (s : Bytes) (a : Nat) (c0 : UInt8) (hs : s.length < 524288) (h0 : s[a]? = some c0) (hd0 : digitB c0 = true) : Tri Try.prog 45 [S s, I a] [] (TokR s a) := by
  obtain ⟨ha, hc0⟩ := List.getElem?_eq_some_iff.1 h0
  refine tri_by Try.func45 (by rfl) _ Try.ntmps45 _ (by rfl) ?_
  simp
  refine loopC_to 0 (fun v (x : Nat × Int) => match x with | (i, m) => ⟨[S s, I (a : Int), v 2, v 3, .ref 0 0 0, I 0, I 0, I (i : Int), I m, v 9, v 10, v 11, v 12, v 13, v 14, v 15, v 16, v 17, v 18, v 19, v 20, v 21, v 22, v 23, v 24, v 25, v 26, v 27, v 28, v 29, v 30, v 31, v 32, v 33, v 34, v 35, v 36, v 37, v 38, v 39, v 40, v 41, v 42, v 43, v 44, v 45, v 46, v 47, v 48, v 49, v 50, v 51, v 52, v 53, v 54, v 55, v 56, v 57, v 58, v 59, v 60, v 61, v 62, v 63, v 64, v 65, v 66, v 67, v 68, v 69, v 70, v 71, v 72, v 73], [TZ]⟩) (fun x => a ≤ x.1 ∧ x.1 ≤ s.length) (fun x => a < x.1 ∧ x.1 ≤ s.length) (fun x => s.length - x.1) (a, 0) (by rfl) ⟨Nat.le_refl _, Nat.le_of_lt ha⟩ ?_ ?_
  · rintro v ⟨i, m⟩ ⟨hi1, hi2⟩
    simp only at hi1 hi2
    by_cases hlt : i < s.length
    · obtain ⟨c, hc⟩ : ∃ c, s[i]? = some c := ⟨_, List.getElem?_eq_getElem hlt⟩
      have hc2 : s[i] = c := (List.getElem?_eq_some_iff.1 hc).2
      have hw := wrap_one (n := i) (by omega)
      have td := t_digit c
      cases hd : digitB c
      · rw [hd] at td
        have hia : a < i := by
          rcases Nat.lt_or_ge a i with h | h
          · exact h
          · obtain rfl : a = i := by omega
            rw [h0] at hc
            injection hc with hc
            rw [← hc, hd0] at hd
            cases hd
        simp [hlt, hc2]
        refine acallC_by 0 (td) ?_ (by kernel_rfl) ?_ ?_ ?_ ?_ ?_ ?_ ?_ ?_ ?_ <;> simp [hlt, hc2]
        refine Left.mk ((i, m)) rfl ?_ ?_
        · simp
        · exact ⟨hia, hi2⟩
      · rw [hd] at td
        have hwd : IntKind.i64.wrap ((i : Int) - (a : Int)) = (i : Int) - (a : Int) := wrap_i (by omega)
        by_cases h18 : (i : Int) - (a : Int) < 18
        · simp [hlt, hc2]
          refine acallC_by 0 (td) ?_ (by kernel_rfl) ?_ ?_ ?_ ?_ ?_ ?_ ?_ ?_ ?_ <;> simp [hlt, hc2, hwd, h18, hw]
          refine Again.mk 1 ((i + 1, IntKind.i64.wrap (IntKind.i64.wrap (IntKind.i64.wrap (10 * m) + IntKind.i64.wrap (c.toNat : Int)) - 48))) (by simp) (by simp) (by simp) rfl ?_ ?_ ?_
          · simp
          · exact ⟨Nat.le_succ_of_le hi1, hlt⟩
          · show s.length - (i + 1) < s.length - i; omega
        · simp [hlt, hc2]
          refine acallC_by 0 (td) ?_ (by kernel_rfl) ?_ ?_ ?_ ?_ ?_ ?_ ?_ ?_ ?_ <;> simp [hlt, hc2, hwd, h18, hw]
          refine Again.mk 1 ((i + 1, m)) (by simp) (by simp) (by simp) rfl ?_ ?_ ?_
          · simp
          · exact ⟨Nat.le_succ_of_le hi1, hlt⟩
          · show s.length - (i + 1) < s.length - i; omega
    · simp [hlt]
      refine Left.mk ((i, m)) rfl ?_ ?_
      · simp
      · exact ⟨by show a < i; omega, hi2⟩
  · rintro v ⟨i, m⟩ ⟨hi1, hi2⟩
    simp only at hi1 hi2
    have hwd : IntKind.i64.wrap ((i : Int) - (a : Int)) = (i : Int) - (a : Int) := wrap_i (by omega)
    by_cases h18 : 18 < (i : Int) - (a : Int)
    · simp [hwd, h18]
      exact TokR.bad _ _ (by omega)
    · have hai : a ≤ i := by omega
      have hai' : (a : Int) ≤ i := by omega
      have fin : TokR s a (.tup [.agg [I 2, S ((s.drop a).take (i - a)), I m, I a], I i, I (-1)]) [] := ⟨⟨2, (s.drop a).take (i - a), m, a⟩, i, -1, rfl, rfl, fun _ => ⟨i, rfl, hi1, hi2, by simp, rfl, by simp; omega, fun e => by cases e⟩⟩
      by_cases h1 : 1 < (i : Int) - (a : Int)
      · by_cases h48 : (c0.toNat : Int) = 48
        · simp [hwd, h18, h1, ha, hc0, h48]
          exact TokR.bad _ _ (by omega)
        · skip
          by_cases hlt : i < s.length
          · obtain ⟨c, hc⟩ : ∃ c, s[i]? = some c := ⟨_, List.getElem?_eq_getElem hlt⟩
            have hc2 : s[i] = c := (List.getElem?_eq_some_iff.1 hc).2
            have tl := t_letter c
            cases hl : letterB c
            · rw [hl] at tl
              simp [hwd, h18, h1, ha, hc0, h48, hlt, hc2]
              refine acallC_by 0 (tl) ?_ (by kernel_rfl) ?_ ?_ ?_ ?_ ?_ ?_ ?_ ?_ ?_ <;> simp [hlt, hc2, hi2, hai, hai']
              exact fin
            · rw [hl] at tl
              simp [hwd, h18, h1, ha, hc0, h48, hlt, hc2]
              refine acallC_by 0 (tl) ?_ (by kernel_rfl) ?_ ?_ ?_ ?_ ?_ ?_ ?_ ?_ ?_ <;> simp [hlt, hc2]
              exact TokR.bad _ _ (by omega)
          · simp [hwd, h18, h1, ha, hc0, h48, hlt, hi2, hai, hai']
            exact fin
      · skip
        by_cases hlt : i < s.length
        · obtain ⟨c, hc⟩ : ∃ c, s[i]? = some c := ⟨_, List.getElem?_eq_getElem hlt⟩
          have hc2 : s[i] = c := (List.getElem?_eq_some_iff.1 hc).2
          have tl := t_letter c
          cases hl : letterB c
          · rw [hl] at tl
            simp [hwd, h18, h1, hlt, hc2]
            refine acallC_by 0 (tl) ?_ (by kernel_rfl) ?_ ?_ ?_ ?_ ?_ ?_ ?_ ?_ ?_ <;> simp [hlt, hc2, hi2, hai, hai']
            exact fin
          · rw [hl] at tl
            simp [hwd, h18, h1, hlt, hc2]
            refine acallC_by 0 (tl) ?_ (by kernel_rfl) ?_ ?_ ?_ ?_ ?_ ?_ ?_ ?_ ?_ <;> simp [hlt, hc2]
            exact TokR.bad _ _ (by omega)
        · simp [hwd, h18, h1, hlt, hi2, hai, hai']
          exact fin
end Go.Proofs.Ytoaodlfmhioigaa
end
