/- A part of the proof of TypesWrittenSaid. No condition. -/
import Derived.Test.YtoaodlfmhioigaaM31
set_option linter.unusedSimpArgs false
set_option linter.unusedVariables false
section
namespace Go.Proofs.Ytoaodlfmhioigaa

def twoB : Bytes := [32, 58, 61, 32, 61, 61, 32, 33, 61, 32, 60, 61, 32, 62, 61, 32, 38, 38, 32, 124, 124, 32, 60, 45, 32, 43, 43, 32, 45, 45, 32, 43, 61, 32, 45, 61, 32, 42, 61, 32]
def oneB : Bytes := [32, 40, 32, 41, 32, 91, 32, 93, 32, 123, 32, 125, 32, 44, 32, 59, 32, 58, 32, 46, 32, 61, 32, 60, 32, 62, 32, 43, 32, 45, 32, 42, 32, 47, 32, 37, 32, 33, 32, 38, 32]
/-- The name that stands at a place. -/
def nameAt (s : Bytes) (a : Nat) : Bytes := (s.drop a).take (wlen s a)
/-- What 'token' answers. -/
def TokR2 (s : Bytes) (a : Nat) (r : AV) (o : List AO) : Prop := ∃ (t : Tok) (next wrong : Int), r = .tup [.agg t.cells, I next, I wrong] ∧ o = [] ∧ (wrong < 0 → ∃ nx : Nat, next = nx ∧ TokAt s a t nx ∧ ∀ c, s[a]? = some c → letterB c = true → nx = a + wlen s a ∧ t.text = nameAt s a ∧ (inW t.text wordsB = true → t.kind = 4))
theorem TokR2.bad {s : Bytes} {a : Nat} (next wrong : Int) (h : ¬ wrong < 0) : TokR2 s a (.tup [.agg [I 0, S [], I 0, I 0], I next, I wrong]) [] := ⟨⟨0, [], 0, 0⟩, next, wrong, rfl, rfl, fun e => absurd e h⟩
theorem TokR.to2 {s : Bytes} {a : Nat} {r : AV} {o : List AO} (h : TokR s a r o) (hn : ∀ c, s[a]? = some c → letterB c = false) : TokR2 s a r o := by
  obtain ⟨t, next, wrong, h1, h2, h3⟩ := h
  refine ⟨t, next, wrong, h1, h2, fun e => ?_⟩
  obtain ⟨nx, k1, k2⟩ := h3 e
  exact ⟨nx, k1, k2, fun c hc hl => by rw [hn c hc] at hl; cases hl⟩
theorem takeWhile_eq_take {α : Type} (p : α → Bool) : ∀ l : List α, l.take (l.takeWhile p).length = l.takeWhile p
  | [] => rfl
  | x :: l => by
    rw [List.takeWhile_cons]
    split
    · rw [List.length_cons, List.take_succ_cons, takeWhile_eq_take p l]
    · rfl
theorem nameAt_eq (s : Bytes) (a : Nat) : nameAt s a = (s.drop a).takeWhile wordC := takeWhile_eq_take _ _
theorem nameAt_ok {s : Bytes} {a : Nat} {c : UInt8} (h : s[a]? = some c) (hl : letterB c = true) (h24 : wlen s a ≤ 24) (hn : inW (nameAt s a) wordsB = false) : nameOk (nameAt s a) := by
  obtain ⟨hlt, hc⟩ := List.getElem?_eq_some_iff.1 h
  refine ⟨?_, ?_, ?_, hn⟩
  · rw [nameAt_eq, List.drop_eq_getElem_cons hlt, List.takeWhile_cons, hc, if_pos (by simp [wordC, hl])]
    exact ⟨c, _, rfl, hl⟩
  · intro d hd
    rw [nameAt_eq] at hd
    have hd : wordC d = true := by
      have : ∀ (l : List UInt8) (x : UInt8), x ∈ l.takeWhile wordC → wordC x = true := by
        intro l
        induction l with
        | nil => intro x hx; cases hx
        | cons y l ih =>
          intro x hx
          rw [List.takeWhile_cons] at hx
          split at hx
          · rename_i hy
            rcases List.mem_cons.1 hx with rfl | hx
            · exact hy
            · exact ih x hx
          · cases hx
      exact this _ d hd
    simpa [wordC] using hd
  · unfold nameAt
    simp
    omega

set_option maxRecDepth 20000 in
set_option maxHeartbeats 4000000 in
theorem t_token (s : Bytes) (a : Nat) (hs : s.length < 524288) (ha : a < s.length) : Tri Try.prog 25 [S s, I a] [] (TokR2 s a) := by
  obtain ⟨c, hc⟩ : ∃ c, s[a]? = some c := ⟨_, List.getElem?_eq_getElem ha⟩
  have hc2 : s[a] = c := (List.getElem?_eq_some_iff.1 hc).2
  have tl := t_letter c
  have td := t_digit c
  refine tri_by Try.func25 (by rfl) _ Try.ntmps25 _ (by rfl) ?_
  cases hl : letterB c
  · rw [hl] at tl
    have hnl : ∀ c', s[a]? = some c' → letterB c' = false := fun c' h => by rw [hc] at h; injection h with h; rw [← h]; exact hl
    cases hd : digitB c
    · rw [hd] at td
      by_cases h34 : (c.toNat : Int) = 34
      · have hq := t_quoted s a hs ha
        simp [ha, hc2]
        refine acallC_by 0 (tl) ?_ (by kernel_rfl) ?_ ?_ ?_ ?_ ?_ ?_ ?_ ?_ ?_ <;> simp [ha, hc2]
        refine acallC_by 0 (td) ?_ (by kernel_rfl) ?_ ?_ ?_ ?_ ?_ ?_ ?_ ?_ ?_ <;> simp [ha, hc2, h34]
        refine acallC_of 0 (hq) ?_ (by kernel_rfl) ?_ ?_ ?_ ?_ ?_ ?_ <;> first | rintro r o ⟨t, next, wrong, rfl, rfl, ht⟩ | simp
        simp [Tok.cells]
        exact TokR.to2 ⟨t, next, wrong, rfl, rfl, ht⟩ hnl
      · have hw2 : IntKind.i64.wrap ((a : Int) + 2) = (a : Int) + 2 := wrap_i (by omega)
        have ha1 : a + 1 ≤ s.length := ha
        have hw1 := wrap_one (n := a) (by omega)
        have hnn : (0 : Int) ≤ (a : Int) + 2 := by omega
        have hnn1 : (0 : Int) ≤ (a : Int) + 1 := by omega
        have htn : ((a : Int) + 2).toNat = a + 2 := by omega
        have htn1 : ((a : Int) + 1).toNat = a + 1 := by omega
        have hin2 := t_In ((s.drop a).take 2) twoB (by simp; omega) (by decide)
        have hin1 := t_In ((s.drop a).take 1) oneB (by simp; omega) (by decide)
        generalize inW ((s.drop a).take 2) twoB = b2 at hin2
        generalize inW ((s.drop a).take 1) oneB = b1 at hin1
        simp only [twoB, oneB] at hin1 hin2
        by_cases h2 : a + 2 ≤ s.length
        · have h2' : (a : Int) + 2 ≤ s.length := by omega

          cases b2
          · skip
            by_cases k1 : (32 : Int) < c.toNat
            · by_cases k2 : (c.toNat : Int) < 127
              · cases b1
                · skip
                  simp [ha, hc2]
                  refine acallC_by 0 (tl) ?_ (by kernel_rfl) ?_ ?_ ?_ ?_ ?_ ?_ ?_ ?_ ?_ <;> simp [ha, hc2]
                  refine acallC_by 0 (td) ?_ (by kernel_rfl) ?_ ?_ ?_ ?_ ?_ ?_ ?_ ?_ ?_ <;> simp [ha, hc2, h34, hw2, h2, h2', hw1, hnn, htn, hnn1, htn1, ha1, k1, k2]
                  refine acallC_by 0 (hin2) ?_ (by kernel_rfl) ?_ ?_ ?_ ?_ ?_ ?_ ?_ ?_ ?_ <;> simp [ha, hc2, h34, hw2, h2, h2', hw1, hnn, htn, hnn1, htn1, ha1, k1, k2]
                  refine acallC_by 0 (hin1) ?_ (by kernel_rfl) ?_ ?_ ?_ ?_ ?_ ?_ ?_ ?_ ?_ <;> simp [ha, ha1, hc2]
                  exact TokR2.bad _ _ (by omega)
                · skip
                  simp [ha, hc2]
                  refine acallC_by 0 (tl) ?_ (by kernel_rfl) ?_ ?_ ?_ ?_ ?_ ?_ ?_ ?_ ?_ <;> simp [ha, hc2]
                  refine acallC_by 0 (td) ?_ (by kernel_rfl) ?_ ?_ ?_ ?_ ?_ ?_ ?_ ?_ ?_ <;> simp [ha, hc2, h34, hw2, h2, h2', hw1, hnn, htn, hnn1, htn1, ha1, k1, k2]
                  refine acallC_by 0 (hin2) ?_ (by kernel_rfl) ?_ ?_ ?_ ?_ ?_ ?_ ?_ ?_ ?_ <;> simp [ha, hc2, h34, hw2, h2, h2', hw1, hnn, htn, hnn1, htn1, ha1, k1, k2]
                  refine acallC_by 0 (hin1) ?_ (by kernel_rfl) ?_ ?_ ?_ ?_ ?_ ?_ ?_ ?_ ?_ <;> simp [hw1, hnn1, htn1, ha, ha1]
                  exact TokR.to2 ⟨⟨5, (s.drop a).take 1, 0, a⟩, (a : Int) + 1, -1, rfl, rfl, fun _ => ⟨a + 1, by simp, by omega, by omega, by simp, rfl, by simp; omega, fun e => by cases e⟩⟩ hnl
              · skip
                simp [ha, hc2]
                refine acallC_by 0 (tl) ?_ (by kernel_rfl) ?_ ?_ ?_ ?_ ?_ ?_ ?_ ?_ ?_ <;> simp [ha, hc2]
                refine acallC_by 0 (td) ?_ (by kernel_rfl) ?_ ?_ ?_ ?_ ?_ ?_ ?_ ?_ ?_ <;> simp [ha, hc2, h34, hw2, h2, h2', hw1, hnn, htn, hnn1, htn1, ha1, k1, k2]
                refine acallC_by 0 (hin2) ?_ (by kernel_rfl) ?_ ?_ ?_ ?_ ?_ ?_ ?_ ?_ ?_ <;> simp [ha, hc2, h34, hw2, h2, h2', hw1, hnn, htn, hnn1, htn1, ha1, k1, k2]
                exact TokR2.bad _ _ (by omega)
            · skip
              simp [ha, hc2]
              refine acallC_by 0 (tl) ?_ (by kernel_rfl) ?_ ?_ ?_ ?_ ?_ ?_ ?_ ?_ ?_ <;> simp [ha, hc2]
              refine acallC_by 0 (td) ?_ (by kernel_rfl) ?_ ?_ ?_ ?_ ?_ ?_ ?_ ?_ ?_ <;> simp [ha, hc2, h34, hw2, h2, h2', hw1, hnn, htn, hnn1, htn1, ha1, k1]
              refine acallC_by 0 (hin2) ?_ (by kernel_rfl) ?_ ?_ ?_ ?_ ?_ ?_ ?_ ?_ ?_ <;> simp [ha, hc2, h34, hw2, h2, h2', hw1, hnn, htn, hnn1, htn1, ha1, k1]
              exact TokR2.bad _ _ (by omega)
          · simp [ha, hc2]
            refine acallC_by 0 (tl) ?_ (by kernel_rfl) ?_ ?_ ?_ ?_ ?_ ?_ ?_ ?_ ?_ <;> simp [ha, hc2]
            refine acallC_by 0 (td) ?_ (by kernel_rfl) ?_ ?_ ?_ ?_ ?_ ?_ ?_ ?_ ?_ <;> simp [ha, hc2, h34, hw2, h2, h2', hnn, htn]
            refine acallC_by 0 (hin2) ?_ (by kernel_rfl) ?_ ?_ ?_ ?_ ?_ ?_ ?_ ?_ ?_ <;> simp [hw2, hnn, htn, h2, ha]
            exact TokR.to2 ⟨⟨5, (s.drop a).take 2, 0, a⟩, (a : Int) + 2, -1, rfl, rfl, fun _ => ⟨a + 2, by simp, by omega, by omega, by simp, rfl, by simp; omega, fun e => by cases e⟩⟩ hnl
        · have h2' : ¬ (a : Int) + 2 ≤ s.length := by omega
          by_cases k1 : (32 : Int) < c.toNat
          · by_cases k2 : (c.toNat : Int) < 127
            · cases b1
              · skip
                simp [ha, hc2]
                refine acallC_by 0 (tl) ?_ (by kernel_rfl) ?_ ?_ ?_ ?_ ?_ ?_ ?_ ?_ ?_ <;> simp [ha, hc2]
                refine acallC_by 0 (td) ?_ (by kernel_rfl) ?_ ?_ ?_ ?_ ?_ ?_ ?_ ?_ ?_ <;> simp [ha, hc2, h34, hw2, h2, h2', hw1, hnn, htn, hnn1, htn1, ha1, k1, k2]
                refine acallC_by 0 (hin1) ?_ (by kernel_rfl) ?_ ?_ ?_ ?_ ?_ ?_ ?_ ?_ ?_ <;> simp [ha, ha1, hc2]
                exact TokR2.bad _ _ (by omega)
              · skip
                simp [ha, hc2]
                refine acallC_by 0 (tl) ?_ (by kernel_rfl) ?_ ?_ ?_ ?_ ?_ ?_ ?_ ?_ ?_ <;> simp [ha, hc2]
                refine acallC_by 0 (td) ?_ (by kernel_rfl) ?_ ?_ ?_ ?_ ?_ ?_ ?_ ?_ ?_ <;> simp [ha, hc2, h34, hw2, h2, h2', hw1, hnn, htn, hnn1, htn1, ha1, k1, k2]
                refine acallC_by 0 (hin1) ?_ (by kernel_rfl) ?_ ?_ ?_ ?_ ?_ ?_ ?_ ?_ ?_ <;> simp [hw1, hnn1, htn1, ha, ha1]
                exact TokR.to2 ⟨⟨5, (s.drop a).take 1, 0, a⟩, (a : Int) + 1, -1, rfl, rfl, fun _ => ⟨a + 1, by simp, by omega, by omega, by simp, rfl, by simp; omega, fun e => by cases e⟩⟩ hnl
            · skip
              simp [ha, hc2]
              refine acallC_by 0 (tl) ?_ (by kernel_rfl) ?_ ?_ ?_ ?_ ?_ ?_ ?_ ?_ ?_ <;> simp [ha, hc2]
              refine acallC_by 0 (td) ?_ (by kernel_rfl) ?_ ?_ ?_ ?_ ?_ ?_ ?_ ?_ ?_ <;> simp [ha, hc2, h34, hw2, h2, h2', hw1, hnn, htn, hnn1, htn1, ha1, k1, k2]
              exact TokR2.bad _ _ (by omega)
          · skip
            simp [ha, hc2]
            refine acallC_by 0 (tl) ?_ (by kernel_rfl) ?_ ?_ ?_ ?_ ?_ ?_ ?_ ?_ ?_ <;> simp [ha, hc2]
            refine acallC_by 0 (td) ?_ (by kernel_rfl) ?_ ?_ ?_ ?_ ?_ ?_ ?_ ?_ ?_ <;> simp [ha, hc2, h34, hw2, h2, h2', hw1, hnn, htn, hnn1, htn1, ha1, k1]
            exact TokR2.bad _ _ (by omega)
    · rw [hd] at td
      have hq := t_number s a c hs hc hd
      simp [ha, hc2]
      refine acallC_by 0 (tl) ?_ (by kernel_rfl) ?_ ?_ ?_ ?_ ?_ ?_ ?_ ?_ ?_ <;> simp [ha, hc2]
      refine acallC_by 0 (td) ?_ (by kernel_rfl) ?_ ?_ ?_ ?_ ?_ ?_ ?_ ?_ ?_ <;> simp [ha, hc2]
      refine acallC_of 0 (hq) ?_ (by kernel_rfl) ?_ ?_ ?_ ?_ ?_ ?_ <;> first | rintro r o ⟨t, next, wrong, rfl, rfl, ht⟩ | simp
      simp [Tok.cells]
      exact TokR.to2 ⟨t, next, wrong, rfl, rfl, ht⟩ hnl
  · rw [hl] at tl
    have hwd := t_word s a (by omega) (Nat.le_of_lt ha)
    have hle := wlen_le s a (Nat.le_of_lt ha)
    have hws : IntKind.i64.wrap ((a : Int) + (wlen s a : Int) - (a : Int)) = (wlen s a : Int) := by rw [wrap_i (by omega)]; omega
    simp [ha, hc2]
    refine acallC_by 0 (tl) ?_ (by kernel_rfl) ?_ ?_ ?_ ?_ ?_ ?_ ?_ ?_ ?_ <;> simp [ha, hc2]
    have hin := t_In ((s.drop a).take (wlen s a)) wordsB (by simp; omega) (by decide)
    have hnn : (0 : Int) ≤ (a : Int) + (wlen s a : Int) := by omega
    have htn : ((a : Int) + (wlen s a : Int)).toNat = a + wlen s a := by omega
    by_cases h24 : (24 : Int) < (wlen s a : Int)
    · refine acallC_by 0 (hwd) ?_ (by kernel_rfl) ?_ ?_ ?_ ?_ ?_ ?_ ?_ ?_ ?_ <;> simp [hws, h24]
      exact TokR2.bad _ _ (by omega)
    · have hpos : 0 < wlen s a := by rw [wlen_step hc, if_pos (by simp [wordC, hl])]; omega
      have hok := nameAt_ok hc hl (by omega)
      have hkd : ∀ k : Int, k = 1 ∨ k = 4 → (k = 1 → inW (nameAt s a) wordsB = false) → (inW (nameAt s a) wordsB = true → k = 4) → TokR2 s a (.tup [.agg [I k, S ((s.drop a).take (wlen s a)), I 0, I a], I ((a : Int) + (wlen s a : Int)), I (-1)]) [] := fun k hk1 hk2 hk3 => ⟨⟨k, (s.drop a).take (wlen s a), 0, a⟩, _, -1, rfl, rfl, fun _ => ⟨a + wlen s a, by simp, ⟨by omega, hle, by show k ≠ 6; rcases hk1 with rfl | rfl <;> decide, rfl, by simp; omega, fun e => hok (hk2 e)⟩, fun _ _ _ => ⟨rfl, rfl, hk3⟩⟩⟩
      generalize hb4 : inW ((s.drop a).take (wlen s a)) wordsB = b4 at hin
      simp only [wordsB] at hin
      cases b4
      · refine acallC_by 0 (hwd) ?_ (by kernel_rfl) ?_ ?_ ?_ ?_ ?_ ?_ ?_ ?_ ?_ <;> simp [hws, h24, hnn, htn, hle]
        refine acallC_by 0 (hin) ?_ (by kernel_rfl) ?_ ?_ ?_ ?_ ?_ ?_ ?_ ?_ ?_ <;> simp [hnn, htn, hle]
        exact hkd 1 (.inl rfl) (fun _ => hb4) (fun e => by rw [show inW (nameAt s a) wordsB = false from hb4] at e; cases e)
      · refine acallC_by 0 (hwd) ?_ (by kernel_rfl) ?_ ?_ ?_ ?_ ?_ ?_ ?_ ?_ ?_ <;> simp [hws, h24, hnn, htn, hle]
        refine acallC_by 0 (hin) ?_ (by kernel_rfl) ?_ ?_ ?_ ?_ ?_ ?_ ?_ ?_ ?_ <;> simp [hnn, htn, hle]
        exact hkd 4 (.inr rfl) (fun e => by cases e) (fun _ => rfl)
end Go.Proofs.Ytoaodlfmhioigaa
end
