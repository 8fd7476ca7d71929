/- A part of the proof of TypesWrittenSaid. No condition. -/
import Derived.Test.YtoaodlfmhioigaaM30
set_option linter.unusedSimpArgs false
set_option linter.unusedVariables false
section
namespace Go.Proofs.Ytoaodlfmhioigaa

def quF (s : Bytes) (a : Nat) (v : Nat → AV) : Nat × Bytes → AS
  | (i, x) => ⟨[S s, I (a : Int), v 2, v 3, .ref 0 0 0, I 0, I 0, S x, I (i : Int), v 9, v 10, v 11, v 12, v 13, v 14, v 15, v 16, v 17, v 18, v 19, v 20, v 21, v 22, v 23, v 24, v 25, v 26, v 27, v 28, v 29, v 30, v 31, v 32, v 33, v 34, v 35, v 36, v 37, v 38, v 39, v 40, v 41, v 42, v 43, v 44, v 45, v 46, v 47, v 48, v 49, v 50, v 51, v 52, v 53, v 54, v 55, v 56, v 57, v 58, v 59, v 60, v 61, v 62, v 63, v 64, v 65, v 66, v 67, v 68, v 69, v 70, v 71, v 72, v 73, v 74, v 75, v 76, v 77, v 78, v 79, v 80, v 81, v 82, v 83, v 84, v 85, v 86, v 87, v 88, v 89, v 90, v 91, v 92, v 93, v 94, v 95, v 96, v 97], [TZ]⟩
def QuC (s : Bytes) (a : Nat) (x : Nat × Bytes) : Prop := a < x.1 ∧ x.1 ≤ s.length + 1 ∧ x.2.length ≤ x.1
set_option maxRecDepth 20000 in
set_option maxHeartbeats 4000000 in
theorem t_quoted (s : Bytes) (a : Nat) (hs : s.length < 524288) (ha : a < s.length) : Tri Try.prog 46 [S s, I a] [] (TokR s a) := by
  have hwa := wrap_one (n := a) (by omega)
  refine tri_by Try.func46 (by rfl) _ Try.ntmps46 _ (by rfl) ?_
  simp [hwa]
  refine loopC_to 0 (quF s a) (QuC s a) (QuC s a) (fun x => s.length + 1 - x.1) (a + 1, []) (by rfl) ⟨Nat.lt_succ_self _, by show a + 1 ≤ s.length + 1; omega, Nat.zero_le _⟩ ?_ ?_
  · rintro v ⟨i, x⟩ ⟨hi1, hi2, hi3⟩
    simp only at hi1 hi2 hi3
    have hxl : ¬ (9223372036854775807 : Int) < (x.length : Int) + 1 := by omega
    by_cases hlt : i < s.length
    · obtain ⟨c, hc⟩ : ∃ c, s[i]? = some c := ⟨_, List.getElem?_eq_getElem hlt⟩
      have hc2 : s[i] = c := (List.getElem?_eq_some_iff.1 hc).2
      have hw := wrap_one (n := i) (by omega)
      by_cases h34 : (c.toNat : Int) = 34
      · simp [quF, hlt, hc2, h34]
        refine Left.mk ((i, x)) rfl ?_ ?_
        · simp [quF]
        · exact ⟨hi1, hi2, hi3⟩
      · by_cases h92 : (c.toNat : Int) = 92
        · by_cases he : i + 1 = s.length
          · have he' : ((i : Int) + 1 = s.length) ↔ True := iff_true_intro (by omega)
            simp [quF, hlt, hc2, h34, h92, hw, he']
            exact TokR.bad _ _ (by omega)
          · have he' : ¬ (i : Int) + 1 = s.length := by omega
            have hlt1 : i + 1 < s.length := by omega
            obtain ⟨d, hd⟩ : ∃ d, s[i + 1]? = some d := ⟨_, List.getElem?_eq_getElem hlt1⟩
            have hd2 : s[i + 1] = d := (List.getElem?_eq_some_iff.1 hd).2
            have hw2 : IntKind.i64.wrap ((i : Int) + 1 + 1) = (i : Int) + 1 + 1 := by have := wrap_one (n := i + 1) (by omega); simpa using this
            have hnn : (0 : Int) ≤ (i : Int) + 1 := by omega
            have htn : ((i : Int) + 1).toNat = i + 1 := by omega
            by_cases g1 : (d.toNat : Int) = 110
            · simp [quF, hlt, hlt1, hc2, hd2, h34, h92, hw, he', hw2, hnn, htn, hxl, g1]
              refine Again.mk 1 ((i + 1 + 1, x ++ [10])) (by simp) (by simp) (by simp) rfl ?_ ?_ ?_
              · simp [quF]
              · exact ⟨by show a < i + 1 + 1; omega, by show i + 1 + 1 ≤ s.length + 1; omega, by simp; omega⟩
              · show s.length + 1 - (i + 1 + 1) < s.length + 1 - i; omega
            · by_cases g2 : (d.toNat : Int) = 34
              · simp [quF, hlt, hlt1, hc2, hd2, h34, h92, hw, he', hw2, hnn, htn, hxl, g1, g2]
                refine Again.mk 1 ((i + 1 + 1, x ++ [34])) (by simp) (by simp) (by simp) rfl ?_ ?_ ?_
                · simp [quF]
                · exact ⟨by show a < i + 1 + 1; omega, by show i + 1 + 1 ≤ s.length + 1; omega, by simp; omega⟩
                · show s.length + 1 - (i + 1 + 1) < s.length + 1 - i; omega
              · by_cases g3 : (d.toNat : Int) = 92
                · simp [quF, hlt, hlt1, hc2, hd2, h34, h92, hw, he', hw2, hnn, htn, hxl, g1, g2, g3]
                  refine Again.mk 1 ((i + 1 + 1, x ++ [92])) (by simp) (by simp) (by simp) rfl ?_ ?_ ?_
                  · simp [quF]
                  · exact ⟨by show a < i + 1 + 1; omega, by show i + 1 + 1 ≤ s.length + 1; omega, by simp; omega⟩
                  · show s.length + 1 - (i + 1 + 1) < s.length + 1 - i; omega
                · simp [quF, hlt, hlt1, hc2, hd2, h34, h92, hw, he', hw2, hnn, htn, hxl, g1, g2, g3]
                  exact TokR.bad _ _ (by omega)
        · by_cases k1 : (c.toNat : Int) < 32
          · simp [quF, hlt, hc2, h34, h92, hw, k1]
            exact TokR.bad _ _ (by omega)
          · by_cases k2 : 126 < (c.toNat : Int)
            · simp [quF, hlt, hc2, h34, h92, hw, k1, k2]
              exact TokR.bad _ _ (by omega)
            · simp [quF, hlt, hc2, h34, h92, hw, k1, k2, hxl]
              refine Again.mk 1 ((i + 1, x ++ [c])) (by simp) (by simp) (by simp) rfl ?_ ?_ ?_
              · simp [quF]
              · exact ⟨by show a < i + 1; omega, by show i + 1 ≤ s.length + 1; omega, by simp; omega⟩
              · show s.length + 1 - (i + 1) < s.length + 1 - i; omega
    · simp [quF, hlt]
      refine Left.mk ((i, x)) rfl ?_ ?_
      · simp [quF]
      · exact ⟨hi1, hi2, hi3⟩
  · rintro v ⟨i, x⟩ ⟨hi1, hi2, hi3⟩
    simp only at hi1 hi2 hi3
    by_cases hlt : s.length ≤ i
    · simp [quF, hlt]
      exact TokR.bad _ _ (by omega)
    · have hw := wrap_one (n := i) (by omega)
      by_cases hx : (256 : Int) < (x.length : Int)
      · simp [quF, hlt, hx]
        exact TokR.bad _ _ (by omega)
      · simp [quF, hlt, hx, hw]
        exact ⟨⟨3, x, 0, a⟩, (i : Int) + 1, -1, rfl, rfl, fun _ => ⟨i + 1, by simp, by omega, by omega, by simp, rfl, by simp; omega, fun e => by cases e⟩⟩
end Go.Proofs.Ytoaodlfmhioigaa
end
