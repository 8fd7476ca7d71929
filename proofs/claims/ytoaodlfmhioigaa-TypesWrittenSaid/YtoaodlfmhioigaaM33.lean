/- A part of the proof of TypesWrittenSaid. No condition. -/
import Derived.Test.YtoaodlfmhioigaaM32
import Derived.Test.YtoaodlfmhioigaaM5
import Derived.Test.YtoaodlfmhioigaaM27
set_option linter.unusedSimpArgs false
set_option linter.unusedVariables false
section
namespace Go.Proofs.Ytoaodlfmhioigaa

def endersB : Bytes := [32, 98, 114, 101, 97, 107, 32, 99, 111, 110, 116, 105, 110, 117, 101, 32, 102, 97, 108, 108, 116, 104, 114, 111, 117, 103, 104, 32, 114, 101, 116, 117, 114, 110, 32, 116, 114, 117, 101, 32, 102, 97, 108, 115, 101, 32, 110, 105, 108, 32, 105, 110, 116, 32, 98, 111, 111, 108, 32, 115, 116, 114, 105, 110, 103, 32, 43, 43, 32, 45, 45, 32, 41, 32, 93, 32, 125, 32]
/-- Does a token end a statement at a line's end? -/
def endsB (t : Tok) : Bool := decide (t.kind ≤ 3) || inW t.text endersB

theorem t_ended_nil (a : Int) : TriE Try.prog 24 [.val (.slice none 0 0), I a] [] (.val (.slice none 0 0)) [] := by
  refine tri_by_raw 0 (by simp) Try.func24 (by rfl) _ Try.ntmps24 _ (by rfl) ?_
  simp

def semiT (a : Int) : Tok := ⟨5, [59], 1, a⟩
set_option maxRecDepth 20000 in
set_option maxHeartbeats 4000000 in
theorem t_ended_same (l : List Tok) (t : Tok) (n g : Nat) (a : Int) (hl : l.length = n) (hn : n + 1 < 1048576) (ht : t.text.length < 1048576) (he : endsB t = false) :
    TriE Try.prog 24 [.row 0 4 0 (n + 1) g, I a] [⟨true, g, some 4, 45, flatT (l ++ [t])⟩] (.row 0 4 0 (n + 1) g) [⟨true, g, some 4, 45, flatT (l ++ [t])⟩] := by
  have hin := t_In t.text endersB ht (by decide)
  have h3 : ¬ t.kind ≤ 3 := by simp [endsB] at he; omega
  have hi : inW t.text endersB = false := by simp [endsB] at he; exact he.2
  rw [hi] at hin
  simp only [endersB] at hin
  have hw : IntKind.i64.wrap (n : Int) = (n : Int) := wrap_i (by omega)
  have hT : flatT (l ++ [t]) = flatT l ++ [I t.kind, S t.text, I t.num, I t.at_] := by rw [flatT_append]; rfl
  have hTl : (flatT l).length = n * 4 := by rw [flatT_length, hl]
  have hd : ∀ r : List AV, (flatT l ++ r).drop (n * 4) = r := fun r => by rw [← hTl, List.drop_left]
  have hne : ¬ (n : Int) + 1 = 0 := by omega
  have hlt : (n : Int) < (n : Int) + 1 := by omega
  refine tri_by_raw 1 (by simp) Try.func24 (by rfl) _ Try.ntmps24 _ (by rfl) ?_
  simp [hw, hT, hTl, hd, h3, hne, hlt]
  refine acallC_by 0 (hin) ?_ (by kernel_rfl) ?_ ?_ ?_ ?_ ?_ ?_ ?_ ?_ ?_ <;> simp [hT, Tok.cells]
set_option maxRecDepth 20000 in
set_option maxHeartbeats 4000000 in
theorem t_ended_more (l : List Tok) (t : Tok) (n g : Nat) (a : Int) (hl : l.length = n) (hn : n + 1 < 1048575) (ht : t.text.length < 1048576) (he : endsB t = true) :
    Tri Try.prog 24 [.row 0 4 0 (n + 1) g, I a] [⟨true, g, some 4, 45, flatT (l ++ [t])⟩] fun r o => r = .row 2 4 0 (n + 1 + 1) 2 ∧ o[2]? = some ⟨true, 2, some 4, 45, flatT (l ++ [t] ++ [semiT a])⟩ ∧ 1 ≤ 2 ∧ o.length = 2 + 1 := by
  have hin := t_In t.text endersB ht (by decide)
  have hw : IntKind.i64.wrap (n : Int) = (n : Int) := wrap_i (by omega)
  have hT : flatT (l ++ [t]) = flatT l ++ [I t.kind, S t.text, I t.num, I t.at_] := by rw [flatT_append]; rfl
  have hTl : (flatT l).length = n * 4 := by rw [flatT_length, hl]
  have hd : ∀ r : List AV, (flatT l ++ r).drop (n * 4) = r := fun r => by rw [← hTl, List.drop_left]
  have hne : ¬ (n : Int) + 1 = 0 := by omega
  have hlt : (n : Int) < (n : Int) + 1 := by omega
  have htk : ∀ x y z w : AV, (flatT l ++ [x, y, z, w]).take ((n + 1) * 4) = flatT l ++ [x, y, z, w] := fun x y z w => List.take_of_length_le (by simp [hTl]; omega)
  obtain ⟨hq1, hq2⟩ := len_ok (n := n + 1) (by omega)
  obtain ⟨hq3, hq4⟩ := len_ok (n := n + 1 + 1) (by omega)
  have hq5 : (n + 1) * 40 ≤ 140737488355328 := Nat.le_trans (Nat.mul_le_mul_left _ (by decide)) hq2
  have hq6 : (n + 1 + 1) * 40 ≤ 140737488355328 := Nat.le_trans (Nat.mul_le_mul_left _ (by decide)) hq4
  have hle : (n + 1) * 4 ≤ n * 4 + 4 := by omega
  have hones : (∀ x, x ∈ flatT l ++ [I t.kind, S t.text, I t.num, I t.at_] → oneA x = true) ↔ True := by
    rw [← hT]
    exact flatT_onesT _
  refine tri_by_raw 3 (by simp) Try.func24 (by rfl) _ Try.ntmps24 _ (by rfl) ?_
  by_cases h3 : t.kind ≤ 3
  · simp [hw, hT, hTl, hd, h3, hne, hlt, hle, htk, flatT_onesT, hq1, hq5, hq3, hq6]
    simp [flatT_append, flatT, Tok.cells, semiT]
  · have hi : inW t.text endersB = true := by simpa [endsB, h3] using he
    rw [hi] at hin
    simp only [endersB] at hin
    simp [hw, hT, hTl, hd, h3, hne, hlt]
    refine acallC_by 0 (hin) ?_ (by kernel_rfl) ?_ ?_ ?_ ?_ ?_ ?_ ?_ ?_ ?_ <;> simp [hT, hTl, Tok.cells, hle, htk, flatT_onesT, hq1, hq5, hq3, hq6]
    simp [flatT_append, flatT, Tok.cells, semiT]
end Go.Proofs.Ytoaodlfmhioigaa
end
