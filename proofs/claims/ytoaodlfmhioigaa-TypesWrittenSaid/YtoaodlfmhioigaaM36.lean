/- A part of the proof of TypesWrittenSaid. No condition. -/
import Derived.Test.YtoaodlfmhioigaaRows
import Derived.WalkKit
import Derived.WalkSpells
import Derived.WalkLawsBesides
import Derived.Lib.Hide
import Derived.Lib.Strings
import Derived.Deep.RegionLaw
import Derived.Deep.QuietTactic
import Derived.BigQuiet
set_option linter.unusedSimpArgs false
set_option linter.unusedVariables false
section
/-
  The plain side of types as texts: what a text is as a type, by definition, over lists of bytes.
-/
namespace TypesText
abbrev Bytes := List UInt8

def pre (p s : Bytes) : Bool := p.isPrefixOf s
def letter (c : UInt8) : Bool := (97 ≤ c && c ≤ 122) || (65 ≤ c && c ≤ 90) || c == 95
def digit (c : UInt8) : Bool := 48 ≤ c && c ≤ 57
def alnum (c : UInt8) : Bool := letter c || digit c

def sInt : Bytes := [105, 110, 116]
def sBool : Bytes := [98, 111, 111, 108]
def sString : Bytes := [115, 116, 114, 105, 110, 103]
def sStar : Bytes := [42]
def sSlice : Bytes := [91, 93]
def sChan : Bytes := [99, 104, 97, 110, 32]
def sFunc : Bytes := [102, 117, 110, 99, 40]
def sClose : Bytes := [41]
def sComma : Bytes := [44]

/-- How many bytes of a name's kind a text begins with. -/
def run (s : Bytes) : Nat := (s.takeWhile alnum).length

/-- The words of the language. -/
def words : List Bytes := [[97, 112, 112, 101, 110, 100], [98, 111, 111, 108], [98, 114, 101, 97, 107], [99, 97, 112], [99, 97, 115, 101], [99, 104, 97, 110], [99, 108, 111, 115, 101], [99, 111, 110, 116, 105, 110, 117, 101], [100, 101, 102, 97, 117, 108, 116], [100, 101, 102, 101, 114], [101, 108, 115, 101], [102, 97, 108, 108, 116, 104, 114, 111, 117, 103, 104], [102, 97, 108, 115, 101], [102, 111, 114], [102, 117, 110, 99], [103, 111], [105, 102], [105, 110, 116], [108, 101, 110], [109, 97, 107, 101], [110, 101, 119], [110, 105, 108], [112, 97, 110, 105, 99], [112, 114, 105, 110, 116], [114, 101, 99, 111, 118, 101, 114], [114, 101, 116, 117, 114, 110], [115, 101, 108, 101, 99, 116], [115, 116, 114, 105, 110, 103], [115, 116, 114, 117, 99, 116], [115, 119, 105, 116, 99, 104], [116, 114, 117, 101], [116, 121, 112, 101], [118, 97, 114]]

/-- How many bytes of a name a text begins with; 0: none. -/
def nam (s : Bytes) : Nat :=
  if run s = 0 ∨ 24 < run s ∨ (s.head?.map digit).getD false = true ∨ words.contains (s.take (run s)) = true then 0 else run s

/-- A function type's params, from a place on. -/
def pars (rec : Bytes → Nat) : Nat → Bytes → Nat → List Bytes → Option (Nat × List Bytes)
  | 0, _, _, _ => none
  | f + 1, s, n, acc =>
    if pre sClose (s.drop n) = true then some (n + 1, acc)
    else if acc ≠ [] ∧ pre sComma (s.drop n) = false then none
    else
      let m := if acc = [] then n else n + 1
      if rec (s.drop m) = 0 then none else pars rec f s (m + rec (s.drop m)) (acc ++ [(s.drop m).take (rec (s.drop m))])

/-- How many bytes of a type a text begins with; 0: none. -/
def typ : Nat → Bytes → Nat
  | 0, _ => 0
  | k + 1, s =>
    if pre sInt s = true then 3 else if pre sBool s = true then 4 else if pre sString s = true then 6
    else if pre sStar s = true then (if nam (s.drop 1) = 0 then 0 else 1 + nam (s.drop 1))
    else if pre sSlice s = true then (if typ k (s.drop 2) = 0 then 0 else 2 + typ k (s.drop 2))
    else if pre sChan s = true then (if typ k (s.drop 5) = 0 then 0 else 5 + typ k (s.drop 5))
    else if pre sFunc s = true then
      match pars (typ k) (s.length + 1) s 5 [] with
      | none => 0
      | some (n, _) => n + typ k (s.drop n)
    else 0

theorem pre_length {p s : Bytes} (h : pre p s = true) : p.length ≤ s.length := (List.isPrefixOf_iff_prefix.1 h).length_le

theorem run_le (s : Bytes) : run s ≤ s.length := (List.takeWhile_prefix alnum).length_le

theorem nam_le (s : Bytes) : nam s ≤ s.length := by
  unfold nam; split
  · omega
  · exact run_le s

theorem pars_le (rec : Bytes → Nat) (hr : ∀ s, rec s ≤ s.length) : ∀ (f : Nat) (s : Bytes) (n : Nat) (acc : List Bytes) (m : Nat) (ps : List Bytes), pars rec f s n acc = some (m, ps) → n + 1 ≤ m ∧ m ≤ s.length
  | 0, _, _, _, _, _, h => by simp [pars] at h
  | f + 1, s, n, acc, m, ps, h => by
    unfold pars at h
    by_cases h1 : pre sClose (s.drop n) = true
    · rw [if_pos h1] at h
      simp only [Option.some.injEq, Prod.mk.injEq] at h
      have := pre_length h1
      simp [sClose] at this
      omega
    · rw [if_neg h1] at h
      by_cases h2 : acc ≠ [] ∧ pre sComma (s.drop n) = false
      · rw [if_pos h2] at h; cases h
      · rw [if_neg h2] at h
        simp only at h
        by_cases h3 : rec (s.drop (if acc = [] then n else n + 1)) = 0
        · rw [if_pos h3] at h; cases h
        · rw [if_neg h3] at h
          have := pars_le rec hr f s _ _ m ps h
          split at this <;> omega

theorem typ_le : ∀ (k : Nat) (s : Bytes), typ k s ≤ s.length
  | 0, _ => by simp [typ]
  | k + 1, s => by
    unfold typ
    by_cases h1 : pre sInt s = true
    · rw [if_pos h1]; exact pre_length h1
    rw [if_neg h1]
    by_cases h2 : pre sBool s = true
    · rw [if_pos h2]; exact pre_length h2
    rw [if_neg h2]
    by_cases h3 : pre sString s = true
    · rw [if_pos h3]; exact pre_length h3
    rw [if_neg h3]
    by_cases h4 : pre sStar s = true
    · rw [if_pos h4]
      have := pre_length h4
      have h := nam_le (s.drop 1)
      simp only [List.length_drop] at h
      simp [sStar] at this
      split <;> omega
    rw [if_neg h4]
    by_cases h5 : pre sSlice s = true
    · rw [if_pos h5]
      have := pre_length h5
      have h := typ_le k (s.drop 2)
      simp [sSlice] at this h
      split <;> omega
    rw [if_neg h5]
    by_cases h6 : pre sChan s = true
    · rw [if_pos h6]
      have := pre_length h6
      have h := typ_le k (s.drop 5)
      simp [sChan] at this h
      split <;> omega
    rw [if_neg h6]
    by_cases h7 : pre sFunc s = true
    · rw [if_pos h7]
      split
      · omega
      · rename_i n ps hp
        have := pars_le (typ k) (typ_le k) _ _ _ _ _ _ hp
        have h := typ_le k (s.drop n)
        simp at h
        omega
    · rw [if_neg h7]; omega

/-- A text is a type, whole. -/
def valid (s : Bytes) : Bool := decide (typ (s.length + 1) s = s.length ∧ s ≠ [])

end TypesText
end

section
namespace Go.Proofs.Ytoaodlfmhioigaa.TS
open Go.RowKit TypesText

/-- A string's bytes. -/
abbrev tx (b : ByteArray) : Bytes := b.data.toList

theorem tx_len (b : ByteArray) : (tx b).length = b.size := (Lib.size_eq b).symm
theorem tx_from (b : ByteArray) (a : Nat) : tx (b.extract a b.size) = (tx b).drop a := by
  rw [tx, Lib.extract_data, List.take_of_length_le (by rw [List.length_drop, ← Lib.size_eq]; omega)]
theorem tx_part (b : ByteArray) (a c : Nat) : tx (b.extract a c) = ((tx b).drop a).take (c - a) := Lib.extract_data b a c

theorem pre_iff (p s : Bytes) : pre p s = (s.take p.length == p) := by
  unfold pre
  rw [Bool.eq_iff_iff, List.isPrefixOf_iff_prefix, List.prefix_iff_eq_take]
  simp only [beq_iff_eq]
  constructor <;> (intro h; exact h.symm)

set_option maxHeartbeats 400000 in
theorem hasPrefix_any (s p : ByteArray) (w : World) :
    Calls Try.prog 20 #[.string s, .string p] w fun e w' => e = .returned (.bool (pre (tx p) (tx s))) ∧ w' = w := by
  by_cases h : p.size ≤ s.size
  · have e : ((s.extract 0 p.size).toList == p.toList) = pre (tx p) (tx s) := by
      rw [pre_iff, tx_len, Lib.extract_toList, Lib.toList_data, List.drop_zero, Nat.sub_zero]
    have E := Lib.hid e
    clear e
    go_enter Try.func20, Try.ntmps20
    go_wp2
    go_ret
    exact ⟨by rw [← E.out]; rfl, rfl⟩
  · have e : pre (tx p) (tx s) = false := by
      rw [Bool.eq_false_iff]
      intro h1
      have := pre_length h1
      rw [tx_len, tx_len] at this
      exact h this
    have E := Lib.hid e
    clear e
    go_enter Try.func20, Try.ntmps20
    go_wp2
    go_ret
    exact ⟨by rw [E.out]; rfl, rfl⟩

end Go.Proofs.Ytoaodlfmhioigaa.TS
end

section
namespace Go.Proofs.Ytoaodlfmhioigaa.TS
open Go.RowKit TypesText

theorem letter_iff (c : UInt8) : letter c = true ↔ (97 ≤ (c.toNat : Int) ∧ (c.toNat : Int) ≤ 122) ∨ (65 ≤ (c.toNat : Int) ∧ (c.toNat : Int) ≤ 90) ∨ (c.toNat : Int) = 95 := by
  unfold letter
  simp only [UInt8.le_iff_toNat_le, ← UInt8.toNat_inj, Bool.or_eq_true, Bool.and_eq_true, decide_eq_true_eq, beq_iff_eq, UInt8.reduceToNat]
  omega

theorem digit_iff (c : UInt8) : digit c = true ↔ 48 ≤ (c.toNat : Int) ∧ (c.toNat : Int) ≤ 57 := by
  unfold digit
  simp only [UInt8.le_iff_toNat_le, Bool.and_eq_true, decide_eq_true_eq, UInt8.reduceToNat]
  omega

theorem alnum_iff (c : UInt8) : alnum c = true ↔ letter c = true ∨ digit c = true := by simp [alnum]


set_option maxHeartbeats 1000000 in
theorem isWord_any (s : ByteArray) (w : World) :
    Calls Try.prog 55 #[.string s] w fun e w' => e = .returned (.bool (words.contains (tx s))) ∧ w' = w := by
  go_enter Try.func55, Try.ntmps55
  go_wp2
  all_goals go_ret
  all_goals refine ⟨?_, rfl⟩
  all_goals (rename_i a b; first | exact absurd (a.symm.trans b) (by decide) | (rw [show tx s = _ from Eq.trans (Lib.toList_data s).symm (eq_of_beq b)]; rfl) | skip)
  all_goals refine congrArg (fun b => Ending.returned (.bool b)) ?_
  all_goals simp only [Lib.toList_data, ← tx.eq_def] at *
  all_goals simp_all [words]

/-- What a name's rune is not. -/
def stops (r : Nat) : Bool := !((decide (97 ≤ r) && decide (r ≤ 122)) || (decide (65 ≤ r) && decide (r ≤ 90)) || decide (r = 95) || (decide (48 ≤ r) && decide (r ≤ 57)))

theorem stops_byte (c : UInt8) : stops c.toNat = !alnum c := by
  unfold stops
  refine congrArg not ?_
  rw [Bool.eq_iff_iff, alnum_iff, letter_iff, digit_iff]
  simp only [decide_eq_true_eq, Bool.or_eq_true, Bool.and_eq_true]
  omega

theorem stops_any (r : Nat) (w : World) (hr : r ≤ 1114111) :
    Calls Try.prog 54 #[.int .i32 (r : Int)] w fun e w' => e = .returned (.bool (stops r)) ∧ w' = w := by
  have E : stops r = true ↔ ¬ ((97 ≤ (r : Int) ∧ (r : Int) ≤ 122) ∨ (65 ≤ (r : Int) ∧ (r : Int) ≤ 90) ∨ (r : Int) = 95 ∨ 48 ≤ (r : Int) ∧ (r : Int) ≤ 57) := by
    rw [← Bool.not_eq_false]
    refine not_congr ?_
    unfold stops
    simp only [Bool.not_eq_false', Bool.or_eq_true, Bool.and_eq_true, decide_eq_true_eq]
    omega
  have H := Lib.hid E
  clear E
  go_enter Try.func54, Try.ntmps54
  go_wp2
  all_goals go_ret
  all_goals refine ⟨?_, rfl⟩
  all_goals refine congrArg (fun b => Ending.returned (.bool b)) ?_
  all_goals rw [Bool.eq_iff_iff, H.out]
  all_goals simp only [decide_eq_false_iff_not, beq_eq_false_iff_ne, ne_eq, Bool.not_eq_true', Bool.and_eq_true, Bool.false_eq_true, false_iff]
  all_goals omega

end Go.Proofs.Ytoaodlfmhioigaa.TS
end
