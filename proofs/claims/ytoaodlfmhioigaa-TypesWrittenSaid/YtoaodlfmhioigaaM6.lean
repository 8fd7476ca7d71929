/- A part of the proof of TypesWrittenSaid. No condition. -/
import Derived.Test.YtoaodlfmhioigaaM5
import Derived.Test.YtoaodlfmhioigaaRows
set_option linter.unusedSimpArgs false
set_option linter.unusedVariables false
section
namespace Go.Proofs.Ytoaodlfmhioigaa
/-! The types that are met. -/
@[simp] theorem sz3 : sizeA Try.prog 3 = some 1 := by kernel_rfl
@[simp] theorem ag3 : aggA Try.prog 3 = some false := by kernel_rfl
@[simp] theorem by3 : bytesA Try.prog 3 = some 8 := by kernel_rfl
@[simp] theorem ze3 : zeroA Try.prog 3 = some [.int .i64 0] := by kernel_rfl
@[simp] theorem sz4 : sizeA Try.prog 4 = some 1 := by kernel_rfl
@[simp] theorem ag4 : aggA Try.prog 4 = some false := by kernel_rfl
@[simp] theorem by4 : bytesA Try.prog 4 = some 1 := by kernel_rfl
@[simp] theorem ze4 : zeroA Try.prog 4 = some [.bool false] := by kernel_rfl
@[simp] theorem sz5 : sizeA Try.prog 5 = some 1 := by kernel_rfl
@[simp] theorem ag5 : aggA Try.prog 5 = some false := by kernel_rfl
@[simp] theorem by5 : bytesA Try.prog 5 = some 1 := by kernel_rfl
@[simp] theorem ze5 : zeroA Try.prog 5 = some [.int .u8 0] := by kernel_rfl
@[simp] theorem sz9 : sizeA Try.prog 9 = some 1 := by kernel_rfl
@[simp] theorem ag9 : aggA Try.prog 9 = some false := by kernel_rfl
@[simp] theorem by9 : bytesA Try.prog 9 = some 16 := by kernel_rfl
@[simp] theorem ze9 : zeroA Try.prog 9 = some [.string ⟨#[]⟩] := by kernel_rfl
@[simp] theorem sz23 : sizeA Try.prog 23 = some 1 := by kernel_rfl
@[simp] theorem ag23 : aggA Try.prog 23 = some false := by kernel_rfl
@[simp] theorem by23 : bytesA Try.prog 23 = some 24 := by kernel_rfl
@[simp] theorem ze23 : zeroA Try.prog 23 = some [.slice none 0 0] := by kernel_rfl
@[simp] theorem sz38 : sizeA Try.prog 38 = some 1 := by kernel_rfl
@[simp] theorem ag38 : aggA Try.prog 38 = some false := by kernel_rfl
@[simp] theorem by38 : bytesA Try.prog 38 = some 24 := by kernel_rfl
@[simp] theorem ze38 : zeroA Try.prog 38 = some [.slice none 0 0] := by kernel_rfl
@[simp] theorem sz62 : sizeA Try.prog 62 = some 1 := by kernel_rfl
@[simp] theorem ag62 : aggA Try.prog 62 = some false := by kernel_rfl
@[simp] theorem by62 : bytesA Try.prog 62 = some 24 := by kernel_rfl
@[simp] theorem ze62 : zeroA Try.prog 62 = some [.slice none 0 0] := by kernel_rfl
@[simp] theorem sz32 : sizeA Try.prog 32 = some 1 := by kernel_rfl
@[simp] theorem ag32 : aggA Try.prog 32 = some false := by kernel_rfl
@[simp] theorem by32 : bytesA Try.prog 32 = some 24 := by kernel_rfl
@[simp] theorem ze32 : zeroA Try.prog 32 = some [.slice none 0 0] := by kernel_rfl
@[simp] theorem sz25 : sizeA Try.prog 25 = some 7 := by kernel_rfl
@[simp] theorem ag25 : aggA Try.prog 25 = some true := by kernel_rfl
@[simp] theorem by25 : bytesA Try.prog 25 = some 88 := by kernel_rfl
@[simp] theorem ze25 : zeroA Try.prog 25 = some [.int .i64 0, .string ⟨#[]⟩, .int .i64 0, .int .i64 0, .string ⟨#[]⟩, .int .i64 0, .slice none 0 0] := by kernel_rfl
@[simp] theorem sz27 : sizeA Try.prog 27 = some 2 := by kernel_rfl
@[simp] theorem ag27 : aggA Try.prog 27 = some true := by kernel_rfl
@[simp] theorem by27 : bytesA Try.prog 27 = some 16 := by kernel_rfl
@[simp] theorem ze27 : zeroA Try.prog 27 = some [.int .i64 0, .int .i64 0] := by kernel_rfl
@[simp] theorem sz45 : sizeA Try.prog 45 = some 4 := by kernel_rfl
@[simp] theorem ag45 : aggA Try.prog 45 = some true := by kernel_rfl
@[simp] theorem by45 : bytesA Try.prog 45 = some 40 := by kernel_rfl
@[simp] theorem ze45 : zeroA Try.prog 45 = some [.int .i64 0, .string ⟨#[]⟩, .int .i64 0, .int .i64 0] := by kernel_rfl
@[simp] theorem sz43 : sizeA Try.prog 43 = some 5 := by kernel_rfl
@[simp] theorem ag43 : aggA Try.prog 43 = some true := by kernel_rfl
@[simp] theorem by43 : bytesA Try.prog 43 = some 48 := by kernel_rfl
@[simp] theorem ze43 : zeroA Try.prog 43 = some [.slice none 0 0, .int .i64 0, .int .i64 0, .bool false, .bool false] := by kernel_rfl
@[simp] theorem el23 : elemA Try.prog 23 = some 25 := by kernel_rfl
@[simp] theorem el38 : elemA Try.prog 38 = some 45 := by kernel_rfl
@[simp] theorem el62 : elemA Try.prog 62 = some 5 := by kernel_rfl
@[simp] theorem el32 : elemA Try.prog 32 = some 9 := by kernel_rfl
@[simp] theorem fi25_0 : fieldA Try.prog 25 0 = some (0, 3) := by kernel_rfl
@[simp] theorem fi25_1 : fieldA Try.prog 25 1 = some (1, 9) := by kernel_rfl
@[simp] theorem fi25_2 : fieldA Try.prog 25 2 = some (2, 3) := by kernel_rfl
@[simp] theorem fi25_3 : fieldA Try.prog 25 3 = some (3, 3) := by kernel_rfl
@[simp] theorem fi25_4 : fieldA Try.prog 25 4 = some (4, 9) := by kernel_rfl
@[simp] theorem fi25_5 : fieldA Try.prog 25 5 = some (5, 3) := by kernel_rfl
@[simp] theorem fi25_6 : fieldA Try.prog 25 6 = some (6, 23) := by kernel_rfl
@[simp] theorem pl25 : placesA Try.prog 25 = some [(0, 1), (1, 1), (2, 1), (3, 1), (4, 1), (5, 1), (6, 1)] := by kernel_rfl
@[simp] theorem fi27_0 : fieldA Try.prog 27 0 = some (0, 3) := by kernel_rfl
@[simp] theorem fi27_1 : fieldA Try.prog 27 1 = some (1, 3) := by kernel_rfl
@[simp] theorem pl27 : placesA Try.prog 27 = some [(0, 1), (1, 1)] := by kernel_rfl
@[simp] theorem fi45_0 : fieldA Try.prog 45 0 = some (0, 3) := by kernel_rfl
@[simp] theorem fi45_1 : fieldA Try.prog 45 1 = some (1, 9) := by kernel_rfl
@[simp] theorem fi45_2 : fieldA Try.prog 45 2 = some (2, 3) := by kernel_rfl
@[simp] theorem fi45_3 : fieldA Try.prog 45 3 = some (3, 3) := by kernel_rfl
@[simp] theorem pl45 : placesA Try.prog 45 = some [(0, 1), (1, 1), (2, 1), (3, 1)] := by kernel_rfl
@[simp] theorem fi43_0 : fieldA Try.prog 43 0 = some (0, 38) := by kernel_rfl
@[simp] theorem fi43_1 : fieldA Try.prog 43 1 = some (1, 3) := by kernel_rfl
@[simp] theorem fi43_2 : fieldA Try.prog 43 2 = some (2, 3) := by kernel_rfl
@[simp] theorem fi43_3 : fieldA Try.prog 43 3 = some (3, 4) := by kernel_rfl
@[simp] theorem fi43_4 : fieldA Try.prog 43 4 = some (4, 4) := by kernel_rfl
@[simp] theorem pl43 : placesA Try.prog 43 = some [(0, 1), (1, 1), (2, 1), (3, 1), (4, 1)] := by kernel_rfl
@[simp] theorem st9 : stringA Try.prog 9 = true := by kernel_rfl
@[simp] theorem st3 : stringA Try.prog 3 = false := by kernel_rfl
@[simp] theorem st4 : stringA Try.prog 4 = false := by kernel_rfl
@[simp] theorem st5 : stringA Try.prog 5 = false := by kernel_rfl
@[simp] theorem st23 : stringA Try.prog 23 = false := by kernel_rfl
@[simp] theorem st38 : stringA Try.prog 38 = false := by kernel_rfl
@[simp] theorem st62 : stringA Try.prog 62 = false := by kernel_rfl
@[simp] theorem st32 : stringA Try.prog 32 = false := by kernel_rfl
@[simp] theorem bo4 : boolA Try.prog 4 = true := by kernel_rfl
@[simp] theorem be62 : byteElem Try.prog 62 = true := by kernel_rfl
@[simp] theorem one_int (k : IntKind) (n : Int) : (Value.int k n).oneCell' = true := rfl
@[simp] theorem one_str (s : ByteArray) : (Value.string s).oneCell' = true := rfl
@[simp] theorem one_bool (b : Bool) : (Value.bool b).oneCell' = true := rfl
@[simp] theorem one_slice (a : Option Addr) (n c : Nat) : (Value.slice a n c).oneCell' = true := rfl
@[simp] theorem some_match_ite {α β : Type} (c : Prop) [Decidable c] (x : α) (f : α → β) (z : β) : (match (if c then some x else none) with | some y => f y | none => z) = if c then f x else z := by by_cases h : c <;> simp [h]
theorem loop_toList (b : ByteArray) : ∀ (n i : Nat) (acc : List UInt8), n = b.size - i → ByteArray.toList.loop b i acc = acc.reverse ++ b.data.toList.drop i := by
  intro n
  have e : b.size = b.data.toList.length := rfl
  induction n with
  | zero =>
    intro i acc h
    unfold ByteArray.toList.loop
    rw [if_neg (by omega), List.drop_of_length_le (by omega)]
    simp
  | succ n ih =>
    intro i acc h
    unfold ByteArray.toList.loop
    rw [if_pos (by omega), ih (i + 1) _ (by omega)]
    have hi : i < b.data.toList.length := by omega
    have hj : i < b.data.size := hi
    rw [List.drop_eq_getElem_cons hi]
    have g : b.get! i = b.data.toList[i] := by
      show b.data[i]! = _
      rw [getElem!_pos b.data i hj, Array.getElem_toList]
    rw [g]
    simp
theorem toList_data (b : ByteArray) : b.toList = b.data.toList := by
  unfold ByteArray.toList
  rw [loop_toList b _ 0 [] rfl]
  simp
@[simp] theorem toList_mk (l : List UInt8) : (ByteArray.mk l.toArray).toList = l := by rw [toList_data]
@[simp] theorem list_beq (l m : List UInt8) : (l == m) = decide (l = m) := by rw [Bool.eq_iff_iff]; simp
@[simp] theorem size_mk (l : List UInt8) : (ByteArray.mk l.toArray).size = l.length := rfl
theorem ba_ext {a b : ByteArray} (h : a.data = b.data) : a = b := by cases a; cases b; exact congrArg _ h
@[simp] theorem bytes_append (a b : List UInt8) : ByteArray.mk a.toArray ++ ByteArray.mk b.toArray = ByteArray.mk (a ++ b).toArray := by
  apply ba_ext
  show (ByteArray.append _ _).data = _
  simp
@[simp] theorem bytes_extract (l : List UInt8) (a b : Nat) : (ByteArray.mk l.toArray).extract a b = ByteArray.mk ((l.drop a).take (b - a)).toArray := by
  apply ba_ext
  simp [List.extract]
end Go.Proofs.Ytoaodlfmhioigaa
end

section
namespace Go.Proofs.Ytoaodlfmhioigaa

abbrev Bytes := List UInt8
abbrev I (n : Int) : AV := .val (.int .i64 n)
abbrev S (x : Bytes) : AV := .val (.string ⟨x.toArray⟩)
abbrev B (b : Bool) : AV := .val (.bool b)

/-- A token. -/
structure Tok where
  kind : Int
  text : Bytes
  num : Int
  at_ : Int
def Tok.cells (t : Tok) : List AV := [I t.kind, S t.text, I t.num, I t.at_]
def flatT : List Tok → List AV
  | [] => []
  | t :: l => t.cells ++ flatT l
theorem flatT_length : ∀ (l : List Tok), (flatT l).length = l.length * 4
  | [] => rfl
  | t :: l => by simp [flatT, Tok.cells, flatT_length l]; omega
theorem flatT_drop : ∀ (l : List Tok) (i : Nat) (t : Tok), l[i]? = some t → (flatT l).drop (i * 4) = t.cells ++ (flatT l).drop ((i + 1) * 4)
  | [], i, t, h => by simp at h
  | x :: l, 0, t, h => by simp at h; subst h; simp [flatT, Tok.cells]
  | x :: l, i + 1, t, h => by
    have ih := flatT_drop l i t (by simpa using h)
    have e : ∀ j, (flatT (x :: l)).drop ((j + 1) * 4) = (flatT l).drop (j * 4) := fun j => by
      rw [show (j + 1) * 4 = x.cells.length + j * 4 by simp [Tok.cells]; omega]
      show (x.cells ++ flatT l).drop _ = _
      rw [← List.drop_drop, List.drop_left]
    rw [e, e, ih]

/-- Where a parser stands: the place, the place of what is wrong, two flags. -/
structure PS where
  at_ : Nat
  bad : Int
  head : Bool
  bare : Bool
/-- The parser's object, over these tokens. -/
def PO (toks : List Tok) (s : PS) : AO := ⟨true, 0, none, 43, [.vec 4 toks.length (flatT toks), I s.at_, I s.bad, B s.head, B s.bare]⟩

theorem t_none : TriE Try.prog 49 [] [] (.agg [I 8, S [], I 0, I 0, S [], I 0, .vec 0 0 []]) [] := by
  refine tri_by Try.func49 (by rfl) _ Try.ntmps49 _ (by rfl) ?_
  simp [Try.f49, Value.oneCell']

theorem t_one (k at_ : Int) (x : ByteArray) (sz n : Nat) (cs : List AV) : TriE Try.prog 31 [I k, I at_, .val (.string x), .vec sz n cs] [] (.agg [I k, .val (.string x), I 0, I at_, S [], I 0, .vec sz n cs]) [] := by
  refine tri_by Try.func31 (by rfl) _ Try.ntmps31 _ (by rfl) ?_
  simp [Try.f31, Value.oneCell']

theorem tok_hyps {toks : List Tok} {i : Nat} {t : Tok} (ht : toks[i]? = some t) : (flatT toks).drop (i * 4) = t.cells ++ (flatT toks).drop ((i + 1) * 4) ∧ i < toks.length ∧ (flatT toks).isEmpty = false := by
  have hlt := (List.getElem?_eq_some_iff.1 ht).1
  refine ⟨flatT_drop toks i t ht, hlt, ?_⟩
  have := flatT_length toks
  cases h : flatT toks with
  | nil => rw [h] at this; simp at this; omega
  | cons _ _ => rfl

theorem t_peek (toks : List Tok) (s : PS) (t : Tok) (ht : toks[s.at_]? = some t) : TriE Try.prog 14 [.ref 0 0 0] [PO toks s] (.agg t.cells) [PO toks s] := by
  obtain ⟨hd, hlt, hne⟩ := tok_hyps ht
  refine tri_by Try.func14 (by rfl) _ Try.ntmps14 _ (by rfl) ?_
  simp [Try.f14, PO]
  refine adrawC_by [1] [0,1,2,3,4,5,6,7,8,9] (.late 10 .fin) (by kernel_rfl) (by kernel_rfl) (by kernel_rfl) ?_
  simp [hd, hlt, hne, Tok.cells, PO]

def PS.wrong (s : PS) (t : Tok) : PS := if s.bad < 0 then { s with bad := t.at_ } else s
abbrev zeroN : AV := .agg [I 0, S [], I 0, I 0, S [], I 0, .vec 0 0 []]

theorem t_wrong (toks : List Tok) (s : PS) (t : Tok) (ht : toks[s.at_]? = some t) : TriE Try.prog 33 [.ref 0 0 0] [PO toks s] zeroN [PO toks (s.wrong t)] := by
  obtain ⟨hd, hlt, hne⟩ := tok_hyps ht
  refine tri_by Try.func33 (by rfl) _ Try.ntmps33 _ (by rfl) ?_
  by_cases hb : s.bad < 0
  · simp [Try.f33, PO, PS.wrong, hb]
    refine adrawC_by [0] [0,1,2,3,5,6,7] (.two 4 8 (.late 8 (.late 9 (.late 10 (.late 11 (.late 12 (.late 13 (.late 14 .fin))))))) (.late 4 (.late 9 (.late 10 (.late 11 (.late 12 (.late 13 (.late 14 .fin)))))))) (by kernel_rfl) (by kernel_rfl) (by kernel_rfl) ?_
    simp [hd, hlt, hne, Tok.cells, PO, PS.wrong, hb]
  · simp [Try.f33, PO, PS.wrong, hb]

def PS.is (s : PS) (t : Tok) (x : Bytes) : Bool := decide (s.bad < 0) && (decide (t.kind = 4) || decide (t.kind = 5)) && decide (t.text = x)

set_option maxRecDepth 4000 in
theorem t_is (toks : List Tok) (s : PS) (t : Tok) (x : Bytes) (ht : toks[s.at_]? = some t) : TriE Try.prog 29 [.ref 0 0 0, S x] [PO toks s] (B (s.is t x)) [PO toks s] := by
  obtain ⟨hd, hlt, hne⟩ := tok_hyps ht
  have main : s.is t x = s.is t x → Tri Try.prog 29 [.ref 0 0 0, S x] [PO toks s] fun r o => r = B (s.is t x) ∧ o = [PO toks s] := fun _ => by
    refine tri_by Try.func29 (by rfl) _ Try.ntmps29 _ (by rfl) ?_
    by_cases hb : s.bad < 0
    · by_cases h4 : t.kind = 4
      · simp [Try.f29, PO, PS.is, hb, h4]
        refine adrawC_by [] [0,1,2,3,4,5,6,7,8,9] (.late 10 (.late 11 .fin)) (by kernel_rfl) (by kernel_rfl) (by kernel_rfl) ?_
        simp [hd, hlt, hne, Tok.cells, PO, PS.is, hb, h4]
      · by_cases h5 : t.kind = 5
        · simp [Try.f29, PO, PS.is, hb, h5]
          refine adrawC_by [] [0,1,2,3,4,5,6,7,8,9] (.late 10 (.late 11 .fin)) (by kernel_rfl) (by kernel_rfl) (by kernel_rfl) ?_
          simp [hd, hlt, hne, Tok.cells, PO, PS.is, hb, h5]
        · simp [Try.f29, PO, PS.is, hb, h4, h5]
          refine adrawC_by [] [0,1,2,3,4,5,6,7,8,9] (.late 10 (.late 11 .fin)) (by kernel_rfl) (by kernel_rfl) (by kernel_rfl) ?_
          simp [hd, hlt, hne, Tok.cells, PO, PS.is, hb, h4, h5]
    · simp [Try.f29, PO, PS.is, hb]
      refine adrawC_by [] [0,1,2,3,4,5,6,7,8,9] (.late 10 (.late 11 .fin)) (by kernel_rfl) (by kernel_rfl) (by kernel_rfl) ?_
      simp [hd, hlt, hne, Tok.cells, PO, PS.is, hb]
  exact main rfl

end Go.Proofs.Ytoaodlfmhioigaa
end

section
namespace Go.Proofs.Ytoaodlfmhioigaa


def PS.got (s : PS) (t : Tok) (x : Bytes) : PS := if s.is t x then { s with at_ := s.at_ + 1 } else s
def PS.want (s : PS) (t : Tok) (x : Bytes) : PS := if s.is t x then { s with at_ := s.at_ + 1 } else s.wrong t
def PS.isName (s : PS) (t : Tok) : Bool := decide (s.bad < 0) && decide (t.kind = 1)
def PS.name (s : PS) (t : Tok) : PS := if s.isName t then { s with at_ := s.at_ + 1 } else s.wrong t
theorem wrap_i {n : Int} (h : -4611686018427387904 < n ∧ n < 4611686018427387904) : IntKind.i64.wrap n = n := by rw [IntKind.wrap_i64]; omega
theorem wrap_one {n : Nat} (h : n < 4611686018427387903) : IntKind.i64.wrap ((n : Int) + 1) = (n : Int) + 1 := wrap_i (by omega)

theorem t_got (toks : List Tok) (s : PS) (t : Tok) (x : Bytes) (hl : toks.length < 1048576) (ht : toks[s.at_]? = some t) : TriE Try.prog 27 [.ref 0 0 0, S x] [PO toks s] (B (s.is t x)) [PO toks (s.got t x)] := by
  obtain ⟨hd, hlt, hne⟩ := tok_hyps ht
  have hw := wrap_one (n := s.at_) (by omega)
  refine tri_by Try.func27 (by rfl) _ Try.ntmps27 _ (by rfl) ?_
  cases hi : s.is t x <;> simp [Try.f27, PO, PS.got, hi] <;> refine acallC_by 1 (t_is toks s t x ht) ?_ (by kernel_rfl) ?_ ?_ ?_ ?_ ?_ ?_ ?_ ?_ ?_ <;> simp [PO, hi, hw, PS.got]

theorem t_want (toks : List Tok) (s : PS) (t : Tok) (x : Bytes) (hl : toks.length < 1048576) (ht : toks[s.at_]? = some t) : TriE Try.prog 16 [.ref 0 0 0, S x] [PO toks s] (.tup []) [PO toks (s.want t x)] := by
  refine tri_by Try.func16 (by rfl) _ Try.ntmps16 _ (by rfl) ?_
  cases hi : s.is t x <;> simp [Try.f16, PO, PS.want, hi]
  · refine acallC_by 1 (t_got toks s t x hl ht) ?_ (by kernel_rfl) ?_ ?_ ?_ ?_ ?_ ?_ ?_ ?_ ?_ <;> simp [PO, hi]
    refine acallC_by 1 (t_wrong toks (s.got t x) t (by simp [PS.got, hi, ht])) ?_ (by kernel_rfl) ?_ ?_ ?_ ?_ ?_ ?_ ?_ ?_ ?_ <;> simp [PO, PS.want, PS.got, hi]
  · refine acallC_by 1 (t_got toks s t x hl ht) ?_ (by kernel_rfl) ?_ ?_ ?_ ?_ ?_ ?_ ?_ ?_ ?_ <;> simp [PO, hi, PS.want, PS.got]

theorem t_name (toks : List Tok) (s : PS) (t : Tok) (hl : toks.length < 1048576) (ht : toks[s.at_]? = some t) : TriE Try.prog 28 [.ref 0 0 0] [PO toks s] (S (if s.isName t then t.text else [])) [PO toks (s.name t)] := by
  obtain ⟨hd, hlt, hne⟩ := tok_hyps ht
  have hw := wrap_one (n := s.at_) (by omega)
  refine tri_by Try.func28 (by rfl) _ Try.ntmps28 _ (by rfl) ?_
  by_cases hb : s.bad < 0
  · have hb2 : ¬ 0 ≤ s.bad := by omega
    by_cases hk : t.kind = 1
    · simp [Try.f28, PO, PS.name, PS.isName, hb, hk]
      refine acallC_by 1 (t_peek toks s t ht) ?_ (by kernel_rfl) ?_ ?_ ?_ ?_ ?_ ?_ ?_ ?_ ?_ <;> simp [PO, hb, hb2, hk, hw, Tok.cells, PS.name, PS.isName]
    · simp [Try.f28, PO, PS.name, PS.isName, hb, hk]
      refine acallC_by 1 (t_peek toks s t ht) ?_ (by kernel_rfl) ?_ ?_ ?_ ?_ ?_ ?_ ?_ ?_ ?_ <;> simp [PO, hb, hb2, hk, hw, Tok.cells, PS.name, PS.isName]
      refine acallC_by 1 (t_wrong toks s t ht) ?_ (by kernel_rfl) ?_ ?_ ?_ ?_ ?_ ?_ ?_ ?_ ?_ <;> simp [PO, hb, hb2, hk, PS.name, PS.isName]
  · have hb2 : 0 ≤ s.bad := by omega
    simp [Try.f28, PO, PS.name, PS.isName, hb]
    refine acallC_by 1 (t_peek toks s t ht) ?_ (by kernel_rfl) ?_ ?_ ?_ ?_ ?_ ?_ ?_ ?_ ?_ <;> simp [PO, hb, hb2, hw, Tok.cells, PS.name, PS.isName]
    refine acallC_by 1 (t_wrong toks s t ht) ?_ (by kernel_rfl) ?_ ?_ ?_ ?_ ?_ ?_ ?_ ?_ ?_ <;> simp [PO, hb, PS.name, PS.isName]

end Go.Proofs.Ytoaodlfmhioigaa
end

section
namespace Go.Proofs.Ytoaodlfmhioigaa

@[simp] def slotI (s : AS) (k : Nat) : Int := match s.tm[k]? with | some (.val (.int _ i)) => i | _ => 0

def occ (t : Bytes) : Bytes → Bool
  | [] => t.isEmpty
  | c :: r => t.isPrefixOf (c :: r) || occ t r
abbrev spaced (s : Bytes) : Bytes := 32 :: (s ++ [32])
/-- Does a word stand in such a list? -/
def inW (s l : Bytes) : Bool := !s.isEmpty && occ (spaced s) l

theorem take_beg : ∀ (t l : Bytes), t.isPrefixOf l = decide (l.take t.length = t)
  | [], l => by simp
  | c :: t, [] => by simp
  | c :: t, d :: l => by
    simp only [List.isPrefixOf_cons_cons, List.length_cons, List.take_succ_cons, List.cons.injEq, take_beg t l, Bool.decide_and]
    congr 1
    by_cases h : c = d
    · subst h; simp
    · have h2 : ¬ d = c := fun e => h e.symm
      simp [h, h2]
theorem occ_short : ∀ (t l : Bytes), l.length < t.length → occ t l = false
  | t, [], h => by cases t <;> simp [occ] at *
  | t, c :: l, h => by
    have h1 : t.isPrefixOf (c :: l) = false := by
      rw [take_beg]
      simp only [decide_eq_false_iff_not]
      intro e
      have := congrArg List.length e
      simp at this h
      omega
    simp only [occ, h1, Bool.false_or]
    exact occ_short t l (by simp at h; omega)
theorem occ_step (t l : Bytes) (i : Nat) (h : i + t.length ≤ l.length) (ht : 0 < t.length) : occ t (l.drop i) = (decide ((l.drop i).take t.length = t) || occ t (l.drop (i + 1))) := by
  have hi : i < l.length := by omega
  rw [List.drop_eq_getElem_cons hi]
  rw [occ, take_beg]

theorem t_In (s l : Bytes) (hs : s.length < 1048576) (hl : l.length < 1048576) : TriE Try.prog 26 [S s, S l] [] (B (inW s l)) [] := by
  refine tri_by Try.func26 (by rfl) _ Try.ntmps26 _ (by rfl) ?_
  have ha : ¬ (9223372036854775807 : Int) < 1 + s.length := by omega
  have hb : ¬ (9223372036854775807 : Int) < s.length + 1 + 1 := by omega
  simp [Try.f26, ha, hb]
  refine loopC_at (fun v (i : Nat) => ⟨[S s, S l, v 2, v 3, B false, S (spaced s), I i, v 7, v 8, v 9, v 10, v 11, v 12, v 13, v 14, v 15, v 16, v 17, v 18, v 19, v 20, v 21, v 22, v 23, v 24, v 25, v 26, v 27, v 28, v 29, v 30, v 31], []⟩) (fun i => i ≤ l.length ∧ (s ≠ [] → occ (spaced s) (l.drop i) = inW s l)) (fun i => l.length + 1 - i) 0 (by rfl) ?_ ?_
  · refine ⟨by simp, fun h => ?_⟩
    cases s <;> simp [inW] at *
  · rintro v i ⟨h1, h2⟩
    have hw : IntKind.i64.wrap ((i : Int) + ((s.length : Int) + 1 + 1)) = (i : Int) + ((s.length : Int) + 1 + 1) := wrap_i (by omega)
    by_cases hlt : i + (s.length + 2) ≤ l.length
    · have hc : (i : Int) + ((s.length : Int) + 1 + 1) ≤ l.length := by omega
      have hw1 := wrap_one (n := i) (by omega)
      by_cases hs0 : s = []
      · subst hs0
        simp at hw hc
        simp [hw, hc, hw1]
        refine Again.mk 0 ((i + 1)) (by simp) (by simp) (by simp) rfl ?_ ?_ ?_
        · simp
        · simp at hlt ⊢; omega
        · simp at hlt ⊢; omega
      · have hst := occ_step (spaced s) l i (by simp; omega) (by simp)
        have g0 : (0 : Int) ≤ (i : Int) + ((s.length : Int) + 1 + 1) := by omega
        have g1 : ((i : Int) + ((s.length : Int) + 1 + 1)).toNat = i + (s.length + 2) := by omega
        have g2 : s.isEmpty = false := by cases s <;> simp at *
        by_cases he : (l.drop i).take (s.length + 2) = spaced s
        · have e1 : inW s l = true := by
            rw [← h2 hs0, hst]
            simp [he]
          simp [hw, hc, hw1, hs0, g0, g1, g2, hlt, he, e1]
        · simp [hw, hc, hw1, hs0, g0, g1, g2, hlt, he]
          refine Again.mk 0 ((i + 1)) (by simp) (by simp) (by simp) rfl ?_ ?_ ?_
          · simp
          · refine ⟨by omega, ?_⟩
            rw [← h2 hs0, hst]
            simp [he]
          · omega
    · have hc : ¬ (i : Int) + ((s.length : Int) + 1 + 1) ≤ l.length := by omega
      have e1 : inW s l = false := by
        by_cases hs0 : s = []
        · subst hs0; rfl
        · rw [← h2 hs0]
          exact occ_short _ _ (by simp; omega)
      simp [hw, hc, e1]

end Go.Proofs.Ytoaodlfmhioigaa
end
