import Derived.Test.YtblkgfkdfldkiaaT8
namespace TypesText

def sNil : Bytes := [110, 105, 108]
def ordered (s : Bytes) : Bool := s == sInt || s == sString
def reference (s : Bytes) : Bool := s == sString || nilable s
def fits (a b : Bytes) : Bool := (isType b && (a == b)) || ((a == sNil) && nilable b)
def equals (a b : Bytes) : Bool :=
  if (a == sNil) = true then nilable b else if (b == sNil) = true then nilable a
  else if (a == b) = true then (if isType a = true then !pre sSlice a && !pre sFunc a else false) else false

end TypesText
namespace Go.Proofs.Ytblkgfkdfldkiaa
open Go.RowKit TypesText

theorem toList_tx (s : ByteArray) : s.toList = tx s := Lib.toList_data s

theorem ordered_any (s : ByteArray) (w : World) : Calls Try.prog 23 #[.string s] w fun e w' => e = .returned (.bool (ordered (tx s))) ∧ w' = w := by
  have h : ordered (tx s) = (s.toList == [105, 110, 116] || s.toList == [115, 116, 114, 105, 110, 103]) := by rw [toList_tx]; rfl
  rw [h]
  go_enter Try.func23, Try.ntmps23
  go_wp2
  all_goals go_ret
  all_goals refine ⟨?_, rfl⟩
  all_goals simp_all

theorem reference_any (s : ByteArray) (w : World) (h : s.size ≤ 4000000) : Calls Try.prog 22 #[.string s] w fun e w' => e = .returned (.bool (reference (tx s))) ∧ Below w.heap.size w w' := by
  have hr : reference (tx s) = (s.toList == [115, 116, 114, 105, 110, 103] || nilable (tx s)) := by rw [toList_tx]; rfl
  have c := nilable_any s w h
  obtain ⟨N, hN⟩ : ∃ N, nilable (tx s) = N := ⟨_, rfl⟩
  rw [hN] at c hr
  rw [hr]
  clear hr hN
  go_enter Try.func22, Try.ntmps22
  go_wp2_with (refine c.mono ?_; rintro e w' ⟨rfl, hb⟩)
  all_goals go_ret
  · refine ⟨?_, Below.refl _ _⟩
    simp_all
  · exact ⟨rfl, hb⟩

theorem fits_any (a b : ByteArray) (w : World) (hb : b.size ≤ 4000000) : Calls Try.prog 9 #[.string a, .string b] w fun e w' => e = .returned (.bool (fits (tx a) (tx b))) ∧ Below w.heap.size w w' := by
  have hr : fits (tx a) (tx b) = ((isType (tx b) && (a.toList == b.toList)) || ((a.toList == [110, 105, 108]) && nilable (tx b))) := by rw [toList_tx, toList_tx]; rfl
  have c := Lib.hid (fun w1 => valid_any b w1 hb)
  have cn := Lib.hid (fun w1 => nilable_any b w1 hb)
  obtain ⟨N, hN⟩ : ∃ N, nilable (tx b) = N := ⟨_, rfl⟩
  obtain ⟨V, hV⟩ : ∃ V, isType (tx b) = V := ⟨_, rfl⟩
  rw [hN] at hr
  rw [hV] at hr
  simp only [hN] at cn
  simp only [hV] at c
  rw [hr]
  clear hr hN hV
  obtain ⟨E, hE⟩ : ∃ E, (a.toList == b.toList) = E := ⟨_, rfl⟩
  obtain ⟨F, hF⟩ : ∃ F, (a.toList == [110, 105, 108]) = F := ⟨_, rfl⟩
  rw [hE, hF]
  cases V <;> cases E <;> cases F
  all_goals
    go_enter Try.func9, Try.ntmps9
    go_wp2_with (first | (refine (c.out _).mono ?_; rintro e w' ⟨rfl, hbl⟩; have hsz := hbl.size) | (refine (cn.out _).mono ?_; rintro e w'' ⟨rfl, hbn⟩))
    all_goals go_ret
    all_goals first | exact ⟨rfl, hbl.trans (hbn.mono hsz)⟩ | exact ⟨rfl, hbl⟩

set_option maxRecDepth 100000 in
theorem equals_any (a b : ByteArray) (w : World) (ha : a.size ≤ 4000000) (hb : b.size ≤ 4000000) : Calls Try.prog 11 #[.string a, .string b] w fun e w' => e = .returned (.bool (equals (tx a) (tx b))) ∧ Below w.heap.size w w' := by
  have hr : equals (tx a) (tx b) = if (a.toList == [110, 105, 108]) = true then nilable (tx b) else if (b.toList == [110, 105, 108]) = true then nilable (tx a)
      else if (a.toList == b.toList) = true then (if isType (tx a) = true then !pre sSlice (tx a) && !pre sFunc (tx a) else false) else false := by rw [toList_tx, toList_tx]; rfl
  have c := Lib.hid (fun w1 => valid_any a w1 ha)
  have ca := Lib.hid (fun w1 => nilable_any a w1 ha)
  have cb := Lib.hid (fun w1 => nilable_any b w1 hb)
  have C5 : PreC a #[91, 93] sSlice := preC_any a _
  have C7 : PreC a #[102, 117, 110, 99, 40] sFunc := preC_any a _
  obtain ⟨NA, hNA⟩ : ∃ N, nilable (tx a) = N := ⟨_, rfl⟩
  obtain ⟨NB, hNB⟩ : ∃ N, nilable (tx b) = N := ⟨_, rfl⟩
  obtain ⟨V, hV⟩ : ∃ V, isType (tx a) = V := ⟨_, rfl⟩
  obtain ⟨S, hS⟩ : ∃ V, pre sSlice (tx a) = V := ⟨_, rfl⟩
  obtain ⟨F, hF⟩ : ∃ V, pre sFunc (tx a) = V := ⟨_, rfl⟩
  rw [hNA, hNB, hV, hS, hF] at hr
  simp only [hNA] at ca
  simp only [hNB] at cb
  simp only [hV] at c
  have c5 := C5.at hS
  have c7 := C7.at hF
  rw [hr]
  clear hr hNA hNB hV hS hF C5 C7
  obtain ⟨X, hX⟩ : ∃ E, (a.toList == [110, 105, 108]) = E := ⟨_, rfl⟩
  obtain ⟨Y, hY⟩ : ∃ E, (b.toList == [110, 105, 108]) = E := ⟨_, rfl⟩
  obtain ⟨E, hE⟩ : ∃ E, (a.toList == b.toList) = E := ⟨_, rfl⟩
  rw [hX, hY, hE]
  have hne : (a.toList != b.toList) = !E := by rw [← hE]; rfl
  cases X
  case true =>
    go_enter Try.func11, Try.ntmps11
    go_wp2_with (refine (cb.out _).mono ?_; rintro e w' ⟨rfl, hbl⟩)
    go_ret
    exact ⟨rfl, hbl⟩
  case false =>
    cases Y
    case true =>
      go_enter Try.func11, Try.ntmps11
      go_wp2_with (refine (ca.out _).mono ?_; rintro e w' ⟨rfl, hbl⟩)
      go_ret
      exact ⟨rfl, hbl⟩
    case false =>
      cases E
      case false =>
        simp only [Bool.not_false] at hne
        go_enter Try.func11, Try.ntmps11
        go_wp2_with fail
        go_ret
        exact ⟨rfl, Below.refl _ _⟩
      case true =>
        simp only [Bool.not_true] at hne
        cases V <;> cases S <;> cases F
        all_goals
          go_enter Try.func11, Try.ntmps11
          go_wp2_with (first | (refine (c.out _).mono ?_; rintro e w' ⟨rfl, hbl⟩) | (refine (c5 _).mono ?_; rintro e w'' ⟨rfl, rfl⟩) | (refine (c7 _).mono ?_; rintro e w'' ⟨rfl, rfl⟩))
          all_goals go_ret
          all_goals exact ⟨rfl, hbl⟩

end Go.Proofs.Ytblkgfkdfldkiaa
