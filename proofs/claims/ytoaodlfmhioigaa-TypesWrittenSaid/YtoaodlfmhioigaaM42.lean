/- A part of the proof of TypesWrittenSaid. No condition. -/
import Derived.Test.YtoaodlfmhioigaaM41
set_option linter.unusedSimpArgs false
set_option linter.unusedVariables false
section
namespace Go.Proofs.Ytoaodlfmhioigaa.TS
open Go.RowKit TypesText

theorem clos_any (s p : ByteArray) (b : Nat) (w : World) (hb : w.heap[b]? = some (.cells #[.string s] 9 (0, 0))) :
    Calls Try.prog 23 #[.string p, .pointer (some ⟨b, 0, none⟩)] w fun e w' => e = .returned (.bool (pre (tx p) (tx s))) ∧ w' = w := by
  have c := hasPrefix_any s p
  have hc : w.cell? ⟨b, 0, none⟩ = some (.string s) := by simp [World.cell?, hb]
  obtain ⟨R, hR⟩ : ∃ R, pre (tx p) (tx s) = R := ⟨_, rfl⟩
  rw [hR] at c ⊢
  clear hR hb
  go_enter Try.func23, Try.ntmps23
  go_wp2_with (refine (c _).mono ?_; rintro e w' ⟨rfl, rfl⟩)
  go_ret
  exact ⟨rfl, rfl⟩

def first4 (a b c d : Bool) : Int := if a = true then 0 else if b = true then 1 else if c = true then 2 else if d = true then 3 else -1

set_option maxHeartbeats 1600000 in
theorem index4 (s p0 p1 p2 p3 : ByteArray) (b g : Nat) (w : World) (hb : w.heap[b]? = some (.cells #[.string s] 9 (0, 0))) (hg : w.heap[g]? = some (.cells #[.string p0, .string p1, .string p2, .string p3] 9 (0, 0))) :
    Calls Try.prog 41 #[.slice (some ⟨g, 0, none⟩) 4 4, .func (.func 23) #[] #[.pointer (some ⟨b, 0, none⟩)]] w fun e w' =>
      e = .returned (.int .i64 (first4 (pre (tx p0) (tx s)) (pre (tx p1) (tx s)) (pre (tx p2) (tx s)) (pre (tx p3) (tx s)))) ∧ Below w.heap.size w w' := by
  have k0 : w.cell? ⟨g, 0, none⟩ = some (.string p0) := by simp [World.cell?, hg]
  have k1 : w.cell? ⟨g, 1, none⟩ = some (.string p1) := by simp [World.cell?, hg]
  have k2 : w.cell? ⟨g, 2, none⟩ = some (.string p2) := by simp [World.cell?, hg]
  have k3 : w.cell? ⟨g, 3, none⟩ = some (.string p3) := by simp [World.cell?, hg]
  have c0 := clos_any s p0 b w hb
  have c1 := clos_any s p1 b w hb
  have c2 := clos_any s p2 b w hb
  have c3 := clos_any s p3 b w hb
  obtain ⟨a0, h0⟩ : ∃ R, pre (tx p0) (tx s) = R := ⟨_, rfl⟩
  obtain ⟨a1, h1⟩ : ∃ R, pre (tx p1) (tx s) = R := ⟨_, rfl⟩
  obtain ⟨a2, h2⟩ : ∃ R, pre (tx p2) (tx s) = R := ⟨_, rfl⟩
  obtain ⟨a3, h3⟩ : ∃ R, pre (tx p3) (tx s) = R := ⟨_, rfl⟩
  rw [h0] at c0 ⊢
  rw [h1] at c1 ⊢
  rw [h2] at c2 ⊢
  rw [h3] at c3 ⊢
  clear h0 h1 h2 h3 hb hg
  go_enter Try.func41, Try.ntmps41
  go_wp2_with fail
  go_loopw [8] (fun i wr => ∃ n : Int, i = .int .i64 n ∧ 0 ≤ n ∧ n ≤ 4 ∧ (0 < n → a0 = false) ∧ (1 < n → a1 = false) ∧ (2 < n → a2 = false) ∧ (3 < n → a3 = false) ∧ wr = w) (fun i _ => 4 - (intOf i).toNat)
  case atStart => exact ⟨0, rfl, by omega, by omega, by omega, by omega, by omega, by omega, rfl⟩
  case round =>
    obtain ⟨n, rfl, hn0, hn, g0, g1, g2, g3, rfl⟩ := hrel
    obtain rfl | rfl | rfl | rfl | rfl : n = 0 ∨ n = 1 ∨ n = 2 ∨ n = 3 ∨ n = 4 := by omega
    · skip
      clear g0 g1 g2 g3 hn0 hn
      cases a0 with
      | true =>
        go_wp2_with (refine c0.mono ?_; rintro e w' ⟨rfl, rfl⟩)
        go_ret
        exact ⟨rfl, Below.refl _ _⟩
      | false =>
        go_wp2_with (refine c0.mono ?_; rintro e w' ⟨rfl, rfl⟩)
        go_roundw
        case rel => exact ⟨1, rfl, by simp⟩
        case measure => simp [intOf]
    · skip
      have e0 := g0 (by omega)
      subst e0
      clear g0 g1 g2 g3 hn0 hn
      cases a1 with
      | true =>
        go_wp2_with (refine c1.mono ?_; rintro e w' ⟨rfl, rfl⟩)
        go_ret
        exact ⟨rfl, Below.refl _ _⟩
      | false =>
        go_wp2_with (refine c1.mono ?_; rintro e w' ⟨rfl, rfl⟩)
        go_roundw
        case rel => exact ⟨2, rfl, by simp⟩
        case measure => simp [intOf]
    · skip
      have e0 := g0 (by omega)
      subst e0
      have e1 := g1 (by omega)
      subst e1
      clear g0 g1 g2 g3 hn0 hn
      cases a2 with
      | true =>
        go_wp2_with (refine c2.mono ?_; rintro e w' ⟨rfl, rfl⟩)
        go_ret
        exact ⟨rfl, Below.refl _ _⟩
      | false =>
        go_wp2_with (refine c2.mono ?_; rintro e w' ⟨rfl, rfl⟩)
        go_roundw
        case rel => exact ⟨3, rfl, by simp⟩
        case measure => simp [intOf]
    · skip
      have e0 := g0 (by omega)
      subst e0
      have e1 := g1 (by omega)
      subst e1
      have e2 := g2 (by omega)
      subst e2
      clear g0 g1 g2 g3 hn0 hn
      cases a3 with
      | true =>
        go_wp2_with (refine c3.mono ?_; rintro e w' ⟨rfl, rfl⟩)
        go_ret
        exact ⟨rfl, Below.refl _ _⟩
      | false =>
        go_wp2_with (refine c3.mono ?_; rintro e w' ⟨rfl, rfl⟩)
        go_roundw
        case rel => exact ⟨4, rfl, by simp⟩
        case measure => simp [intOf]
    · have e0 := g0 (by omega)
      have e1 := g1 (by omega)
      have e2 := g2 (by omega)
      have e3 := g3 (by omega)
      subst e0; subst e1; subst e2; subst e3
      clear g0 g1 g2 g3 hn0 hn
      go_wp2_with fail
      go_ret
      exact ⟨rfl, Below.refl _ _⟩

theorem first4_pos (a b c d : Bool) : decide (0 ≤ first4 a b c d) = (a || b || c || d) := by
  cases a <;> cases b <;> cases c <;> cases d <;> rfl

def lits : Array Value := #[.string ⟨#[42]⟩, .string ⟨#[91, 93]⟩, .string ⟨#[99, 104, 97, 110, 32]⟩, .string ⟨#[102, 117, 110, 99, 40]⟩]

theorem contains4 (s : ByteArray) (b g : Nat) (w : World) (hb : w.heap[b]? = some (.cells #[.string s] 9 (0, 0))) (hg : w.heap[g]? = some (.cells lits 9 (0, 0))) :
    Calls Try.prog 22 #[.slice (some ⟨g, 0, none⟩) 4 4, .func (.func 23) #[] #[.pointer (some ⟨b, 0, none⟩)]] w fun e w' =>
      e = .returned (.bool (pre sStar (tx s) || pre sSlice (tx s) || pre sChan (tx s) || pre sFunc (tx s))) ∧ Below w.heap.size w w' := by
  have c := index4 s ⟨#[42]⟩ ⟨#[91, 93]⟩ ⟨#[99, 104, 97, 110, 32]⟩ ⟨#[102, 117, 110, 99, 40]⟩ b g w hb hg
  have hf := first4_pos (pre sStar (tx s)) (pre sSlice (tx s)) (pre sChan (tx s)) (pre sFunc (tx s))
  rw [← hf]
  have c' : Calls Try.prog 41 #[.slice (some ⟨g, 0, none⟩) 4 4, .func (.func 23) #[] #[.pointer (some ⟨b, 0, none⟩)]] w fun e w' =>
      e = .returned (.int .i64 (first4 (pre sStar (tx s)) (pre sSlice (tx s)) (pre sChan (tx s)) (pre sFunc (tx s)))) ∧ Below w.heap.size w w' := c
  clear c hf
  obtain ⟨I, hI⟩ : ∃ I, first4 (pre sStar (tx s)) (pre sSlice (tx s)) (pre sChan (tx s)) (pre sFunc (tx s)) = I := ⟨_, rfl⟩
  rw [hI] at c' ⊢
  clear hI hb hg
  go_enter Try.func22, Try.ntmps22
  go_wp2_with (refine c'.mono ?_; rintro e w' ⟨rfl, hb⟩)
  go_ret
  exact ⟨rfl, hb⟩

theorem nilable_any (s : ByteArray) (w : World) (h : s.size ≤ 4000000) :
    Calls Try.prog 10 #[.string s] w fun e w' => e = .returned (.bool (nilable (tx s))) ∧ Below w.heap.size w w' := by
  have c := Lib.hid (fun w1 => valid_any s w1 h)
  have hn : nilable (tx s) = (isType (tx s) && (pre sStar (tx s) || pre sSlice (tx s) || pre sChan (tx s) || pre sFunc (tx s))) := rfl
  have c4 := Lib.hid (fun b g w1 => contains4 s b g w1)
  obtain ⟨V, hV⟩ : ∃ V, isType (tx s) = V := ⟨_, rfl⟩
  rw [hV] at c hn
  obtain ⟨T, hT⟩ : ∃ T, (pre sStar (tx s) || pre sSlice (tx s) || pre sChan (tx s) || pre sFunc (tx s)) = T := ⟨_, rfl⟩
  simp only [hT] at c4 hn
  rw [hn]
  clear hn hV hT
  have hstart : ∀ w2, Below (w.alloc (.cells #[.string s] 9)).heap.size (w.alloc (.cells #[.string s] 9)) w2 → Below w.heap.size w w2 := fun w2 hb =>
    ((Below.refl w.heap.size w).alloc (Nat.le_refl _) _).trans (hb.mono (by simp))
  have HS := Lib.hid hstart
  clear hstart
  cases V with
  | false =>
    go_enter Try.func10, Try.ntmps10
    go_wp2_with (refine (c.out _).mono ?_; rintro e w' ⟨rfl, hb⟩; have HB := Lib.hid hb; clear hb)
    go_ret
    exact ⟨rfl, HS.out _ HB.out⟩
  | true =>
    go_enter Try.func10, Try.ntmps10
    go_wp2_with (first | (refine (c.out _).mono ?_; rintro e w' ⟨rfl, hb⟩; have HB := Lib.hid hb; have hsz := hb.size; simp only [World.size_alloc] at hsz; clear hb) | (refine (c4.out w.heap.size w'.heap.size _ ?h1 ?h2).mono ?_))
    case h1 =>
      rw [Below.heap_alloc _ _ _ (by omega), HB.out.block _ (by simp)]
      exact Array.getElem?_push_size
    case h2 => exact Array.getElem?_push_size
    rintro e w2 ⟨rfl, hb2⟩
    have HB2 := Lib.hid ((HS.out _ HB.out).trans ((((Below.refl w'.heap.size w').alloc (Nat.le_refl _) _).trans (hb2.mono (by simp))).mono (by omega)))
    clear hb2
    go_wp2_with fail
    go_ret
    exact ⟨rfl, HB2.out⟩

end Go.Proofs.Ytoaodlfmhioigaa.TS
end

section
namespace TypesText

def sNil : Bytes := [110, 105, 108]
def ordered (s : Bytes) : Bool := s == sInt || s == sString
def reference (s : Bytes) : Bool := s == sString || nilable s
def fits (a b : Bytes) : Bool := (isType b && (a == b)) || ((a == sNil) && nilable b)
def equals (a b : Bytes) : Bool :=
  if (a == sNil) = true then nilable b else if (b == sNil) = true then nilable a
  else if (a == b) = true then (if isType a = true then !pre sSlice a && !pre sFunc a else false) else false

end TypesText
namespace Go.Proofs.Ytoaodlfmhioigaa.TS
open Go.RowKit TypesText

theorem toList_tx (s : ByteArray) : s.toList = tx s := Lib.toList_data s



theorem fits_any (a b : ByteArray) (w : World) (hb : b.size ≤ 4000000) : Calls Try.prog 11 #[.string a, .string b] w fun e w' => e = .returned (.bool (fits (tx a) (tx b))) ∧ Below w.heap.size w w' := by
  have hr : fits (tx a) (tx b) = ((isType (tx b) && (a.toList == b.toList)) || ((a.toList == [110, 105, 108]) && nilable (tx b))) := by rw [toList_tx, toList_tx]; rfl
  have c := Lib.hid (fun w1 => valid_any b w1 hb)
  have cn := Lib.hid (fun w1 => nilable_any b w1 hb)
  obtain ⟨N, hN⟩ : ∃ N, nilable (tx b) = N := ⟨_, rfl⟩
  obtain ⟨V, hV⟩ : ∃ V, isType (tx b) = V := ⟨_, rfl⟩
  rw [hN] at hr
  rw [hV] at hr
  simp only [hN] at cn
  simp only [hV] at c
  rw [hr]
  clear hr hN hV
  obtain ⟨E, hE⟩ : ∃ E, (a.toList == b.toList) = E := ⟨_, rfl⟩
  obtain ⟨F, hF⟩ : ∃ F, (a.toList == [110, 105, 108]) = F := ⟨_, rfl⟩
  rw [hE, hF]
  cases V <;> cases E <;> cases F
  all_goals
    go_enter Try.func11, Try.ntmps11
    go_wp2_with (first | (refine (c.out _).mono ?_; rintro e w' ⟨rfl, hbl⟩; have hsz := hbl.size) | (refine (cn.out _).mono ?_; rintro e w'' ⟨rfl, hbn⟩))
    all_goals go_ret
    all_goals first | exact ⟨rfl, hbl.trans (hbn.mono hsz)⟩ | exact ⟨rfl, hbl⟩

set_option maxRecDepth 100000 in
theorem equals_any (a b : ByteArray) (w : World) (ha : a.size ≤ 4000000) (hb : b.size ≤ 4000000) : Calls Try.prog 12 #[.string a, .string b] w fun e w' => e = .returned (.bool (equals (tx a) (tx b))) ∧ Below w.heap.size w w' := by
  have hr : equals (tx a) (tx b) = if (a.toList == [110, 105, 108]) = true then nilable (tx b) else if (b.toList == [110, 105, 108]) = true then nilable (tx a)
      else if (a.toList == b.toList) = true then (if isType (tx a) = true then !pre sSlice (tx a) && !pre sFunc (tx a) else false) else false := by rw [toList_tx, toList_tx]; rfl
  have c := Lib.hid (fun w1 => valid_any a w1 ha)
  have ca := Lib.hid (fun w1 => nilable_any a w1 ha)
  have cb := Lib.hid (fun w1 => nilable_any b w1 hb)
  have C5 : PreC a #[91, 93] sSlice := preC_any a _
  have C7 : PreC a #[102, 117, 110, 99, 40] sFunc := preC_any a _
  obtain ⟨NA, hNA⟩ : ∃ N, nilable (tx a) = N := ⟨_, rfl⟩
  obtain ⟨NB, hNB⟩ : ∃ N, nilable (tx b) = N := ⟨_, rfl⟩
  obtain ⟨V, hV⟩ : ∃ V, isType (tx a) = V := ⟨_, rfl⟩
  obtain ⟨S, hS⟩ : ∃ V, pre sSlice (tx a) = V := ⟨_, rfl⟩
  obtain ⟨F, hF⟩ : ∃ V, pre sFunc (tx a) = V := ⟨_, rfl⟩
  rw [hNA, hNB, hV, hS, hF] at hr
  simp only [hNA] at ca
  simp only [hNB] at cb
  simp only [hV] at c
  have c5 := C5.at hS
  have c7 := C7.at hF
  rw [hr]
  clear hr hNA hNB hV hS hF C5 C7
  obtain ⟨X, hX⟩ : ∃ E, (a.toList == [110, 105, 108]) = E := ⟨_, rfl⟩
  obtain ⟨Y, hY⟩ : ∃ E, (b.toList == [110, 105, 108]) = E := ⟨_, rfl⟩
  obtain ⟨E, hE⟩ : ∃ E, (a.toList == b.toList) = E := ⟨_, rfl⟩
  rw [hX, hY, hE]
  have hne : (a.toList != b.toList) = !E := by rw [← hE]; rfl
  cases X
  case true =>
    go_enter Try.func12, Try.ntmps12
    go_wp2_with (refine (cb.out _).mono ?_; rintro e w' ⟨rfl, hbl⟩)
    go_ret
    exact ⟨rfl, hbl⟩
  case false =>
    cases Y
    case true =>
      go_enter Try.func12, Try.ntmps12
      go_wp2_with (refine (ca.out _).mono ?_; rintro e w' ⟨rfl, hbl⟩)
      go_ret
      exact ⟨rfl, hbl⟩
    case false =>
      cases E
      case false =>
        simp only [Bool.not_false] at hne
        go_enter Try.func12, Try.ntmps12
        go_wp2_with fail
        go_ret
        exact ⟨rfl, Below.refl _ _⟩
      case true =>
        simp only [Bool.not_true] at hne
        cases V <;> cases S <;> cases F
        all_goals
          go_enter Try.func12, Try.ntmps12
          go_wp2_with (first | (refine (c.out _).mono ?_; rintro e w' ⟨rfl, hbl⟩) | (refine (c5 _).mono ?_; rintro e w'' ⟨rfl, rfl⟩) | (refine (c7 _).mono ?_; rintro e w'' ⟨rfl, rfl⟩))
          all_goals go_ret
          all_goals exact ⟨rfl, hbl⟩

end Go.Proofs.Ytoaodlfmhioigaa.TS
end
