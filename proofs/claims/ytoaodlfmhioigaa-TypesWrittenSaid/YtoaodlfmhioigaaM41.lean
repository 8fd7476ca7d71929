/- A part of the proof of TypesWrittenSaid. No condition. -/
import Derived.Test.YtoaodlfmhioigaaM40
set_option linter.unusedSimpArgs false
set_option linter.unusedVariables false
section
namespace TypesText

/-- How many bytes of a type a text begins with. -/
def Typ (s : Bytes) : Nat := typ (s.length + 1) s
def Parts (s : Bytes) : List Bytes × Bytes := parts (s.length + 1) s
def isType (s : Bytes) : Bool := decide (0 < Typ s) && decide (Typ s = s.length)
def elem (s : Bytes) : Bytes × Bool :=
  if isType s = true then (if pre sSlice s = true then (s.drop 2, true) else if pre sChan s = true then (s.drop 5, true) else ([], false)) else ([], false)
def isFunc (s : Bytes) : Bool := isType s && pre sFunc s
def fparts (s : Bytes) : List Bytes × Bytes := if isFunc s = true then Parts s else ([], [])
def nilable (s : Bytes) : Bool := isType s && (pre sStar s || pre sSlice s || pre sChan s || pre sFunc s)

end TypesText
namespace Go.Proofs.Ytoaodlfmhioigaa.TS
open Go.RowKit TypesText

theorem read_any (s : ByteArray) (w : World) (h : s.size ≤ 4000000) :
    Calls Try.prog 19 #[.string s] w fun e w' => ∃ v, e = .returned (.tuple #[.int .i64 (Typ (tx s) : Nat), v, strV (Parts (tx s)).2]) ∧ Below w.heap.size w w' ∧
      w'.ownsRow w.heap.size 9 1 v (Parts (tx s)).1.length ((Parts (tx s)).1.map strV) := by
  have := reads_all ((tx s).length + 1) s w (by rw [tx_len]; omega) h
  exact this

theorem valid_any (s : ByteArray) (w : World) (h : s.size ≤ 4000000) :
    Calls Try.prog 7 #[.string s] w fun e w' => e = .returned (.bool (isType (tx s))) ∧ Below w.heap.size w w' := by
  have c := read_any s w h
  have hv : isType (tx s) = (decide (0 < Typ (tx s)) && decide (Typ (tx s) = s.size)) := by rw [← tx_len]; rfl
  obtain ⟨V, hV⟩ : ∃ V, isType (tx s) = V := ⟨_, rfl⟩
  rw [hV] at hv ⊢
  clear hV
  obtain ⟨N, hN⟩ : ∃ N, Typ (tx s) = N := ⟨_, rfl⟩
  rw [hN] at hv c
  clear hN
  have c2 : Calls Try.prog 19 #[.string s] w fun e w' => ∃ v r, e = .returned (.tuple #[.int .i64 (N : Nat), v, r]) ∧ Below w.heap.size w w' := c.mono (by rintro e w' ⟨v, h1, h2, _⟩; exact ⟨v, _, h1, h2⟩)
  clear c
  have HV := Lib.hid hv
  clear hv
  go_enter Try.func7, Try.ntmps7
  go_wp2_with (refine c2.mono ?_; rintro e w' ⟨v, r, rfl, hb⟩)
  all_goals go_ret
  all_goals refine ⟨?_, hb⟩
  all_goals rw [HV.out]
  all_goals refine congrArg (fun b => Ending.returned (.bool b)) ?_
  all_goals rw [Bool.eq_iff_iff]
  all_goals simp only [Bool.and_eq_true, decide_eq_true_eq, beq_iff_eq, Bool.false_eq_true, false_iff]
  all_goals omega

theorem ind41_0 (a b : ByteArray) (w : World) : (Instr.index 53 (.agg #[.string a, .string b]) (.int .i64 0)).run Try.prog w = .ok (.string a) w := by
  simp [Instr.index, run_underlying Try.underlying53, asIntOf, go_sem]
theorem ind41_1 (a b : ByteArray) (w : World) : (Instr.index 53 (.agg #[.string a, .string b]) (.int .i64 1)).run Try.prog w = .ok (.string b) w := by
  simp [Instr.index, run_underlying Try.underlying53, asIntOf, go_sem]

def CutC (s : ByteArray) (l : Array UInt8) (b : Bytes) (ok : Bool) : Prop :=
  ∀ w1 : World, Calls Try.prog 21 #[.string s, .string ⟨l⟩] w1 fun e w' => e = .returned (.tuple #[strV b, .bool ok]) ∧ w' = w1

theorem cut_yes {s : ByteArray} {l : Array UInt8} (h : pre l.toList (tx s) = true) : CutC s l ((tx s).drop l.size) true := by
  intro w1
  have := Try.strings_CutPrefix s ⟨l⟩ w1
  rw [show Lib.hasPrefix s.data.toList (ByteArray.mk l).data.toList = true from h, Lib.trimPrefix, if_pos (show Lib.hasPrefix s.data.toList (ByteArray.mk l).data.toList = true from h)] at this
  exact this

theorem cut_no {s : ByteArray} {l : Array UInt8} (h : pre l.toList (tx s) = false) : CutC s l (tx s) false := by
  intro w1
  have := Try.strings_CutPrefix s ⟨l⟩ w1
  rw [show Lib.hasPrefix s.data.toList (ByteArray.mk l).data.toList = false from h, Lib.trimPrefix, if_neg (by rw [show Lib.hasPrefix s.data.toList (ByteArray.mk l).data.toList = false from h]; simp)] at this
  exact this

set_option maxHeartbeats 800000 in
theorem elem_any (s : ByteArray) (w : World) (h : s.size ≤ 4000000) :
    Calls Try.prog 9 #[.string s] w fun e w' => e = .returned (.tuple #[strV (elem (tx s)).1, .bool (elem (tx s)).2]) ∧ Below w.heap.size w w' := by
  have c := valid_any s w h
  have hd : elem (tx s) = if isType (tx s) = true then (if pre sSlice (tx s) = true then ((tx s).drop 2, true) else if pre sChan (tx s) = true then ((tx s).drop 5, true) else ([], false)) else ([], false) := rfl
  cases hv : isType (tx s) with
  | false =>
    rw [hv] at c hd
    simp only [Bool.false_eq_true, if_false] at hd
    have HD := Lib.hid hd
    clear hd hv
    go_enter Try.func9, Try.ntmps9
    go_wp2_with (refine c.mono ?_; rintro e w' ⟨rfl, hb⟩)
    go_ret2
    rw [HD.out]
    exact ⟨rfl, hb⟩
  | true =>
    rw [hv, if_pos rfl] at hd
    rw [hv] at c
    clear hv
    cases h1 : pre sSlice (tx s) with
    | true =>
      have k1 : CutC s #[91, 93] ((tx s).drop 2) true := cut_yes h1
      rw [h1, if_pos rfl] at hd
      have HD := Lib.hid hd
      clear hd h1
      go_enter Try.func9, Try.ntmps9
      go_wp2_with (refine c.mono ?_; rintro e w' ⟨rfl, hb⟩)
      have HB := Lib.hid hb
      clear hb
      go_loopw [12] (fun i wr => i = .int .i64 0 ∧ Below w.heap.size w wr) (fun i _ => 3 - (intOf i).toNat)
      case atStart => exact ⟨rfl, HB.out⟩
      case round =>
        obtain ⟨rfl, hb⟩ := hrel
        have HB := Lib.hid hb
        clear hb
        have ix := ind41_0
        go_wp2_with (refine (k1 _).mono ?_; rintro e w' ⟨rfl, rfl⟩)
        go_ret2
        rw [HD.out]
        exact ⟨rfl, HB.out⟩
    | false =>
      have k1 : CutC s #[91, 93] (tx s) false := cut_no h1
      rw [h1] at hd
      simp only [Bool.false_eq_true, if_false] at hd
      clear h1
      cases h2 : pre sChan (tx s) with
      | true =>
        have k2 : CutC s #[99, 104, 97, 110, 32] ((tx s).drop 5) true := cut_yes h2
        rw [h2, if_pos rfl] at hd
        have HD := Lib.hid hd
        clear hd h2
        go_enter Try.func9, Try.ntmps9
        go_wp2_with (refine c.mono ?_; rintro e w' ⟨rfl, hb⟩)
        have HB := Lib.hid hb
        clear hb
        go_loopw [12] (fun i wr => (i = .int .i64 0 ∨ i = .int .i64 1) ∧ Below w.heap.size w wr) (fun i _ => 3 - (intOf i).toNat)
        case atStart => exact ⟨.inl rfl, HB.out⟩
        case round =>
          obtain ⟨hi, hb⟩ := hrel
          have HB := Lib.hid hb
          clear hb
          rcases hi with rfl | rfl
          · have ix := ind41_0
            go_wp2_with (refine (k1 _).mono ?_; rintro e w' ⟨rfl, rfl⟩)
            go_roundw
            case rel => exact ⟨.inr rfl, HB.out⟩
            case measure => simp [intOf]
          · have ix := ind41_1
            go_wp2_with (refine (k2 _).mono ?_; rintro e w' ⟨rfl, rfl⟩)
            go_ret2
            rw [HD.out]
            exact ⟨rfl, HB.out⟩
      | false =>
        have k2 : CutC s #[99, 104, 97, 110, 32] (tx s) false := cut_no h2
        rw [h2] at hd
        simp only [Bool.false_eq_true, if_false] at hd
        have HD := Lib.hid hd
        clear hd h2
        go_enter Try.func9, Try.ntmps9
        go_wp2_with (refine c.mono ?_; rintro e w' ⟨rfl, hb⟩)
        have HB := Lib.hid hb
        clear hb
        go_loopw [12] (fun i wr => (i = .int .i64 0 ∨ i = .int .i64 1 ∨ i = .int .i64 2) ∧ Below w.heap.size w wr) (fun i _ => 3 - (intOf i).toNat)
        case atStart => exact ⟨.inl rfl, HB.out⟩
        case round =>
          obtain ⟨hi, hb⟩ := hrel
          have HB := Lib.hid hb
          clear hb
          rcases hi with rfl | rfl | rfl
          · have ix := ind41_0
            go_wp2_with (refine (k1 _).mono ?_; rintro e w' ⟨rfl, rfl⟩)
            go_roundw
            case rel => exact ⟨.inr (.inl rfl), HB.out⟩
            case measure => simp [intOf]
          · have ix := ind41_1
            go_wp2_with (refine (k2 _).mono ?_; rintro e w' ⟨rfl, rfl⟩)
            go_roundw
            case rel => exact ⟨.inr (.inr rfl), HB.out⟩
            case measure => simp [intOf]
          · go_wp2_with fail
            go_ret2
            rw [HD.out]
            exact ⟨rfl, HB.out⟩

theorem ownsRow_base {B C : Nat} {e : TypeId} {size : Nat} {v : Value} {n : Nat} {xs : List Value} {w : World} (h : w.ownsRow B e size v n xs) (hc : C ≤ B) : w.ownsRow C e size v n xs := by
  refine ⟨h.1, ?_⟩
  rcases h.2 with h2 | ⟨g, cap, cur, h1, h2, h3⟩
  · exact .inl h2
  · exact .inr ⟨g, cap, cur, h1, Nat.le_trans hc h2, h3⟩

set_option maxHeartbeats 800000 in
theorem func14_any (s : ByteArray) (w : World) (h : s.size ≤ 4000000) :
    Calls Try.prog 8 #[.string s] w fun e w' => ∃ v, e = .returned (.tuple #[v, strV (fparts (tx s)).2, .bool (isFunc (tx s))]) ∧ Below w.heap.size w w' ∧
      w'.ownsRow w.heap.size 9 1 v (fparts (tx s)).1.length ((fparts (tx s)).1.map strV) := by
  have c := valid_any s w h
  have R := Lib.hid (fun w1 => read_any s w1 h)
  have C7 : PreC s #[102, 117, 110, 99, 40] sFunc := preC_any s _
  have hd : fparts (tx s) = if isFunc (tx s) = true then Parts (tx s) else ([], []) := rfl
  have hf : isFunc (tx s) = (isType (tx s) && pre sFunc (tx s)) := rfl
  cases hv : isType (tx s) with
  | false =>
    rw [hv] at c hf
    rw [hf] at hd ⊢
    simp only [Bool.false_and, Bool.false_eq_true, if_false] at hd
    have HD := Lib.hid hd
    clear hd hv hf
    go_enter Try.func8, Try.ntmps8
    go_wp2_with (refine c.mono ?_; rintro e w' ⟨rfl, hb⟩)
    go_ret3
    rw [HD.out]
    exact ⟨_, rfl, hb, World.ownsRow_nil _ _ _ _⟩
  | true =>
    rw [hv] at c hf
    cases h1 : pre sFunc (tx s) with
    | false =>
      have c7 := C7.at h1
      rw [h1] at hf
      rw [hf] at hd ⊢
      simp only [Bool.and_false, Bool.false_eq_true, if_false] at hd
      have HD := Lib.hid hd
      clear hd hv hf h1
      go_enter Try.func8, Try.ntmps8
      go_wp2_with (first | (refine c.mono ?_; rintro e w' ⟨rfl, hb⟩) | (refine (c7 _).mono ?_; rintro e w' ⟨rfl, rfl⟩))
      go_ret3
      rw [HD.out]
      exact ⟨_, rfl, hb, World.ownsRow_nil _ _ _ _⟩
    | true =>
      have c7 := C7.at h1
      rw [h1] at hf
      rw [hf] at hd ⊢
      simp only [Bool.and_true, if_true] at hd
      have HD := Lib.hid hd
      clear hd hv hf h1
      go_enter Try.func8, Try.ntmps8
      go_wp2_with (first | (refine c.mono ?_; rintro e w' ⟨rfl, hb⟩; have hsz := hb.size; have HB := Lib.hid hb; clear hb) | (refine (c7 _).mono ?_; rintro e w' ⟨rfl, rfl⟩) | (refine (R.out _).mono ?_; rintro e w' ⟨v, rfl, hb2, ho⟩; have HO := Lib.hid ho; clear ho; have HB2 := Lib.hid hb2; clear hb2))
      go_ret3
      rw [HD.out]
      exact ⟨_, rfl, HB.out.trans (HB2.out.mono hsz), ownsRow_base HO.out hsz⟩

end Go.Proofs.Ytoaodlfmhioigaa.TS
end
