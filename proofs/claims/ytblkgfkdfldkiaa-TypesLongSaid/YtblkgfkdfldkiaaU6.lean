import Derived.Test.YtblkgfkdfldkiaaU5
namespace TypesText

theorem pre_full {p s : Bytes} (h : pre p s = true) (hl : s.length = p.length) : s = p := by
  rw [pre, List.isPrefixOf_iff_prefix] at h
  exact (h.eq_of_length hl.symm).symm

theorem isType_iff (s : Bytes) : isType s = true ↔ 0 < Typ s ∧ Typ s = s.length := by
  unfold isType
  rw [Bool.and_eq_true, decide_eq_true_eq, decide_eq_true_eq]

theorem pre_self (p : Bytes) : pre p p = true := by
  rw [pre, List.isPrefixOf_iff_prefix]
  exact List.prefix_refl p

/-- A type that is no slice and no function is one of the others. -/
theorem other_types {s : Bytes} (h : isType s = true) : (!pre sSlice s && !pre sFunc s) = (s == sInt || s == sBool || s == sString || pre sStar s || pre sChan s) := by
  have hx : ∀ p q : Bytes, pre p s = true → pre p q = false → pre q p = false → pre q s = false := fun p q a b c => pre_excl a b c
  obtain ⟨h0, hl⟩ := (isType_iff s).1 h
  have hT : Typ s = typ (s.length + 1) s := rfl
  by_cases h1 : pre sInt s = true
  · rw [hT, typ_is_int h1] at hl
    have := pre_full h1 hl.symm
    subst this
    rfl
  by_cases h2 : pre sBool s = true
  · rw [hT, typ_is_bool h2] at hl
    have := pre_full h2 hl.symm
    subst this
    rfl
  by_cases h3 : pre sString s = true
  · rw [hT, typ_is_string h3] at hl
    have := pre_full h3 hl.symm
    subst this
    rfl
  have n1 : (s == sInt) = false := by
    rw [Bool.eq_false_iff]; intro hh; rw [beq_iff_eq] at hh; subst hh; exact h1 rfl
  have n2 : (s == sBool) = false := by
    rw [Bool.eq_false_iff]; intro hh; rw [beq_iff_eq] at hh; subst hh; exact h2 rfl
  have n3 : (s == sString) = false := by
    rw [Bool.eq_false_iff]; intro hh; rw [beq_iff_eq] at hh; subst hh; exact h3 rfl
  rw [n1, n2, n3]
  by_cases h4 : pre sStar s = true
  · rw [hx _ sSlice h4 (by decide) (by decide), hx _ sFunc h4 (by decide) (by decide), h4]; rfl
  by_cases h5 : pre sChan s = true
  · rw [hx _ sSlice h5 (by decide) (by decide), hx _ sFunc h5 (by decide) (by decide), h5]; simp
  by_cases h6 : pre sSlice s = true
  · simp_all
  by_cases h7 : pre sFunc s = true
  · simp_all
  · exfalso
    simp only [Bool.not_eq_true] at h1 h2 h3 h4 h5 h6 h7
    rw [hT, typ_not h1 h2 h3 h4 h6 h5 h7] at h0
    omega

end TypesText
namespace Go.Proofs.Ytblkgfkdfldkiaa
open Go.RowKit TypesText

abbrev Beg (s : ByteArray) (l : Array UInt8) (b : Bool) : Prop :=
  ∀ w1 : World, Calls Try.prog 27 #[.string s, .string ⟨l⟩] w1 fun e w' => e = .returned (.bool b) ∧ w' = w1

theorem beg_any {s : ByteArray} {l : Array UInt8} {p : Bytes} {b : Bool} (hb : pre p (tx s) = b) (hp : p = l.toList) : Beg s l b := by
  intro w1
  subst hp; subst hb
  exact begins_any s ⟨l⟩ w1

theorem end_any (s : ByteArray) (w : World) (h : s.size ≤ 4000000) :
    Calls Try.prog 33 #[.string s, .int .i64 0] w fun e w' => e = .returned (.int .i64 (endv (Typ (tx s)) 0)) ∧ Below w.heap.size w w' := by
  have := ends_all ((tx s).length + 1) s 0 w (Nat.zero_le _) (by rw [tx_len]; omega) h
  rw [List.drop_zero] at this
  exact this

theorem refValid_any (s : ByteArray) (w : World) (h : s.size ≤ 4000000) :
    Calls Try.prog 19 #[.string s] w fun e w' => e = .returned (.bool (isType (tx s))) ∧ Below w.heap.size w w' := by
  have c := fun w1 => end_any s w1 h
  have hi := isType_iff (tx s)
  rw [tx_len] at hi
  have hz : (s.toList == []) = true ↔ s.size = 0 := by rw [toList_tx, beq_iff_eq, ← List.length_eq_zero_iff, tx_len]
  obtain ⟨V, hV⟩ : ∃ V, isType (tx s) = V := ⟨_, rfl⟩
  rw [hV] at hi ⊢
  clear hV
  obtain ⟨N, hN⟩ : ∃ N, Typ (tx s) = N := ⟨_, rfl⟩
  simp only [hN] at hi c
  clear hN
  obtain ⟨Z, hZ⟩ : ∃ Z, (s.toList == []) = Z := ⟨_, rfl⟩
  have hne : (s.toList != []) = !Z := by rw [← hZ]; rfl
  rw [hZ] at hz
  have HI := Lib.hid hi
  have HZ := Lib.hid hz
  clear hi hz hZ
  have hv : V = (decide (endv N 0 = s.size) && !Z) := by
    rw [Bool.eq_iff_iff, HI.out, Bool.and_eq_true, decide_eq_true_eq, Bool.not_eq_true', Bool.eq_false_iff, Ne, HZ.out]
    unfold endv
    split <;> omega
  rw [hv]
  clear hv HI HZ
  obtain ⟨E, hE⟩ : ∃ E, endv N 0 = E := ⟨_, rfl⟩
  simp only [hE] at c ⊢
  clear hE
  cases Z <;> simp only [Bool.not_true, Bool.not_false] at hne ⊢
  all_goals
    go_enter Try.func19, Try.ntmps19
    go_wp2_with (with_reducible refine (c _).mono ?_; rintro e w' ⟨rfl, hb⟩)
    all_goals go_ret
    all_goals refine ⟨?_, hb⟩
    all_goals refine congrArg (fun b => Ending.returned (.bool b)) ?_
    all_goals simp_all

theorem refElem_any (s : ByteArray) (w : World) (h : s.size ≤ 4000000) :
    Calls Try.prog 17 #[.string s] w fun e w' => e = .returned (.tuple #[strV (elem (tx s)).1, .bool (elem (tx s)).2]) ∧ Below w.heap.size w w' := by
  have c := fun w1 => refValid_any s w1 h
  have hd : elem (tx s) = if isType (tx s) = true then (if pre sSlice (tx s) = true then ((tx s).drop 2, true) else if pre sChan (tx s) = true then ((tx s).drop 5, true) else ([], false)) else ([], false) := rfl
  obtain ⟨V, hV⟩ : ∃ V, isType (tx s) = V := ⟨_, rfl⟩
  simp only [hV] at c
  rw [hV] at hd
  have cA := c w
  have hs : ∀ {n : Nat} {p : Bytes}, p.length = n → pre p (tx s) = true → n ≤ s.size := by
    intro n p hn hp; have := pre_length hp; rw [tx_len] at this; omega
  have hx : ∀ n, Value.string (s.extract n s.size) = strV ((tx s).drop n) := by intro n; rw [← tx_from]; rfl
  have HX := Lib.hid hx
  clear hx
  cases V with
  | false =>
    rw [if_neg (by simp)] at hd
    have HD := Lib.hid hd
    clear hd hV
    go_enter Try.func17, Try.ntmps17
    go_wp2_with (first | (with_reducible refine cA.mono ?_; rintro e w' ⟨rfl, hb⟩; have HB := Lib.hid hb; have hsz := hb.size; clear hb) | (with_reducible refine (c _).mono ?_; rintro e w2 ⟨rfl, hb2⟩))
    go_ret2
    rw [HD.out]
    exact ⟨rfl, HB.out.trans (hb2.mono hsz)⟩
  | true =>
    rw [if_pos rfl] at hd
    cases h1 : pre sSlice (tx s) with
    | true =>
      have c1 : Beg s #[91, 93] true := beg_any h1 rfl
      rw [h1, if_pos rfl] at hd
      have h2 := hs (n := 2) rfl h1
      have HD := Lib.hid hd
      clear hd hV h1
      go_enter Try.func17, Try.ntmps17
      go_wp2_with (first | (with_reducible refine (c _).mono ?_; rintro e w' ⟨rfl, hb⟩) | (with_reducible refine (c1 _).mono ?_; rintro e w'' ⟨rfl, rfl⟩))
      go_ret2
      rw [HD.out, ← HX.out]
      exact ⟨rfl, hb⟩
    | false =>
      have c1 : Beg s #[91, 93] false := beg_any h1 rfl
      rw [h1, if_neg (by simp)] at hd
      cases h2 : pre sChan (tx s) with
      | true =>
        have c2 : Beg s #[99, 104, 97, 110, 32] true := beg_any h2 rfl
        rw [h2, if_pos rfl] at hd
        have h3 := hs (n := 5) rfl h2
        have HD := Lib.hid hd
        clear hd hV h1 h2
        have h2 : 2 ≤ 5 := by omega
        go_enter Try.func17, Try.ntmps17
        go_wp2_with (first | (with_reducible refine cA.mono ?_; rintro e w' ⟨rfl, hb⟩; have HB := Lib.hid hb; have hsz := hb.size; clear hb) | (with_reducible refine (c1 _).mono ?_; rintro e w'' ⟨rfl, rfl⟩) | (with_reducible refine (c2 _).mono ?_; rintro e w'' ⟨rfl, rfl⟩) | (with_reducible refine (c _).mono ?_; rintro e w2 ⟨rfl, hb2⟩))
        go_ret2
        rw [HD.out, ← HX.out]
        exact ⟨rfl, HB.out.trans (hb2.mono hsz)⟩
      | false =>
        have c2 : Beg s #[99, 104, 97, 110, 32] false := beg_any h2 rfl
        rw [h2, if_neg (by simp)] at hd
        have HD := Lib.hid hd
        clear hd hV h1 h2
        go_enter Try.func17, Try.ntmps17
        go_wp2_with (first | (with_reducible refine cA.mono ?_; rintro e w' ⟨rfl, hb⟩; have HB := Lib.hid hb; have hsz := hb.size; clear hb) | (with_reducible refine (c1 _).mono ?_; rintro e w'' ⟨rfl, rfl⟩) | (with_reducible refine (c2 _).mono ?_; rintro e w'' ⟨rfl, rfl⟩) | (with_reducible refine (c _).mono ?_; rintro e w2 ⟨rfl, hb2⟩))
        go_ret2
        rw [HD.out]
        exact ⟨rfl, HB.out.trans (hb2.mono hsz)⟩

theorem function_any (s : ByteArray) (w : World) (h : s.size ≤ 4000000) (hp : pre sFunc (tx s) = true) :
    Calls Try.prog 32 #[.string s, .int .i64 0] w fun e w' => ∃ n v, e = .returned (.tuple #[n, v, strV (Parts (tx s)).2]) ∧ Below w.heap.size w w' ∧
      w'.ownsRow w.heap.size 9 1 v (Parts (tx s)).1.length ((Parts (tx s)).1.map strV) := by
  have hP : Parts (tx s) = (func (typ (tx s).length) (tx s)).2 := parts_func hp
  have := fun_step (tx s).length (ends_all _) s 0 w (Nat.zero_le _) (by rw [tx_len]; omega) h (by rw [List.drop_zero]; exact hp)
  rw [List.drop_zero] at this
  rw [hP]
  refine this.mono ?_
  rintro e w' ⟨v, rfl, hb, ho⟩
  exact ⟨_, v, rfl, hb, ho⟩

theorem refFunc_any (s : ByteArray) (w : World) (h : s.size ≤ 4000000) :
    Calls Try.prog 18 #[.string s] w fun e w' => ∃ v, e = .returned (.tuple #[v, strV (fparts (tx s)).2, .bool (isFunc (tx s))]) ∧ Below w.heap.size w w' ∧
      w'.ownsRow w.heap.size 9 1 v (fparts (tx s)).1.length ((fparts (tx s)).1.map strV) := by
  have c := fun w1 => refValid_any s w1 h
  have cF := fun w1 => function_any s w1 h
  have hd : fparts (tx s) = if isFunc (tx s) = true then Parts (tx s) else ([], []) := rfl
  have hf : isFunc (tx s) = (isType (tx s) && pre sFunc (tx s)) := rfl
  rw [hf] at hd ⊢
  obtain ⟨V, hV⟩ : ∃ V, isType (tx s) = V := ⟨_, rfl⟩
  simp only [hV] at c
  rw [hV] at hd ⊢
  clear hV hf
  cases V with
  | false =>
    rw [Bool.false_and, if_neg (by simp)] at hd
    rw [Bool.false_and]
    have HD := Lib.hid hd
    clear hd cF
    go_enter Try.func18, Try.ntmps18
    go_wp2_with (with_reducible refine (c _).mono ?_; rintro e w' ⟨rfl, hb⟩)
    go_ret3
    rw [HD.out]
    exact ⟨_, rfl, hb, World.ownsRow_nil _ _ _ _⟩
  | true =>
    rw [Bool.true_and] at hd ⊢
    cases h1 : pre sFunc (tx s) with
    | false =>
      have c1 : Beg s #[102, 117, 110, 99, 40] false := beg_any h1 rfl
      rw [h1, if_neg (by simp)] at hd
      have HD := Lib.hid hd
      clear hd cF h1
      go_enter Try.func18, Try.ntmps18
      go_wp2_with (first | (with_reducible refine (c _).mono ?_; rintro e w' ⟨rfl, hb⟩) | (with_reducible refine (c1 _).mono ?_; rintro e w'' ⟨rfl, rfl⟩))
      go_ret3
      rw [HD.out]
      exact ⟨_, rfl, hb, World.ownsRow_nil _ _ _ _⟩
    | true =>
      have c1 : Beg s #[102, 117, 110, 99, 40] true := beg_any h1 rfl
      rw [h1, if_pos rfl] at hd
      have c2 := fun w1 => cF w1 h1
      have HD := Lib.hid hd
      clear hd cF h1
      go_enter Try.func18, Try.ntmps18
      go_wp2_with (first | (with_reducible refine (c _).mono ?_; rintro e w' ⟨rfl, hb⟩; have HB := Lib.hid hb; have hsz := hb.size; clear hb) | (with_reducible refine (c1 _).mono ?_; rintro e w'' ⟨rfl, rfl⟩) | (with_reducible refine (c2 _).mono ?_; rintro e w2 ⟨n, v, rfl, hb2, ho⟩; have HO := Lib.hid ho; have HB2 := Lib.hid hb2; clear ho hb2))
      go_ret3
      rw [HD.out]
      exact ⟨_, rfl, HB.out.trans (HB2.out.mono hsz), ownsRow_base HO.out hsz⟩

theorem refNilable_any (s : ByteArray) (w : World) (h : s.size ≤ 4000000) :
    Calls Try.prog 21 #[.string s] w fun e w' => e = .returned (.bool (nilable (tx s))) ∧ Below w.heap.size w w' := by
  have c := fun w1 => refValid_any s w1 h
  have hn : nilable (tx s) = (isType (tx s) && (pre sStar (tx s) || pre sSlice (tx s) || pre sChan (tx s) || pre sFunc (tx s))) := rfl
  rw [hn]
  clear hn
  obtain ⟨V, hV⟩ : ∃ V, isType (tx s) = V := ⟨_, rfl⟩
  simp only [hV] at c ⊢
  obtain ⟨A1, h1⟩ : ∃ V, pre sStar (tx s) = V := ⟨_, rfl⟩
  obtain ⟨A2, h2⟩ : ∃ V, pre sSlice (tx s) = V := ⟨_, rfl⟩
  obtain ⟨A3, h3⟩ : ∃ V, pre sChan (tx s) = V := ⟨_, rfl⟩
  obtain ⟨A4, h4⟩ : ∃ V, pre sFunc (tx s) = V := ⟨_, rfl⟩
  have c1 : Beg s #[42] A1 := beg_any h1 rfl
  have c2 : Beg s #[91, 93] A2 := beg_any h2 rfl
  have c3 : Beg s #[99, 104, 97, 110, 32] A3 := beg_any h3 rfl
  have c4 : Beg s #[102, 117, 110, 99, 40] A4 := beg_any h4 rfl
  rw [h1, h2, h3, h4]
  clear hV h1 h2 h3 h4
  cases V
  case false =>
    go_enter Try.func21, Try.ntmps21
    go_wp2_with (with_reducible refine (c _).mono ?_; rintro e w' ⟨rfl, hb⟩)
    go_ret
    exact ⟨rfl, hb⟩
  case true =>
    cases A1
    case true =>
      go_enter Try.func21, Try.ntmps21
      go_wp2_with (first | (with_reducible refine (c _).mono ?_; rintro e w' ⟨rfl, hb⟩) | (with_reducible refine (c1 _).mono ?_; rintro e w'' ⟨rfl, rfl⟩))
      go_ret
      exact ⟨rfl, hb⟩
    case false =>
      cases A2
      case true =>
        go_enter Try.func21, Try.ntmps21
        go_wp2_with (first | (with_reducible refine (c _).mono ?_; rintro e w' ⟨rfl, hb⟩) | (with_reducible refine (c1 _).mono ?_; rintro e w'' ⟨rfl, rfl⟩) | (with_reducible refine (c2 _).mono ?_; rintro e w'' ⟨rfl, rfl⟩))
        go_ret
        exact ⟨rfl, hb⟩
      case false =>
        cases A3
        case true =>
          go_enter Try.func21, Try.ntmps21
          go_wp2_with (first | (with_reducible refine (c _).mono ?_; rintro e w' ⟨rfl, hb⟩) | (with_reducible refine (c1 _).mono ?_; rintro e w'' ⟨rfl, rfl⟩) | (with_reducible refine (c2 _).mono ?_; rintro e w'' ⟨rfl, rfl⟩) | (with_reducible refine (c3 _).mono ?_; rintro e w'' ⟨rfl, rfl⟩))
          go_ret
          exact ⟨rfl, hb⟩
        case false =>
          cases A4
          all_goals
            go_enter Try.func21, Try.ntmps21
            go_wp2_with (first | (with_reducible refine (c _).mono ?_; rintro e w' ⟨rfl, hb⟩) | (with_reducible refine (c1 _).mono ?_; rintro e w'' ⟨rfl, rfl⟩) | (with_reducible refine (c2 _).mono ?_; rintro e w'' ⟨rfl, rfl⟩) | (with_reducible refine (c3 _).mono ?_; rintro e w'' ⟨rfl, rfl⟩) | (with_reducible refine (c4 _).mono ?_; rintro e w'' ⟨rfl, rfl⟩))
            go_ret
            exact ⟨rfl, hb⟩

theorem fits_ref (a b : Bytes) : fits a b = (isType b && ((a == b) || ((a == sNil) && nilable b))) := by
  unfold fits nilable
  cases isType b <;> simp

theorem equals_ref (a b : Bytes) : equals a b = if (a == sNil) = true ∨ (b == sNil) = true then ((a == sNil) && nilable b) || ((b == sNil) && nilable a)
    else ((a == b) && isType a && (a == sInt || a == sBool || a == sString || pre sStar a || pre sChan a)) := by
  unfold equals
  by_cases h1 : a = sNil
  · subst h1
    by_cases h2 : b = sNil
    · subst h2; simp
    · have : (b == sNil) = false := by simpa using h2
      simp [this]
  · have e1 : (a == sNil) = false := by simpa using h1
    by_cases h2 : b = sNil
    · subst h2; simp [e1]
    · have e2 : (b == sNil) = false := by simpa using h2
      cases hv : isType a with
      | true =>
        simp only [e1, e2, ← other_types hv, Bool.false_eq_true, if_false, if_true, or_self, Bool.and_true]
        cases (a == b) <;> simp
      | false => simp [e1, e2]

theorem refFits_any (a b : ByteArray) (w : World) (hb : b.size ≤ 4000000) : Calls Try.prog 10 #[.string a, .string b] w fun e w' => e = .returned (.bool (fits (tx a) (tx b))) ∧ Below w.heap.size w w' := by
  have hr : fits (tx a) (tx b) = (isType (tx b) && ((a.toList == b.toList) || ((a.toList == [110, 105, 108]) && nilable (tx b)))) := by rw [toList_tx, toList_tx]; exact fits_ref _ _
  have c := fun w1 => refValid_any b w1 hb
  have cn := fun w1 => refNilable_any b w1 hb
  obtain ⟨N, hN⟩ : ∃ N, nilable (tx b) = N := ⟨_, rfl⟩
  obtain ⟨V, hV⟩ : ∃ V, isType (tx b) = V := ⟨_, rfl⟩
  rw [hN] at hr
  rw [hV] at hr
  simp only [hN] at cn
  simp only [hV] at c
  rw [hr]
  clear hr hN hV
  obtain ⟨E, hE⟩ : ∃ E, (a.toList == b.toList) = E := ⟨_, rfl⟩
  obtain ⟨F, hF⟩ : ∃ F, (a.toList == [110, 105, 108]) = F := ⟨_, rfl⟩
  rw [hE, hF]
  cases V <;> cases E <;> cases F
  all_goals
    go_enter Try.func10, Try.ntmps10
    go_wp2_with (first | (with_reducible refine (c _).mono ?_; rintro e w' ⟨rfl, hbl⟩; have hsz := hbl.size) | (with_reducible refine (cn _).mono ?_; rintro e w'' ⟨rfl, hbn⟩))
    all_goals go_ret
    all_goals first | exact ⟨rfl, hbl.trans (hbn.mono hsz)⟩ | exact ⟨rfl, hbl⟩

set_option maxRecDepth 100000 in
set_option maxHeartbeats 1600000 in
theorem refEquals_any (a b : ByteArray) (w : World) (ha : a.size ≤ 4000000) (hb : b.size ≤ 4000000) : Calls Try.prog 12 #[.string a, .string b] w fun e w' => e = .returned (.bool (equals (tx a) (tx b))) ∧ Below w.heap.size w w' := by
  have hr : equals (tx a) (tx b) = if (a.toList == [110, 105, 108]) = true ∨ (b.toList == [110, 105, 108]) = true then ((a.toList == [110, 105, 108]) && nilable (tx b)) || ((b.toList == [110, 105, 108]) && nilable (tx a))
      else ((a.toList == b.toList) && isType (tx a) && (a.toList == [105, 110, 116] || a.toList == [98, 111, 111, 108] || a.toList == [115, 116, 114, 105, 110, 103] || pre sStar (tx a) || pre sChan (tx a))) := by
    rw [toList_tx, toList_tx]; exact equals_ref _ _
  have c := fun w1 => refValid_any a w1 ha
  have ca := fun w1 => refNilable_any a w1 ha
  have cb := fun w1 => refNilable_any b w1 hb
  obtain ⟨NA, hNA⟩ : ∃ N, nilable (tx a) = N := ⟨_, rfl⟩
  obtain ⟨NB, hNB⟩ : ∃ N, nilable (tx b) = N := ⟨_, rfl⟩
  obtain ⟨V, hV⟩ : ∃ V, isType (tx a) = V := ⟨_, rfl⟩
  obtain ⟨S, hS⟩ : ∃ V, pre sStar (tx a) = V := ⟨_, rfl⟩
  obtain ⟨F, hF⟩ : ∃ V, pre sChan (tx a) = V := ⟨_, rfl⟩
  have c5 : Beg a #[42] S := beg_any hS rfl
  have c7 : Beg a #[99, 104, 97, 110, 32] F := beg_any hF rfl
  rw [hNA, hNB, hV, hS, hF] at hr
  simp only [hNA] at ca
  simp only [hNB] at cb
  simp only [hV] at c
  rw [hr]
  clear hr hNA hNB hV hS hF
  obtain ⟨X, hX⟩ : ∃ E, (a.toList == [110, 105, 108]) = E := ⟨_, rfl⟩
  obtain ⟨Y, hY⟩ : ∃ E, (b.toList == [110, 105, 108]) = E := ⟨_, rfl⟩
  obtain ⟨E, hE⟩ : ∃ E, (a.toList == b.toList) = E := ⟨_, rfl⟩
  obtain ⟨I, hI⟩ : ∃ E, (a.toList == [105, 110, 116]) = E := ⟨_, rfl⟩
  obtain ⟨B, hB⟩ : ∃ E, (a.toList == [98, 111, 111, 108]) = E := ⟨_, rfl⟩
  obtain ⟨T, hT⟩ : ∃ E, (a.toList == [115, 116, 114, 105, 110, 103]) = E := ⟨_, rfl⟩
  rw [hX, hY, hE, hI, hB, hT]
  cases X <;> cases Y
  case false.false =>
    cases E
    case false =>
      go_enter Try.func12, Try.ntmps12
      go_wp2_with fail
      go_ret
      exact ⟨rfl, Below.refl _ _⟩
    case true =>
      cases V
      case false =>
        go_enter Try.func12, Try.ntmps12
        go_wp2_with (with_reducible refine (c _).mono ?_; rintro e w' ⟨rfl, hbl⟩)
        go_ret
        exact ⟨rfl, hbl⟩
      case true =>
        cases I <;> cases B <;> cases T
        case false.false.false =>
          cases S <;> cases F
          all_goals
            go_enter Try.func12, Try.ntmps12
            go_wp2_with (first | (with_reducible refine (c _).mono ?_; rintro e w' ⟨rfl, hbl⟩) | (with_reducible refine (c5 _).mono ?_; rintro e w'' ⟨rfl, rfl⟩) | (with_reducible refine (c7 _).mono ?_; rintro e w'' ⟨rfl, rfl⟩))
            all_goals go_ret
            all_goals exact ⟨rfl, hbl⟩
        all_goals
          go_enter Try.func12, Try.ntmps12
          go_wp2_with (with_reducible refine (c _).mono ?_; rintro e w' ⟨rfl, hbl⟩)
          go_ret
          exact ⟨rfl, hbl⟩
  all_goals
    cases NA <;> cases NB
    all_goals
      go_enter Try.func12, Try.ntmps12
      go_wp2_with (first | (with_reducible refine (cb _).mono ?_; rintro e w' ⟨rfl, hbl⟩; have hsz := hbl.size) | (with_reducible refine (ca _).mono ?_; rintro e w'' ⟨rfl, hbn⟩))
      all_goals go_ret
      all_goals first | exact ⟨rfl, hbl.trans (hbn.mono hsz)⟩ | exact ⟨rfl, hbl⟩ | exact ⟨rfl, hbn⟩

end Go.Proofs.Ytblkgfkdfldkiaa
