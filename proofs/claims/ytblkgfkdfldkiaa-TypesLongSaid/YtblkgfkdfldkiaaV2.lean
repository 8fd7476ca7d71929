import Derived.Test.YtblkgfkdfldkiaaV1
namespace Go.Proofs.Ytblkgfkdfldkiaa
open Go.RowKit TypesText

theorem equals_comm (a b : Bytes) : equals a b = equals b a := by
  rw [equals_ref, equals_ref]
  by_cases h : a = b
  · subst h; rfl
  · have h1 : (a == b) = false := by simpa using h
    have h2 : (b == a) = false := by simpa using fun h3 => h h3.symm
    rw [h1, h2]
    simp only [Bool.false_and, Bool.or_comm, or_comm]

theorem pairs_any (a b : ByteArray) (w : World) : Calls Try.prog 3 #[.string a, .string b] w fun e w' => e = .returned (.bool true) ∧ Below w.heap.size w w' := by
  have cA := anchor_any
  have hs := equals_comm (tx a) (tx b)
  have c9 := fun w1 => fits_any a b w1
  have c10 := fun w1 => refFits_any a b w1
  have c11 := fun w1 => equals_any a b w1
  have c12 := fun w1 => refEquals_any a b w1
  have d11 := fun w1 => equals_any b a w1
  rw [← hs] at d11
  clear hs
  obtain ⟨F, hF⟩ : ∃ F, fits (tx a) (tx b) = F := ⟨_, rfl⟩
  obtain ⟨E, hE⟩ : ∃ F, equals (tx a) (tx b) = F := ⟨_, rfl⟩
  simp only [hF] at c9 c10
  simp only [hE] at c11 c12 d11
  clear hF hE
  by_cases ha : a.size ≤ 2000
  · by_cases hb : b.size ≤ 2000
    · replace c9 := fun w1 => c9 w1 (by omega)
      replace c10 := fun w1 => c10 w1 (by omega)
      replace c11 := fun w1 => c11 w1 (by omega) (by omega)
      replace c12 := fun w1 => c12 w1 (by omega) (by omega)
      replace d11 := fun w1 => d11 w1 (by omega) (by omega)
      cases F <;> cases E
      all_goals
        go_enter Try.func3, Try.ntmps3
        go_wp2_with (first | (with_reducible refine (cA _).mono ?_; rintro e w1 ⟨rfl, hb⟩; have HB := Lib.hid hb; have hsz := hb.size; clear hb) | (with_reducible refine (c9 _).mono ?_; rintro e w2 ⟨rfl, hb⟩; have HB2 := Lib.hid (HB.out.trans (hb.mono hsz)); have hsz2 := Nat.le_trans hsz hb.size; clear hb) | (with_reducible refine (c10 _).mono ?_; rintro e w3 ⟨rfl, hb⟩; have HB3 := Lib.hid (HB2.out.trans (hb.mono hsz2)); have hsz3 := Nat.le_trans hsz2 hb.size; clear hb) | (with_reducible refine (c12 _).mono ?_; rintro e w5 ⟨rfl, hb⟩; have HB5 := Lib.hid (HB4.out.trans (hb.mono hsz4)); have hsz5 := Nat.le_trans hsz4 hb.size; clear hb c11) | (with_reducible refine (c11 _).mono ?_; rintro e w4 ⟨rfl, hb⟩; have HB4 := Lib.hid (HB3.out.trans (hb.mono hsz3)); have hsz4 := Nat.le_trans hsz3 hb.size; clear hb; have e11 := c11) | (with_reducible refine (e11 _).mono ?_; rintro e w6 ⟨rfl, hb⟩; have HB6 := Lib.hid (HB5.out.trans (hb.mono hsz5)); have hsz6 := Nat.le_trans hsz5 hb.size; clear hb) | (with_reducible refine (d11 _).mono ?_; rintro e w7 ⟨rfl, hb⟩; have HB7 := Lib.hid (HB6.out.trans (hb.mono hsz6)); clear hb))
        go_ret
        exact ⟨rfl, HB7.out⟩
    · clear c9 c10 c11 c12 d11
      go_enter Try.func3, Try.ntmps3
      go_wp2_with (with_reducible refine (cA _).mono ?_; rintro e w1 ⟨rfl, hb⟩; have HB := Lib.hid hb; clear hb)
      go_ret
      exact ⟨rfl, HB.out⟩
  · clear c9 c10 c11 c12 d11
    go_enter Try.func3, Try.ntmps3
    go_wp2_with (with_reducible refine (cA _).mono ?_; rintro e w1 ⟨rfl, hb⟩; have HB := Lib.hid hb; clear hb)
    go_ret
    exact ⟨rfl, HB.out⟩

theorem fparts_len (s : Bytes) : (fparts s).1.length ≤ s.length := by
  unfold fparts
  split
  · rename_i h
    have hp : pre sFunc s = true := by
      unfold isFunc at h; rw [Bool.and_eq_true] at h; exact h.2
    have hP : Parts s = (func (typ s.length) s).2 := parts_func hp
    rw [hP]
    unfold func
    cases hq : pars (typ s.length) (s.length + 1) s 5 [] with
    | none => simp
    | some x =>
      obtain ⟨n, ps⟩ := x
      have := pars_len (typ s.length) (typ_le _) (s.length + 1) s 5 [] n ps (by simp) hq
      have h2 := pars_le (typ s.length) (typ_le _) (s.length + 1) s 5 [] n ps hq
      simp only
      omega
  · simp
where
  pars_len (rec : Bytes → Nat) (hr : ∀ s, rec s ≤ s.length) : ∀ (f : Nat) (s : Bytes) (n : Nat) (acc : List Bytes) (m : Nat) (ps : List Bytes), acc.length ≤ n → pars rec f s n acc = some (m, ps) → ps.length ≤ m
  | 0, _, _, _, _, _, _, h => by simp [pars] at h
  | f + 1, s, n, acc, m, ps, hn, h => by
    unfold pars at h
    by_cases h1 : pre sClose (s.drop n) = true
    · rw [if_pos h1] at h
      simp only [Option.some.injEq, Prod.mk.injEq] at h
      obtain ⟨h, h2⟩ := h
      subst h2
      omega
    · rw [if_neg h1] at h
      by_cases h2 : acc ≠ [] ∧ pre sComma (s.drop n) = false
      · rw [if_pos h2] at h; cases h
      · rw [if_neg h2] at h
        simp only at h
        by_cases h3 : rec (s.drop (if acc = [] then n else n + 1)) = 0
        · rw [if_pos h3] at h; cases h
        · rw [if_neg h3] at h
          refine pars_len rec hr f s _ _ m ps ?_ h
          have hm : n ≤ (if acc = [] then n else n + 1) := by split <;> omega
          simp only [List.length_append, List.length_cons, List.length_nil]
          omega

set_option maxHeartbeats 1600000 in
theorem reads_law (s : ByteArray) (w : World) : Calls Try.prog 6 #[.string s] w fun e w' => e = .returned (.bool true) ∧ Below w.heap.size w w' := by
  have cA := anchor_any
  by_cases hs : s.size ≤ 2000
  · have hfl := fparts_len (tx s)
    rw [tx_len] at hfl
    have c13 := fun w1 => elem_any s w1 (by omega)
    have c17 := fun w1 => refElem_any s w1 (by omega)
    have c14 := fun w1 => func14_any s w1 (by omega)
    have c18 := fun w1 => refFunc_any s w1 (by omega)
    have c15 := fun w1 => valid_any s w1 (by omega)
    have c19 := fun w1 => refValid_any s w1 (by omega)
    have c16 := fun w1 => nilable_any s w1 (by omega)
    have c21 := fun w1 => refNilable_any s w1 (by omega)
    have c22 := fun w1 => reference_any s w1 (by omega)
    have c23 := ordered_any s
    have cT := fun B C u v w1 => texts_any (fparts (tx s)).1 B C u v w1 (by omega)
    clear hfl
    have hr : reference (tx s) = (s.toList == [115, 116, 114, 105, 110, 103] || nilable (tx s)) := by rw [toList_tx]; rfl
    have ho : ordered (tx s) = (s.toList == [105, 110, 116] || s.toList == [115, 116, 114, 105, 110, 103]) := by rw [toList_tx]; rfl
    rw [hr] at c22
    rw [ho] at c23
    clear hr ho
    obtain ⟨I, hI⟩ : ∃ E, (s.toList == [105, 110, 116]) = E := ⟨_, rfl⟩
    obtain ⟨S, hS⟩ : ∃ E, (s.toList == [115, 116, 114, 105, 110, 103]) = E := ⟨_, rfl⟩
    rw [hI, hS] at c23
    rw [hS] at c22
    obtain ⟨V, hV⟩ : ∃ E, isType (tx s) = E := ⟨_, rfl⟩
    obtain ⟨N, hN⟩ : ∃ E, nilable (tx s) = E := ⟨_, rfl⟩
    obtain ⟨F, hF⟩ : ∃ E, isFunc (tx s) = E := ⟨_, rfl⟩
    obtain ⟨P, hP⟩ : ∃ E, fparts (tx s) = E := ⟨_, rfl⟩
    obtain ⟨E, hE⟩ : ∃ E, elem (tx s) = E := ⟨_, rfl⟩
    rw [hV] at c15 c19
    simp only [hN] at c16 c21 c22
    simp only [hF, hP] at c14 c18 cT
    rw [hE] at c13 c17
    clear hV hN hF hP hE
    obtain ⟨E1, E2⟩ := E
    obtain ⟨P1, P2⟩ := P
    simp only [strV] at c13 c17 c14 c18
    cases S <;> cases I
    all_goals
      go_enter Try.func6, Try.ntmps6
      go_wp2_with (first | (with_reducible refine (cA _).mono ?_; rintro e w1 ⟨rfl, hb⟩; have HB1 := Lib.hid hb; have hsz1 := hb.size; clear hb) | (with_reducible refine (c13 _).mono ?_; rintro e w2 ⟨rfl, hb⟩; have HB2 := Lib.hid (HB1.out.trans (hb.mono hsz1)); have hsz2 := Nat.le_trans hsz1 hb.size; clear hb) | (with_reducible refine (c17 _).mono ?_; rintro e w3 ⟨rfl, hb⟩; have HB3 := Lib.hid (HB2.out.trans (hb.mono hsz2)); have hsz3 := Nat.le_trans hsz2 hb.size; clear hb) | (with_reducible refine (c14 _).mono ?_; rintro e w4 ⟨u, rfl, hb, ho⟩; have HB4 := Lib.hid (HB3.out.trans (hb.mono hsz3)); have hsz4 := Nat.le_trans hsz3 hb.size; have HU4 := Lib.hid ho; clear ho; clear hb) | (with_reducible refine (c18 _).mono ?_; rintro e w5 ⟨v, rfl, hb, ho⟩; have HB5 := Lib.hid (HB4.out.trans (hb.mono hsz4)); have hsz5 := Nat.le_trans hsz4 hb.size; have HV5 := Lib.hid ho; have HU5 := Lib.hid (ownsRow_below HU4.out hb); clear ho; clear hb) | (with_reducible refine (c15 _).mono ?_; rintro e w6 ⟨rfl, hb⟩; have HB6 := Lib.hid (HB5.out.trans (hb.mono hsz5)); have hsz6 := Nat.le_trans hsz5 hb.size; have HV6 := Lib.hid (ownsRow_below HV5.out hb); have HU6 := Lib.hid (ownsRow_below HU5.out hb); clear hb) | (with_reducible refine (c19 _).mono ?_; rintro e w7 ⟨rfl, hb⟩; have HB7 := Lib.hid (HB6.out.trans (hb.mono hsz6)); have hsz7 := Nat.le_trans hsz6 hb.size; have HV7 := Lib.hid (ownsRow_below HV6.out hb); have HU7 := Lib.hid (ownsRow_below HU6.out hb); have c20 := cT _ _ u v w7 HU7.out HV7.out; clear hb) | (with_reducible refine c20.mono ?_; rintro e w8 ⟨rfl, hb⟩; have HB8 := Lib.hid (HB7.out.trans (hb.mono hsz7)); have hsz8 := Nat.le_trans hsz7 hb.size; clear hb) | (with_reducible refine (c16 _).mono ?_; rintro e w9 ⟨rfl, hb⟩; have HB9 := Lib.hid (HB8.out.trans (hb.mono hsz8)); have hsz9 := Nat.le_trans hsz8 hb.size; clear hb) | (with_reducible refine (c21 w9).mono ?_; rintro e w10 ⟨rfl, hb⟩; have HB10 := Lib.hid (HB9.out.trans (hb.mono hsz9)); have hsz10 := Nat.le_trans hsz9 hb.size; clear hb) | (with_reducible refine (c22 _).mono ?_; rintro e w11 ⟨rfl, hb⟩; have HB11 := Lib.hid (HB10.out.trans (hb.mono hsz10)); have hsz11 := Nat.le_trans hsz10 hb.size; clear hb) | (with_reducible refine (c21 w11).mono ?_; rintro e w12 ⟨rfl, hb⟩; have HB12 := Lib.hid (HB11.out.trans (hb.mono hsz11)); have hsz12 := Nat.le_trans hsz11 hb.size; clear hb) | (with_reducible refine (c23 _).mono ?_; rintro e w13 ⟨rfl, rfl⟩))
      all_goals go_ret
      all_goals first | exact ⟨rfl, HB12.out⟩ | exact ⟨rfl, HB11.out⟩
  · go_enter Try.func6, Try.ntmps6
    go_wp2_with (with_reducible refine (cA _).mono ?_; rintro e w1 ⟨rfl, hb⟩; have HB := Lib.hid hb; clear hb)
    go_ret
    exact ⟨rfl, HB.out⟩

end Go.Proofs.Ytblkgfkdfldkiaa
