import Derived.Test.YtblkgfkdfldkiaaU4
namespace TypesText

theorem pre_excl {p q s : Bytes} (h : pre p s = true) (h1 : pre p q = false) (h2 : pre q p = false) : pre q s = false := by
  rw [Bool.eq_false_iff]
  intro h3
  have a := List.isPrefixOf_iff_prefix.1 h
  have b := List.isPrefixOf_iff_prefix.1 h3
  rcases Nat.le_total p.length q.length with hl | hl
  · have := List.prefix_of_prefix_length_le a b hl
    rw [← List.isPrefixOf_iff_prefix] at this
    rw [show List.isPrefixOf p q = pre p q from rfl, h1] at this
    cases this
  · have := List.prefix_of_prefix_length_le b a hl
    rw [← List.isPrefixOf_iff_prefix] at this
    rw [show List.isPrefixOf q p = pre q p from rfl, h2] at this
    cases this

section
variable {k : Nat} {s : Bytes}

theorem typ_is_int (h : pre sInt s = true) : typ (k + 1) s = 3 := typ_int  h
theorem typ_is_bool (h : pre sBool s = true) : typ (k + 1) s = 4 := typ_bool (pre_excl h (q := sInt) (by decide) (by decide)) h
theorem typ_is_string (h : pre sString s = true) : typ (k + 1) s = 6 := typ_string (pre_excl h (q := sInt) (by decide) (by decide)) (pre_excl h (q := sBool) (by decide) (by decide)) h
theorem typ_is_star (h : pre sStar s = true) : typ (k + 1) s = if nam (s.drop 1) = 0 then 0 else 1 + nam (s.drop 1) := typ_star (pre_excl h (q := sInt) (by decide) (by decide)) (pre_excl h (q := sBool) (by decide) (by decide)) (pre_excl h (q := sString) (by decide) (by decide)) h
theorem typ_is_slice (h : pre sSlice s = true) : typ (k + 1) s = if typ k (s.drop 2) = 0 then 0 else 2 + typ k (s.drop 2) := typ_slice (pre_excl h (q := sInt) (by decide) (by decide)) (pre_excl h (q := sBool) (by decide) (by decide)) (pre_excl h (q := sString) (by decide) (by decide)) (pre_excl h (q := sStar) (by decide) (by decide)) h
theorem typ_is_chan (h : pre sChan s = true) : typ (k + 1) s = if typ k (s.drop 5) = 0 then 0 else 5 + typ k (s.drop 5) := typ_chan (pre_excl h (q := sInt) (by decide) (by decide)) (pre_excl h (q := sBool) (by decide) (by decide)) (pre_excl h (q := sString) (by decide) (by decide)) (pre_excl h (q := sStar) (by decide) (by decide)) (pre_excl h (q := sSlice) (by decide) (by decide)) h
theorem typ_is_func (h : pre sFunc s = true) : typ (k + 1) s = (func (typ k) s).1 := typ_func (pre_excl h (q := sInt) (by decide) (by decide)) (pre_excl h (q := sBool) (by decide) (by decide)) (pre_excl h (q := sString) (by decide) (by decide)) (pre_excl h (q := sStar) (by decide) (by decide)) (pre_excl h (q := sSlice) (by decide) (by decide)) (pre_excl h (q := sChan) (by decide) (by decide)) h
end

end TypesText
namespace Go.Proofs.Ytblkgfkdfldkiaa
open Go.RowKit TypesText

abbrev PreF (s : ByteArray) (a : Nat) (l : Array UInt8) (b : Bool) : Prop :=
  ∀ w1 : World, Calls Try.prog 27 #[.string (s.extract a s.size), .string ⟨l⟩] w1 fun e w' => e = .returned (.bool b) ∧ w' = w1

theorem preF_any {s : ByteArray} {a : Nat} {l : Array UInt8} {p : Bytes} {b : Bool} (hb : pre p ((tx s).drop a) = b) (hp : p = l.toList) : PreF s a l b := by
  intro w1
  subst hp; subst hb
  exact begin_from s a l w1

set_option maxHeartbeats 1600000 in
set_option maxRecDepth 100000 in
theorem end_step (k : Nat) (hR : EndC k) (hF : FunC k) : EndC (k + 1) := by
  intro s a w ha hsk hsz
  have HR : Hid (∀ (m : Nat) (w1 : World), a + 2 ≤ m → m ≤ s.size → Calls Try.prog 33 #[.string s, .int .i64 m] w1 fun e w2 => e = .returned (.int .i64 (endv (typ k ((tx s).drop m)) m)) ∧ Below w1.heap.size w1 w2) :=
    fun m w1 h5 hm => hR s m w1 hm (by omega) hsz
  have HN : Hid (∀ w1, a + 1 ≤ s.size → Calls Try.prog 45 #[.string s, .int .i64 ((a + 1 : Nat) : Int)] w1 fun e w' => e = .returned (.int .i64 (named (tx s) (a + 1))) ∧ w' = w1) :=
    fun w1 h => named_any s (a + 1) w1 h hsz
  have HF : Hid (∀ w1, pre sFunc ((tx s).drop a) = true → Calls Try.prog 32 #[.string s, .int .i64 a] w1 fun e w' => ∃ v r, e = .returned (.tuple #[.int .i64 (endv (func (typ k) ((tx s).drop a)).1 a), v, r]) ∧ Below w1.heap.size w1 w') :=
    fun w1 hp => (hF s a w1 ha (by omega) hsz hp).mono (by rintro e w' ⟨v, h1, h2, _⟩; exact ⟨v, _, h1, h2⟩)
  clear hR hF
  have hq : ∀ p : Bytes, pre p ((tx s).drop a) = true → a + p.length ≤ s.size := by
    intro p hp
    have := pre_length hp
    rw [List.length_drop, tx_len] at this
    omega
  cases e1 : pre sInt ((tx s).drop a) with
  | true =>
    have c1 : PreF s a #[105, 110, 116] true := preF_any e1 rfl
    have ht := typ_is_int (k := k) e1
    have hsz2 := hq _ e1
    simp only [sInt, List.length_cons, List.length_nil] at hsz2
    have HT := Lib.hid ht
    clear ht hq e1
    go_enter Try.func33, Try.ntmps33
    go_wp2_with (first | (with_reducible refine (c1 _).mono ?_; rintro e w' ⟨rfl, rfl⟩))
    go_ret
    rw [HT.out, endv_pos (by omega)]
    exact ⟨rfl, Below.refl _ _⟩
  | false =>
    have c1 : PreF s a #[105, 110, 116] false := preF_any e1 rfl
    cases e2 : pre sBool ((tx s).drop a) with
    | true =>
      have c2 : PreF s a #[98, 111, 111, 108] true := preF_any e2 rfl
      have ht := typ_is_bool (k := k) e2
      have hsz2 := hq _ e2
      simp only [sBool, List.length_cons, List.length_nil] at hsz2
      have HT := Lib.hid ht
      clear ht hq e1 e2
      go_enter Try.func33, Try.ntmps33
      go_wp2_with (first | (with_reducible refine (c1 _).mono ?_; rintro e w' ⟨rfl, rfl⟩) | (with_reducible refine (c2 _).mono ?_; rintro e w' ⟨rfl, rfl⟩))
      go_ret
      rw [HT.out, endv_pos (by omega)]
      exact ⟨rfl, Below.refl _ _⟩
    | false =>
      have c2 : PreF s a #[98, 111, 111, 108] false := preF_any e2 rfl
      cases e3 : pre sString ((tx s).drop a) with
      | true =>
        have c3 : PreF s a #[115, 116, 114, 105, 110, 103] true := preF_any e3 rfl
        have ht := typ_is_string (k := k) e3
        have hsz2 := hq _ e3
        simp only [sString, List.length_cons, List.length_nil] at hsz2
        have HT := Lib.hid ht
        clear ht hq e1 e2 e3
        go_enter Try.func33, Try.ntmps33
        go_wp2_with (first | (with_reducible refine (c1 _).mono ?_; rintro e w' ⟨rfl, rfl⟩) | (with_reducible refine (c2 _).mono ?_; rintro e w' ⟨rfl, rfl⟩) | (with_reducible refine (c3 _).mono ?_; rintro e w' ⟨rfl, rfl⟩))
        go_ret
        rw [HT.out, endv_pos (by omega)]
        exact ⟨rfl, Below.refl _ _⟩
      | false =>
        have c3 : PreF s a #[115, 116, 114, 105, 110, 103] false := preF_any e3 rfl
        cases e4 : pre sSlice ((tx s).drop a) with
        | true =>
          have c4 : PreF s a #[91, 93] true := preF_any e4 rfl
          have ht := typ_is_slice (k := k) e4
          have hsz2 := hq _ e4
          simp only [sSlice, List.length_cons, List.length_nil] at hsz2
          rw [List.drop_drop] at ht
          have cN := fun w1 => HR.out (a + 2) w1 (by omega) (by omega)
          obtain ⟨N, hN⟩ : ∃ N, typ k ((tx s).drop (a + 2)) = N := ⟨_, rfl⟩
          simp only [hN] at cN ht
          have hc1 : ((a + 2 : Nat) : Int) = (a : Int) + 2 := by omega
          rw [hc1] at cN
          have hv : endv N (a + 2) = endv (if N = 0 then 0 else 2 + N) a := by
            by_cases h0 : N = 0
            · rw [if_pos h0, h0]; rfl
            · rw [if_neg h0, endv_pos h0, endv_pos (by omega)]; omega
          rw [hv, ← ht] at cN
          clear ht hq hN hv e1 e2 e3 e4
          go_enter Try.func33, Try.ntmps33
          go_wp2_with (first | (with_reducible refine (c1 _).mono ?_; rintro e w' ⟨rfl, rfl⟩) | (with_reducible refine (c2 _).mono ?_; rintro e w' ⟨rfl, rfl⟩) | (with_reducible refine (c3 _).mono ?_; rintro e w' ⟨rfl, rfl⟩) | (with_reducible refine (c4 _).mono ?_; rintro e w' ⟨rfl, rfl⟩) | (with_reducible refine (cN _).mono ?_; rintro e w' ⟨rfl, hb⟩))
          go_ret
          exact ⟨rfl, hb⟩
        | false =>
          have c4 : PreF s a #[91, 93] false := preF_any e4 rfl
          cases e5 : pre sChan ((tx s).drop a) with
          | true =>
            have c5 : PreF s a #[99, 104, 97, 110, 32] true := preF_any e5 rfl
            have ht := typ_is_chan (k := k) e5
            have hsz2 := hq _ e5
            simp only [sChan, List.length_cons, List.length_nil] at hsz2
            rw [List.drop_drop] at ht
            have cN := fun w1 => HR.out (a + 5) w1 (by omega) (by omega)
            obtain ⟨N, hN⟩ : ∃ N, typ k ((tx s).drop (a + 5)) = N := ⟨_, rfl⟩
            simp only [hN] at cN ht
            have hc1 : ((a + 5 : Nat) : Int) = (a : Int) + 5 := by omega
            rw [hc1] at cN
            have hv : endv N (a + 5) = endv (if N = 0 then 0 else 5 + N) a := by
              by_cases h0 : N = 0
              · rw [if_pos h0, h0]; rfl
              · rw [if_neg h0, endv_pos h0, endv_pos (by omega)]; omega
            rw [hv, ← ht] at cN
            clear ht hq hN hv e1 e2 e3 e4 e5
            go_enter Try.func33, Try.ntmps33
            go_wp2_with (first | (with_reducible refine (c1 _).mono ?_; rintro e w' ⟨rfl, rfl⟩) | (with_reducible refine (c2 _).mono ?_; rintro e w' ⟨rfl, rfl⟩) | (with_reducible refine (c3 _).mono ?_; rintro e w' ⟨rfl, rfl⟩) | (with_reducible refine (c4 _).mono ?_; rintro e w' ⟨rfl, rfl⟩) | (with_reducible refine (c5 _).mono ?_; rintro e w' ⟨rfl, rfl⟩) | (with_reducible refine (cN _).mono ?_; rintro e w' ⟨rfl, hb⟩))
            go_ret
            exact ⟨rfl, hb⟩
          | false =>
            have c5 : PreF s a #[99, 104, 97, 110, 32] false := preF_any e5 rfl
            cases e6 : pre sStar ((tx s).drop a) with
            | true =>
              have c6 : PreF s a #[42] true := preF_any e6 rfl
              have ht := typ_is_star (k := k) e6
              have hsz2 := hq _ e6
              simp only [sStar, List.length_cons, List.length_nil] at hsz2
              rw [List.drop_drop] at ht
              have cN := fun w1 => HN.out w1 (by omega)
              have hc1 : ((a + 1 : Nat) : Int) = (a : Int) + 1 := by omega
              have hv : named (tx s) (a + 1) = endv (typ (k + 1) ((tx s).drop a)) a := by
                rw [ht]
                unfold named
                by_cases h0 : nam ((tx s).drop (a + 1)) = 0
                · rw [if_pos h0, if_pos h0]; rfl
                · rw [if_neg h0, if_neg h0, endv_pos (by omega)]; omega
              rw [hv, hc1] at cN
              clear ht hq hv e1 e2 e3 e4 e5 e6
              go_enter Try.func33, Try.ntmps33
              go_wp2_with (first | (with_reducible refine (c1 _).mono ?_; rintro e w' ⟨rfl, rfl⟩) | (with_reducible refine (c2 _).mono ?_; rintro e w' ⟨rfl, rfl⟩) | (with_reducible refine (c3 _).mono ?_; rintro e w' ⟨rfl, rfl⟩) | (with_reducible refine (c4 _).mono ?_; rintro e w' ⟨rfl, rfl⟩) | (with_reducible refine (c5 _).mono ?_; rintro e w' ⟨rfl, rfl⟩) | (with_reducible refine (c6 _).mono ?_; rintro e w' ⟨rfl, rfl⟩) | (with_reducible refine (cN _).mono ?_; rintro e w' ⟨rfl, rfl⟩))
              go_ret
              exact ⟨rfl, Below.refl _ _⟩
            | false =>
              have c6 : PreF s a #[42] false := preF_any e6 rfl
              cases e7 : pre sFunc ((tx s).drop a) with
              | true =>
                have c7 : PreF s a #[102, 117, 110, 99, 40] true := preF_any e7 rfl
                have ht := typ_is_func (k := k) e7
                have hsz2 := hq _ e7
                simp only [sFunc, List.length_cons, List.length_nil] at hsz2
                have cN := fun w1 => HF.out w1 e7
                rw [← ht] at cN
                clear ht hq e1 e2 e3 e4 e5 e6 e7
                go_enter Try.func33, Try.ntmps33
                go_wp2_with (first | (with_reducible refine (c1 _).mono ?_; rintro e w' ⟨rfl, rfl⟩) | (with_reducible refine (c2 _).mono ?_; rintro e w' ⟨rfl, rfl⟩) | (with_reducible refine (c3 _).mono ?_; rintro e w' ⟨rfl, rfl⟩) | (with_reducible refine (c4 _).mono ?_; rintro e w' ⟨rfl, rfl⟩) | (with_reducible refine (c5 _).mono ?_; rintro e w' ⟨rfl, rfl⟩) | (with_reducible refine (c6 _).mono ?_; rintro e w' ⟨rfl, rfl⟩) | (with_reducible refine (c7 _).mono ?_; rintro e w' ⟨rfl, rfl⟩) | (with_reducible refine (cN _).mono ?_; rintro e w' ⟨v, r, rfl, hb⟩))
                go_ret
                exact ⟨rfl, hb⟩
              | false =>
                have c7 : PreF s a #[102, 117, 110, 99, 40] false := preF_any e7 rfl
                have ht := typ_not (k := k) e1 e2 e3 e6 e4 e5 e7
                have HT := Lib.hid ht
                clear ht hq e1 e2 e3 e4 e5 e6 e7
                go_enter Try.func33, Try.ntmps33
                go_wp2_with (first | (with_reducible refine (c1 _).mono ?_; rintro e w' ⟨rfl, rfl⟩) | (with_reducible refine (c2 _).mono ?_; rintro e w' ⟨rfl, rfl⟩) | (with_reducible refine (c3 _).mono ?_; rintro e w' ⟨rfl, rfl⟩) | (with_reducible refine (c4 _).mono ?_; rintro e w' ⟨rfl, rfl⟩) | (with_reducible refine (c5 _).mono ?_; rintro e w' ⟨rfl, rfl⟩) | (with_reducible refine (c6 _).mono ?_; rintro e w' ⟨rfl, rfl⟩) | (with_reducible refine (c7 _).mono ?_; rintro e w' ⟨rfl, rfl⟩))
                go_ret
                rw [HT.out]
                exact ⟨rfl, Below.refl _ _⟩

theorem ends_all : ∀ k, EndC k
  | 0 => fun _ _ _ _ h => by omega
  | k + 1 => end_step k (ends_all k) (fun_step k (ends_all k))

end Go.Proofs.Ytblkgfkdfldkiaa
