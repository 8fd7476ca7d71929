/- A part of the proof of TypesWrittenSaid. No condition. -/
import Derived.Test.YtoaodlfmhioigaaM42
set_option linter.unusedSimpArgs false
set_option linter.unusedVariables false
section
namespace TypesText

theorem pre_excl {p q s : Bytes} (h : pre p s = true) (h1 : pre p q = false) (h2 : pre q p = false) : pre q s = false := by
  rw [Bool.eq_false_iff]
  intro h3
  have a := List.isPrefixOf_iff_prefix.1 h
  have b := List.isPrefixOf_iff_prefix.1 h3
  rcases Nat.le_total p.length q.length with hl | hl
  · have := List.prefix_of_prefix_length_le a b hl
    rw [← List.isPrefixOf_iff_prefix] at this
    rw [show List.isPrefixOf p q = pre p q from rfl, h1] at this
    cases this
  · have := List.prefix_of_prefix_length_le b a hl
    rw [← List.isPrefixOf_iff_prefix] at this
    rw [show List.isPrefixOf q p = pre q p from rfl, h2] at this
    cases this

section
variable {k : Nat} {s : Bytes}

theorem typ_is_int (h : pre sInt s = true) : typ (k + 1) s = 3 := typ_int  h
theorem typ_is_bool (h : pre sBool s = true) : typ (k + 1) s = 4 := typ_bool (pre_excl h (q := sInt) (by decide) (by decide)) h
theorem typ_is_string (h : pre sString s = true) : typ (k + 1) s = 6 := typ_string (pre_excl h (q := sInt) (by decide) (by decide)) (pre_excl h (q := sBool) (by decide) (by decide)) h
theorem typ_is_star (h : pre sStar s = true) : typ (k + 1) s = if nam (s.drop 1) = 0 then 0 else 1 + nam (s.drop 1) := typ_star (pre_excl h (q := sInt) (by decide) (by decide)) (pre_excl h (q := sBool) (by decide) (by decide)) (pre_excl h (q := sString) (by decide) (by decide)) h
theorem typ_is_slice (h : pre sSlice s = true) : typ (k + 1) s = if typ k (s.drop 2) = 0 then 0 else 2 + typ k (s.drop 2) := typ_slice (pre_excl h (q := sInt) (by decide) (by decide)) (pre_excl h (q := sBool) (by decide) (by decide)) (pre_excl h (q := sString) (by decide) (by decide)) (pre_excl h (q := sStar) (by decide) (by decide)) h
theorem typ_is_chan (h : pre sChan s = true) : typ (k + 1) s = if typ k (s.drop 5) = 0 then 0 else 5 + typ k (s.drop 5) := typ_chan (pre_excl h (q := sInt) (by decide) (by decide)) (pre_excl h (q := sBool) (by decide) (by decide)) (pre_excl h (q := sString) (by decide) (by decide)) (pre_excl h (q := sStar) (by decide) (by decide)) (pre_excl h (q := sSlice) (by decide) (by decide)) h
theorem typ_is_func (h : pre sFunc s = true) : typ (k + 1) s = (func (typ k) s).1 := typ_func (pre_excl h (q := sInt) (by decide) (by decide)) (pre_excl h (q := sBool) (by decide) (by decide)) (pre_excl h (q := sString) (by decide) (by decide)) (pre_excl h (q := sStar) (by decide) (by decide)) (pre_excl h (q := sSlice) (by decide) (by decide)) (pre_excl h (q := sChan) (by decide) (by decide)) h
end

theorem pre_full {p s : Bytes} (h : pre p s = true) (hl : s.length = p.length) : s = p := by
  rw [pre, List.isPrefixOf_iff_prefix] at h
  exact (h.eq_of_length hl.symm).symm

theorem isType_iff (s : Bytes) : isType s = true ↔ 0 < Typ s ∧ Typ s = s.length := by
  unfold isType
  rw [Bool.and_eq_true, decide_eq_true_eq, decide_eq_true_eq]

theorem pre_self (p : Bytes) : pre p p = true := by
  rw [pre, List.isPrefixOf_iff_prefix]
  exact List.prefix_refl p



/-- What follows a part of a type within a type. -/
def Stop (r : Bytes) : Prop := ∀ c l, r = c :: l → c = 44 ∨ c = 41

theorem take_le {z s : Bytes} {n m : Nat} (h : z.take n = s.take n) (hm : m ≤ n) : z.take m = s.take m := by
  have := congrArg (List.take m) h
  rwa [List.take_take, List.take_take, Nat.min_eq_left hm] at this

theorem pre_take (p s : Bytes) : pre p s = (s.take p.length == p) := by
  unfold pre
  rw [Bool.eq_iff_iff, List.isPrefixOf_iff_prefix, List.prefix_iff_eq_take, beq_iff_eq]
  constructor <;> (intro h; exact h.symm)

theorem pre_agree {p z s : Bytes} {n : Nat} (h : z.take n = s.take n) (hp : p.length ≤ n) : pre p z = pre p s := by
  rw [pre_take, pre_take, take_le h hp]

theorem take_drop_agree {z s : Bytes} {n q : Nat} (h : z.take n = s.take n) : (z.drop q).take (n - q) = (s.drop q).take (n - q) := by
  rw [← List.drop_take, ← List.drop_take, h]

theorem run_take : ∀ (s : Bytes), ∀ c ∈ s.take (run s), alnum c = true
  | [], c, h => by simp [run] at h
  | d :: l, c, h => by
    unfold run at h
    rw [List.takeWhile_cons] at h
    by_cases hd : alnum d = true
    · rw [if_pos hd, List.length_cons, List.take_succ_cons, List.mem_cons] at h
      rcases h with rfl | h
      · exact hd
      · exact run_take l c h
    · rw [if_neg hd] at h
      simp at h

theorem run_of : ∀ (j : Nat) (z : Bytes), j ≤ z.length → (∀ c ∈ z.take j, alnum c = true) → (∀ c l, z.drop j = c :: l → alnum c = false) → run z = j
  | 0, z, _, _, h => by
    cases z with
    | nil => rfl
    | cons c l =>
      have := h c l rfl
      unfold run
      rw [List.takeWhile_cons, if_neg (by rw [this]; simp)]
      rfl
  | j + 1, [], h, _, _ => by simp at h
  | j + 1, c :: l, h, h1, h2 => by
    have hc := h1 c (by simp)
    have := run_of j l (by simpa using h) (fun d hd => h1 d (by rw [List.take_succ_cons]; exact List.mem_cons_of_mem _ hd)) (fun d r hd => h2 d r (by simpa using hd))
    unfold run at this ⊢
    rw [List.takeWhile_cons, if_pos hc, List.length_cons, this]

theorem stop_alnum {r : Bytes} (h : Stop r) : ∀ c l, r = c :: l → alnum c = false := by
  intro c l hr
  rcases h c l hr with rfl | rfl <;> decide

theorem nam_run {s : Bytes} (h : nam s ≠ 0) : nam s = run s ∧ run s ≠ 0 ∧ run s ≤ 24 ∧ (s.head?.map digit).getD false = false ∧ words.contains (s.take (run s)) = false := by
  unfold nam at h ⊢
  split at h
  · exact absurd rfl h
  · rename_i hc
    rw [if_neg hc]
    simp only [not_or, Bool.not_eq_true] at hc
    refine ⟨rfl, hc.1, by omega, hc.2.2.1, hc.2.2.2⟩

theorem nam_of {s : Bytes} (h0 : run s ≠ 0) (h1 : run s ≤ 24) (h2 : (s.head?.map digit).getD false = false) (h3 : words.contains (s.take (run s)) = false) : nam s = run s := by
  unfold nam
  rw [if_neg]
  simp only [not_or, Bool.not_eq_true]
  exact ⟨h0, by omega, h2, h3⟩

theorem nam_local {s z : Bytes} {j : Nat} (h : nam s = j) (hj : j ≠ 0) (hz : z.take j = s.take j) (hs : Stop (z.drop j)) : nam z = j := by
  obtain ⟨a, b, c, d, e⟩ := nam_run (by rw [h]; exact hj)
  rw [h] at a
  rw [← a] at b c e
  have hl : j ≤ s.length := by rw [a]; exact run_le s
  have hzl : j ≤ z.length := by
    have := congrArg List.length hz
    rw [List.length_take, List.length_take] at this
    omega
  have hr : run z = j := by
    refine run_of j z hzl ?_ (stop_alnum hs)
    rw [hz, a]
    exact run_take s
  rw [← hr]
  refine nam_of (by omega) (by omega) ?_ (by rw [hr, hz]; exact e)
  have hh : z.head? = s.head? := by
    have := congrArg List.head? hz
    rwa [List.head?_take, List.head?_take, if_neg hj, if_neg hj] at this
  rw [hh]
  exact d

theorem pars_next {rec : Bytes → Nat} {f : Nat} {s : Bytes} {p : Nat} {acc : List Bytes} {r : Nat × List Bytes} (ha : acc ≠ []) (h : pars rec f s p acc = some r) : pre sClose (s.drop p) = true ∨ pre sComma (s.drop p) = true := by
  cases f with
  | zero => simp [pars] at h
  | succ f =>
    rw [pars] at h
    by_cases h1 : pre sClose (s.drop p) = true
    · exact .inl h1
    · rw [if_neg h1] at h
      by_cases h2 : pre sComma (s.drop p) = true
      · exact .inr h2
      · rw [if_pos ⟨ha, by simpa using h2⟩] at h
        cases h

theorem pre_one_head {c : UInt8} {s : Bytes} (h : pre [c] s = true) : ∃ l, s = c :: l := by
  cases s with
  | nil => simp [pre] at h
  | cons d l =>
    simp only [pre, List.isPrefixOf, Bool.and_true, beq_iff_eq] at h
    exact ⟨l, by rw [h]⟩

theorem pars_local {r1 r2 : Bytes → Nat} (hle : ∀ s, r1 s ≤ s.length)
    (H : ∀ s n z, r1 s = n → 0 < n → z.take n = s.take n → Stop (z.drop n) → r2 z = n) :
    ∀ (f : Nat) (s : Bytes) (p : Nat) (acc : List Bytes) (m : Nat) (ps : List Bytes) (f' : Nat) (z : Bytes),
      pars r1 f s p acc = some (m, ps) → m ≤ p + f' → z.take m = s.take m → pars r2 f' z p acc = some (m, ps)
  | 0, _, _, _, _, _, _, _, h, _, _ => by simp [pars] at h
  | f + 1, s, p, acc, m, ps, 0, z, h, hf, hz => by
    have hm := pars_le r1 hle _ _ _ _ _ _ h
    omega
  | f + 1, s, p, acc, m, ps, f' + 1, z, h, hf, hz => by
    have hm := pars_le r1 hle _ _ _ _ _ _ h
    have hag := take_drop_agree (q := p) hz
    have e1 : pre sClose (z.drop p) = pre sClose (s.drop p) := pre_agree hag (by simp [sClose]; omega)
    have e2 : pre sComma (z.drop p) = pre sComma (s.drop p) := pre_agree hag (by simp [sComma]; omega)
    rw [pars] at h ⊢
    rw [e1, e2]
    by_cases h1 : pre sClose (s.drop p) = true
    · rw [if_pos h1] at h ⊢; exact h
    · rw [if_neg h1] at h ⊢
      by_cases h2 : acc ≠ [] ∧ pre sComma (s.drop p) = false
      · rw [if_pos h2] at h; cases h
      · rw [if_neg h2] at h ⊢
        simp only at h ⊢
        obtain ⟨q, hq⟩ : ∃ q, (if acc = [] then p else p + 1) = q := ⟨_, rfl⟩
        rw [hq] at h ⊢
        by_cases h3 : r1 (s.drop q) = 0
        · rw [if_pos h3] at h; cases h
        · rw [if_neg h3] at h
          have hm2 := pars_le r1 hle _ _ _ _ _ _ h
          obtain ⟨j, hj⟩ : ∃ j, r1 (s.drop q) = j := ⟨_, rfl⟩
          rw [hj] at h h3 hm2
          have hagq := take_drop_agree (q := q) hz
          have hagj := take_drop_agree (q := q + j) hz
          have hstop : Stop ((z.drop q).drop j) := by
            rw [List.drop_drop]
            intro c l hc
            have hn := pars_next (by simp) h
            have k1 : pre sClose (z.drop (q + j)) = pre sClose (s.drop (q + j)) := pre_agree hagj (by simp [sClose]; omega)
            have k2 : pre sComma (z.drop (q + j)) = pre sComma (s.drop (q + j)) := pre_agree hagj (by simp [sComma]; omega)
            rw [← k1, ← k2] at hn
            rcases hn with hn | hn
            · obtain ⟨l2, h4⟩ := pre_one_head hn
              rw [hc] at h4
              injection h4 with h4 _
              exact .inr h4
            · obtain ⟨l2, h4⟩ := pre_one_head hn
              rw [hc] at h4
              injection h4 with h4 _
              exact .inl h4
          have hzj : (z.drop q).take j = (s.drop q).take j := take_le hagq (by omega)
          have hr : r2 (z.drop q) = j := H (s.drop q) j (z.drop q) hj (by omega) hzj hstop
          rw [hr, if_neg h3, hzj]
          have hq2 : p ≤ q := by rw [← hq]; split <;> omega
          exact pars_local hle H f s _ _ m ps f' z h (by omega) hz

theorem stop_typ {r : Bytes} (h : Stop r) (k : Nat) : typ k r = 0 := by
  cases k with
  | zero => rfl
  | succ k =>
    cases r with
    | nil => simp [typ, pre, sInt, sBool, sString, sStar, sSlice, sChan, sFunc]
    | cons c l =>
      rcases h c l rfl with rfl | rfl <;> simp [typ, pre, sInt, sBool, sString, sStar, sSlice, sChan, sFunc, List.isPrefixOf]

theorem typ_local : ∀ (k : Nat) (s : Bytes) (n : Nat) (z : Bytes) (k' : Nat), typ k s = n → 0 < n → z.take n = s.take n → Stop (z.drop n) → k ≤ k' → typ k' z = n
  | 0, s, n, z, k', h, hn, _, _, _ => by simp [typ] at h; omega
  | k + 1, s, n, z, 0, h, hn, _, _, hk => by omega
  | k + 1, s, n, z, k' + 1, h, hn, hz, hs, hk => by
    have hle : n ≤ s.length := by rw [← h]; exact typ_le _ _
    by_cases h1 : pre sInt s = true
    · rw [typ_is_int h1] at h
      subst h
      rw [typ_is_int]
      rw [pre_agree hz (by decide)]; exact h1
    by_cases h2 : pre sBool s = true
    · rw [typ_is_bool h2] at h
      subst h
      rw [typ_is_bool]
      rw [pre_agree hz (by decide)]; exact h2
    by_cases h3 : pre sString s = true
    · rw [typ_is_string h3] at h
      subst h
      rw [typ_is_string]
      rw [pre_agree hz (by decide)]; exact h3
    by_cases h4 : pre sStar s = true
    · rw [typ_is_star h4] at h
      by_cases h0 : nam (s.drop 1) = 0
      · rw [if_pos h0] at h; omega
      rw [if_neg h0] at h
      obtain ⟨j, hj⟩ : ∃ j, nam (s.drop 1) = j := ⟨_, rfl⟩
      rw [hj] at h h0
      subst h
      have hag := take_drop_agree (q := 1) hz
      rw [Nat.add_sub_cancel_left] at hag
      have := nam_local hj h0 hag (by rw [List.drop_drop]; exact hs)
      rw [typ_is_star (by rw [pre_agree hz (by simp [sStar])]; exact h4), this, if_neg h0]
    by_cases h5 : pre sSlice s = true
    · rw [typ_is_slice h5] at h
      by_cases h0 : typ k (s.drop 2) = 0
      · rw [if_pos h0] at h; omega
      rw [if_neg h0] at h
      obtain ⟨j, hj⟩ : ∃ j, typ k (s.drop 2) = j := ⟨_, rfl⟩
      rw [hj] at h h0
      subst h
      have hag := take_drop_agree (q := 2) hz
      rw [Nat.add_sub_cancel_left] at hag
      have := typ_local k _ j (z.drop 2) k' hj (by omega) hag (by rw [List.drop_drop]; exact hs) (by omega)
      rw [typ_is_slice (by rw [pre_agree hz (by simp [sSlice])]; exact h5), this, if_neg h0]
    by_cases h6 : pre sChan s = true
    · rw [typ_is_chan h6] at h
      by_cases h0 : typ k (s.drop 5) = 0
      · rw [if_pos h0] at h; omega
      rw [if_neg h0] at h
      obtain ⟨j, hj⟩ : ∃ j, typ k (s.drop 5) = j := ⟨_, rfl⟩
      rw [hj] at h h0
      subst h
      have hag := take_drop_agree (q := 5) hz
      rw [Nat.add_sub_cancel_left] at hag
      have := typ_local k _ j (z.drop 5) k' hj (by omega) hag (by rw [List.drop_drop]; exact hs) (by omega)
      rw [typ_is_chan (by rw [pre_agree hz (by simp [sChan])]; exact h6), this, if_neg h0]
    by_cases h7 : pre sFunc s = true
    · rw [typ_is_func h7] at h
      unfold func at h
      cases hp : pars (typ k) (s.length + 1) s 5 [] with
      | none => rw [hp] at h; simp at h; omega
      | some x =>
        obtain ⟨m, ps⟩ := x
        rw [hp] at h
        simp only at h
        have hm := pars_le (typ k) (typ_le k) _ _ _ _ _ _ hp
        have hnm : m ≤ n := by omega
        have hzn : n ≤ z.length := by
          have := congrArg List.length hz
          rw [List.length_take, List.length_take] at this
          omega
        have hpz2 : pars (typ k') (z.length + 1) z 5 [] = some (m, ps) :=
          pars_local (typ_le k) (fun a b c e1 e2 e3 e4 => typ_local k a b c k' e1 e2 e3 e4 (by omega)) _ s 5 [] m ps _ z hp (by omega) (take_le hz hnm)
        rw [typ_is_func (by rw [pre_agree hz (by simp [sFunc]; omega)]; exact h7)]
        unfold func
        rw [hpz2]
        simp only
        obtain ⟨j, hj⟩ : ∃ j, typ k (s.drop m) = j := ⟨_, rfl⟩
        rw [hj] at h
        subst h
        have hag := take_drop_agree (q := m) hz
        rw [Nat.add_sub_cancel_left] at hag
        rw [← List.drop_drop] at hs
        by_cases h0 : j = 0
        · subst h0
          rw [stop_typ (by simpa using hs)]
        · rw [typ_local k _ j (z.drop m) k' hj (by omega) hag hs (by omega)]
    · exfalso
      simp only [Bool.not_eq_true] at h1 h2 h3 h4 h5 h6 h7
      rw [typ_not h1 h2 h3 h4 h5 h6 h7] at h
      omega

/-- Fuel makes no difference where there is enough. -/
theorem pars_congr {r1 r2 : Bytes → Nat} : ∀ (f : Nat) (s : Bytes) (p : Nat) (acc : List Bytes), (∀ q, p ≤ q → r1 (s.drop q) = r2 (s.drop q)) → pars r1 f s p acc = pars r2 f s p acc
  | 0, _, _, _, _ => rfl
  | f + 1, s, p, acc, H => by
    rw [pars, pars]
    by_cases h1 : pre sClose (s.drop p) = true
    · rw [if_pos h1, if_pos h1]
    · rw [if_neg h1, if_neg h1]
      by_cases h2 : acc ≠ [] ∧ pre sComma (s.drop p) = false
      · rw [if_pos h2, if_pos h2]
      · rw [if_neg h2, if_neg h2]
        simp only
        obtain ⟨q, hq⟩ : ∃ q, (if acc = [] then p else p + 1) = q := ⟨_, rfl⟩
        have hq2 : p ≤ q := by rw [← hq]; split <;> omega
        rw [hq, H q hq2]
        by_cases h3 : r2 (s.drop q) = 0
        · rw [if_pos h3, if_pos h3]
        · rw [if_neg h3, if_neg h3]
          exact pars_congr f s _ _ (fun q' h => H q' (by omega))

theorem typ_fuel : ∀ (k k' : Nat) (s : Bytes), s.length < k → s.length < k' → typ k s = typ k' s
  | 0, _, _, h, _ => by omega
  | _ + 1, 0, _, _, h => by omega
  | k + 1, k' + 1, s, h, h' => by
    by_cases h1 : pre sInt s = true
    · rw [typ_is_int h1, typ_is_int h1]
    by_cases h2 : pre sBool s = true
    · rw [typ_is_bool h2, typ_is_bool h2]
    by_cases h3 : pre sString s = true
    · rw [typ_is_string h3, typ_is_string h3]
    by_cases h4 : pre sStar s = true
    · rw [typ_is_star h4, typ_is_star h4]
    by_cases h5 : pre sSlice s = true
    · have := pre_length h5
      simp [sSlice] at this
      rw [typ_is_slice h5, typ_is_slice h5, typ_fuel k k' (s.drop 2) (by rw [List.length_drop]; omega) (by rw [List.length_drop]; omega)]
    by_cases h6 : pre sChan s = true
    · have := pre_length h6
      simp [sChan] at this
      rw [typ_is_chan h6, typ_is_chan h6, typ_fuel k k' (s.drop 5) (by rw [List.length_drop]; omega) (by rw [List.length_drop]; omega)]
    by_cases h7 : pre sFunc s = true
    · have := pre_length h7
      simp [sFunc] at this
      have H : ∀ q, 5 ≤ q → typ k (s.drop q) = typ k' (s.drop q) := fun q hq => typ_fuel k k' (s.drop q) (by rw [List.length_drop]; omega) (by rw [List.length_drop]; omega)
      rw [typ_is_func h7, typ_is_func h7]
      unfold func
      rw [pars_congr _ s 5 [] H]
      cases hp : pars (typ k') (s.length + 1) s 5 [] with
      | none => rfl
      | some x =>
        obtain ⟨m, ps⟩ := x
        have hm := pars_le (typ k') (typ_le k') _ _ _ _ _ _ hp
        simp only
        rw [H m (by omega)]
    · simp only [Bool.not_eq_true] at h1 h2 h3 h4 h5 h6 h7
      rw [typ_not h1 h2 h3 h4 h5 h6 h7, typ_not h1 h2 h3 h4 h5 h6 h7]

theorem typ_Typ {k : Nat} {s : Bytes} (h : s.length < k) : typ k s = Typ s := typ_fuel _ _ _ h (by omega)

/-- A type is read the same whatever follows that is no part of one. -/
theorem typ_before {t rest : Bytes} (ht : isType t = true) (hs : Stop rest) {k : Nat} (hk : t.length < k) : typ k (t ++ rest) = t.length := by
  obtain ⟨h0, hl⟩ := (isType_iff t).1 ht
  exact typ_local (t.length + 1) t t.length (t ++ rest) k hl (by omega) (by simp) (by simpa using hs) (by omega)

theorem typ_after_slice {k : Nat} (t : Bytes) : typ (k + 1) (sSlice ++ t) = if typ k t = 0 then 0 else 2 + typ k t := typ_is_slice (by simp [pre, sSlice, List.isPrefixOf])
theorem typ_after_chan {k : Nat} (t : Bytes) : typ (k + 1) (sChan ++ t) = if typ k t = 0 then 0 else 5 + typ k t := typ_is_chan (by simp [pre, sChan, List.isPrefixOf])

theorem isType_slice (t : Bytes) : isType (sSlice ++ t) = isType t := by
  rw [Bool.eq_iff_iff, isType_iff, isType_iff]
  have : Typ (sSlice ++ t) = if Typ t = 0 then 0 else 2 + Typ t := by
    show typ ((sSlice ++ t).length + 1) (sSlice ++ t) = _
    rw [typ_after_slice, typ_Typ (by simp [sSlice]; omega)]
  rw [this, List.length_append]
  simp only [sSlice, List.length_cons, List.length_nil]
  split <;> omega

theorem isType_chan (t : Bytes) : isType (sChan ++ t) = isType t := by
  rw [Bool.eq_iff_iff, isType_iff, isType_iff]
  have : Typ (sChan ++ t) = if Typ t = 0 then 0 else 5 + Typ t := by
    show typ ((sChan ++ t).length + 1) (sChan ++ t) = _
    rw [typ_after_chan, typ_Typ (by simp [sChan]; omega)]
  rw [this, List.length_append]
  simp only [sChan, List.length_cons, List.length_nil]
  split <;> omega

theorem elem_slice (t : Bytes) : elem (sSlice ++ t) = if isType t = true then (t, true) else ([], false) := by
  unfold elem
  rw [isType_slice]
  have : pre sSlice (sSlice ++ t) = true := by simp [pre, sSlice, List.isPrefixOf]
  rw [this, if_pos rfl]
  rfl

theorem elem_chan (t : Bytes) : elem (sChan ++ t) = if isType t = true then (t, true) else ([], false) := by
  unfold elem
  rw [isType_chan]
  have h1 : pre sSlice (sChan ++ t) = false := by simp [pre, sSlice, sChan, List.isPrefixOf]
  have h2 : pre sChan (sChan ++ t) = true := by simp [pre, sChan, List.isPrefixOf]
  rw [h1, h2, if_pos rfl]
  rfl

theorem typ_noclose {k : Nat} {s : Bytes} (h : typ k s ≠ 0) : pre sClose s = false := by
  rw [Bool.eq_false_iff]
  intro h1
  obtain ⟨l, rfl⟩ := pre_one_head h1
  cases k with
  | zero => exact h rfl
  | succ k =>
    apply h
    simp [typ, pre, sInt, sBool, sString, sStar, sSlice, sChan, sFunc, List.isPrefixOf]

theorem parts_of_func {s : Bytes} (h : pre sFunc s = true) : Parts s = (func (typ s.length) s).2 ∧ Typ s = (func (typ s.length) s).1 := ⟨parts_func h, typ_is_func h⟩

/-- One more param. -/
theorem pars_param {rec : Bytes → Nat} {f : Nat} {s : Bytes} {p q : Nat} {acc : List Bytes} (h1 : pre sClose (s.drop p) = false) (hq : acc = [] ∧ q = p ∨ acc ≠ [] ∧ q = p + 1 ∧ pre sComma (s.drop p) = true)
    (h0 : rec (s.drop q) ≠ 0) : pars rec (f + 1) s p acc = pars rec f s (q + rec (s.drop q)) (acc ++ [(s.drop q).take (rec (s.drop q))]) := by
  have hq2 : (if acc = [] then p else p + 1) = q := by
    rcases hq with ⟨a, b⟩ | ⟨a, b, _⟩
    · rw [if_pos a, b]
    · rw [if_neg a, b]
  rw [pars, if_neg (by rw [h1]; simp), if_neg (by rcases hq with ⟨a, _⟩ | ⟨_, _, c⟩ <;> simp_all)]
  simp only [hq2, h0, if_false]

theorem pars_end {rec : Bytes → Nat} {f : Nat} {s : Bytes} {p : Nat} {acc : List Bytes} (h1 : pre sClose (s.drop p) = true) : pars rec (f + 1) s p acc = some (p + 1, acc) := by
  rw [pars, if_pos h1]

theorem drop_mid (a b : Bytes) : (a ++ b).drop a.length = b := by simp

theorem drop_app {a b : Bytes} {n : Nat} (h : n = a.length) : (a ++ b).drop n = b := by subst h; simp
theorem take_app {a b : Bytes} {n : Nat} (h : n = a.length) : (a ++ b).take n = a := by subst h; simp

theorem run_all : ∀ (l : Bytes), (∀ c ∈ l, alnum c = true) → run l = l.length := by
  intro l h
  refine run_of l.length l (Nat.le_refl _) (by simpa using h) ?_
  intro c r hr
  simp at hr


end TypesText
end
