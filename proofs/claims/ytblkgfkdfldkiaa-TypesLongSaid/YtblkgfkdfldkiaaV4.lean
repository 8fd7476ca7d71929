import Derived.Test.YtblkgfkdfldkiaaV3
namespace TypesText

theorem drop_app {a b : Bytes} {n : Nat} (h : n = a.length) : (a ++ b).drop n = b := by subst h; simp
theorem take_app {a b : Bytes} {n : Nat} (h : n = a.length) : (a ++ b).take n = a := by subst h; simp

theorem makes_func {t u : Bytes} (ht : isType t = true) (hu : isType u = true) :
    isFunc (sFunc ++ t ++ [44] ++ u ++ [41] ++ t) = true ∧ fparts (sFunc ++ t ++ [44] ++ u ++ [41] ++ t) = ([t, u], t) := by
  obtain ⟨s, hs⟩ : ∃ s, sFunc ++ t ++ [44] ++ u ++ [41] ++ t = s := ⟨_, rfl⟩
  rw [hs]
  have hp : pre sFunc s = true := by rw [← hs]; simp [pre, sFunc, List.isPrefixOf]
  have hlen : s.length = 5 + t.length + 1 + u.length + 1 + t.length := by rw [← hs]; simp [sFunc]; omega
  obtain ⟨t0, tl⟩ := (isType_iff t).1 ht
  obtain ⟨u0, ul⟩ := (isType_iff u).1 hu
  have d1 : s.drop 5 = t ++ ([44] ++ (u ++ ([41] ++ t))) := by
    rw [← hs, show sFunc ++ t ++ [44] ++ u ++ [41] ++ t = sFunc ++ (t ++ ([44] ++ (u ++ ([41] ++ t)))) by simp]
    exact drop_app rfl
  have d2 : s.drop (5 + t.length) = [44] ++ (u ++ ([41] ++ t)) := by rw [← List.drop_drop, d1]; exact drop_app rfl
  have d3 : s.drop (5 + t.length + 1) = u ++ ([41] ++ t) := by rw [← List.drop_drop, d2]; rfl
  have d4 : s.drop (5 + t.length + 1 + u.length) = [41] ++ t := by rw [← List.drop_drop, d3]; exact drop_app rfl
  have d5 : s.drop (5 + t.length + 1 + u.length + 1) = t := by rw [← List.drop_drop, d4]; rfl
  have stop44 : ∀ l, Stop ([44] ++ l) := by intro l c r h; injection h with h _; exact .inl h.symm
  have stop41 : ∀ l, Stop ([41] ++ l) := by intro l c r h; injection h with h _; exact .inr h.symm
  have r1 : typ s.length (s.drop 5) = t.length := by rw [d1]; exact typ_before ht (stop44 _) (by omega)
  have r2 : typ s.length (s.drop (5 + t.length + 1)) = u.length := by rw [d3]; exact typ_before hu (stop41 _) (by omega)
  have r3 : typ s.length t = t.length := by rw [typ_Typ (by omega), tl]
  obtain ⟨f, hf⟩ : ∃ f, s.length + 1 = f + 1 + 1 + 1 := ⟨s.length - 2, by omega⟩
  have hpars : pars (typ s.length) (s.length + 1) s 5 [] = some (5 + t.length + 1 + u.length + 1, [t, u]) := by
    rw [hf, pars_param (q := 5) (typ_noclose (k := s.length) (by rw [r1]; omega)) (.inl ⟨rfl, rfl⟩) (by rw [r1]; omega), r1]
    rw [pars_param (q := 5 + t.length + 1) (by rw [d2]; rfl) (.inr ⟨by simp, rfl, by rw [d2]; rfl⟩) (by rw [r2]; omega), r2]
    rw [pars_end (by rw [d4]; rfl), d1, d3, take_app rfl, take_app rfl]
    rfl
  have hfn : func (typ s.length) s = (s.length, [t, u], t) := by
    unfold func
    rw [hpars]
    simp only
    rw [d5, r3, List.take_length, hlen]
  obtain ⟨hP, hT⟩ := parts_of_func hp
  rw [hfn] at hP hT
  have hty : isType s = true := by rw [isType_iff, hT]; exact ⟨by omega, rfl⟩
  have hfu : isFunc s = true := by unfold isFunc; rw [hty, hp]; rfl
  refine ⟨hfu, ?_⟩
  unfold fparts
  rw [if_pos hfu, hP]

/-- The bytes of a plain name: A to Z and _. -/
def capital (c : UInt8) : Bool := (65 ≤ c && c ≤ 90) || c == 95

theorem run_all : ∀ (l : Bytes), (∀ c ∈ l, alnum c = true) → run l = l.length := by
  intro l h
  refine run_of l.length l (Nat.le_refl _) (by simpa using h) ?_
  intro c r hr
  simp at hr

theorem capital_facts (c : UInt8) (h : capital c = true) : alnum c = true ∧ digit c = false ∧ c.toNat < 97 := by
  have key : ∀ n : Fin 256, capital (UInt8.ofNat n.val) = true → alnum (UInt8.ofNat n.val) = true ∧ digit (UInt8.ofNat n.val) = false ∧ (UInt8.ofNat n.val).toNat < 97 := by decide +kernel
  have := key ⟨c.toNat, c.toNat_lt⟩
  simp only [UInt8.ofNat_toNat] at this
  exact this h

theorem words_low : ∀ x ∈ words, ∀ c l, x = c :: l → 97 ≤ c.toNat := by
  intro x hx c l h
  have key : words.all (fun x => match x with | [] => true | c :: _ => decide (97 ≤ c.toNat)) = true := by decide +kernel
  have := List.all_eq_true.1 key x hx
  subst h
  simpa using this

theorem plain_ptr {l : Bytes} (h0 : l ≠ []) (h24 : l.length ≤ 24) (hc : ∀ c ∈ l, capital c = true) : isType (sStar ++ l) = true := by
  have hrun : run l = l.length := run_all l (fun c h => (capital_facts c (hc c h)).1)
  have hnam : nam l = l.length := by
    rw [← hrun]
    refine nam_of (by rw [hrun]; simpa using h0) (by omega) ?_ ?_
    · cases l with
      | nil => exact absurd rfl h0
      | cons c r =>
        simpa using (capital_facts c (hc c (by simp))).2.1
    · rw [hrun, List.take_length, Bool.eq_false_iff]
      intro hw
      rw [List.contains_iff_mem] at hw
      cases l with
      | nil => exact absurd rfl h0
      | cons c r =>
        have a := words_low _ hw c r rfl
        have b := (capital_facts c (hc c (by simp))).2.2
        omega
  have hl : l.length ≠ 0 := by simpa using h0
  rw [isType_iff]
  have : Typ (sStar ++ l) = 1 + l.length := by
    show typ ((sStar ++ l).length + 1) (sStar ++ l) = _
    rw [typ_is_star (by simp [pre, sStar, List.isPrefixOf])]
    rw [show (sStar ++ l).drop 1 = l from rfl, hnam, if_neg hl]
  rw [this]
  simp [sStar]
  omega

theorem plain_more {l : Bytes} (h : isType (sStar ++ l) = true) : nilable (sStar ++ l) = true ∧ equals (sStar ++ l) (sStar ++ l) = true := by
  have h1 : pre sStar (sStar ++ l) = true := by simp [pre, sStar, List.isPrefixOf]
  have h2 : pre sSlice (sStar ++ l) = false := by simp [pre, sStar, sSlice, List.isPrefixOf]
  have h3 : pre sFunc (sStar ++ l) = false := by simp [pre, sStar, sFunc, List.isPrefixOf]
  have h4 : (sStar ++ l == sNil) = false := by simp [sStar, sNil]
  refine ⟨by unfold nilable; rw [h, h1]; rfl, ?_⟩
  unfold equals
  rw [h4, h, h2, h3]
  simp

/-! ### Long types -/

def chain : Nat → Bytes
  | 0 => sInt
  | k + 1 => (if k % 2 = 0 then sSlice else sChan) ++ chain k

theorem chain_pos (n : Nat) : n + 3 ≤ (chain n).length := by
  induction n with
  | zero => decide
  | succ n ih =>
    rw [chain, List.length_append]
    split <;> simp [sSlice, sChan] <;> omega

theorem chain_len (n : Nat) : (chain n).length ≤ 5 * n + 3 := by
  induction n with
  | zero => decide
  | succ n ih =>
    rw [chain, List.length_append]
    split <;> simp [sSlice, sChan] <;> omega

theorem typ_chain : ∀ (n k : Nat) (rest : Bytes), n < k → typ k (chain n ++ rest) = (chain n).length
  | _, 0, _, h => by omega
  | 0, k + 1, rest, _ => by rw [chain, typ_is_int (by simp [pre, sInt, List.isPrefixOf])]; rfl
  | n + 1, k + 1, rest, h => by
    have ih := typ_chain n k rest (by omega)
    have hp := chain_pos n
    rw [chain, List.append_assoc]
    split
    · rw [typ_after_slice, ih, if_neg (by omega)]
      simp [sSlice]; omega
    · rw [typ_after_chan, ih, if_neg (by omega)]
      simp [sChan]; omega

theorem isType_chain (n : Nat) : isType (chain n) = true := by
  have hp := chain_pos n
  have := typ_chain n ((chain n).length + 1) [] (by omega)
  rw [List.append_nil] at this
  rw [isType_iff]
  exact ⟨by show 0 < typ _ _; rw [this]; omega, this⟩

theorem blank_chain (n : Nat) : isType (chain n ++ [32]) = false := by
  have hp := chain_pos n
  have := typ_chain n ((chain n ++ [32]).length + 1) [32] (by simp; omega)
  rw [Bool.eq_false_iff, Ne, isType_iff]
  rintro ⟨_, h⟩
  have h2 : typ ((chain n ++ [32]).length + 1) (chain n ++ [32]) = (chain n ++ [32]).length := h
  rw [this, List.length_append] at h2
  simp at h2

theorem nilable_chain (n : Nat) : nilable (chain (n + 1)) = true := by
  unfold nilable
  rw [isType_chain, chain]
  split <;> simp [pre, sSlice, sChan, sStar, sFunc, List.isPrefixOf]

theorem elem_chain (n : Nat) : elem (chain (n + 1)) = (chain n, true) := by
  rw [chain]
  split
  · rw [elem_slice, if_pos (isType_chain n)]
  · rw [TypesText.elem_chan, if_pos (isType_chain n)]

def joinl (t : Bytes) : Nat → Bytes
  | 0 => []
  | k + 1 => joinl t k ++ (if 0 < k then [44] else []) ++ t

theorem joinl_len (t : Bytes) (m : Nat) : (joinl t m).length ≤ m * (t.length + 1) := by
  induction m with
  | zero => simp [joinl]
  | succ m ih =>
    rw [joinl, List.length_append, List.length_append, Nat.succ_mul]
    split <;> simp <;> omega

/-- What is left of the params from the i-th on. -/
def left (t : Bytes) : Nat → Nat → Bytes
  | _, 0 => [41] ++ t
  | i, r + 1 => (if 0 < i then [44] else []) ++ (t ++ left t (i + 1) r)

theorem join_left (t : Bytes) : ∀ (r i : Nat), joinl t i ++ left t i r = joinl t (i + r) ++ ([41] ++ t)
  | 0, i => rfl
  | r + 1, i => by
    have := join_left t r (i + 1)
    have e : joinl t i ++ left t i (r + 1) = joinl t (i + 1) ++ left t (i + 1) r := by
      rw [left, show joinl t (i + 1) = joinl t i ++ (if 0 < i then [44] else []) ++ t from rfl, List.append_assoc, List.append_assoc]
    rw [e, this, show i + 1 + r = i + (r + 1) by omega]

theorem pars_long {rec : Bytes → Nat} {t s : Bytes} (ht : t ≠ []) (hrec : ∀ X, rec (t ++ X) = t.length) (hno : ∀ X, pre sClose (t ++ X) = false) :
    ∀ (r i f p : Nat), r < f → p ≤ s.length → s.drop p = left t i r → ∃ m, pars rec f s p (List.replicate i t) = some (m, List.replicate (i + r) t) ∧ s.drop m = t ∧ m + t.length = s.length
  | 0, i, f, p, hf, hp, hd => by
    obtain ⟨f, rfl⟩ : ∃ g, f = g + 1 := ⟨f - 1, by omega⟩
    refine ⟨p + 1, by rw [pars_end (by rw [hd]; rfl)]; rfl, by rw [← List.drop_drop, hd]; rfl, ?_⟩
    have := congrArg List.length hd
    rw [List.length_drop, left, List.length_append] at this
    simp at this
    omega
  | r + 1, i, f, p, hf, hp, hd => by
    obtain ⟨f, rfl⟩ : ∃ g, f = g + 1 := ⟨f - 1, by omega⟩
    have hl : t.length ≠ 0 := by simpa using ht
    by_cases hi : i = 0
    · subst hi
      have hd2 : s.drop p = t ++ left t 1 r := by rw [hd, left]; rfl
      have hlen := congrArg List.length hd2
      rw [List.length_drop, List.length_append] at hlen
      obtain ⟨m, h1, h2, h3⟩ := pars_long (s := s) ht hrec hno r 1 f (p + t.length) (by omega) (by omega) (by rw [← List.drop_drop, hd2]; exact drop_app rfl)
      refine ⟨m, ?_, h2, h3⟩
      rw [List.replicate_zero, pars_param (q := p) (by rw [hd2]; exact hno _) (.inl ⟨rfl, rfl⟩) (by rw [hd2, hrec]; exact hl), hd2, hrec, take_app rfl]
      rw [show (0 + (r + 1)) = 1 + r by omega, ← h1]
      rfl
    · have hd2 : s.drop p = [44] ++ (t ++ left t (i + 1) r) := by rw [hd, left, if_pos (by omega)]
      have hd3 : s.drop (p + 1) = t ++ left t (i + 1) r := by rw [← List.drop_drop, hd2]; rfl
      have hlen := congrArg List.length hd3
      rw [List.length_drop, List.length_append] at hlen
      obtain ⟨m, h1, h2, h3⟩ := pars_long (s := s) ht hrec hno r (i + 1) f (p + 1 + t.length) (by omega) (by omega) (by rw [← List.drop_drop, hd3]; exact drop_app rfl)
      refine ⟨m, ?_, h2, h3⟩
      rw [pars_param (q := p + 1) (by rw [hd2]; rfl) (.inr ⟨by simpa using hi, rfl, by rw [hd2]; rfl⟩) (by rw [hd3, hrec]; exact hl), hd3, hrec, take_app rfl]
      rw [show i + (r + 1) = i + 1 + r by omega, ← h1, List.replicate_succ']

theorem long_func (n m : Nat) : isFunc (sFunc ++ joinl (chain n) m ++ [41] ++ chain n) = true ∧ fparts (sFunc ++ joinl (chain n) m ++ [41] ++ chain n) = (List.replicate m (chain n), chain n) := by
  have hcp := chain_pos n
  have hch := typ_chain n
  obtain ⟨t, ht⟩ : ∃ t, chain n = t := ⟨_, rfl⟩
  rw [ht] at hcp hch ⊢
  obtain ⟨s, hs⟩ : ∃ s, sFunc ++ joinl t m ++ [41] ++ t = s := ⟨_, rfl⟩
  rw [hs]
  have hp : pre sFunc s = true := by rw [← hs]; simp [pre, sFunc, List.isPrefixOf]
  have hlen : s.length = 5 + (joinl t m).length + 1 + t.length := by rw [← hs]; simp [sFunc]; omega
  have d1 : s.drop 5 = left t 0 m := by
    have := join_left t m 0
    rw [joinl, List.nil_append, Nat.zero_add] at this
    rw [this, ← hs, show sFunc ++ joinl t m ++ [41] ++ t = sFunc ++ (joinl t m ++ ([41] ++ t)) by simp]
    exact drop_app rfl
  have hjm : m ≤ (joinl t m).length := by
    clear d1 hlen hp hs
    induction m with
    | zero => simp
    | succ m ih => rw [joinl, List.length_append, List.length_append]; omega
  have hrec : ∀ X, typ s.length (t ++ X) = t.length := fun X => hch s.length X (by omega)
  have hne : t ≠ [] := by intro h; rw [h] at hcp; simp at hcp
  obtain ⟨q, h1, h2, h3⟩ := pars_long (rec := typ s.length) hne hrec (fun X => typ_noclose (k := s.length) (by rw [hrec]; omega)) m 0 (s.length + 1) 5 (by omega) (by omega) d1
  rw [List.replicate_zero, Nat.zero_add] at h1
  have r3 : typ s.length t = t.length := by have := hrec []; rwa [List.append_nil] at this
  have hfn : func (typ s.length) s = (s.length, List.replicate m t, t) := by
    unfold func
    rw [h1]
    simp only
    rw [h2, r3, List.take_length, h3]
  obtain ⟨hP, hT⟩ := parts_of_func hp
  rw [hfn] at hP hT
  have hty : isType s = true := by rw [isType_iff, hT]; exact ⟨by omega, rfl⟩
  have hfu : isFunc s = true := by unfold isFunc; rw [hty, hp]; rfl
  refine ⟨hfu, ?_⟩
  unfold fparts
  rw [if_pos hfu, hP]

end TypesText
