/- A part of the proof of TypesWrittenSaid. No condition. -/
import Derived.Test.YtoaodlfmhioigaaM43
import Derived.Test.YtoaodlfmhioigaaM44
set_option linter.unusedSimpArgs false
set_option linter.unusedVariables false
section
namespace TypesText
open Go

theorem stop_44 (l : Bytes) : Stop (44 :: l) := by intro c r h; injection h with h _; exact .inl h.symm
theorem stop_41 (l : Bytes) : Stop (41 :: l) := by intro c r h; injection h with h _; exact .inr h.symm
theorem stop_tail (ys : List Bytes) (u : Bytes) : Stop (Lib.joinTail [44] ys ++ 41 :: u) := by
  cases ys with
  | nil => exact stop_41 u
  | cons y ys => simp [Lib.joinTail]; exact stop_44 _
theorem pars_rest {k : Nat} {s u : Bytes} : ∀ (ys : List Bytes) (p f : Nat) (acc : List Bytes), acc ≠ [] → (∀ y ∈ ys, isType y = true ∧ y.length < k) → s.drop p = Lib.joinTail [44] ys ++ 41 :: u → ys.length < f →
    pars (typ k) f s p acc = some (p + (Lib.joinTail [44] ys).length + 1, acc ++ ys)
  | [], p, 0, acc, _, _, _, hf => absurd hf (by simp)
  | [], p, f + 1, acc, _, _, hd, _ => by
    rw [pars_end (by rw [hd]; rfl)]
    simp [Lib.joinTail]
  | y :: ys, p, 0, acc, _, _, _, hf => absurd hf (by simp)
  | y :: ys, p, f + 1, acc, ha, hy, hd, hf => by
    obtain ⟨ht, hk⟩ := hy y (by simp)
    obtain ⟨t0, _⟩ := (isType_iff y).1 ht
    have hd0 : s.drop p = 44 :: (y ++ (Lib.joinTail [44] ys ++ 41 :: u)) := by rw [hd]; simp [Lib.joinTail]
    have hd1 : s.drop (p + 1) = y ++ (Lib.joinTail [44] ys ++ 41 :: u) := by rw [← List.drop_drop, hd0]; rfl
    have hr : typ k (s.drop (p + 1)) = y.length := by rw [hd1]; exact typ_before ht (stop_tail ys u) hk
    have hy0 : 0 < y.length := by
      have := (isType_iff y).1 ht
      omega
    rw [pars_param (q := p + 1) (by rw [hd0]; rfl) (.inr ⟨ha, rfl, by rw [hd0]; rfl⟩) (by rw [hr]; omega), hr]
    have hd2 : s.drop (p + 1 + y.length) = Lib.joinTail [44] ys ++ 41 :: u := by rw [← List.drop_drop, hd1]; simp
    rw [pars_rest ys (p + 1 + y.length) f _ (by simp) (fun z hz => hy z (by simp [hz])) hd2 (by simpa using hf)]
    rw [hd1]
    simp [Lib.joinTail]
    omega
theorem pars_all {k : Nat} {s u : Bytes} (xs : List Bytes) (f : Nat) (hx : ∀ x ∈ xs, isType x = true ∧ x.length < k) (hd : s.drop 5 = Lib.join xs [44] ++ 41 :: u) (hf : xs.length < f) :
    pars (typ k) f s 5 [] = some (5 + (Lib.join xs [44]).length + 1, xs) := by
  obtain ⟨f, rfl⟩ : ∃ g, f = g + 1 := ⟨f - 1, by omega⟩
  cases xs with
  | nil =>
    rw [Go.Lib.join_nil] at hd ⊢
    rw [pars_end (by rw [hd]; rfl)]
    rfl
  | cons y ys =>
    rw [Go.Lib.join_cons] at hd ⊢
    obtain ⟨ht, hk⟩ := hx y (by simp)
    have hy0 : 0 < y.length := by
      have := (isType_iff y).1 ht
      omega
    rw [List.append_assoc] at hd
    have hr : typ k (s.drop 5) = y.length := by rw [hd]; exact typ_before ht (stop_tail ys u) hk
    rw [pars_param (q := 5) (typ_noclose (k := k) (by rw [hr]; omega)) (.inl ⟨rfl, rfl⟩) (by rw [hr]; omega), hr]
    have hd2 : s.drop (5 + y.length) = Lib.joinTail [44] ys ++ 41 :: u := by rw [← List.drop_drop, hd]; simp
    rw [pars_rest ys (5 + y.length) f _ (by simp) (fun z hz => hx z (by simp [hz])) hd2 (by simpa using hf)]
    rw [hd]
    simp
    omega
theorem func_text {xs : List Bytes} {u s : Bytes} (hx : ∀ x ∈ xs, isType x = true) (hu : isType u = true ∨ u = []) (hs : s = sFunc ++ (Lib.join xs [44] ++ 41 :: u)) (hlen : ∀ x ∈ xs, x.length < s.length) (hxl : xs.length ≤ s.length) :
    isFunc s = true ∧ fparts s = (xs, u) := by
  have hp : pre sFunc s = true := by rw [hs]; simp [pre, sFunc, List.isPrefixOf]
  have hsl : s.length = 5 + (Lib.join xs [44]).length + 1 + u.length := by rw [hs]; simp [sFunc]; omega
  have hd : s.drop 5 = Lib.join xs [44] ++ 41 :: u := by rw [hs]; exact drop_app rfl
  have hpars := pars_all (k := s.length) (s := s) (u := u) xs (s.length + 1) (fun x hxx => ⟨hx x hxx, hlen x hxx⟩) hd (by omega)
  have d5 : s.drop (5 + (Lib.join xs [44]).length + 1) = u := by
    rw [← List.drop_drop, ← List.drop_drop, hd, drop_app rfl]; rfl
  have r3 : typ s.length u = u.length := by
    rcases hu with hu | hu
    · rw [typ_Typ (by omega)]
      exact ((isType_iff u).1 hu).2
    · rw [hu]
      have := typ_le s.length []
      simp at this
      simpa using this
  have hfn : func (typ s.length) s = (s.length, xs, u) := by
    unfold func
    rw [hpars]
    simp only
    rw [d5, r3, List.take_length, hsl]
  obtain ⟨hP, hT⟩ := parts_of_func hp
  rw [hfn] at hP hT
  have hty : isType s = true := by rw [isType_iff, hT]; exact ⟨by omega, rfl⟩
  have hfu : isFunc s = true := by unfold isFunc; rw [hty, hp]; rfl
  refine ⟨hfu, ?_⟩
  unfold fparts
  rw [if_pos hfu, hP]
theorem ptr_text {l : Bytes} (hn : nam l = l.length) (h0 : l ≠ []) : isType (sStar ++ l) = true := by
  have hl : l.length ≠ 0 := by simpa using h0
  rw [isType_iff]
  have : Typ (sStar ++ l) = 1 + l.length := by
    show typ ((sStar ++ l).length + 1) (sStar ++ l) = _
    rw [typ_is_star (by simp [pre, sStar, List.isPrefixOf])]
    rw [show (sStar ++ l).drop 1 = l from rfl, hn, if_neg hl]
  rw [this]
  simp [sStar]
  omega
end TypesText
namespace Go.Proofs.Ytoaodlfmhioigaa
open TypesText

theorem letterB_is (c : UInt8) : letterB c = letter c := by
  unfold letterB letter
  congr 1
theorem digitB_is (c : UInt8) : digitB c = digit c := rfl
theorem words_in : ∀ x ∈ words, inW x wordsB = true := by decide +kernel
theorem nam_ok {x : Bytes} (h : nameOk x) : nam x = x.length ∧ x ≠ [] := by
  obtain ⟨⟨c, r, rfl, hc⟩, hall, h24, hw⟩ := h
  have hrun : run (c :: r) = (c :: r).length := run_all _ (fun d hd => by
    rw [alnum]
    rcases hall d hd with h | h
    · rw [← letterB_is, h]; rfl
    · rw [show digit d = true from h, Bool.or_true])
  refine ⟨?_, by simp⟩
  rw [← hrun]
  refine nam_of (by rw [hrun]; simp) (by rw [hrun]; exact h24) ?_ ?_
  · show digit c = false
    rw [letterB_is, TS.letter_iff] at hc
    rw [Bool.eq_false_iff]
    intro hd
    rw [TS.digit_iff] at hd
    omega
  · rw [hrun, List.take_length, Bool.eq_false_iff]
    intro hk
    rw [List.contains_iff_mem] at hk
    rw [words_in _ hk] at hw
    cases hw
end Go.Proofs.Ytoaodlfmhioigaa
end

section
namespace Go.Proofs.Ytoaodlfmhioigaa
open TypesText

theorem txt_func (a : Int) (ps : List Tr) (r : Tr) : txt (.mk 15 [] 0 a [] 0 (ps ++ [r])) = sFunc ++ (Go.Lib.join (txts ps) [44] ++ 41 :: txt r) := by
  simp [txt, txts_append, txts, sFunc]
theorem txts_mem : ∀ {l : List Tr} {x : Bytes}, x ∈ txts l → ∃ t ∈ l, x = txt t
  | t :: l, x, h => by
    rw [txts] at h
    rcases List.mem_cons.1 h with rfl | h
    · exact ⟨t, by simp, rfl⟩
    · obtain ⟨u, hu, e⟩ := txts_mem h
      exact ⟨u, by simp [hu], e⟩
theorem join_mem : ∀ {l : List Bytes} {x : Bytes}, x ∈ l → x.length ≤ (Go.Lib.join l [44]).length ∧ l.length ≤ (Go.Lib.join l [44]).length + 1
  | y :: l, x, h => by
    rw [Go.Lib.join_length]
    have h1 : ∀ (l : List Bytes) (x : Bytes), x ∈ l → x.length ≤ Go.Lib.lens l := by
      intro l
      induction l with
      | nil => intro x hx; cases hx
      | cons z l ih =>
        intro x hx
        rcases List.mem_cons.1 hx with rfl | hx
        · simp [Go.Lib.lens]
        · have := ih x hx
          simp [Go.Lib.lens] at this ⊢
          omega
    have := h1 _ _ h
    simp
    omega
theorem func_facts (a : Int) (ps : List Tr) (r : Tr) (hp : ∀ x ∈ txts ps, isType x = true) (hr : isType (txt r) = true ∨ txt r = []) :
    isFunc (txt (.mk 15 [] 0 a [] 0 (ps ++ [r]))) = true ∧ fparts (txt (.mk 15 [] 0 a [] 0 (ps ++ [r]))) = (txts ps, txt r) := by
  have hl : (txt (.mk 15 [] 0 a [] 0 (ps ++ [r]))).length = 5 + (Go.Lib.join (txts ps) [44]).length + 1 + (txt r).length := by rw [txt_func]; simp [sFunc]; omega
  refine func_text hp hr (txt_func a ps r) (fun x hx => ?_) ?_
  · have := (join_mem hx).1
    omega
  · cases h : txts ps with
    | nil => simp
    | cons y ys =>
      have := (join_mem (l := txts ps) (x := y) (by rw [h]; simp)).2
      rw [h] at this
      rw [hl, h]
      omega
theorem txt_type {t : Tr} (h : TyOk t) : isType (txt t) = true := by
  induction h with
  | base k a h => rcases h with rfl | rfl | rfl <;> simp only [txt] <;> decide +kernel
  | ptr a x h =>
    obtain ⟨h1, h2⟩ := nam_ok h
    have := ptr_text h1 h2
    simpa [txt, sStar] using this
  | of k a t hk h ih =>
    rcases hk with rfl | rfl
    · have := isType_slice (txt t)
      rw [ih] at this
      simpa [txt, txts, sSlice] using this
    · have := isType_chan (txt t)
      rw [ih] at this
      simpa [txt, txts, sChan] using this
  | func a ps r h hr ih ihr =>
    have hf := (func_facts a ps r (fun x hx => by obtain ⟨t, ht, rfl⟩ := txts_mem hx; exact ih t ht) (.inl ihr)).1
    unfold isFunc at hf
    rw [Bool.and_eq_true] at hf
    exact hf.1
  | proc a ps h ih =>
    have hf := (func_facts a ps noneT (fun x hx => by obtain ⟨t, ht, rfl⟩ := txts_mem hx; exact ih t ht) (.inr txt_none)).1
    unfold isFunc at hf
    rw [Bool.and_eq_true] at hf
    exact hf.1

/-- What a function's text can do. -/
theorem func_more {s : Bytes} (h : isFunc s = true) : elem s = ([], false) ∧ nilable s = true := by
  unfold isFunc at h
  rw [Bool.and_eq_true] at h
  obtain ⟨h1, h2⟩ := h
  have h3 : pre sSlice s = false := pre_excl h2 (by decide) (by decide)
  have h4 : pre sChan s = false := pre_excl h2 (by decide) (by decide)
  exact ⟨by simp [elem, h1, h3, h4], by simp [nilable, h1, h2]⟩
theorem ptr_facts {x : Bytes} (h : nameOk x) : isFunc (42 :: x) = false ∧ fparts (42 :: x) = ([], []) ∧ elem (42 :: x) = ([], false) ∧ nilable (42 :: x) = true := by
  obtain ⟨h1, h2⟩ := nam_ok h
  have ht : isType (42 :: x) = true := ptr_text h1 h2
  have hp : pre sStar (42 :: x) = true := by simp [pre, sStar, List.isPrefixOf]
  have h3 : pre sSlice (42 :: x) = false := pre_excl hp (by decide) (by decide)
  have h4 : pre sChan (42 :: x) = false := pre_excl hp (by decide) (by decide)
  have h5 : pre sFunc (42 :: x) = false := pre_excl hp (by decide) (by decide)
  have hf : isFunc (42 :: x) = false := by simp [isFunc, h5]
  exact ⟨hf, by simp [fparts, hf], by simp [elem, ht, h3, h4], by simp [nilable, ht, hp]⟩
theorem slice_facts {y : Bytes} (h : isType y = true) : isFunc (91 :: 93 :: y) = false ∧ fparts (91 :: 93 :: y) = ([], []) ∧ elem (91 :: 93 :: y) = (y, true) ∧ nilable (91 :: 93 :: y) = true := by
  have ht : isType (91 :: 93 :: y) = true := (isType_slice y).trans h
  have hp : pre sSlice (91 :: 93 :: y) = true := by simp [pre, sSlice, List.isPrefixOf]
  have h5 : pre sFunc (91 :: 93 :: y) = false := pre_excl hp (by decide) (by decide)
  have hf : isFunc (91 :: 93 :: y) = false := by simp [isFunc, h5]
  have he := elem_slice y
  rw [if_pos h] at he
  exact ⟨hf, by simp [fparts, hf], he, by simp [nilable, ht, hp]⟩
theorem chan_facts {y : Bytes} (h : isType y = true) : isFunc (99 :: 104 :: 97 :: 110 :: 32 :: y) = false ∧ fparts (99 :: 104 :: 97 :: 110 :: 32 :: y) = ([], []) ∧ elem (99 :: 104 :: 97 :: 110 :: 32 :: y) = (y, true) ∧ nilable (99 :: 104 :: 97 :: 110 :: 32 :: y) = true := by
  have ht : isType (99 :: 104 :: 97 :: 110 :: 32 :: y) = true := (isType_chan y).trans h
  have hp : pre sChan (99 :: 104 :: 97 :: 110 :: 32 :: y) = true := by simp [pre, sChan, List.isPrefixOf]
  have h5 : pre sFunc (99 :: 104 :: 97 :: 110 :: 32 :: y) = false := pre_excl hp (by decide) (by decide)
  have hf : isFunc (99 :: 104 :: 97 :: 110 :: 32 :: y) = false := by simp [isFunc, h5]
  have he := elem_chan y
  rw [if_pos h] at he
  exact ⟨hf, by simp [fparts, hf], he, by simp [nilable, ht, hp]⟩
theorem base_facts : ∀ s ∈ [[105, 110, 116], [98, 111, 111, 108], ([115, 116, 114, 105, 110, 103] : Bytes)], isFunc s = false ∧ fparts s = ([], []) ∧ elem s = ([], false) ∧ nilable s = false := by decide +kernel

/-- What holds by the anchor. -/
theorem t_anchor : TriE Try.prog 4 [] [] (B true) [] := by
  have h8 := tri_func [102, 117, 110, 99, 40, 105, 110, 116, 44, 102, 117, 110, 99, 40, 41, 98, 111, 111, 108, 41, 91, 93, 105, 110, 116] (by decide)
  have e1 : isFunc [102, 117, 110, 99, 40, 105, 110, 116, 44, 102, 117, 110, 99, 40, 41, 98, 111, 111, 108, 41, 91, 93, 105, 110, 116] = true := by decide +kernel
  have e2 : fparts [102, 117, 110, 99, 40, 105, 110, 116, 44, 102, 117, 110, 99, 40, 41, 98, 111, 111, 108, 41, 91, 93, 105, 110, 116] = ([[105, 110, 116], [102, 117, 110, 99, 40, 41, 98, 111, 111, 108]], [91, 93, 105, 110, 116]) := by decide +kernel
  rw [e1, e2] at h8
  have h11 := tri_fits [110, 105, 108] [99, 104, 97, 110, 32, 105, 110, 116] (by decide)
  have e3 : fits [110, 105, 108] [99, 104, 97, 110, 32, 105, 110, 116] = true := by decide +kernel
  rw [e3] at h11
  have h12 := tri_equals [110, 105, 108] [91, 93, 105, 110, 116] (by decide) (by decide)
  have e4 : equals [110, 105, 108] [91, 93, 105, 110, 116] = true := by decide +kernel
  rw [e4] at h12
  have h13 := tri_equals [91, 93, 105, 110, 116] [91, 93, 105, 110, 116] (by decide) (by decide)
  have e5 : equals [91, 93, 105, 110, 116] [91, 93, 105, 110, 116] = false := by decide +kernel
  rw [e5] at h13
  refine tri_by Try.func4 (by rfl) _ Try.ntmps4 _ (by rfl) ?_
  simp
  refine acallC_by 0 (h8) ?_ (by kernel_rfl) ?_ ?_ ?_ ?_ ?_ ?_ ?_ ?_ ?_ <;> simp
  refine acallC_by 0 (h11) ?_ (by kernel_rfl) ?_ ?_ ?_ ?_ ?_ ?_ ?_ ?_ ?_ <;> simp
  refine acallC_by 0 (h12) ?_ (by kernel_rfl) ?_ ?_ ?_ ?_ ?_ ?_ ?_ ?_ ?_ <;> simp
  refine acallC_by 0 (h13) ?_ (by kernel_rfl) ?_ ?_ ?_ ?_ ?_ ?_ ?_ ?_ ?_ <;> simp
end Go.Proofs.Ytoaodlfmhioigaa
end
