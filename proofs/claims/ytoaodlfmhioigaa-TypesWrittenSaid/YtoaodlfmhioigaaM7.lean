/- A part of the proof of TypesWrittenSaid. No condition. -/
import Derived.Test.YtoaodlfmhioigaaM6
set_option linter.unusedSimpArgs false
set_option linter.unusedVariables false
section
namespace Go.Proofs.Ytoaodlfmhioigaa

def PS.among (s : PS) (t : Tok) (l : Bytes) : Bool := decide (s.bad < 0) && (decide (t.kind = 4) || decide (t.kind = 5)) && inW t.text l

theorem t_among (toks : List Tok) (s : PS) (t : Tok) (l : Bytes) (ht : toks[s.at_]? = some t) (h1 : t.text.length < 1048576) (h2 : l.length < 1048576) : TriE Try.prog 47 [.ref 0 0 0, S l] [PO toks s] (B (s.among t l)) [PO toks s] := by
  obtain ⟨hd, hlt, hne⟩ := tok_hyps ht
  refine tri_by Try.func47 (by rfl) _ Try.ntmps47 _ (by rfl) ?_
  have hin := t_In t.text l h1 h2
  by_cases hb : s.bad < 0
  · by_cases h4 : t.kind = 4
    · simp [Try.f47, PO, hb, h4]
      refine adrawC_by [] [0,1,2,3,4,5,6,7,8,9] (.late 10 (.late 11 .fin)) (by kernel_rfl) (by kernel_rfl) (by kernel_rfl) ?_
      simp [hd, hlt, hne, Tok.cells, hb, h4]
      refine acallC_by 0 (hin) ?_ (by kernel_rfl) ?_ ?_ ?_ ?_ ?_ ?_ ?_ ?_ ?_ <;> simp [PO, PS.among, hb, h4]
    · by_cases h5 : t.kind = 5
      · simp [Try.f47, PO, hb, h5]
        refine adrawC_by [] [0,1,2,3,4,5,6,7,8,9] (.late 10 (.late 11 .fin)) (by kernel_rfl) (by kernel_rfl) (by kernel_rfl) ?_
        simp [hd, hlt, hne, Tok.cells, hb, h5]
        refine acallC_by 0 (hin) ?_ (by kernel_rfl) ?_ ?_ ?_ ?_ ?_ ?_ ?_ ?_ ?_ <;> simp [PO, PS.among, hb, h5]
      · simp [Try.f47, PO, hb, h4, h5]
        refine adrawC_by [] [0,1,2,3,4,5,6,7,8,9] (.late 10 (.late 11 .fin)) (by kernel_rfl) (by kernel_rfl) (by kernel_rfl) ?_
        simp [hd, hlt, hne, Tok.cells, PO, PS.among, hb, h4, h5]
  · simp [Try.f47, PO, hb]
    refine adrawC_by [] [0,1,2,3,4,5,6,7,8,9] (.late 10 (.late 11 .fin)) (by kernel_rfl) (by kernel_rfl) (by kernel_rfl) ?_
    simp [hd, hlt, hne, Tok.cells, PO, PS.among, hb]

end Go.Proofs.Ytoaodlfmhioigaa
end

section
namespace Go.Proofs.Ytoaodlfmhioigaa

/-- A node of the tree, as it is written. -/
inductive Tr where
  | mk (kind : Int) (text : Bytes) (num at_ : Int) (typ : Bytes) (ref : Int) (kids : List Tr)
def vecN (n : Nat) (cs : List AV) : AV := if n = 0 then .vec 0 0 [] else .vec 7 n cs
mutual
def Tr.cells : Tr → List AV
  | .mk k t n a x r kids => [I k, S t, I n, I a, S x, I r, vecN kids.length (flatN kids)]
def flatN : List Tr → List AV
  | [] => []
  | t :: l => t.cells ++ flatN l
end
def Tr.av (t : Tr) : AV := .agg t.cells
/-- A list of nodes. -/
def kidsV (l : List Tr) : AV := vecN l.length (flatN l)
theorem cells_length (t : Tr) : t.cells.length = 7 := by cases t; rfl
theorem flatN_length : ∀ l : List Tr, (flatN l).length = l.length * 7
  | [] => rfl
  | t :: l => by simp [flatN, flatN_length l, cells_length]; omega
theorem flatN_append : ∀ l m : List Tr, flatN (l ++ m) = flatN l ++ flatN m
  | [], m => rfl
  | t :: l, m => by simp [flatN, flatN_append l m]
@[simp] theorem closedL_append (f : Nat → Bool) : ∀ a b : List AV, AV.closedL f (a ++ b) = (AV.closedL f a && AV.closedL f b)
  | [], b => by simp
  | x :: a, b => by simp [closedL_append f a b, Bool.and_assoc]
@[simp] theorem vecN_closed (f : Nat → Bool) (n : Nat) (cs : List AV) : (vecN n cs).closed f = true := by unfold vecN; split <;> rfl
@[simp] theorem vecN_frz (os : List AO) (K : Nat → Bool) (d n : Nat) (cs : List AV) : frz os K d (vecN n cs) = vecN n cs := by unfold vecN; cases d <;> split <;> rfl
@[simp] theorem vecN_one (n : Nat) (cs : List AV) : oneA (vecN n cs) = true := by unfold vecN; split <;> rfl
@[simp] theorem Tr.closed (f : Nat → Bool) (t : Tr) : AV.closedL f t.cells = true := by cases t; simp [Tr.cells]
@[simp] theorem flatN_closed (f : Nat → Bool) : ∀ l : List Tr, AV.closedL f (flatN l) = true
  | [] => rfl
  | t :: l => by rw [flatN, closedL_append, t.closed, flatN_closed f l]; rfl
@[simp] theorem Tr.frz (os : List AO) (K : Nat → Bool) (d : Nat) (t : Tr) : t.cells.map (frz os K d) = t.cells := by cases t; cases d <;> simp [Tr.cells]
@[simp] theorem flatN_frz (os : List AO) (K : Nat → Bool) (d : Nat) : ∀ l : List Tr, (flatN l).map (Ytoaodlfmhioigaa.frz os K d) = flatN l
  | [] => rfl
  | t :: l => by rw [flatN, List.map_append, t.frz, flatN_frz os K d l]
@[simp] theorem flatN_one : ∀ l : List Tr, (flatN l).all oneA = true
  | [] => rfl
  | t :: l => by rw [flatN, List.all_append, flatN_one l]; cases t; simp [Tr.cells, Value.oneCell']
@[simp] theorem vecN_flat (n : Nat) (cs : List AV) : flatA (vecN n cs) = true := by unfold vecN; split <;> rfl
@[simp] theorem vecN_cells (n : Nat) (cs : List AV) : (vecN n cs).cellsA = [vecN n cs] := by unfold vecN; split <;> rfl
theorem flatN_take (l : List Tr) (n : Nat) (h : n = l.length) : (flatN l).take (n * 7) = flatN l := List.take_of_length_le (by rw [flatN_length, h]; omega)
theorem flatN_snoc (l : List Tr) (t : Tr) : flatN (l ++ [t]) = flatN l ++ t.cells := by simp [flatN_append, flatN]
@[simp] theorem one_max : 1 ≤ maxLen := by decide
theorem len_ok {n : Nat} (h : n < 2097152) : n ≤ maxLen ∧ n * 88 ≤ 140737488355328 := ⟨by unfold maxLen; omega, by omega⟩
end Go.Proofs.Ytoaodlfmhioigaa
end

section
namespace Go.Proofs.Ytoaodlfmhioigaa

set_option maxRecDepth 20000 in
theorem t_called (t : Tr) : Tri Try.prog 71 [t.av] [] fun r o => ∃ b, r = B b ∧ o = [] := by
  obtain ⟨k, x, n, a, y, rf, kids⟩ := t
  refine tri_by Try.func71 (by rfl) _ Try.ntmps71 _ (by rfl) ?_
  by_cases h1 : k = 43
  · simp [Tr.av, Tr.cells, h1]
  · by_cases h2 : k = 44
    · by_cases h3 : x = [109, 97, 107, 101]
      · simp [Tr.av, Tr.cells, h2, h3]
      · simp [Tr.av, Tr.cells, h2, h3]
        exact Classical.em _
    · simp [Tr.av, Tr.cells, h1, h2]

set_option maxRecDepth 20000 in
theorem t_level (t : Tok) : Tri Try.prog 77 [.agg t.cells] [] fun r o => ∃ k, r = I k ∧ o = [] ∧ (t.kind ≠ 5 → k = 0) := by
  refine tri_by Try.func77 (by rfl) _ Try.ntmps77 _ (by rfl) ?_
  by_cases h1 : t.kind = 5
  · simp [Tok.cells, h1]
  · simp [Tok.cells, h1]

set_option maxRecDepth 20000 in
theorem t_follows (toks : List Tok) (s : PS) (t : Tok) (x : Bytes) (hl : toks.length < 1048576) (ht : toks[s.at_]? = some t) : Tri Try.prog 62 [.ref 0 0 0, S x] [PO toks s] fun r o => ∃ b, r = B b ∧ o = [PO toks s] ∧ (b = true → ∃ u, toks[s.at_ + 1]? = some u ∧ u.kind = 5) := by
  obtain ⟨hd, hlt, hne⟩ := tok_hyps ht
  have hw := wrap_one (n := s.at_) (by omega)
  refine tri_by Try.func62 (by rfl) _ Try.ntmps62 _ (by rfl) ?_
  simp [PO]
  refine adrawC_by [] [0, 1, 2, 3, 4, 5, 6, 7, 8, 9, 10, 11, 12, 13, 14, 15, 16, 17, 18, 19, 20, 21, 22, 23, 24, 25, 26, 27, 28, 29, 30, 31, 32, 33, 34, 35, 36, 37, 38, 39, 40, 41, 42] .fin (by kernel_rfl) (by kernel_rfl) (by kernel_rfl) ?_
  by_cases h1 : s.at_ + 1 < toks.length
  · obtain ⟨u, hu⟩ : ∃ u, toks[s.at_ + 1]? = some u := ⟨_, List.getElem?_eq_getElem h1⟩
    obtain ⟨hd2, hlt2, hne2⟩ := tok_hyps hu
    have hc : (s.at_ : Int) + 1 < toks.length := by omega
    have h0 : (0 : Int) ≤ (s.at_ : Int) + 1 := by omega
    have hn : ((s.at_ : Int) + 1).toNat = s.at_ + 1 := by omega
    by_cases h5 : u.kind = 5
    · by_cases hx : u.text = x
      · simp [hw, hc, h0, hn, hd2, hlt2, hne2, Tok.cells, h5, PO, hx]
        have := List.getElem?_eq_some_iff.1 hu
        obtain ⟨_, e⟩ := this
        rw [e]; exact h5
      · simp [hw, hc, h0, hn, hd2, hlt2, hne2, Tok.cells, h5, PO, hx]
    · simp [hw, hc, h0, hn, hd2, hlt2, hne2, Tok.cells, h5, PO]
  · have hc : ¬ (s.at_ : Int) + 1 < toks.length := by omega
    simp [hw, hc, PO]

end Go.Proofs.Ytoaodlfmhioigaa
end

section
namespace Go.Proofs.Ytoaodlfmhioigaa

def letterB (c : UInt8) : Bool := (decide (97 ≤ c) && decide (c ≤ 122)) || (decide (65 ≤ c) && decide (c ≤ 90)) || decide (c = 95)
def digitB (c : UInt8) : Bool := decide (48 ≤ c) && decide (c ≤ 57)
def wordsB : Bytes := [32, 97, 112, 112, 101, 110, 100, 32, 98, 111, 111, 108, 32, 98, 114, 101, 97, 107, 32, 99, 97, 112, 32, 99, 97, 115, 101, 32, 99, 104, 97, 110, 32, 99, 108, 111, 115, 101, 32, 99, 111, 110, 116, 105, 110, 117, 101, 32, 100, 101, 102, 97, 117, 108, 116, 32, 100, 101, 102, 101, 114, 32, 101, 108, 115, 101, 32, 102, 97, 108, 108, 116, 104, 114, 111, 117, 103, 104, 32, 102, 97, 108, 115, 101, 32, 102, 111, 114, 32, 102, 117, 110, 99, 32, 103, 111, 32, 105, 102, 32, 105, 110, 116, 32, 108, 101, 110, 32, 109, 97, 107, 101, 32, 110, 101, 119, 32, 110, 105, 108, 32, 112, 97, 110, 105, 99, 32, 112, 114, 105, 110, 116, 32, 114, 101, 99, 111, 118, 101, 114, 32, 114, 101, 116, 117, 114, 110, 32, 115, 101, 108, 101, 99, 116, 32, 115, 116, 114, 105, 110, 103, 32, 115, 116, 114, 117, 99, 116, 32, 115, 119, 105, 116, 99, 104, 32, 116, 114, 117, 101, 32, 116, 121, 112, 101, 32, 118, 97, 114, 32]
/-- A name's text. -/
def nameOk (x : Bytes) : Prop := (∃ c r, x = c :: r ∧ letterB c = true) ∧ (∀ c ∈ x, letterB c = true ∨ digitB c = true) ∧ x.length ≤ 24 ∧ inW x wordsB = false

/-- What is known of a token at a place. -/
structure TokOk (toks : List Tok) (i : Nat) (t : Tok) : Prop where
  last : t.kind ≠ 6 → i + 1 < toks.length
  text : t.text.length < 1048576
  pos : 0 ≤ t.at_
  name : t.kind = 1 → nameOk t.text
structure TK (toks : List Tok) : Prop where
  len : toks.length < 1048576
  ok : ∀ i t, toks[i]? = some t → TokOk toks i t

/-- From one place to one further on. -/
structure Fwd (toks : List Tok) (s s' : PS) : Prop where
  le : s.at_ ≤ s'.at_
  lt : s'.at_ < toks.length
  bad : s'.bad < 0 → s.bad < 0

theorem Fwd.refl {toks : List Tok} {s : PS} (h : s.at_ < toks.length) : Fwd toks s s := ⟨Nat.le_refl _, h, id⟩
theorem Fwd.trans {toks : List Tok} {a b c : PS} (h : Fwd toks a b) (k : Fwd toks b c) : Fwd toks a c := ⟨Nat.le_trans h.le k.le, k.lt, fun x => h.bad (k.bad x)⟩

def meas (toks : List Tok) (s : PS) : Nat := if s.bad < 0 then toks.length + 1 - s.at_ else 0

theorem tok_at {toks : List Tok} {s : PS} (h : s.at_ < toks.length) : ∃ t, toks[s.at_]? = some t := ⟨_, List.getElem?_eq_getElem h⟩
theorem fwd_wrong {toks : List Tok} (hk : TK toks) {s : PS} {t : Tok} (ht : toks[s.at_]? = some t) : Fwd toks s (s.wrong t) ∧ ¬ (s.wrong t).bad < 0 := by
  have h := (List.getElem?_eq_some_iff.1 ht).1
  have hp := (hk.ok _ _ ht).pos
  unfold PS.wrong
  split
  · rename_i hb
    exact ⟨⟨Nat.le_refl _, h, fun _ => hb⟩, by simp; omega⟩
  · exact ⟨Fwd.refl h, by assumption⟩
theorem is_facts {s : PS} {t : Tok} {x : Bytes} (h : s.is t x = true) : s.bad < 0 ∧ t.kind ≠ 6 ∧ t.text = x := by
  simp [PS.is] at h
  refine ⟨h.1.1, ?_, h.2⟩
  rcases h.1.2 with e | e <;> rw [e] <;> decide
theorem among_facts {s : PS} {t : Tok} {x : Bytes} (h : s.among t x = true) : s.bad < 0 ∧ t.kind ≠ 6 ∧ inW t.text x = true := by
  simp [PS.among] at h
  refine ⟨h.1.1, ?_, h.2⟩
  rcases h.1.2 with e | e <;> rw [e] <;> decide
/-- One token further. -/
def PS.next (s : PS) : PS := { s with at_ := s.at_ + 1 }
theorem fwd_next {toks : List Tok} (hk : TK toks) {s : PS} {t : Tok} (ht : toks[s.at_]? = some t) (h6 : t.kind ≠ 6) : Fwd toks s s.next := ⟨Nat.le_succ _, (hk.ok _ _ ht).last h6, id⟩
theorem meas_next {toks : List Tok} {s : PS} (h : s.at_ < toks.length) (hb : s.bad < 0) : meas toks s.next < meas toks s := by
  unfold meas PS.next
  simp [hb]
  omega
theorem meas_fwd {toks : List Tok} {s s' : PS} (h : Fwd toks s s') : meas toks s' ≤ meas toks s := by
  unfold meas
  have := h.le
  have := h.bad
  split
  · rename_i hb
    rw [if_pos (h.bad hb)]
    omega
  · omega
theorem meas_lt {toks : List Tok} {s s' : PS} (h : Fwd toks s s') (hb : s.bad < 0) (hp : s'.bad < 0 → s.at_ < s'.at_) : meas toks s' < meas toks s := by
  unfold meas
  have := h.lt
  have := h.le
  rw [if_pos hb]
  split
  · rename_i hb'
    have := hp hb'
    omega
  · omega
theorem fwd_want {toks : List Tok} (hk : TK toks) {s : PS} {t : Tok} (x : Bytes) (ht : toks[s.at_]? = some t) : Fwd toks s (s.want t x) ∧ ((s.want t x).bad < 0 → s.at_ < (s.want t x).at_) := by
  unfold PS.want
  split
  · rename_i h
    obtain ⟨h1, h2, _⟩ := is_facts h
    exact ⟨fwd_next hk ht h2, fun _ => Nat.lt_succ_self _⟩
  · exact ⟨(fwd_wrong hk ht).1, fun h => absurd h (fwd_wrong hk ht).2⟩
theorem fwd_got {toks : List Tok} (hk : TK toks) {s : PS} {t : Tok} (x : Bytes) (ht : toks[s.at_]? = some t) : Fwd toks s (s.got t x) := by
  unfold PS.got
  split
  · rename_i h
    obtain ⟨h1, h2, _⟩ := is_facts h
    exact fwd_next hk ht h2
  · exact Fwd.refl (List.getElem?_eq_some_iff.1 ht).1
theorem fwd_name {toks : List Tok} (hk : TK toks) {s : PS} {t : Tok} (ht : toks[s.at_]? = some t) : Fwd toks s (s.name t) ∧ ((s.name t).bad < 0 → s.at_ < (s.name t).at_ ∧ nameOk t.text ∧ s.isName t = true) := by
  unfold PS.name
  split
  · rename_i h
    have h' := h
    simp [PS.isName] at h
    exact ⟨fwd_next hk ht (by rw [h.2]; decide), fun _ => ⟨Nat.lt_succ_self _, (hk.ok _ _ ht).name h.2, h'⟩⟩
  · exact ⟨(fwd_wrong hk ht).1, fun h => absurd h (fwd_wrong hk ht).2⟩

/-- What a function that reads a node does. -/
def NodeR (toks : List Tok) (s : PS) (r : AV) (o : List AO) : Prop := ∃ (t : Tr) (s' : PS), r = t.av ∧ o = [PO toks s'] ∧ Fwd toks s s' ∧ (s'.bad < 0 → s.at_ < s'.at_)

def noneT : Tr := .mk 8 [] 0 0 [] 0 []
/-- A type's tree. -/
inductive TyOk : Tr → Prop
  | base (k a : Int) (h : k = 9 ∨ k = 10 ∨ k = 11) : TyOk (.mk k [] 0 a [] 0 [])
  | ptr (a : Int) (x : Bytes) (h : nameOk x) : TyOk (.mk 12 x 0 a [] 0 [])
  | of (k a : Int) (t : Tr) (hk : k = 13 ∨ k = 14) (h : TyOk t) : TyOk (.mk k [] 0 a [] 0 [t])
  | func (a : Int) (ps : List Tr) (r : Tr) (h : ∀ p ∈ ps, TyOk p) (hr : TyOk r) : TyOk (.mk 15 [] 0 a [] 0 (ps ++ [r]))
  | proc (a : Int) (ps : List Tr) (h : ∀ p ∈ ps, TyOk p) : TyOk (.mk 15 [] 0 a [] 0 (ps ++ [noneT]))
mutual
/-- How much a type weighs: no more than the tokens that it is read from. -/
def wt : Tr → Nat
  | .mk k _ _ _ _ _ kids => (if k = 8 then 0 else 1) + wts kids
def wts : List Tr → Nat
  | [] => 0
  | t :: l => wt t + wts l
end
theorem wts_append : ∀ l m : List Tr, wts (l ++ m) = wts l + wts m
  | [], m => by simp [wts]
  | t :: l, m => by simp [wts, wts_append l m]; omega
theorem wt_one (k a : Int) (x : Bytes) (h : k ≠ 8) : wt (.mk k x 0 a [] 0 []) = 1 := by simp [wt, wts, h]
theorem wt_kid (k a : Int) (t : Tr) (h : k ≠ 8) : wt (.mk k [] 0 a [] 0 [t]) = 1 + wt t := by simp [wt, wts, h]
theorem wt_kids (k a : Int) (l : List Tr) (h : k ≠ 8) : wt (.mk k [] 0 a [] 0 l) = 1 + wts l := by simp [wt, h]
theorem wt_none : wt noneT = 0 := by simp [wt, wts, noneT]
theorem wts_snoc (l : List Tr) (t : Tr) : wts (l ++ [t]) = wts l + wt t := by simp [wts_append, wts]
def TypR (toks : List Tok) (s : PS) (r : AV) (o : List AO) : Prop := ∃ (t : Tr) (s' : PS), r = t.av ∧ o = [PO toks s'] ∧ Fwd toks s s' ∧ (s'.bad < 0 → s.at_ < s'.at_ ∧ TyOk t ∧ wt t + s.at_ ≤ s'.at_)

def typeB : Bytes := [32, 105, 110, 116, 32, 98, 111, 111, 108, 32, 115, 116, 114, 105, 110, 103, 32, 42, 32, 91, 32, 99, 104, 97, 110, 32, 102, 117, 110, 99, 32]
end Go.Proofs.Ytoaodlfmhioigaa
end
