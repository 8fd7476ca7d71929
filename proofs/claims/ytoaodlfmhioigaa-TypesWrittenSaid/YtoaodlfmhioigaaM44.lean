/- A part of the proof of TypesWrittenSaid. No condition. -/
import Derived.Test.YtoaodlfmhioigaaM42
import Derived.Test.YtoaodlfmhioigaaM7
import Derived.Test.YtoaodlfmhioigaaM5
set_option linter.unusedSimpArgs false
set_option linter.unusedVariables false
section
namespace Go.Proofs.Ytoaodlfmhioigaa
open Go.RowKit

/-- What only makes new memory goes on. -/
theorem Goes.below {X W : Nat → Prop} {w w' : World} (h : SR X [] w []) (hb : Below w.heap.size w w') : Goes X W [] [] w w' [] [] := by
  have hc : ∀ o b g, curOf [] [] o ≠ some (b, g) := fun o b g e => by obtain ⟨a, h1, _⟩ := curOf_some e; simp at h1
  refine ⟨⟨rfl, fun b ⟨o, g, e⟩ => absurd e (hc o b g), fun b hx => Nat.lt_of_lt_of_le (h.xlt b hx) hb.size, fun o _ b g _ e => absurd e (hc o b g), fun o a b ho => by simp at ho⟩, ?_, ⟨hb.os, hb.tape, hb.output, hb.size, fun k hk _ => hb.block k hk⟩, fun i b g e => absurd e (hc i b g)⟩
  refine ⟨fun o g ⟨a, ha, _⟩ => by simp at ha, fun o b g ⟨a, ha, _⟩ => by simp at ha, fun b ⟨d1, d2, d3⟩ => ⟨Nat.lt_of_lt_of_le d1 hb.size, fun ⟨o, g, e⟩ => absurd e (hc o b g), d3⟩, fun b i ⟨d1, _⟩ => ?_⟩
  exact cell_block (hb.block b d1)

theorem tx_mk (x : Bytes) : TS.tx ⟨x.toArray⟩ = x := by simp [TS.tx]
theorem size_tx (x : Bytes) : (⟨x.toArray⟩ : ByteArray).size = x.length := by simp [ByteArray.size]

theorem tri_valid (x : Bytes) (h : x.length ≤ 4000000) : TriE Try.prog 7 [S x] [] (B (TypesText.isType x)) [] := by
  intro X ρ w us hs hv
  match us, hv with
  | [u], ⟨hu, _⟩ =>
    obtain rfl : u = .string ⟨x.toArray⟩ := hu
    obtain rfl : ρ = [] := List.eq_nil_of_length_eq_zero hs.len
    refine (TS.valid_any ⟨x.toArray⟩ w (by rw [size_tx]; exact h)).mono ?_
    rintro e w' ⟨rfl, hb⟩
    rw [tx_mk]
    exact ⟨_, _, _, [], rfl, ⟨rfl, rfl⟩, Goes.below hs hb, rfl⟩
  | [], hv => exact hv.elim
  | _ :: _ :: _, ⟨_, hv⟩ => exact hv.elim
theorem tri_nilable (x : Bytes) (h : x.length ≤ 4000000) : TriE Try.prog 10 [S x] [] (B (TypesText.nilable x)) [] := by
  intro X ρ w us hs hv
  match us, hv with
  | [u], ⟨hu, _⟩ =>
    obtain rfl : u = .string ⟨x.toArray⟩ := hu
    obtain rfl : ρ = [] := List.eq_nil_of_length_eq_zero hs.len
    refine (TS.nilable_any ⟨x.toArray⟩ w (by rw [size_tx]; exact h)).mono ?_
    rintro e w' ⟨rfl, hb⟩
    rw [tx_mk]
    exact ⟨_, _, _, [], rfl, ⟨rfl, rfl⟩, Goes.below hs hb, rfl⟩
  | [], hv => exact hv.elim
  | _ :: _ :: _, ⟨_, hv⟩ => exact hv.elim
theorem tri_elem (x : Bytes) (h : x.length ≤ 4000000) : TriE Try.prog 9 [S x] [] (.tup [S (TypesText.elem x).1, B (TypesText.elem x).2]) [] := by
  intro X ρ w us hs hv
  match us, hv with
  | [u], ⟨hu, _⟩ =>
    obtain rfl : u = .string ⟨x.toArray⟩ := hu
    obtain rfl : ρ = [] := List.eq_nil_of_length_eq_zero hs.len
    refine (TS.elem_any ⟨x.toArray⟩ w (by rw [size_tx]; exact h)).mono ?_
    rintro e w' ⟨rfl, hb⟩
    rw [tx_mk]
    exact ⟨_, _, _, [], rfl, ⟨rfl, rfl⟩, Goes.below hs hb, ⟨_, rfl, rfl, rfl, trivial⟩⟩
  | [], hv => exact hv.elim
  | _ :: _ :: _, ⟨_, hv⟩ => exact hv.elim
theorem tri_fits (x y : Bytes) (hy : y.length ≤ 4000000) : TriE Try.prog 11 [S x, S y] [] (B (TypesText.fits x y)) [] := by
  intro X ρ w us hs hv
  match us, hv with
  | [u, v], ⟨hu, hv, _⟩ =>
    obtain rfl : u = .string ⟨x.toArray⟩ := hu
    obtain rfl : v = .string ⟨y.toArray⟩ := hv
    obtain rfl : ρ = [] := List.eq_nil_of_length_eq_zero hs.len
    refine (TS.fits_any ⟨x.toArray⟩ ⟨y.toArray⟩ w (by rw [size_tx]; exact hy)).mono ?_
    rintro e w' ⟨rfl, hb⟩
    rw [tx_mk, tx_mk]
    exact ⟨_, _, _, [], rfl, ⟨rfl, rfl⟩, Goes.below hs hb, rfl⟩
  | [], hv => exact hv.elim
  | [_], ⟨_, hv⟩ => exact hv.elim
  | _ :: _ :: _ :: _, ⟨_, _, hv⟩ => exact hv.elim
theorem tri_equals (x y : Bytes) (hx : x.length ≤ 4000000) (hy : y.length ≤ 4000000) : TriE Try.prog 12 [S x, S y] [] (B (TypesText.equals x y)) [] := by
  intro X ρ w us hs hv
  match us, hv with
  | [u, v], ⟨hu, hv, _⟩ =>
    obtain rfl : u = .string ⟨x.toArray⟩ := hu
    obtain rfl : v = .string ⟨y.toArray⟩ := hv
    obtain rfl : ρ = [] := List.eq_nil_of_length_eq_zero hs.len
    refine (TS.equals_any ⟨x.toArray⟩ ⟨y.toArray⟩ w (by rw [size_tx]; exact hx) (by rw [size_tx]; exact hy)).mono ?_
    rintro e w' ⟨rfl, hb⟩
    rw [tx_mk, tx_mk]
    exact ⟨_, _, _, [], rfl, ⟨rfl, rfl⟩, Goes.below hs hb, rfl⟩
  | [], hv => exact hv.elim
  | [_], ⟨_, hv⟩ => exact hv.elim
  | _ :: _ :: _ :: _, ⟨_, _, hv⟩ => exact hv.elim

/-- A row of texts that is a function's own. -/
theorem vec_of_own {X : Nat → Prop} {w w' : World} {v : Value} {n : Nat} {xs : List Bytes} (h : SR X [] w []) (hb : Below w.heap.size w w') (ho : w'.ownsRow w.heap.size 9 1 v n (xs.map TS.strV)) : VR (envOf X [] w' []) (.vec 1 n (xs.map fun x => S x)) v := by
  obtain ⟨hl, ho⟩ := ho
  simp at hl
  rcases ho with ⟨rfl, rfl⟩ | ⟨g, cap, cur, rfl, hg, hcell, hnc, hcm, hcs, htk⟩
  · obtain rfl := List.eq_nil_of_length_eq_zero hl
    exact ⟨none, 0, rfl, Nat.le_refl _, Nat.zero_le _, rfl, fun e => absurd rfl e⟩
  · refine ⟨_, cap, rfl, hnc, hcm, by simp [hl], fun _ => ⟨g, 0, rfl, ⟨(Array.getElem?_eq_some_iff.1 hcell).1, fun ⟨o, q, e⟩ => by obtain ⟨a, h1, _⟩ := curOf_some e; simp at h1, fun hx => by have := h.xlt g hx; omega⟩, ?_⟩⟩
    have key : ∀ (ys : List Bytes) (off : Nat), (∀ j y, ys[j]? = some y → cur[off + j]? = some (TS.strV y)) → VC (envOf X [] w' []).nr g off (ys.map fun x => S x) := by
      intro ys
      induction ys with
      | nil => intro off _; trivial
      | cons y ys ih =>
        intro off hy
        refine ⟨⟨TS.strV y, ?_, rfl⟩, ih (off + 1) (fun j z hz => by have := hy (j + 1) z (by simpa using hz); rw [show off + 1 + j = off + (j + 1) by omega]; exact this)⟩
        have h0 := hy 0 y rfl
        show w'.cell? ⟨g, off, none⟩ = _
        simp [World.cell?, hcell]
        simpa using h0
    refine key xs 0 (fun j y hj => ?_)
    have h1 : (cur.toList.take (n * 1))[j]? = some (TS.strV y) := by rw [htk, List.getElem?_map, hj]; rfl
    rw [List.getElem?_take] at h1
    split at h1
    · rw [Nat.zero_add, ← Array.getElem?_toList]; exact h1
    · cases h1
theorem tri_func (x : Bytes) (h : x.length ≤ 4000000) : TriE Try.prog 8 [S x] [] (.tup [.vec 1 (TypesText.fparts x).1.length ((TypesText.fparts x).1.map fun y => S y), S (TypesText.fparts x).2, B (TypesText.isFunc x)]) [] := by
  intro X ρ w us hs hv
  match us, hv with
  | [u], ⟨hu, _⟩ =>
    obtain rfl : u = .string ⟨x.toArray⟩ := hu
    obtain rfl : ρ = [] := List.eq_nil_of_length_eq_zero hs.len
    refine (TS.func14_any ⟨x.toArray⟩ w (by rw [size_tx]; exact h)).mono ?_
    rintro e w' ⟨v, rfl, hb, ho⟩
    rw [tx_mk] at ho ⊢
    exact ⟨_, _, _, [], rfl, ⟨rfl, rfl⟩, Goes.below hs hb, ⟨_, rfl, vec_of_own hs hb ho, rfl, rfl, trivial⟩⟩
  | [], hv => exact hv.elim
  | _ :: _ :: _, ⟨_, hv⟩ => exact hv.elim

/-- Texts are put together with a comma between. -/
theorem tri_join (xs : List Bytes) (h : xs.length ≤ 1000000) (hl : (Lib.join xs [44]).length ≤ 140737488355328) : TriE Try.prog 18 [.vec 1 xs.length (xs.map fun x => S x), S [44]] [] (S (Lib.join xs [44])) [] := by
  intro X ρ w us hs hv
  match us, hv with
  | [u, v], ⟨⟨a, c, hu, hnc, hcm, _, hcell⟩, hv, _⟩ =>
    obtain rfl : v = .string ⟨#[44]⟩ := hv
    obtain rfl : ρ = [] := List.eq_nil_of_length_eq_zero hs.len
    subst hu
    by_cases hx : xs = []
    · subst hx
      refine (Try.strings_Join_none a c ⟨#[44]⟩ w).mono ?_
      rintro e w' ⟨rfl, rfl⟩
      exact ⟨_, _, _, [], rfl, ⟨rfl, rfl⟩, Goes.refl hs, rfl⟩
    · obtain ⟨b, off, rfl, hd, hvc⟩ := hcell (by simpa using hx)
      have hj := Try.strings_Join b off c (xs.map fun x => ⟨x.toArray⟩) ⟨#[44]⟩ w (fun j x hj => by
        rw [List.getElem?_map] at hj
        obtain ⟨y, hy, rfl⟩ := Option.map_eq_some_iff.1 hj
        obtain ⟨v, e1, e2⟩ := VC.get j hvc (x := S y) (by rw [List.getElem?_map, hy]; rfl)
        rw [show v = .string ⟨y.toArray⟩ from e2] at e1
        exact e1) hd.1 (by simp; omega) (by simpa using hnc) (by simpa [Function.comp_def] using hl)
      simp only [List.length_map] at hj
      refine hj.mono ?_
      rintro e w' ⟨rfl, hb⟩
      refine ⟨_, _, _, [], rfl, ⟨rfl, rfl⟩, Goes.below hs hb, ?_⟩
      show _ = _
      simp [Function.comp_def]
  | [], hv => exact hv.elim
  | [_], ⟨_, hv⟩ => exact hv.elim
  | _ :: _ :: _ :: _, ⟨_, _, hv⟩ => exact hv.elim
end Go.Proofs.Ytoaodlfmhioigaa
end

section
namespace Go.Proofs.Ytoaodlfmhioigaa

mutual
/-- A type's text. -/
def txt : Tr → Bytes
  | .mk k x _ _ _ _ kids =>
    if k = 9 then [105, 110, 116] else if k = 10 then [98, 111, 111, 108] else if k = 11 then [115, 116, 114, 105, 110, 103] else if k = 12 then 42 :: x
    else if k = 13 then [91, 93] ++ (txts kids).headD [] else if k = 14 then [99, 104, 97, 110, 32] ++ (txts kids).headD []
    else if k = 15 then [102, 117, 110, 99, 40] ++ Lib.join (txts kids).dropLast [44] ++ [41] ++ (txts kids).getLastD [] else []
def txts : List Tr → List Bytes
  | [] => []
  | t :: l => txt t :: txts l
end
theorem txts_length : ∀ l : List Tr, (txts l).length = l.length
  | [] => rfl
  | t :: l => by simp [txts, txts_length l]
theorem txts_append : ∀ l m : List Tr, txts (l ++ m) = txts l ++ txts m
  | [], m => rfl
  | t :: l, m => by simp [txts, txts_append l m]
theorem txts_take : ∀ (l : List Tr) (n : Nat), txts (l.take n) = (txts l).take n
  | [], n => by simp [txts]
  | t :: l, 0 => by simp [txts]
  | t :: l, n + 1 => by simp [txts, txts_take l n]
def sumL (l : List Bytes) : Nat := (l.map fun x => x.length + 1).sum
theorem join_le (l : List Bytes) : (Lib.join l [44]).length ≤ sumL l := by
  cases l with
  | nil => simp [sumL, Lib.join_nil]
  | cons x r =>
    rw [Lib.join_length]
    have : ∀ l : List Bytes, Lib.lens l + l.length = sumL l := by
      intro l
      induction l with
      | nil => rfl
      | cons y l ih => simp only [Lib.lens, sumL, List.map_cons, List.sum_cons, List.length_cons] at ih ⊢; omega
    have := this (x :: r)
    simp at this ⊢
    omega
/-- A type's text is short. -/
theorem txt_le {t : Tr} (h : TyOk t) : (txt t).length + 1 ≤ 40 * wt t := by
  induction h with
  | base k a h =>
    rcases h with rfl | rfl | rfl <;> simp [txt, wt, wts]
  | ptr a x h =>
    have := h.2.2.1
    simp [txt, wt, wts]
    omega
  | of k a t hk h ih =>
    rcases hk with rfl | rfl <;> simp [txt, txts, wt, wts] <;> omega
  | func a ps r h hr ih ihr =>
    have hs : sumL (txts ps) ≤ 40 * wts ps := by
      clear h
      induction ps with
      | nil => simp [txts, sumL]
      | cons p ps ihp =>
        have h1 := ih p (by simp)
        have h2 := ihp (fun q hq => ih q (by simp [hq]))
        simp only [txts, sumL, List.map_cons, List.sum_cons, wts] at h2 ⊢
        omega
    have hj := join_le (txts ps)
    simp [txt, txts_append, txts, wt, wts_append, wts]
    omega
  | proc a ps h ih =>
    have hs : sumL (txts ps) ≤ 40 * wts ps := by
      clear h
      induction ps with
      | nil => simp [txts, sumL]
      | cons p ps ihp =>
        have h1 := ih p (by simp)
        have h2 := ihp (fun q hq => ih q (by simp [hq]))
        simp only [txts, sumL, List.map_cons, List.sum_cons, wts] at h2 ⊢
        omega
    have hj := join_le (txts ps)
    simp [txt, txts_append, txts, wt, wts_append, wts, noneT]
    omega

theorem vecNx (n : Nat) (cs : List AV) : vecN (n + 1) cs = .vec 7 (n + 1) cs := rfl
theorem closed_S (f : Nat → Bool) : ∀ l : List Bytes, AV.closedL f (l.map fun x => S x) = true
  | [] => rfl
  | x :: l => by simp [closed_S f l]
@[simp] theorem frz_mapS (os : List AO) (K : Nat → Bool) (d : Nat) (l : List Bytes) : (l.map fun x => S x).map (frz os K d) = l.map fun x => S x := by
  rw [List.map_map]
  apply List.map_congr_left
  intro x _
  cases d <;> rfl
@[simp] theorem closed_mapS (f : Nat → Bool) (l : List Bytes) : AV.closedL f (l.map fun x => S x) = true := closed_S f l
@[simp] theorem frz_compS (os : List AO) (K : Nat → Bool) (d : Nat) (l : List Bytes) : l.map (frz os K d ∘ fun x => S x) = l.map fun x => S x := by
  rw [← List.map_map]
  exact frz_mapS os K d l
theorem tri_join0 : TriE Try.prog 18 [.vec 0 0 [], S [44]] [] (S []) [] := by
  intro X ρ w us hs hv
  match us, hv with
  | [u, v], ⟨⟨a, c, hu, _⟩, hv, _⟩ =>
    obtain rfl : v = .string ⟨#[44]⟩ := hv
    obtain rfl : ρ = [] := List.eq_nil_of_length_eq_zero hs.len
    subst hu
    refine (Try.strings_Join_none a c ⟨#[44]⟩ w).mono ?_
    rintro e w' ⟨rfl, rfl⟩
    exact ⟨_, _, _, [], rfl, ⟨rfl, rfl⟩, Goes.refl hs, rfl⟩
  | [], hv => exact hv.elim
  | [_], ⟨_, hv⟩ => exact hv.elim
  | _ :: _ :: _ :: _, ⟨_, _, hv⟩ => exact hv.elim
abbrev NO (t : Tr) : AO := ⟨true, 0, none, 25, t.cells⟩
/-- The closure: the text of the first kid. -/
theorem t_kid (t k : Tr) (ks : List Tr) (hk : ∃ q x n a y r, t = .mk q x n a y r (k :: ks)) (h : TriE Try.prog 6 [k.av] [] (S (txt k)) []) : TriE Try.prog 17 [.ref 0 0 0] [NO t] (S (txt k)) [NO t] := by
  obtain ⟨q, x, n, a, y, r, rfl⟩ := hk
  obtain ⟨k1, x1, n1, a1, y1, r1, kids1⟩ := k
  simp only [Tr.av, Tr.cells] at h
  have hne : ¬ ((ks.length : Int) + 1 = 0) := by omega
  have hlt : (0 : Int) < (ks.length : Int) + 1 := by omega
  refine tri_by Try.func17 (by rfl) _ Try.ntmps17 _ (by rfl) ?_
  simp [Tr.cells, vecNx, flatN, hne, hlt]
  refine acallC_by 0 (h) ?_ (by kernel_rfl) ?_ ?_ ?_ ?_ ?_ ?_ ?_ ?_ ?_ <;> simp [Tr.cells, vecNx, flatN]

set_option maxRecDepth 20000 in
theorem t_of_none : TriE Try.prog 6 [noneT.av] [] (S []) [] := by
  refine tri_by Try.func6 (by rfl) _ Try.ntmps6 _ (by rfl) ?_
  simp [noneT, Tr.av, Tr.cells, vecN]

def ofF (t : Tr) (K : List Tr) (m : Nat) (v : Nat → AV) : Nat → AS
  | 0 => ⟨[v 0, .ref 0 0 0, S [], .fn (.func 17) [] [.ref 0 0 0], .val (.slice none 0 0), v 5, v 6, v 7, v 8, v 9, v 10, v 11, v 12, v 13, v 14, v 15, v 16, v 17, v 18, v 19, v 20, v 21, v 22, v 23, v 24, v 25, v 26, v 27, v 28, v 29, v 30, v 31, v 32, v 33, .vec 7 (m + 1) (flatN K), I ((m : Int) + 1), I 0, v 37, v 38, v 39, v 40, v 41, v 42, v 43, v 44, v 45, v 46, v 47, v 48, v 49, v 50, v 51, v 52, v 53, v 54, v 55, v 56, v 57, v 58, v 59, v 60, v 61, v 62, v 63], [NO t]⟩
  | n + 1 => ⟨[v 0, .ref 0 0 0, S [], .fn (.func 17) [] [.ref 0 0 0], .row 3 1 0 (n + 1) n, v 5, v 6, v 7, v 8, v 9, v 10, v 11, v 12, v 13, v 14, v 15, v 16, v 17, v 18, v 19, v 20, v 21, v 22, v 23, v 24, v 25, v 26, v 27, v 28, v 29, v 30, v 31, v 32, v 33, .vec 7 (m + 1) (flatN K), I ((m : Int) + 1), I ((n : Int) + 1), v 37, v 38, v 39, v 40, v 41, v 42, v 43, v 44, v 45, v 46, v 47, v 48, v 49, v 50, v 51, v 52, v 53, v 54, v 55, v 56, v 57, v 58, v 59, v 60, v 61, v 62, v 63], [NO t, ⟨true, 0, none, 25, ((K[0]?).getD noneT).cells⟩, ⟨true, 0, some 1, 9, [S (((txts K)[0]?).getD [])]⟩, ⟨true, n, some 1, 9, ((txts K).take (n + 1)).map fun x => S x⟩]⟩
set_option maxRecDepth 20000 in
set_option maxHeartbeats 4000000 in
theorem t_of_func (a : Int) (K : List Tr) (m : Nat) (hm : K.length = m + 1) (hK : ∀ k ∈ K, TriE Try.prog 6 [k.av] [] (S (txt k)) []) (hb : m < 1000000) (hl : (txt (.mk 15 [] 0 a [] 0 K)).length < 1000000000) : TriE Try.prog 6 [(Tr.mk 15 [] 0 a [] 0 K).av] [] (S (txt (.mk 15 [] 0 a [] 0 K))) [] := by
  obtain ⟨t, ht⟩ : ∃ t, t = Tr.mk 15 [] 0 a [] 0 K := ⟨_, rfl⟩
  have htc : t.cells = [I 15, S [], I 0, I a, S [], I 0, .vec 7 (m + 1) (flatN K)] := by rw [ht, Tr.cells, hm]; rfl
  rw [← ht]
  have main : Tri Try.prog 6 [t.av] [] fun r o => r = S (txt t) ∧ o = [] := by
    refine tri_by Try.func6 (by rfl) _ Try.ntmps6 _ (by rfl) ?_
    simp [Tr.av, htc]
    refine loopC_to 1 (ofF t K m) (fun i => i ≤ m + 1) (fun i => i = m + 1) (fun i => m + 1 - i) 0 (by simp [ofF, htc]) (Nat.zero_le _) ?_ ?_
    · rintro v i hi
      by_cases hlt : i < m + 1
      · obtain ⟨kl, k, kr, hKs, hkl⟩ : ∃ kl k kr, K = kl ++ k :: kr ∧ kl.length = i := ⟨K.take i, K[i], K.drop (i + 1), by rw [List.getElem_cons_drop, List.take_append_drop], by simp; omega⟩
        have hk := hK k (by rw [hKs]; simp)
        have hN : flatN K = flatN kl ++ (k.cells ++ flatN kr) := by rw [hKs, flatN_append]; rfl
        have hNl : (flatN kl).length = i * 7 := by rw [flatN_length, hkl]
        have hd : ∀ r : List AV, (flatN kl ++ r).drop (i * 7) = r := fun r => by rw [← hNl, List.drop_left]
        have hT : (txts K)[i]? = some (txt k) := by rw [hKs, txts_append, List.getElem?_append_right (by rw [txts_length, hkl]; exact Nat.le_refl _), txts_length, hkl]; simp [txts]
        have hltz : (i : Int) < (m : Int) + 1 := by omega
        obtain ⟨k1, x1, n1, a1, y1, r1, kids1⟩ := k
        simp only [Tr.av, Tr.cells] at hk hN
        have hdK : (flatN K).drop (i * 7) = [I k1, S x1, I n1, I a1, S y1, I r1, vecN kids1.length (flatN kids1)] ++ flatN kr := by rw [hN, hd]
        have hKl : (flatN K).length = (m + 1) * 7 := by rw [flatN_length, hm]
        have h7 : 7 ≤ (m + 1) * 7 := by omega
        have hKne : ¬ flatN K = [] := fun e => by rw [e] at hKl; simp at hKl
        cases i with
        | zero =>
          have hl0 := List.eq_nil_of_length_eq_zero hkl
          subst hl0
          have hK0 : K[0]? = some (.mk k1 x1 n1 a1 y1 r1 kids1) := by rw [hKs]; rfl
          have hT0 : (txts K).take 1 = [txt (.mk k1 x1 n1 a1 y1 r1 kids1)] := by rw [hKs]; simp [txts]
          have ht7 : (flatN K).take 7 = [I k1, S x1, I n1, I a1, S y1, I r1, vecN kids1.length (flatN kids1)] := by rw [hN]; rfl
          have hz : (0 : Int) < (m : Int) + 1 := by omega
          simp [ofF, htc, hKl, h7, ht7, hz, hKne]
          refine acallC_by 0 (hk) ?_ (by kernel_rfl) ?_ ?_ ?_ ?_ ?_ ?_ ?_ ?_ ?_ <;> simp [htc]
          refine Again.mk 4 (1) (by simp) (by simp) (by simp) rfl ?_ ?_ ?_
          · simp [ofF, htc, hK0, hT, hT0, Tr.cells]
          · exact hlt
          · show m + 1 - 1 < m + 1 - 0; omega
        | succ n =>
          have hw := wrap_one (n := n + 1) (by omega)
          have hw' : IntKind.i64.wrap ((n : Int) + 1 + 1) = (n : Int) + 1 + 1 := by simpa using hw
          have hltz' : (n : Int) + 1 < (m : Int) + 1 := by omega
          have hlt' : n < m := by omega
          have hnn : (0 : Int) ≤ (n : Int) + 1 := by omega
          have htn : ((n : Int) + 1).toNat = n + 1 := by omega
          have hll : (txts K).length = m + 1 := by rw [txts_length, hm]
          obtain ⟨hq1, hq2⟩ := len_ok (n := n + 1 + 1) (by omega)
          have hq3 : (n + 1 + 1) * 16 ≤ 140737488355328 := Nat.le_trans (Nat.mul_le_mul_left _ (by decide)) hq2
          have hmin : min (n + 1) (m + 1) = n + 1 := by omega
          have htk : (((txts K).take (n + 1)).map fun x => S x).take (n + 1) = ((txts K).take (n + 1)).map fun x => S x := List.take_of_length_le (by simp; omega)
          have hT2 : (txts K).take (n + 1 + 1) = (txts K).take (n + 1) ++ [txt (.mk k1 x1 n1 a1 y1 r1 kids1)] := by rw [List.take_add_one, hT]; rfl
          simp [ofF, htc, hltz', hlt', hdK, hnn, htn, hKne]
          refine acallC_by 0 (hk) ?_ (by kernel_rfl) ?_ ?_ ?_ ?_ ?_ ?_ ?_ ?_ ?_ <;> simp [htc, hw', hll, hmin, hq1, hq3]
          have hcl : AV.closedL (fun o => decide (o < 4)) (((((txts K).map fun x => S x).take (n + 1)).take (n + 1))) = true := by rw [← List.map_take, ← List.map_take]; exact closed_S _ _
          refine Again.mk 4 (n + 1 + 1) (by simp) (by simp) (by simp [htc, hcl]) rfl ?_ ?_ ?_
          · simp [ofF, htc, hT2, hll, List.take_take]
          · exact hlt
          · omega
      · obtain rfl : i = m + 1 := by omega
        simp [ofF, htc]
        refine Left.mk ((m + 1)) rfl ?_ ?_
        · simp [ofF, htc]
        · rfl
    · rintro v i rfl
      have hne : ¬ (m : Int) + 1 = 0 := by omega
      obtain ⟨ps, r, hKs, hps⟩ : ∃ ps r, K = ps ++ [r] ∧ ps.length = m := ⟨K.dropLast, K.getLast (by intro e; rw [e] at hm; simp at hm), (List.dropLast_concat_getLast _).symm, by simp [hm]⟩
      have hTs : txts K = txts ps ++ [txt r] := by rw [hKs, txts_append]; rfl
      have hTl : (txts ps).length = m := by rw [txts_length, hps]
      have htx : txt t = [102, 117, 110, 99, 40] ++ Lib.join (txts ps) [44] ++ [41] ++ txt r := by rw [ht, txt, hTs]; simp
      rw [← ht, htx] at hl
      simp at hl
      have hj := tri_join (txts ps) (by omega) (by omega)
      rw [hTl] at hj
      have hwm : IntKind.i64.wrap (m : Int) = (m : Int) := wrap_i (by omega)
      have htk : (txts ps ++ [txt r]).take (m + 1) = txts ps ++ [txt r] := List.take_of_length_le (by simp [hTl])
      have htm : ((txts ps).map fun x => S x).take m = (txts ps).map fun x => S x := List.take_of_length_le (by simp [hTl])
      have hdm : ((txts ps).map (fun x => S x) ++ [S (txt r)]).drop m = [S (txt r)] := by rw [← hTl, ← List.length_map (f := fun x => S x), List.drop_left]
      have hl1 : ¬ (9223372036854775807 : Int) < 5 + (Lib.join (txts ps) [44]).length := by omega
      simp [ofF, htc, hne]
      refine adrawC_by [] [0, 1, 2, 3, 4, 8, 9, 10, 11, 12, 13] (.late 5 (.late 6 (.late 7 (.late 14 (.late 15 .fin))))) (by kernel_rfl) (by kernel_rfl) (by kernel_rfl) ?_
      have htk2 : ((txts ps).map (fun x => S x) ++ [S (txt r)]).take (m + 1) = (txts ps).map (fun x => S x) ++ [S (txt r)] := List.take_of_length_le (by simp [hTl])
      have hlt : (m : Int) < (m : Int) + 1 := by omega
      have htk3 : ((txts ps).map (fun x => S x) ++ [S (txt r)]).take m = (txts ps).map (fun x => S x) := by rw [← hTl, ← List.length_map (f := fun x => S x), List.take_left]
      simp [hwm, hTs, hTl, htk, htk2, hdm, htm, hlt]
      have hl2 : ¬ (9223372036854775807 : Int) < ((Lib.join (txts ps) [44]).length : Int) + 1 + 1 + 1 + 1 + 1 + 1 := by omega
      have hl3 : ¬ (9223372036854775807 : Int) < ((Lib.join (txts ps) [44]).length : Int) + 1 + 1 + 1 + 1 + 1 + 1 + ((txt r).length : Int) := by omega
      have hl5 : ¬ (9223372036854775807 : Int) < ((Lib.join (txts ps) [44]).length : Int) + 1 + 1 + 1 + 1 + 1 + ((txt r).length : Int) + 1 := by omega
      have hl4 : ¬ (9223372036854775807 : Int) < 6 + ((txt r).length : Int) := by omega
      by_cases hm0 : m = 0
      · have hp0 : txts ps = [] := List.eq_nil_of_length_eq_zero (hTl.trans hm0)
        have hj0 : Lib.join (txts ps) [44] = [] := by rw [hp0]; rfl
        have htx0 : txt t = 102 :: 117 :: 110 :: 99 :: 40 :: 41 :: txt r := by rw [htx, hj0]; rfl
        refine acallC_by 0 (tri_join0) ?_ (by kernel_rfl) ?_ ?_ ?_ ?_ ?_ ?_ ?_ ?_ ?_ <;> simp [hTl, htk3, hm0, hl4, htx0]
      · have htx1 : txt t = 102 :: 117 :: 110 :: 99 :: 40 :: (Lib.join (txts ps) [44] ++ 41 :: txt r) := by rw [htx]; simp
        refine acallC_by 0 (hj) ?_ (by kernel_rfl) ?_ ?_ ?_ ?_ ?_ ?_ ?_ ?_ ?_ <;> simp [hTl, htk3, hl1, hm0, hl2, hl3, hl5, htx1]
  exact main
end Go.Proofs.Ytoaodlfmhioigaa
end

section
namespace Go.Proofs.Ytoaodlfmhioigaa

theorem txt_none : txt noneT = [] := by simp [txt, noneT]
theorem wts_mem : ∀ {l : List Tr} {t : Tr}, t ∈ l → wt t ≤ wts l
  | x :: l, t, h => by
    rcases List.mem_cons.1 h with rfl | h
    · simp [wts]
    · have := wts_mem h
      simp [wts]; omega
theorem TyOk.pos {t : Tr} (h : TyOk t) : 1 ≤ wt t := by
  cases h with
  | base k a h => rcases h with rfl | rfl | rfl <;> simp [wt]
  | ptr => simp [wt]
  | of k a t hk h => rcases hk with rfl | rfl <;> simp [wt]
  | func => simp [wt]
  | proc => simp [wt]
theorem wts_len : ∀ {l : List Tr}, (∀ t ∈ l, TyOk t) → l.length ≤ wts l
  | [], _ => Nat.le_refl _
  | x :: l, h => by
    have h1 := (h x (by simp)).pos
    have h2 := wts_len (l := l) (fun t ht => h t (by simp [ht]))
    simp [wts]; omega

set_option maxRecDepth 20000 in
/-- A type's text is what 'Of' answers. -/
theorem t_of {t : Tr} (h : TyOk t) : wt t ≤ 100000 → TriE Try.prog 6 [t.av] [] (S (txt t)) [] := by
  induction h with
  | base k a h =>
    intro _
    refine tri_by Try.func6 (by rfl) _ Try.ntmps6 _ (by rfl) ?_
    rcases h with rfl | rfl | rfl <;> simp [Tr.av, Tr.cells, txt]
  | ptr a x h =>
    intro _
    have h24 := h.2.2.1
    have hl : ¬ (9223372036854775807 : Int) < (1 : Int) + (x.length : Int) := by omega
    have hl2 : ¬ (9223372036854775807 : Int) < (x.length : Int) + 1 := by omega
    refine tri_by Try.func6 (by rfl) _ Try.ntmps6 _ (by rfl) ?_
    simp [Tr.av, Tr.cells, txt, hl, hl2]
  | of k a t hk h ih =>
    intro hw
    have hlen := txt_le h
    have hkid := fun (q : Int) => t_kid (.mk q [] 0 a [] 0 [t]) t [] ⟨q, [], 0, a, [], 0, rfl⟩ (ih (by rcases hk with rfl | rfl <;> simp [wt, wts] at hw <;> omega))
    have hwt : wt t ≤ 100000 := by rcases hk with rfl | rfl <;> simp [wt, wts] at hw <;> omega
    have hl1 : ¬ (9223372036854775807 : Int) < (2 : Int) + ((txt t).length : Int) := by omega
    have hl2 : ¬ (9223372036854775807 : Int) < (5 : Int) + ((txt t).length : Int) := by omega
    refine tri_by Try.func6 (by rfl) _ Try.ntmps6 _ (by rfl) ?_
    rcases hk with rfl | rfl
    · have h1 := hkid 13
      simp [Tr.av, Tr.cells]
      refine acallC_by 1 (h1) ?_ (by kernel_rfl) ?_ ?_ ?_ ?_ ?_ ?_ ?_ ?_ ?_ <;> simp [txt, txts, hl1, Tr.cells]
    · have h1 := hkid 14
      simp [Tr.av, Tr.cells]
      refine acallC_by 1 (h1) ?_ (by kernel_rfl) ?_ ?_ ?_ ?_ ?_ ?_ ?_ ?_ ?_ <;> simp [txt, txts, hl2, Tr.cells]
  | func a ps r h hr ih ihr =>
    intro hw
    have hlen := txt_le (TyOk.func a ps r h hr)
    simp only [wt_kids _ _ _ (show (15 : Int) ≠ 8 by decide), wts_snoc] at hw hlen
    have hpl := wts_len h
    refine t_of_func a (ps ++ [r]) ps.length (by simp) (fun k hk => ?_) (by omega) (by omega)
    rcases List.mem_append.1 hk with hk | hk
    · exact ih k hk (by have := wts_mem hk; omega)
    · rw [List.mem_singleton.1 hk]
      exact ihr (by omega)
  | proc a ps h ih =>
    intro hw
    have hlen := txt_le (TyOk.proc a ps h)
    simp only [wt_kids _ _ _ (show (15 : Int) ≠ 8 by decide), wts_snoc] at hw hlen
    have hpl := wts_len h
    refine t_of_func a (ps ++ [noneT]) ps.length (by simp) (fun k hk => ?_) (by omega) (by rw [wt_none] at hlen; omega)
    rcases List.mem_append.1 hk with hk | hk
    · exact ih k hk (by have := wts_mem hk; omega)
    · rw [List.mem_singleton.1 hk, txt_none]
      exact t_of_none
end Go.Proofs.Ytoaodlfmhioigaa
end
