/- A part of the proof of TypesWrittenSaid. No condition. -/
import Derived.Test.YtoaodlfmhioigaaM2
import Derived.Great.BuildSlice
import Derived.Laws.BytesString
set_option linter.unusedSimpArgs false
set_option linter.unusedVariables false
section
namespace Go.Proofs.Ytoaodlfmhioigaa
open Go.RowKit

theorem splice_get {α : Type} {cs xs : List α} {off : Nat} (h : off + xs.length ≤ cs.length) (k : Nat) : (splice cs off xs)[k]? = if off ≤ k ∧ k < off + xs.length then xs[k - off]? else cs[k]? := by
  unfold splice
  by_cases h1 : k < off
  · rw [if_neg (by omega), List.append_assoc, List.getElem?_append_left (by rw [List.length_take]; omega), List.getElem?_take, if_pos h1]
  · by_cases h2 : k < off + xs.length
    · rw [if_pos ⟨by omega, h2⟩, List.append_assoc, List.getElem?_append_right (by rw [List.length_take]; omega), List.length_take, Nat.min_eq_left (by omega), List.getElem?_append_left (by omega)]
    · rw [if_neg (by omega), List.getElem?_append_right (by rw [List.length_append, List.length_take]; omega), List.length_append, List.length_take, Nat.min_eq_left (by omega), List.getElem?_drop]
      congr 1; omega

theorem VL.splice {E : Env} {cs xs : List AV} {us vs : List Value} {off : Nat} (h : VL E cs us) (k : VL E xs vs) : VL E (splice cs off xs) (Ytoaodlfmhioigaa.splice us off vs) := by
  unfold Ytoaodlfmhioigaa.splice
  rw [VL.length k]
  exact ((h.take off).append k).append (h.drop _)

theorem fill_step (cells v : Array Value) (off : Nat) (h : off + v.size ≤ cells.size) : (v.zipIdx.foldl (fun cs (c, j) => cs.setIfInBounds (off + j) c) cells).toList = splice cells.toList off v.toList := by
  apply List.ext_getElem?
  intro k
  rw [splice_get (by simpa using h)]
  have e : v.zipIdx.foldl (fun cs (c, j) => cs.setIfInBounds (off + j) c) cells = (v.toList.zipIdx 0).foldl (fun cs (x : Value × Nat) => cs.setIfInBounds (off + x.2) x.1) cells := by
    rw [← Array.foldl_toList]
    simp
  rw [e, Array.getElem?_toList, (Great.foldl_set off v.toList 0 cells).2 k]
  simp only [Nat.add_zero, Array.length_toList]
  by_cases hk : off ≤ k ∧ k < off + v.size
  · rw [if_pos ⟨hk.1, hk.2, by omega⟩, if_pos hk]
  · rw [if_neg (fun q => hk ⟨q.1, q.2.1⟩), if_neg hk, Array.getElem?_toList]

/-- Parts laid into cells. -/
@[simp] def fillA (place : Nat → Option (Nat × Nat)) : List AV → List (Nat × AV) → Option (List AV)
  | cs, [] => some cs
  | cs, (i, x) :: rest =>
    match place i with
    | some (off, n) => if flatA x && x.cellsA.length == n && decide (off + n ≤ cs.length) then fillA place (splice cs off x.cellsA) rest else none
    | none => none

def PL (E : Env) : List (Nat × AV) → List (Nat × Value) → Prop
  | [], [] => True
  | (i, x) :: xs, (j, u) :: us => i = j ∧ VR E x u ∧ PL E xs us
  | _, _ => False

theorem fillA_sound {E : Env} {place : Nat → Option (Nat × Nat)} : ∀ {xs : List (Nat × AV)} {us : List (Nat × Value)} {cs r : List AV} {arr : Array Value}, PL E xs us → VL E cs arr.toList → fillA place cs xs = some r →
    ∃ arr', Instr.fill place arr us = some arr' ∧ VL E r arr'.toList
  | [], [], cs, r, arr, _, hv, h => by
    simp only [fillA, Option.some.injEq] at h
    subst h
    exact ⟨arr, rfl, hv⟩
  | (i, x) :: xs, (j, u) :: us, cs, r, arr, ⟨hij, hx, hp⟩, hv, h => by
    subst hij
    simp only [fillA] at h
    split at h
    · rename_i off n hpl
      split at h
      · rename_i hcond
        simp only [Bool.and_eq_true, beq_iff_eq, decide_eq_true_eq] at hcond
        obtain ⟨⟨hf, hn⟩, hle⟩ := hcond
        obtain ⟨k1, k2⟩ := flat_sound hf hx
        have l1 := VL.length k1
        have l2 := VL.length hv
        rw [Array.length_toList] at l1 l2
        have hst := fill_step arr u.cells off (by omega)
        have hv2 : VL E (splice cs off x.cellsA) (u.cells.zipIdx.foldl (fun cs (c, j) => cs.setIfInBounds (off + j) c) arr).toList := by
          rw [hst]
          exact hv.splice k1
        obtain ⟨arr', e1, e2⟩ := fillA_sound hp hv2 h
        refine ⟨arr', ?_, e2⟩
        unfold Instr.fill
        simp only [hpl]
        have hc2 : (decide (u.cells.size ≠ n) || decide (off + u.cells.size > arr.size)) = false := by
          simp only [Bool.or_eq_false_iff, decide_eq_false_iff_not]
          omega
        simp only [hc2, Bool.false_eq_true, if_false]
        exact e1
      · cases h
    · cases h
  | [], _ :: _, _, _, _, h, _, _ => h.elim
  | _ :: _, [], _, _, _, h, _, _ => h.elim

theorem vl_val (E : Env) : ∀ (l : List Value), VL E (l.map .val) l
  | [] => trivial
  | _ :: l => ⟨rfl, vl_val E l⟩

/-- A struct's places. -/
def placesA (P : Program) (t : TypeId) : Option (List (Nat × Nat)) :=
  match P.underlying t with
  | some (.struct fields) => fields.toList.mapM (fun f => (P.info? f.type).map fun i => (f.offset, i.size))
  | _ => none

@[simp] def buildA (P : Program) (t : TypeId) (parts : List (Nat × AV)) : Option AV :=
  match placesA P t, zeroA P t with
  | some pl, some z => (fillA (pl[·]?) (z.map .val) parts).map .agg
  | _, _ => none

theorem buildA_sound {P : Program} {E : Env} {t : TypeId} {xs : List (Nat × AV)} {parts : Array (Nat × Value)} {r : AV} (h : buildA P t xs = some r) (hp : PL E xs parts.toList) :
    ∃ v, (∀ w, (Instr.build t parts).run P w = .ok v w) ∧ VR E r v := by
  unfold buildA at h
  split at h
  · rename_i pl z hpl hz
    obtain ⟨cs, h1, rfl⟩ := Option.map_eq_some_iff.1 h
    unfold zeroA at hz
    obtain ⟨zv, hz1, rfl⟩ := Option.map_eq_some_iff.1 hz
    obtain ⟨it, hit, hzero⟩ := Option.bind_eq_some_iff.1 hz1
    obtain ⟨arr', e1, e2⟩ := fillA_sound (arr := zv.cells) hp (vl_val E _) h1
    refine ⟨.agg arr', fun w => run_build w t parts arr' ?_, arr', rfl, e2⟩
    unfold placesA at hpl
    split at hpl
    · rename_i fields hu
      unfold Program.built
      simp only [hit, hu, hzero, hpl]
      have e : (fun (i : Nat) => pl.toArray[i]?) = (fun (i : Nat) => pl[i]?) := by funext i; simp
      rw [e]
      exact e1
    · cases hpl
  · cases h

/-- A slice's literal. -/
@[simp] def buildSliceA (P : Program) (os : List AO) (t : TypeId) (len : Nat) (parts : List (Nat × AV)) : Option (AV × List AO) :=
  match elemA P t with
  | some e =>
    match sizeA P e, zeroA P e with
    | some (s + 1), some z =>
      if len * (s + 1) ≤ 2 ^ 24 && z.length == s + 1 then
        match fillA (fun i => some (i * (s + 1), s + 1)) ((List.replicate len (z.map AV.val)).flatten) parts with
        | some cs => if cs.length == len * (s + 1) && cs.all oneA then some (.row os.length (s + 1) 0 len 0, os ++ [⟨true, 0, some (s + 1), e, cs⟩]) else none
        | none => none
      else none
    | _, _ => none
  | none => none

theorem zeros_list (z : List Value) (s : Nat) (hz : z.length = s + 1) : ∀ len, ((Array.range (len * (s + 1))).map (z.toArray[· % z.toArray.size]!)).toList = (List.replicate len z).flatten := by
  intro len
  apply List.ext_getElem?
  intro k
  have hlen : ((List.replicate len z).flatten).length = len * (s + 1) := by simp [hz]
  by_cases hk : k < len * (s + 1)
  · have e : ((List.replicate len z).flatten)[k]? = z[k % (s + 1)]? := by
      induction len generalizing k with
      | zero => omega
      | succ len ih =>
        rw [List.replicate_succ, List.flatten_cons]
        by_cases h1 : k < s + 1
        · rw [List.getElem?_append_left (by omega), Nat.mod_eq_of_lt h1]
        · rw [List.getElem?_append_right (by omega), hz]
          rw [ih (k - (s + 1)) (by simp [hz]) (by rw [Nat.succ_mul] at hk; omega)]
          rw [← Nat.mod_eq_sub_mod (by omega)]
    rw [e]
    have hm : k % (s + 1) < z.length := by rw [hz]; exact Nat.mod_lt _ (by omega)
    simp [hk, hz, List.getElem?_eq_getElem hm, List.getElem!_eq_getElem?_getD, List.getElem?_eq_getElem hm]
  · rw [List.getElem?_eq_none (by simp; omega), List.getElem?_eq_none (by omega)]

theorem vl_flatten (E : Env) (z : List Value) : ∀ len, VL E ((List.replicate len (z.map AV.val)).flatten) ((List.replicate len z).flatten)
  | 0 => trivial
  | len + 1 => by
    rw [List.replicate_succ, List.flatten_cons, List.replicate_succ, List.flatten_cons]
    exact (vl_val E z).append (vl_flatten E z len)

theorem buildSliceA_sound {P : Program} {X W : Nat → Prop} {ρ : List Nat} {w : World} {os os' : List AO} (h : SR X ρ w os) {t : TypeId} {len : Nat} {xs : List (Nat × AV)} {parts : Array (Nat × Value)} {r : AV}
    (hr : buildSliceA P os t len xs = some (r, os')) (hp : PL (envOf X ρ w os) xs parts.toList) :
    ∃ v w' ρ', (Instr.buildSlice t len parts).run P w = .ok v w' ∧ Goes X W ρ ρ' w w' os os' ∧ VR (envOf X ρ' w' os') r v := by
  unfold buildSliceA at hr
  split at hr
  · rename_i e he
    have hu := elemA_run he
    split at hr
    · rename_i s z hs hz
      split at hr
      · rename_i hcond
        simp only [Bool.and_eq_true, beq_iff_eq, decide_eq_true_eq] at hcond
        split at hr
        · rename_i cs hcs
          split at hr
          · rename_i hcond2
            simp only [Bool.and_eq_true, beq_iff_eq] at hcond2
            simp only [Option.some.injEq, Prod.mk.injEq] at hr
            obtain ⟨rfl, rfl⟩ := hr
            unfold zeroA at hz
            obtain ⟨zv, hz1, rfl⟩ := Option.map_eq_some_iff.1 hz
            obtain ⟨it, hit, hzero⟩ := Option.bind_eq_some_iff.1 hz1
            unfold sizeA at hs
            obtain ⟨it2, hit2, hsz⟩ := Option.map_eq_some_iff.1 hs
            rw [hit] at hit2; injection hit2 with hit2; subst hit2
            have hzs : ((Array.range (len * (s + 1))).map (zv.cells[· % zv.cells.size]!)).toList = (List.replicate len zv.cells.toList).flatten := by
              have := zeros_list zv.cells.toList s hcond.2 len
              simpa using this
            obtain ⟨arr', e1, e2⟩ := fillA_sound (arr := (Array.range (len * (s + 1))).map (zv.cells[· % zv.cells.size]!)) hp (by rw [hzs]; exact vl_flatten _ _ _) hcs
            have hl := VL.length e2
            rw [Array.length_toList] at hl
            have hrun : (Instr.buildSlice t len parts).run P w = .ok (.slice (some ⟨w.heap.size, 0, none⟩) len len) (w.alloc (.cells arr' e)) := by
              by_cases h0 : len * (s + 1) = 0
              · have hl0 : len = 0 := by rcases Nat.mul_eq_zero.1 h0 with h | h; exact h; omega
                subst hl0
                simp only [Nat.zero_mul] at e1
                have e1' : Instr.fill (fun i => some (i * it.size, it.size)) ((Array.range 0).map ((#[] : Array Value)[· % (#[] : Array Value).size]!)) parts.toList = some arr' := by
                  rw [hsz]
                  rw [show Array.range 0 = #[] from rfl, Array.map_empty] at e1 ⊢
                  exact e1
                simp only [Nat.zero_mul, Instr.buildSlice, und_run hu, sizeOf, typeInfo, hit, Sem.run_bind, run_program, Result.andThen_ok, Sem.run_pure, if_true, Nat.not_lt_zero, gt_iff_lt, if_false, Sem.run_ite]
                simp only [e1', newRow, Sem.run_bind, run_newObj, Result.andThen_ok, Sem.run_pure]
                rfl
              · exact run_buildSlice w t e len parts arr' it zv hu hit hzero (by rw [hsz]; exact Nat.not_lt.2 hcond.1) (by rw [hsz]; exact h0) (by rw [hsz]; exact e1)
            have hown : (w.alloc (.cells arr' e)).ownsRow 0 e (s + 1) (.slice (some ⟨w.heap.size, 0, none⟩) len len) len arr'.toList :=
              ⟨by rw [Array.length_toList, hl]; exact hcond2.1, .inr ⟨w.heap.size, len, arr', rfl, Nat.zero_le _, heap_alloc_new w _, Nat.le_refl _, Nat.le_trans (Nat.le_trans (Nat.le_mul_of_pos_right len (Nat.succ_pos s)) hcond.1) (by decide), by rw [hl]; exact hcond2.1, by rw [List.take_of_length_le (by rw [Array.length_toList, hl, hcond2.1]; exact Nat.le_refl _)]⟩⟩
            obtain ⟨k1, k2⟩ := h.made e (s + 1) (by omega) _ len cs arr'.toList hcond2.1 e2 (World.grownBy_alloc w _ none) hown rfl
            exact ⟨_, _, _, hrun, k1, k2⟩
          · cases hr
        · cases hr
      · cases hr
    · cases hr
  · cases hr

end Go.Proofs.Ytoaodlfmhioigaa
end

section
namespace Go.Proofs.Ytoaodlfmhioigaa
open Go.RowKit

/-- A slicing's bound. -/
@[simp] def boundA (d : Nat) : Option AV → Option Nat
  | none => some d
  | some (.val (.int _ i)) => if 0 ≤ i then some i.toNat else none
  | _ => none

def OptR (E : Env) : Option AV → Option Value → Prop
  | none, none => True
  | some x, some u => VR E x u
  | _, _ => False

theorem bounds_run {P : Program} {E : Env} {w : World} {s : Bool} {len cap n l h : Nat} {lo hi : Option AV} {vlo vhi : Option Value} (hlo : OptR E lo vlo) (hhi : OptR E hi vhi) (hl : boundA 0 lo = some l) (hh : boundA n hi = some h)
    (hn : hi = none → n = len) (h1 : l ≤ h) (h2 : h ≤ cap) : (Instr.sliceBounds s len cap vlo vhi none).run P w = .ok (l, h, cap) w := by
  have bound : ∀ (d : Nat) (x : AV) (u : Value) (y i : Nat) (code : BoundsCode), VR E x u → boundA d (some x) = some i → i ≤ y → (Instr.sliceBound u y code).run P w = .ok i w := fun d x u y i code hx hb hy => by
    unfold boundA at hb
    split at hb
    · rename_i heq; cases heq
    · rename_i k j heq
      injection heq with heq
      subst heq
      obtain rfl : u = .int k j := hx
      split at hb
      · injection hb with hb
        subst hb
        have h0 : 0 ≤ j ∧ j ≤ y := ⟨by assumption, by omega⟩
        simp [Instr.sliceBound, asIntOf, h0]
      · cases hb
    · cases hb
  cases hi with
  | none =>
    cases vhi with
    | some _ => exact hhi.elim
    | none =>
      simp only [boundA, Option.some.injEq] at hh
      subst hh
      obtain rfl := hn rfl
      cases lo with
      | none =>
        cases vlo with
        | some _ => exact hlo.elim
        | none =>
          simp only [boundA, Option.some.injEq] at hl
          subst hl
          simp [Instr.sliceBounds]
      | some x =>
        cases vlo with
        | none => exact hlo.elim
        | some u => simp [Instr.sliceBounds, bound 0 x u n l _ hlo hl h1]
  | some y =>
    cases vhi with
    | none => exact hhi.elim
    | some uy =>
      have hb := bound n y uy cap h (if s then .sliceAcap else .sliceAlen) hhi hh h2
      cases lo with
      | none =>
        cases vlo with
        | some _ => exact hlo.elim
        | none =>
          simp only [boundA, Option.some.injEq] at hl
          subst hl
          simp [Instr.sliceBounds, hb]
      | some x =>
        cases vlo with
        | none => exact hlo.elim
        | some u => simp [Instr.sliceBounds, hb, bound 0 x u h l _ hlo hl h1]

@[simp] def sliceA (P : Program) (os : List AO) (t : TypeId) (x : AV) (lo hi : Option AV) : Option AV :=
  match x with
  | .val (.string s) =>
    match stringA P t, boundA 0 lo, boundA s.size hi with
    | true, some l, some h => if l ≤ h && decide (h ≤ s.size) then some (.val (.string (s.extract l h))) else none
    | _, _, _ => none
  | .vec sz n cs =>
    match (elemA P t).bind (sizeA P), boundA 0 lo, boundA n hi with
    | some z, some l, some h => if l ≤ h && decide (h ≤ n) && (sz == z || cs.isEmpty) then some (.vec sz (h - l) ((cs.drop (l * sz)).take ((h - l) * sz))) else none
    | _, _, _ => none
  | .row o sz off n g =>
    match (elemA P t).bind (sizeA P), boundA 0 lo, boundA n hi, os[o]? with
    | some z, some l, some h, some a => if l ≤ h && decide (h ≤ n) && sz == z && a.live && a.g == g then (if lo.isNone then some (.row o sz off h g) else some (.row o sz (off + l) (h - l) g)) else none
    | _, _, _, _ => none
  | _ => none

theorem stringA_eq {P : Program} {t : TypeId} (h : stringA P t = true) : P.underlying t = some .string := by
  unfold stringA at h
  split at h
  · assumption
  · cases h

theorem sliceA_sound {P : Program} {X : Nat → Prop} {ρ : List Nat} {w : World} {os : List AO} (h : SR X ρ w os) {t : TypeId} {x r : AV} {lo hi : Option AV} {u : Value} {vlo vhi : Option Value}
    (hr : sliceA P os t x lo hi = some r) (hx : VR (envOf X ρ w os) x u) (hlo : OptR (envOf X ρ w os) lo vlo) (hhi : OptR (envOf X ρ w os) hi vhi) :
    ∃ v, (∀ w', (Instr.sliceAt t u vlo vhi none).run P w' = .ok v w') ∧ VR (envOf X ρ w os) r v := by
  unfold sliceA at hr
  split at hr
  · rename_i s
    obtain rfl : u = .string s := hx
    split at hr
    · rename_i l hh ht hl hb
      split at hr
      · rename_i hcond
        simp only [Bool.and_eq_true, decide_eq_true_eq] at hcond
        injection hr with hr
        subst hr
        have hu := stringA_eq ht
        have hbr := fun w' => bounds_run (P := P) (w := w') (s := false) (len := s.size) (cap := s.size) hlo hhi hl hb (fun _ => rfl) hcond.1 hcond.2
        refine ⟨_, fun w' => ?_, rfl⟩
        simp [Instr.sliceAt, und_run hu, Instr.slice, hbr]
      · cases hr
    · cases hr
  · rename_i sz n cs
    split at hr
    · rename_i z l hh hz hl hb
      obtain ⟨e, he, hsz⟩ := Option.bind_eq_some_iff.1 hz
      have hu := elemA_run he
      split at hr
      · rename_i hcond
        simp only [Bool.and_eq_true, Bool.or_eq_true, beq_iff_eq, decide_eq_true_eq, List.isEmpty_iff] at hcond
        obtain ⟨⟨h1, h2⟩, h3⟩ := hcond
        injection hr with hr
        subst hr
        obtain ⟨a, c, rfl, k1, k2, k3, k4⟩ := hx
        have hbr := fun w' => bounds_run (P := P) (w := w') (s := true) (len := n) (cap := c) hlo hhi hl hb (fun _ => rfl) h1 (by omega)
        have hlen : ((cs.drop (l * sz)).take ((hh - l) * sz)).length = (hh - l) * sz := by
          rw [List.length_take, List.length_drop, ← k3, ← Nat.sub_mul]
          exact Nat.min_eq_left (Nat.mul_le_mul_right _ (by omega))
        refine ⟨.slice (if c = l then a else a.map (·.add (l * z))) (hh - l) (c - l), fun w' => by simp [Instr.sliceAt, und_run hu, Instr.slice, hbr, sizeA_run hsz], _, _, rfl, by omega, by omega, hlen.symm, fun hne => ?_⟩
        have hcs : cs ≠ [] := fun e => hne (by simp [e])
        obtain rfl : sz = z := h3.resolve_right hcs
        obtain ⟨b, off, rfl, d, hc⟩ := k4 hcs
        have hpos : hh - l ≠ 0 := fun e => hne (List.length_eq_zero_iff.1 (by rw [hlen, e, Nat.zero_mul]))
        refine ⟨b, off + l * sz, ?_, d, (VC.drop _ hc).take _⟩
        rw [if_neg (by omega)]
        simp [Addr.add_lit]
      · cases hr
    · cases hr
  · rename_i o sz off n g
    split at hr
    · rename_i z l hh a hz hl hb ho
      obtain ⟨e, he, hsz⟩ := Option.bind_eq_some_iff.1 hz
      have hu := elemA_run he
      split at hr
      · rename_i hcond
        simp only [Bool.and_eq_true, beq_iff_eq, decide_eq_true_eq] at hcond
        obtain ⟨⟨⟨⟨h1, h2⟩, rfl⟩, hlive⟩, hg⟩ := hcond
        obtain ⟨b, hc⟩ := h.cur ho hlive
        rw [hg] at hc
        obtain ⟨c, p, rfl, hp, k1, k2, k3⟩ := hx.2.2 b hc
        have hbr := fun w' => bounds_run (P := P) (w := w') (s := true) (len := n) (cap := c) hlo hhi hl hb (fun _ => rfl) h1 (by omega)
        have hsame : ∀ b', (envOf X ρ w os).cur o = some (b', g) → b' = b := fun b' hb' => by
          have : curOf ρ os o = some (b', g) := hb'
          rw [hc] at this
          simp only [Option.some.injEq, Prod.mk.injEq, and_true] at this
          exact this.symm
        split at hr
        · rename_i hlo0
          injection hr with hr
          subst hr
          have hl0 : l = 0 := by
            cases lo with
            | none => simp only [boundA, Option.some.injEq] at hl; exact hl.symm
            | some _ => cases hlo0
          subst hl0
          refine ⟨.slice (some ⟨b, p, none⟩) hh c, ?_, hx.1, rfl, fun b' hb' => ⟨c, p, by rw [hsame b' hb'], ?_, by omega, k2, by rw [hsame b' hb']; exact k3⟩⟩
          · intro w'
            simp only [Instr.sliceAt, und_run hu, Instr.slice, hbr, sizeA_run hsz, Sem.run_bind, Result.andThen_ok, Sem.run_pure, Nat.sub_zero, Nat.zero_mul]
            split
            · rfl
            · simp [Addr.add]
          · rcases hp with hp | hp
            · exact .inl hp
            · exact .inr ⟨by omega, hp.2⟩
        · injection hr with hr
          subst hr
          refine ⟨.slice (if c = l then some ⟨b, p, none⟩ else some ⟨b, p + l * sz, none⟩) (hh - l) (c - l), ?_, hx.1, rfl, fun b' hb' => ?_⟩
          · intro w'
            simp only [Instr.sliceAt, und_run hu, Instr.slice, hbr, sizeA_run hsz, Sem.run_bind, Result.andThen_ok, Sem.run_pure, Option.map_some, Addr.add_lit]
          · rw [hsame b' hb']
            by_cases hcl : c = l
            · refine ⟨c - l, p, by rw [if_pos hcl], ?_, by omega, by omega, ?_⟩
              · by_cases h0 : off + l = 0
                · left
                  rcases hp with hp | hp
                  · rw [hp, show off = 0 by omega, show l = 0 by omega]
                  · omega
                · exact .inr ⟨by omega, by omega⟩
              · rw [show off + l + (c - l) = off + c by omega]; exact k3
            · refine ⟨c - l, p + l * sz, by rw [if_neg hcl], ?_, by omega, by omega, ?_⟩
              · rcases hp with hp | hp
                · left; rw [hp, Nat.add_mul]
                · right; exact ⟨by omega, by omega⟩
              · rw [show off + l + (c - l) = off + c by omega]; exact k3
      · cases hr
    · cases hr
  · cases hr

end Go.Proofs.Ytoaodlfmhioigaa
end

section
namespace Go.Proofs.Ytoaodlfmhioigaa
open Go.RowKit

@[simp] def lenA (os : List AO) : AV → Option Nat
  | .val (.string s) => some s.size
  | .val (.slice none 0 0) => some 0
  | .vec _ n _ => some n
  | .row o _ _ n g => match os[o]? with | some a => if a.live && a.g == g then some n else none | none => none
  | _ => none

/-- What is put behind: its cells, how many things. -/
@[simp] def newsA (os : List AO) (sz : Nat) : AV → Option (List AV × Nat)
  | .val (.slice none 0 0) => some ([], 0)
  | .vec sz' m cs => if m = 0 then some ([], 0) else if sz' = sz then some (cs, m) else none
  | .row o sz' off m g =>
    match os[o]? with
    | some a => if a.live && a.g == g && sz' == sz && decide (off * sz + m * sz ≤ a.cells.length) then some ((a.cells.drop (off * sz)).take (m * sz), m) else none
    | none => none
  | _ => none

theorem newsA_sound {X : Nat → Prop} {ρ : List Nat} {w : World} {os : List AO} (h : SR X ρ w os) {sz : Nat} (hsz : 0 < sz) {x : AV} {u : Value} {cs : List AV} {m : Nat} (hr : newsA os sz x = some (cs, m)) (hx : VR (envOf X ρ w os) x u) :
    ∃ a c, u = .slice a m c ∧ (m = 0 ∧ cs = [] ∨ ∃ ad us, a = some ad ∧ us.length = m * sz ∧ VL (envOf X ρ w os) cs us ∧ ∀ j v, us[j]? = some v → w.cell? (ad.add j) = some v) := by
  unfold newsA at hr
  split at hr
  · obtain rfl : u = .slice none 0 0 := hx
    simp only [Option.some.injEq, Prod.mk.injEq] at hr
    obtain ⟨rfl, rfl⟩ := hr
    exact ⟨none, 0, rfl, .inl ⟨rfl, rfl⟩⟩
  · rename_i sz' m' cs'
    obtain ⟨a, c, rfl, k1, k2, k3, k4⟩ := hx
    split at hr
    · rename_i h0
      simp only [Option.some.injEq, Prod.mk.injEq] at hr
      obtain ⟨rfl, rfl⟩ := hr
      subst h0
      exact ⟨a, c, rfl, .inl ⟨rfl, rfl⟩⟩
    · split at hr
      · rename_i h0 hs
        subst hs
        simp only [Option.some.injEq, Prod.mk.injEq] at hr
        obtain ⟨rfl, rfl⟩ := hr
        refine ⟨a, c, rfl, ?_⟩
        by_cases hcs : cs' = []
        · subst hcs
          exfalso
          rcases Nat.mul_eq_zero.1 k3 with q | q
          · exact h0 q
          · omega
        · obtain ⟨b, off, rfl, d, hc⟩ := k4 hcs
          obtain ⟨us, e1, e2⟩ := VC.list hc
          refine .inr ⟨⟨b, off, none⟩, us, rfl, by rw [VL.length e1, k3], VL.le (Env.nr_le _) _ _ e1, fun j v hj => ?_⟩
          rw [Addr.add_lit]
          exact e2 j v hj
      · cases hr
  · rename_i o sz' off m' g
    split at hr
    · rename_i a ho
      split at hr
      · rename_i hcond
        simp only [Bool.and_eq_true, beq_iff_eq, decide_eq_true_eq] at hcond
        obtain ⟨⟨⟨hl, hg⟩, rfl⟩, hle⟩ := hcond
        simp only [Option.some.injEq, Prod.mk.injEq] at hr
        obtain ⟨rfl, rfl⟩ := hr
        obtain ⟨b, hc⟩ := h.cur ho hl
        rw [hg] at hc
        obtain ⟨c, p, rfl, hp, _, _, _⟩ := hx.2.2 b hc
        refine ⟨_, c, rfl, ?_⟩
        by_cases h0 : m' = 0
        · subst h0
          exact .inl ⟨rfl, by simp⟩
        · obtain rfl : p = off * sz' := hp.resolve_right (fun q => h0 q.1)
          obtain ⟨us, e1, e2, e3⟩ := h.cells hc ho (off * sz') (m' * sz') hle
          refine .inr ⟨⟨b, off * sz', none⟩, us, rfl, e1, e2, fun j v hj => ?_⟩
          rw [Addr.add_lit]
          exact e3 j v hj
      · cases hr
    · cases hr
  · cases hr

@[simp] def appendA (P : Program) (os : List AO) (t : TypeId) (s x : AV) : Option (AV × List AO) :=
  match elemA P t with
  | some e =>
    match sizeA P e, bytesA P e, zeroA P e with
    | some (z + 1), some by', some zs =>
      match newsA os (z + 1) x with
      | some (cs, m) =>
        if zs.length == z + 1 && cs.all oneA then
          match s with
          | .val (.slice none 0 0) =>
            if m = 0 then some (s, os)
            else if m ≤ maxLen && decide (m * by' ≤ 140737488355328) then some (.row os.length (z + 1) 0 m 0, os ++ [⟨true, 0, some (z + 1), e, cs⟩]) else none
          | .row o sz off n g =>
            match os[o]? with
            | some a =>
              if a.live && a.g == g && sz == z + 1 && a.sz == some (z + 1) && a.ty == e && off == 0 && decide (n * (z + 1) ≤ a.cells.length) then
                if m = 0 then some (s, os)
                else if n + m ≤ maxLen && decide ((n + m) * by' ≤ 140737488355328) then some (.row o (z + 1) 0 (n + m) (g + 1), os.set o { a with g := a.g + 1, cells := a.cells.take (n * (z + 1)) ++ cs }) else none
              else none
            | none => none
          | _ => none
        else none
      | none => none
    | _, _, _ => none
  | none => none

theorem append_none {P : Program} {w : World} {t e ty : TypeId} {n : Nat} (hu : P.underlying t = some (.slice e)) (hn : sizeA P e = some n) (b : Option Addr) (k c : Nat) (hk : k ≤ c) (a : Option Addr) (c' : Nat) :
    (Builtin.append_ #[t, t] ty #[.slice b k c, .slice a 0 c']).run P w = .ok (.slice b k c) w := by
  have hl : (Builtin.firstCells n 0 (.slice a 0 c')).run P w = .ok #[] w := by
    cases a with
    | none => simp [Builtin.firstCells]
    | some ad => simp [Builtin.firstCells, loadCells, loadCellsFrom]
  cases b with
  | none => simp [Builtin.append_, und_run hu, sizeA_run hn, Builtin.lenOf, hl, hk]
  | some bd => simp [Builtin.append_, und_run hu, sizeA_run hn, Builtin.lenOf, hl, hk, storeCells]

theorem appendA_sound {P : Program} {X W : Nat → Prop} {ρ : List Nat} {w : World} {os os' : List AO} (h : SR X ρ w os) {t ty : TypeId} {s x r : AV} {us ux : Value} (hr : appendA P os t s x = some (r, os')) (hW : ∀ o sz off n g, s = .row o sz off n g → W o) (hs : VR (envOf X ρ w os) s us) (hx : VR (envOf X ρ w os) x ux) :
    ∃ v w' ρ', (Builtin.append_ #[t, t] ty #[us, ux]).run P w = .ok v w' ∧ Goes X W ρ ρ' w w' os os' ∧ VR (envOf X ρ' w' os') r v := by
  unfold appendA at hr
  split at hr
  · rename_i e he
    have hu := elemA_run he
    split at hr
    · rename_i z by' zs hz hby hzs
      split at hr
      · rename_i cs m hnews
        split at hr
        · rename_i hcond
          simp only [Bool.and_eq_true, beq_iff_eq] at hcond
          obtain ⟨a, c, rfl, hnew⟩ := newsA_sound h (by omega) hnews hx
          have hz0 := hz
          unfold sizeA at hz
          obtain ⟨it, hit, hsz⟩ := Option.map_eq_some_iff.1 hz
          unfold bytesA at hby
          obtain ⟨it2, hit2, hbytes⟩ := Option.map_eq_some_iff.1 hby
          rw [hit] at hit2; injection hit2 with hit2; subst hit2
          unfold zeroA at hzs
          obtain ⟨zv, hz1, hzl⟩ := Option.map_eq_some_iff.1 hzs
          obtain ⟨it3, hit3, hzero⟩ := Option.bind_eq_some_iff.1 hz1
          rw [hit] at hit3; injection hit3 with hit3; subst hit3
          have hzsz : zv.cells.size = z + 1 := by rw [← Array.length_toList, hzl]; exact hcond.1
          split at hr
          · obtain rfl : us = .slice none 0 0 := hs
            split at hr
            · rename_i hm
              subst hm
              simp only [Option.some.injEq, Prod.mk.injEq] at hr
              obtain ⟨rfl, rfl⟩ := hr
              exact ⟨_, w, ρ, append_none hu hz0 none 0 0 (Nat.le_refl _) a c, Goes.refl h, rfl⟩
            · rename_i hm
              split at hr
              · rename_i hb
                simp only [Bool.and_eq_true, decide_eq_true_eq] at hb
                simp only [Option.some.injEq, Prod.mk.injEq] at hr
                obtain ⟨rfl, rfl⟩ := hr
                rcases hnew with ⟨h0, _⟩ | ⟨ad, news, rfl, k1, k2, k3⟩
                · exact absurd h0 hm
                · obtain ⟨v', w', e1, e2, e3, e4, e5⟩ := run_append_own_at (P := P) w 0 t ty e it zv (z + 1) by' hu hit hzero hsz hbytes hzsz (by omega) (.slice none 0 0) 0 [] (World.ownsRow_nil _ _ _ _) ad m c news k1 k3 (oneL_sound hcond.2 k2)
                    (by rw [Nat.zero_add]; exact hb.1) (by rw [Nat.zero_add]; exact hb.2) (Nat.zero_le _)
                  rw [Nat.zero_add, List.nil_append] at e2
                  have hob : v'.ownBlock = some w.heap.size := by
                    rcases e5 with e5 | e5
                    · exfalso
                      have hv : v' ≠ .slice none 0 0 := fun q => hm (e4.1 q).2
                      rcases e2.2 with ⟨q, _⟩ | ⟨g, cap, cur, q, _⟩
                      · exact hv q
                      · rw [q] at e5; cases e5
                    · exact e5
                  obtain ⟨q1, q2⟩ := h.made e (z + 1) (by omega) v' m cs news (by rw [← VL.length k2, k1]) k2 e3 e2 hob
                  exact ⟨v', w', _, e1, q1, q2⟩
              · cases hr
          · rename_i o sz off n g
            split at hr
            · rename_i ao ho
              split at hr
              · rename_i hc2
                simp only [Bool.and_eq_true, beq_iff_eq, decide_eq_true_eq] at hc2
                obtain ⟨⟨⟨⟨⟨⟨hl, hg⟩, rfl⟩, hasz⟩, hty⟩, rfl⟩, hle⟩ := hc2
                obtain ⟨b, hcu⟩ := h.cur ho hl
                rw [hg] at hcu
                obtain ⟨c2, p, rfl, hp, k4, k5, k6⟩ := hs.2.2 b hcu
                obtain rfl : p = 0 := by
                  rcases hp with hp | hp
                  · rw [hp, Nat.zero_mul]
                  · exact absurd rfl hp.2
                split at hr
                · rename_i hm
                  subst hm
                  simp only [Option.some.injEq, Prod.mk.injEq] at hr
                  obtain ⟨rfl, rfl⟩ := hr
                  exact ⟨_, w, ρ, append_none hu hz0 _ n c2 k4 a c, Goes.refl h, hs⟩
                · rename_i hm
                  split at hr
                  · rename_i hb
                    simp only [Bool.and_eq_true, decide_eq_true_eq] at hb
                    simp only [Option.some.injEq, Prod.mk.injEq] at hr
                    obtain ⟨rfl, rfl⟩ := hr
                    rcases hnew with ⟨h0, _⟩ | ⟨ad, news, rfl, k1, k2, k3⟩
                    · exact absurd h0 hm
                    · obtain ⟨a', arr, h1, _, _, _, h5, _, h7⟩ := h.at hcu
                      rw [ho] at h1; injection h1 with h1; subst h1
                      have hsize : arr.size = c2 * (z + 1) := by
                        have : sizeAt w b = some ((0 + c2) * (z + 1)) := k6
                        unfold sizeAt at this
                        rw [h5] at this
                        simp only [Option.some.injEq, Nat.zero_add] at this
                        exact this
                      have htake : VL (envOf X ρ w os) (ao.cells.take (n * (z + 1))) (arr.toList.take (n * (z + 1))) := by
                        have q := h7.take (n * (z + 1))
                        rw [List.take_take, Nat.min_eq_left hle] at q
                        exact q
                      have hxl : (arr.toList.take (n * (z + 1))).length = n * (z + 1) := by
                        rw [List.length_take, Array.length_toList, hsize]
                        exact Nat.min_eq_left (Nat.mul_le_mul_right _ k4)
                      have hown : w.ownsRow 0 e (z + 1) (.slice (some ⟨b, 0, none⟩) n c2) n (arr.toList.take (n * (z + 1))) :=
                        ⟨hxl, .inr ⟨b, c2, arr, rfl, Nat.zero_le _, by rw [← hty]; exact h5, k4, by omega, hsize, rfl⟩⟩
                      obtain ⟨v', w', e1, e2, e3, e4, e5⟩ := run_append_own_at (P := P) w 0 t ty e it zv (z + 1) by' hu hit hzero hsz hbytes hzsz (by omega) _ n _ hown ad m c news k1 k3 (oneL_sound hcond.2 k2) hb.1 hb.2 (Nat.zero_le _)
                      obtain ⟨ρ', q1, q2⟩ := h.grew (hW o _ _ _ _ rfl) hcu ho (z + 1) (by omega) v' n m cs _ news hasz hle hxl (by rw [← VL.length k2, k1]) htake k2 e3 (by rw [hty]; exact e2) e5
                      refine ⟨v', w', ρ', e1, q1, ?_⟩
                      rw [← hg]
                      exact q2
                  · cases hr
              · cases hr
            · cases hr
          · cases hr
        · cases hr
      · cases hr
    · cases hr
  · cases hr

end Go.Proofs.Ytoaodlfmhioigaa
end

section
namespace Go.Proofs.Ytoaodlfmhioigaa
open Go.RowKit

@[simp] def refOk (os : List AO) : AV → Bool
  | .ref o _ g => match os[o]? with | some a => a.live && a.g == g | none => false
  | _ => true

theorem refOk_cur {X : Nat → Prop} {ρ : List Nat} {w : World} {os : List AO} (h : SR X ρ w os) {x : AV} (hr : refOk os x = true) : ∀ o k g, x = .ref o k g → ∃ b, curOf ρ os o = some (b, g) := by
  rintro o k g rfl
  simp only [refOk] at hr
  split at hr
  · rename_i a ho
    simp only [Bool.and_eq_true, beq_iff_eq] at hr
    obtain ⟨b, hb⟩ := h.cur ho hr.1
    exact ⟨b, by rw [← hr.2]; exact hb⟩
  · cases hr

@[simp] def byteA : AV → Option Int
  | .val (.int .u8 n) => some n
  | _ => none
@[simp] def bytesL : List AV → Option (List Int)
  | [] => some []
  | x :: xs => match byteA x, bytesL xs with | some n, some ns => some (n :: ns) | _, _ => none

theorem bytesL_sound {E : Env} : ∀ {cs : List AV} {us : List Value} {ns : List Int}, bytesL cs = some ns → VL E cs us → us = ns.map (Value.int .u8)
  | [], [], ns, h, _ => by simp only [bytesL, Option.some.injEq] at h; subst h; rfl
  | x :: xs, u :: us, ns, h, ⟨h1, h2⟩ => by
    simp only [bytesL] at h
    split at h
    · rename_i n ms hb hms
      simp only [Option.some.injEq] at h
      subst h
      have ih := bytesL_sound hms h2
      unfold byteA at hb
      split at hb
      · simp only [Option.some.injEq] at hb
        subst hb
        rw [ih]
        rw [show u = _ from h1]
        rfl
      · cases hb
    · cases h
  | [], _ :: _, _, _, h => h.elim
  | _ :: _, [], _, _, h => h.elim

def byteElem (P : Program) (t : TypeId) : Bool :=
  match elemA P t with
  | some e => (match P.underlying e with | some (.int .u8) => true | _ => false) && sizeA P e == some 1
  | none => false

/-- Turned into another type. -/
@[simp] def convA (P : Program) (os : List AO) (src dst : TypeId) (x : AV) : Option AV :=
  match x with
  | .val (.int _ n) =>
    match P.underlying src, P.underlying dst with
    | some _, some (.int k) => some (.val (.int k (k.wrap n)))
    | _, _ => none
  | .val (.string s) => if stringA P src && stringA P dst then some (.val (.string s)) else none
  | x =>
    if byteElem P src && stringA P dst then
      match newsA os 1 x with
      | some (cs, _) =>
        match bytesL cs with
        | some ns => some (.val (.string ⟨(ns.map fun n => UInt8.ofNat n.toNat).toArray⟩))
        | none => none
      | none => none
    else none

theorem foldl_push (ns : List Int) : ∀ (s : ByteArray), ns.foldl (fun r n => r.push (UInt8.ofNat n.toNat)) s = ⟨s.data ++ (ns.map fun n => UInt8.ofNat n.toNat).toArray⟩ := by
  induction ns with
  | nil => intro s; simp
  | cons n ns ih =>
    intro s
    rw [List.foldl_cons, ih]
    simp [ByteArray.push]

theorem convA_sound {P : Program} {X : Nat → Prop} {ρ : List Nat} {w : World} {os : List AO} (h : SR X ρ w os) {src dst : TypeId} {x r : AV} {u : Value} (hr : convA P os src dst x = some r) (hx : VR (envOf X ρ w os) x u) :
    ∃ v, (convert src dst u).run P w = .ok v w ∧ VR (envOf X ρ w os) r v := by
  unfold convA at hr
  split at hr
  · rename_i k n
    obtain rfl : u = .int k n := hx
    split at hr
    · rename_i d k' h1 h2
      injection hr with hr
      subst hr
      refine ⟨_, ?_, rfl⟩
      simp [convert, und_run h1, und_run h2, Conv.intToInt]
    · cases hr
  · rename_i s
    obtain rfl : u = .string s := hx
    split at hr
    · rename_i hc
      simp only [Bool.and_eq_true] at hc
      injection hr with hr
      subst hr
      refine ⟨_, ?_, rfl⟩
      simp [convert, und_run (stringA_eq hc.1), und_run (stringA_eq hc.2)]
    · cases hr
  · split at hr
    · rename_i hc
      simp only [Bool.and_eq_true] at hc
      split at hr
      · rename_i cs m hn
        split at hr
        · rename_i ns hb
          injection hr with hr
          subst hr
          obtain ⟨a, c, rfl, hnew⟩ := newsA_sound h (by omega) hn hx
          have hbe := hc.1
          unfold byteElem at hbe
          split at hbe
          · rename_i e he
            simp only [Bool.and_eq_true, beq_iff_eq] at hbe
            have hu8 : P.underlying e = some (.int .u8) := by
              have q := hbe.1
              split at q
              · assumption
              · cases q
            refine ⟨_, ?_, rfl⟩
            rw [run_convert_bytes_string w src dst e a m c (elemA_run he) hu8 (stringA_eq hc.2)]
            rcases hnew with ⟨rfl, rfl⟩ | ⟨ad, us, rfl, k1, k2, k3⟩
            · simp only [bytesL, Option.some.injEq] at hb
              subst hb
              cases a with
              | none => simp [Conv.bytesToString]; rfl
              | some ad => 
                rw [run_bytesToString w ad 0 c [] (by simp [loadCells, loadCellsFrom])]
                rfl
            · have hus := bytesL_sound hb k2
              subst hus
              rw [run_bytesToString w ad m c ns (by
                have := run_loadCells_list (P := P) w ad _ k3
                rw [k1, Nat.mul_one] at this
                exact this), foldl_push]
              simp
          · cases hbe
        · cases hr
      · cases hr
    · cases hr

@[simp] def lenT (P : Program) (t : TypeId) : AV → Bool
  | .val (.string _) => stringA P t
  | _ => (elemA P t).isSome

/-- One of two. -/
def selA (t : Bool) (x y : AV) : AV := if t then x else y
@[simp] theorem selA_true (x y : AV) : selA true x y = x := rfl
@[simp] theorem selA_false (x y : AV) : selA false x y = y := rfl
@[simp] theorem selA_bool (t a b : Bool) : selA t (.val (.bool a)) (.val (.bool b)) = .val (.bool (if t then a else b)) := by cases t <;> rfl

/-- An operation, but for calls of functions. -/
@[simp] def aop (P : Program) (tm : List AV) (os : List AO) : Op → Option (AV × List AO)
  | .move x => some (ev tm x, os)
  | .assign x => some (ev tm x, os)
  | .pick c a b =>
    match ev tm c with
    | .val (.bool t) => some (selA t (ev tm a) (ev tm b), os)
    | _ => none
  | .alloc t => (zeroA P t).map fun z => newA os t (z.map .val)
  | .box t x => if flatA (ev tm x) then some (newA os t (ev tm x).cellsA) else none
  | .build t parts => (buildA P t (parts.toList.map fun p => (p.1, ev tm p.2))).map (·, os)
  | .buildSlice t len parts => buildSliceA P os t len (parts.toList.map fun p => (p.1, ev tm p.2))
  | .load t x => (loadA P os t (ev tm x)).map (·, os)
  | .store t x v => (storeA P os t (ev tm x) (ev tm v)).map (.val undef, ·)
  | .nilCheck x =>
    match ev tm x with
    | .ref o off g => if refOk os (.ref o off g) then some (.ref o off g, os) else none
    | .dat cs => some (.dat cs, os)
    | _ => none
  | .binOp op t x y _ =>
    match ev tm x, ev tm y with
    | .val a, .val b => (abin P op t a b).map (.val ·, os)
    | _, _ => none
  | .unOp op _ x => match ev tm x with | .val a => (aun op a).map (.val ·, os) | _ => none
  | .convert src dst x => (convA P os src dst (ev tm x)).map (·, os)
  | .makeInterface t x => if concreteA P t then some (.ifc t (ev tm x), os) else none
  | .makeFunc fn first cap => some (.fn fn (first.toList.map (ev tm)) (cap.toList.map (ev tm)), os)
  | .slice t x lo hi none => (sliceA P os t (ev tm x) (lo.map (ev tm)) (hi.map (ev tm))).map (·, os)
  | .fieldAddr t x f => if refOk os (ev tm x) then (fieldAt P t (ev tm x) f).map (·, os) else none
  | .field t x f => (fieldV P t (ev tm x) f).map (·, os)
  | .indexAddr t x ix => (indexAt P os t (ev tm x) (ev tm ix)).map (·, os)
  | .index t x ix =>
    match ev tm x, ev tm ix with
    | .val (.string s), .val (.int _ i) => if stringA P t && decide (0 ≤ i) then (s.data[i.toNat]?).map fun b => (.val (.int .u8 b.toNat), os) else none
    | _, _ => none
  | .extract x i => match ev tm x with | .tup vs => (vs[i]?).map (·, os) | _ => none
  | .call { callee := .builtin .append, args := args, argTypes := ts } =>
    match args.toList, ts.toList with
    | [s, x], [t, t'] => if t = t' then appendA P os t (ev tm s) (ev tm x) else none
    | _, _ => none
  | .call { callee := .builtin .len, args := args, argTypes := ts } =>
    match args.toList, ts.toList with
    | [s], [t] => if lenT P t (ev tm s) then (lenA os (ev tm s)).map fun (n : Nat) => (.val (.int .i64 n), os) else none
    | _, _ => none
  | _ => none

end Go.Proofs.Ytoaodlfmhioigaa
end

section
namespace Go.Proofs.Ytoaodlfmhioigaa
open Go.RowKit

theorem lenA_sound {P : Program} {X : Nat → Prop} {ρ : List Nat} {w : World} {os : List AO} (h : SR X ρ w os) {t ty : TypeId} {x : AV} {u : Value} {n : Nat} (ht : lenT P t x = true) (hl : lenA os x = some n) (hx : VR (envOf X ρ w os) x u) (w' : World) :
    (Builtin.len_ #[t] ty #[u]).run P w' = .ok (.int .i64 n) w' := by
  have slice : ∀ a m c, (elemA P t).isSome = true → u = .slice a m c → m = n → (Builtin.len_ #[t] ty #[u]).run P w' = .ok (.int .i64 n) w' := by
    rintro a m c he0 rfl rfl
    obtain ⟨e, he⟩ := Option.isSome_iff_exists.1 he0
    simp [Builtin.len_, und_run (elemA_run he), goInt]
  unfold lenA at hl
  split at hl
  · rename_i s
    obtain rfl : u = .string s := hx
    injection hl with hl
    subst hl
    simp [Builtin.len_, und_run (stringA_eq ht), goInt]
  · injection hl with hl
    exact slice none 0 0 ht hx hl
  · injection hl with hl
    obtain ⟨a, c, hu, _⟩ := hx
    exact slice a _ c ht hu hl
  · rename_i o sz off m g
    split at hl
    · rename_i a ho
      split at hl
      · rename_i hc
        simp only [Bool.and_eq_true, beq_iff_eq] at hc
        injection hl with hl
        obtain ⟨b, hb⟩ := h.cur ho hc.1
        rw [hc.2] at hb
        obtain ⟨c, p, hu, _⟩ := hx.2.2 b hb
        exact slice _ _ _ ht hu hl
      · cases hl
    · cases hl
  · cases hl

theorem pl_map {E : Env} {tm : List AV} {a : Act} (h : VL E tm a.tmps.toList) : ∀ (l : List (Nat × Operand)), PL E (l.map fun p => (p.1, ev tm p.2)) (l.map fun p => (p.1, a.eval p.2))
  | [] => trivial
  | (_, x) :: l => ⟨rfl, ev_sound h x, pl_map h l⟩
theorem vl_map {E : Env} {tm : List AV} {a : Act} (h : VL E tm a.tmps.toList) : ∀ (l : List Operand), VL E (l.map (ev tm)) (l.map a.eval)
  | [] => trivial
  | x :: l => ⟨ev_sound h x, vl_map h l⟩
theorem opt_map {E : Env} {tm : List AV} {a : Act} (h : VL E tm a.tmps.toList) : ∀ (o : Option Operand), OptR E (o.map (ev tm)) (o.map a.eval)
  | none => trivial
  | some x => ev_sound h x

theorem concreteA_eq {P : Program} {t : TypeId} (h : concreteA P t = true) : ∃ d, P.underlying t = some d ∧ ∀ ms, d ≠ .interface ms := by
  unfold concreteA at h
  split at h
  · cases h
  · rename_i d hne hu
    exact ⟨d, hu, hne⟩
  · cases h

/-- What the model does at an operation. -/
def OpR (P : Program) (o : Oper) (a : Act) (w w' : World) (E : Env) (r : AV) : Prop :=
  (∃ v, (execOp a.eval o).run P w = .ok (.value v) w' ∧ VR E r v) ∨ ((execOp a.eval o).run P w = .ok .skip w' ∧ r = .val undef)

/-- Which objects an operation writes. -/
@[simp] def wrA (tm : List AV) : Op → List Nat
  | .store _ x _ => match ev tm x with | .ref o _ _ => [o] | _ => []
  | .call { callee := .builtin .append, args := args, argTypes := _ } => match args.toList with | [s, _] => (match ev tm s with | .row o _ _ _ _ => [o] | _ => []) | _ => []
  | _ => []

set_option maxRecDepth 4000 in
theorem aop_sound {P : Program} {X W : Nat → Prop} {ρ : List Nat} {w : World} {os os' : List AO} {tm : List AV} {a : Act} {o : Oper} {r : AV} (h : SR X ρ w os) (hv : VL (envOf X ρ w os) tm a.tmps.toList)
    (hr : aop P tm os o.op = some (r, os')) (hW : ∀ i, i ∈ wrA tm o.op → W i) : ∃ w' ρ', Goes X W ρ ρ' w w' os os' ∧ OpR P o a w w' (envOf X ρ' w' os') r := by
  have same : ∀ (v : Value), os' = os → (execOp a.eval o).run P w = .ok (.value v) w → VR (envOf X ρ w os) r v → ∃ w' ρ', Goes X W ρ ρ' w w' os os' ∧ OpR P o a w w' (envOf X ρ' w' os') r := by
    rintro v rfl e1 e2
    exact ⟨w, ρ, Goes.refl h, .inl ⟨v, e1, e2⟩⟩
  have mapped : ∀ {α : Type} {z : Option α} {f : α → AV}, z.map (fun q => (f q, os)) = some (r, os') → ∃ q, z = some q ∧ r = f q ∧ os' = os := by
    intro α z f hz
    obtain ⟨q, h1, h2⟩ := Option.map_eq_some_iff.1 hz
    simp only [Prod.mk.injEq] at h2
    exact ⟨q, h1, h2.1.symm, h2.2.symm⟩
  obtain ⟨dst, op, ty, pos, after, guard⟩ := o
  have e0 : ∀ (s : Sem Value) (v : Value) (w' : World), s.run P w = .ok v w' → ((do pure (.value (← s)) : Sem Next)).run P w = .ok (.value v) w' := fun s v w' hs => by simp [hs]
  cases op with
  | move x =>
    simp only [aop, Option.some.injEq, Prod.mk.injEq] at hr
    exact same _ hr.2.symm rfl (by rw [← hr.1]; exact ev_sound hv x)
  | assign x =>
    simp only [aop, Option.some.injEq, Prod.mk.injEq] at hr
    exact same _ hr.2.symm rfl (by rw [← hr.1]; exact ev_sound hv x)
  | pick c x y =>
    have hc := ev_sound hv c
    have hx := ev_sound hv x
    have hy := ev_sound hv y
    have key : ∀ t, ev tm c = .val (.bool t) → (execOp a.eval ⟨dst, .pick c x y, ty, pos, after, guard⟩).run P w = .ok (.value (if t then a.eval x else a.eval y)) w := fun t ht => by
      rw [ht] at hc
      have hc' : a.eval c = .bool t := hc
      simp [execOp, asBool, hc']
    simp only [aop] at hr
    split at hr
    · rename_i t h1
      simp only [Option.some.injEq, Prod.mk.injEq] at hr
      refine same _ hr.2.symm (key t h1) ?_
      rw [← hr.1]
      cases t
      · exact hy
      · exact hx
    · cases hr
  | alloc t =>
    simp only [aop] at hr
    obtain ⟨z, h1, h2⟩ := Option.map_eq_some_iff.1 hr
    unfold zeroA at h1
    obtain ⟨zv, hz1, rfl⟩ := Option.map_eq_some_iff.1 h1
    obtain ⟨it, hit, hzero⟩ := Option.bind_eq_some_iff.1 hz1
    obtain ⟨ρ', k1, k2⟩ := newA_sound h t (zv.cells.toList.map .val) zv.cells (vl_val _ _)
    simp only [Prod.ext_iff] at h2
    rw [← h2.1, ← h2.2]
    refine ⟨_, ρ', k1, .inl ⟨_, ?_, k2⟩⟩
    simp [execOp, Instr.alloc, zeroValue, typeInfo, hit, hzero, newVar, newRow]
  | box t x =>
    simp only [aop] at hr
    split at hr
    · rename_i hf
      injection hr with hr
      obtain ⟨k0, _⟩ := flat_sound hf (ev_sound hv x)
      obtain ⟨ρ', k1, k2⟩ := newA_sound h t _ (a.eval x).cells k0
      simp only [Prod.ext_iff] at hr
      rw [← hr.1, ← hr.2]
      refine ⟨_, ρ', k1, .inl ⟨_, ?_, k2⟩⟩
      simp [execOp, Instr.box, newVar, newRow]
    · cases hr
  | build t parts =>
    simp only [aop] at hr
    obtain ⟨q, h1, rfl, h3⟩ := mapped hr
    obtain ⟨v, k1, k2⟩ := buildA_sound h1 (parts := parts.map fun (i, x) => (i, a.eval x)) (by simpa using pl_map hv parts.toList)
    exact same v h3 (e0 _ _ _ (k1 w)) k2
  | buildSlice t len parts =>
    simp only [aop] at hr
    obtain ⟨v, w', ρ', k1, k2, k3⟩ := buildSliceA_sound h hr (parts := parts.map fun (i, x) => (i, a.eval x)) (by simpa using pl_map hv parts.toList)
    exact ⟨w', ρ', k2, .inl ⟨v, e0 _ _ _ k1, k3⟩⟩
  | load t x =>
    simp only [aop] at hr
    obtain ⟨q, h1, rfl, h3⟩ := mapped hr
    obtain ⟨v, k1, k2⟩ := loadA_sound h (ev_sound hv x) h1
    exact same v h3 (e0 _ _ _ k1) k2
  | store t x y =>
    simp only [aop] at hr
    obtain ⟨q, h1, h2⟩ := Option.map_eq_some_iff.1 hr
    simp only [Prod.mk.injEq] at h2
    obtain ⟨rfl, rfl⟩ := h2
    obtain ⟨w', k1, k2⟩ := storeA_sound h (fun o off g e => hW o (by simp only [wrA, e]; exact List.mem_cons_self)) (ev_sound hv x) (ev_sound hv y) h1
    exact ⟨w', ρ, k2, .inr ⟨by simp [execOp, k1], rfl⟩⟩
  | nilCheck x =>
    have hx := ev_sound hv x
    simp only [aop] at hr
    split at hr
    · rename_i o off g he
      rw [he] at hx
      split at hr
      · rename_i hok
        simp only [Option.some.injEq, Prod.mk.injEq] at hr
        obtain ⟨b, hb⟩ := refOk_cur h hok o off g rfl
        have hu := hx.2.2 b hb
        refine same (a.eval x) hr.2.symm ?_ (by rw [← hr.1]; exact hx)
        simp [execOp, hu]
      · cases hr
    · rename_i cs he
      rw [he] at hx
      simp only [Option.some.injEq, Prod.mk.injEq] at hr
      have hx2 := hx
      obtain ⟨b, off, hu, _⟩ := hx2
      refine same (a.eval x) hr.2.symm ?_ (by rw [← hr.1]; exact hx)
      simp [execOp, hu]
    · cases hr
  | binOp op t x y yt =>
    have hx := ev_sound hv x
    have hy := ev_sound hv y
    simp only [aop] at hr
    split at hr
    · rename_i u v h1 h2
      rw [h1] at hx; rw [h2] at hy
      obtain ⟨q, k1, rfl, k3⟩ := mapped hr
      have hs := abin_sound k1 x y w
      refine same q k3 ?_ rfl
      have hx' : a.eval x = u := hx
      have hy' : a.eval y = v := hy
      simp only [execOp, hx', hy']
      exact e0 _ _ _ hs
    · cases hr
  | unOp op t x =>
    have hx := ev_sound hv x
    simp only [aop] at hr
    split at hr
    · rename_i u h1
      rw [h1] at hx
      obtain ⟨q, k1, rfl, k3⟩ := mapped hr
      have hx' : a.eval x = u := hx
      refine same q k3 ?_ rfl
      simp only [execOp, hx']
      exact e0 _ _ _ (aun_sound k1 w)
    · cases hr
  | convert src dst x =>
    simp only [aop] at hr
    obtain ⟨q, h1, rfl, h3⟩ := mapped hr
    obtain ⟨v, k1, k2⟩ := convA_sound h h1 (ev_sound hv x)
    exact same v h3 (e0 _ _ _ k1) k2
  | makeInterface t x =>
    simp only [aop] at hr
    split at hr
    · rename_i hc
      simp only [Option.some.injEq, Prod.mk.injEq] at hr
      obtain ⟨d, hd, hne⟩ := concreteA_eq hc
      refine same (.iface t (a.eval x)) hr.2.symm ?_ (by rw [← hr.1]; exact ⟨_, rfl, ev_sound hv x⟩)
      refine e0 _ _ _ ?_
      simp only [Instr.makeInterface, Sem.run_bind, und_run hd, Result.andThen_ok]
      first
        | rfl
        | (split
           · rename_i ms; exact absurd rfl (hne ms)
           · rfl)
    · cases hr
  | makeFunc fn first cap =>
    simp only [aop, Option.some.injEq, Prod.mk.injEq] at hr
    refine same (.func fn (first.map a.eval) (cap.map a.eval)) hr.2.symm rfl ?_
    rw [← hr.1]
    exact ⟨_, _, rfl, by simpa using vl_map hv first.toList, by simpa using vl_map hv cap.toList⟩
  | slice t x lo hi mx =>
    cases mx with
    | some _ => simp only [aop] at hr; cases hr
    | none =>
      simp only [aop] at hr
      obtain ⟨q, h1, rfl, h3⟩ := mapped hr
      obtain ⟨v, k1, k2⟩ := sliceA_sound h h1 (ev_sound hv x) (opt_map hv lo) (opt_map hv hi)
      exact same v h3 (e0 _ _ _ (k1 w)) k2
  | fieldAddr t x f =>
    simp only [aop] at hr
    split at hr
    · rename_i hok
      obtain ⟨q, h1, rfl, h3⟩ := mapped hr
      obtain ⟨v, k1, k2⟩ := fieldAt_sound h1 (ev_sound hv x) (refOk_cur h hok)
      exact same v h3 (e0 _ _ _ (k1 w)) k2
    · cases hr
  | field t x f =>
    simp only [aop] at hr
    obtain ⟨q, h1, rfl, h3⟩ := mapped hr
    obtain ⟨v, k1, k2⟩ := fieldV_sound h1 (ev_sound hv x)
    exact same v h3 (e0 _ _ _ (k1 w)) k2
  | indexAddr t x ix =>
    simp only [aop] at hr
    obtain ⟨q, h1, rfl, h3⟩ := mapped hr
    obtain ⟨v, k1, k2⟩ := indexAt_sound h h1 (ev_sound hv x) (ev_sound hv ix)
    exact same v h3 (e0 _ _ _ (k1 w)) k2
  | index t x ix =>
    have hx := ev_sound hv x
    have hy := ev_sound hv ix
    simp only [aop] at hr
    split at hr
    · rename_i s k i h1 h2
      rw [h1] at hx; rw [h2] at hy
      have hx' : a.eval x = .string s := hx
      have hy' : a.eval ix = .int k i := hy
      split at hr
      · rename_i hc
        simp only [Bool.and_eq_true, decide_eq_true_eq] at hc
        obtain ⟨b, hb, rfl, h3⟩ := mapped hr
        refine same _ h3 ?_ rfl
        refine e0 _ _ _ ?_
        rw [hx', hy']
        have hsz : i.toNat < s.data.size := (Array.getElem?_eq_some_iff.1 hb).1
        have hg : s[i.toNat]? = some b := by
          have hlt : i.toNat < s.size := hsz
          rw [getElem?_pos s i.toNat hlt]
          congr 1
          have := (Array.getElem?_eq_some_iff.1 hb).2
          exact this
        simp [Instr.index, asIntOf, und_run (stringA_eq hc.1), hc.2, hg]
      · cases hr
    · cases hr
  | extract x i =>
    have hx := ev_sound hv x
    simp only [aop] at hr
    split at hr
    · rename_i vs h1
      rw [h1] at hx
      obtain ⟨us, hu, hl⟩ := hx
      obtain ⟨q, k1, rfl, k3⟩ := mapped hr
      obtain ⟨u, e1, e2⟩ := VL.get i hl k1
      refine same u k3 ?_ e2
      refine e0 _ _ _ ?_
      rw [Array.getElem?_toList] at e1
      simp [Instr.extract, hu, e1]
    · cases hr
  | call c =>
    obtain ⟨callee, args, ts⟩ := c
    cases callee with
    | value f => simp only [aop] at hr; cases hr
    | invoke r m => simp only [aop] at hr; cases hr
    | builtin b =>
      cases b <;> try (simp only [aop] at hr; cases hr; done)
      case append =>
        simp only [aop] at hr
        split at hr
        · rename_i s x t t' h1 h2
          split at hr
          · rename_i htt
            subst htt
            have ha : args = #[s, x] := by apply Array.toList_inj.1; rw [h1]
            have ht : ts = #[t, t] := by apply Array.toList_inj.1; rw [h2]
            subst ha; subst ht
            obtain ⟨v, w', ρ', k1, k2, k3⟩ := appendA_sound (ty := ty) h hr (fun o sz off n g e => hW o (by simp only [wrA, e]; exact List.mem_cons_self)) (ev_sound hv s) (ev_sound hv x)
            refine ⟨w', ρ', k2, .inl ⟨v, ?_, k3⟩⟩
            simp [execOp, resolve, invoke, builtin, k1]
          · cases hr
        · cases hr
      case len =>
        simp only [aop] at hr
        split at hr
        · rename_i s t h1 h2
          split at hr
          · rename_i hc
            have ha : args = #[s] := by apply Array.toList_inj.1; rw [h1]
            have ht : ts = #[t] := by apply Array.toList_inj.1; rw [h2]
            subst ha; subst ht
            obtain ⟨n, k1, rfl, k3⟩ := mapped hr
            have hrun := lenA_sound (ty := ty) h hc k1 (ev_sound hv s) w
            refine same _ k3 ?_ rfl
            simp [execOp, resolve, invoke, builtin, hrun]
          · cases hr
        · cases hr
  | _ => simp only [aop] at hr; cases hr

end Go.Proofs.Ytoaodlfmhioigaa
end
