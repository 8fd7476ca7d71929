import Derived.Test.YtnfdkmnmniiokaaGreatDoorX4
import Derived.Great.BuildSlice
set_option linter.unusedVariables false
set_option linter.unusedSimpArgs false
namespace Go.Proofs.YtnfdkmnmniiokaaGreatDoor
open Go.RowKit

theorem splice_length {α : Type} {cs : List α} {off : Nat} {xs : List α} (h : off + xs.length ≤ cs.length) : (splice cs off xs).length = cs.length := by
  unfold splice
  simp only [List.length_append, List.length_take, List.length_drop]
  omega
theorem splice_get {α : Type} {cs xs : List α} {off : Nat} (h : off + xs.length ≤ cs.length) (k : Nat) : (splice cs off xs)[k]? = if off ≤ k ∧ k < off + xs.length then xs[k - off]? else cs[k]? := by
  unfold splice
  have hl : (cs.take off).length = off := by rw [List.length_take]; omega
  by_cases h1 : k < off
  · rw [if_neg (by omega), List.append_assoc, List.getElem?_append_left (by omega), List.getElem?_take, if_pos h1]
  · by_cases h2 : k < off + xs.length
    · rw [if_pos ⟨by omega, h2⟩, List.append_assoc, List.getElem?_append_right (by omega), hl, List.getElem?_append_left (by omega)]
    · rw [if_neg (by omega), List.getElem?_append_right (by rw [List.length_append, hl]; omega), List.length_append, hl, List.getElem?_drop]
      congr 1
      omega

section
variable {P : Program} {ρ : Pl} {η : Nat → Value} {B : Nat} {hp : Hp} {nx : Nat} {w : World}

theorem VL.splice {cs xs : List EV} {us vs : List Value} {off : Nat} (h : VL ρ η cs us) (k : VL ρ η xs vs) : VL ρ η (splice cs off xs) (YtnfdkmnmniiokaaGreatDoor.splice us off vs) := by
  unfold YtnfdkmnmniiokaaGreatDoor.splice
  rw [VL.length k]
  exact ((h.take off).append k).append (h.drop _)

theorem fill_step (cells v : Array Value) (off : Nat) (h : off + v.size ≤ cells.size) : (v.zipIdx.foldl (fun cs (c, j) => cs.setIfInBounds (off + j) c) cells).toList = splice cells.toList off v.toList := by
  apply List.ext_getElem?
  intro k
  rw [splice_get (by simpa using h)]
  have e : v.zipIdx.foldl (fun cs (c, j) => cs.setIfInBounds (off + j) c) cells = (v.toList.zipIdx 0).foldl (fun cs (x : Value × Nat) => cs.setIfInBounds (off + x.2) x.1) cells := by
    rw [← Array.foldl_toList]
    simp
  rw [e, Array.getElem?_toList, (Great.foldl_set off v.toList 0 cells).2 k]
  simp only [Nat.add_zero, Array.length_toList]
  by_cases hk : off ≤ k ∧ k < off + v.size
  · rw [if_pos ⟨hk.1, hk.2, by omega⟩, if_pos hk]
  · rw [if_neg (fun q => hk ⟨q.1, q.2.1⟩), if_neg hk, Array.getElem?_toList]

/-- Parts laid into cells. -/
def fillE (place : Nat → Option (Nat × Nat)) : List EV → List (Nat × EV) → Option (List EV)
  | cs, [] => some cs
  | cs, (i, x) :: rest =>
    match place i with
    | some (off, n) => if flatE x && (cellsE x).length == n && decide (off + n ≤ cs.length) then fillE place (splice cs off (cellsE x)) rest else none
    | none => none
def PL (ρ : Pl) (η : Nat → Value) : List (Nat × EV) → List (Nat × Value) → Prop
  | [], [] => True
  | (i, x) :: xs, (j, u) :: us => i = j ∧ VR ρ η x u ∧ PL ρ η xs us
  | _, _ => False
theorem fillE_sound (hη : Ones η) {place : Nat → Option (Nat × Nat)} : ∀ {xs : List (Nat × EV)} {us : List (Nat × Value)} {cs r : List EV} {arr : Array Value}, PL ρ η xs us → VL ρ η cs arr.toList → fillE place cs xs = some r →
    ∃ arr', Instr.fill place arr us = some arr' ∧ VL ρ η r arr'.toList
  | [], [], cs, r, arr, _, hv, h => by
    simp only [fillE, Option.some.injEq] at h
    subst h
    exact ⟨arr, rfl, hv⟩
  | (i, x) :: xs, (j, u) :: us, cs, r, arr, ⟨hij, hx, hp⟩, hv, h => by
    subst hij
    simp only [fillE] at h
    split at h
    · rename_i off n hpl
      split at h
      · rename_i hcond
        simp only [Bool.and_eq_true, beq_iff_eq, decide_eq_true_eq] at hcond
        obtain ⟨⟨hf, hn⟩, hle⟩ := hcond
        obtain ⟨k1, k2⟩ := flat_sound hη hf hx
        have l1 := VL.length k1
        have l2 := VL.length hv
        rw [Array.length_toList] at l1 l2
        have hst := fill_step arr u.cells off (by omega)
        have hv2 : VL ρ η (splice cs off (cellsE x)) (u.cells.zipIdx.foldl (fun cs (c, j) => cs.setIfInBounds (off + j) c) arr).toList := by
          rw [hst]
          exact hv.splice k1
        obtain ⟨arr', e1, e2⟩ := fillE_sound hη hp hv2 h
        refine ⟨arr', ?_, e2⟩
        unfold Instr.fill
        simp only [hpl]
        have hc2 : (decide (u.cells.size ≠ n) || decide (off + u.cells.size > arr.size)) = false := by
          simp only [Bool.or_eq_false_iff, decide_eq_false_iff_not]
          omega
        simp only [hc2, Bool.false_eq_true, if_false]
        exact e1
      · cases h
    · cases h
  | [], _ :: _, _, _, _, h, _, _ => h.elim
  | _ :: _, [], _, _, _, h, _, _ => h.elim

/-- A struct's places, an array's. -/
def placesA (P : Program) (t : TypeId) : Option (Nat → Option (Nat × Nat)) :=
  match P.underlying t with
  | some (.struct fields) => match fields.toList.mapM (fun f => (P.info? f.type).map fun i => (f.offset, i.size)) with
    | some pl => some fun i => pl[i]?
    | none => none
  | some (.array _ e) => match P.info? e with
    | some ie => some fun i => some (i * ie.size, ie.size)
    | none => none
  | _ => none
def buildA (P : Program) (t : TypeId) (parts : List (Nat × EV)) : Option EV :=
  match placesA P t, zeroA P t with
  | some pl, some z => match fillE pl (z.map ofVal) parts with | some cs => some (.agg cs) | none => none
  | _, _ => none
theorem buildA_sound (hη : Ones η) {t : TypeId} {xs : List (Nat × EV)} {parts : Array (Nat × Value)} {r : EV} (h : buildA P t xs = some r) (hp : PL ρ η xs parts.toList) :
    ∃ v, (∀ w, (Instr.build t parts).run P w = .ok v w) ∧ VR ρ η r v := by
  unfold buildA at h
  split at h
  · rename_i pl z hpl hz
    split at h
    · rename_i cs h1
      injection h with h
      subst h
      unfold zeroA at hz
      obtain ⟨zv, hz1, rfl⟩ := Option.map_eq_some_iff.1 hz
      obtain ⟨it, hit, hzero⟩ := Option.bind_eq_some_iff.1 hz1
      obtain ⟨arr', e1, e2⟩ := fillE_sound hη (arr := zv.cells) hp (vl_ofVal ρ η _) h1
      refine ⟨.agg arr', fun w => run_build w t parts arr' ?_, arr', rfl, e2⟩
      unfold placesA at hpl
      split at hpl
      · rename_i fields hu
        split at hpl
        · rename_i pl' hm
          injection hpl with hpl
          subst hpl
          unfold Program.built
          simp only [hit, hu, hzero, hm]
          have e : (fun (i : Nat) => pl'.toArray[i]?) = (fun (i : Nat) => pl'[i]?) := by funext i; simp
          rw [e]
          exact e1
        · cases hpl
      · rename_i n e hu
        split at hpl
        · rename_i ie hie
          injection hpl with hpl
          subst hpl
          unfold Program.built
          simp only [hit, hu, hzero, hie]
          exact e1
        · cases hpl
      · cases hpl
    · cases h
  · cases h

/-! New objects. -/
theorem HR.newCells (H : HR B ρ η hp nx w) (ty : TypeId) (cs : List EV) (arr : Array Value) (hv : VL ρ η cs (arr.toList.take cs.length)) (hl : cs.length ≤ arr.size) :
    Go1 B η ρ (ρ.ext nx (w.heap.size, 0, arr.size)) (hp.set nx (some (.cells ty cs))) (nx + 1) w (w.alloc (.cells arr ty)) := by
  have hle : ρ.Le (ρ.ext nx (w.heap.size, 0, arr.size)) := Pl.le_ext _ (H.out nx (Nat.le_refl _))
  exact H.newO none (S := fun _ => False) (Upd.alloc _ w _) (fun _ h => h.elim) (by simp) (.inl (Nat.le_refl _))
    ⟨arr, heap_alloc_new w _, rfl, by simpa using hl, by rw [List.drop_zero]; exact VL.le hle _ _ hv⟩

def newE (hp : Hp) (nx : Nat) (ty : TypeId) (cs : List EV) : EV × Hp × Nat := (.ptr nx 0, hp.set nx (some (.cells ty cs)), nx + 1)
theorem newE_sound (H : HR B ρ η hp nx w) (t : TypeId) (cs : List EV) (arr : Array Value) (hv : VL ρ η cs arr.toList) :
    ∃ ρ', Go1 B η ρ ρ' (newE hp nx t cs).2.1 (newE hp nx t cs).2.2 w (w.alloc (.cells arr t)) ∧ VR ρ' η (newE hp nx t cs).1 (.pointer (some ⟨w.heap.size, 0, none⟩)) := by
  have hl := VL.length hv
  rw [Array.length_toList] at hl
  exact ⟨_, H.newCells t cs arr (by rw [List.take_of_length_le (by simp [hl])]; exact hv) (by omega), _, _, _, Pl.ext_same _ _ _, rfl⟩

/-- A new row. -/
def rowE (hp : Hp) (nx : Nat) (ty : TypeId) (cs : List EV) (n sz : Nat) : EV × Hp × Nat := (.slc nx 0 n sz 0, hp.set nx (some (.cells ty cs)), nx + 1)

def zerosE (P : Program) (e : TypeId) (len : Nat) : Option (List EV) := (zeroA P e).map fun z => (List.replicate len (z.map ofVal)).flatten

theorem zeros_list (z : List Value) (s : Nat) (hz : z.length = s + 1) : ∀ len, ((Array.range (len * (s + 1))).map (z.toArray[· % z.toArray.size]!)).toList = (List.replicate len z).flatten := by
  intro len
  apply List.ext_getElem?
  intro k
  have hlen : ((List.replicate len z).flatten).length = len * (s + 1) := by simp [hz]
  by_cases hk : k < len * (s + 1)
  · have e : ((List.replicate len z).flatten)[k]? = z[k % (s + 1)]? := by
      induction len generalizing k with
      | zero => omega
      | succ len ih =>
        rw [List.replicate_succ, List.flatten_cons]
        by_cases h1 : k < s + 1
        · rw [List.getElem?_append_left (by omega), Nat.mod_eq_of_lt h1]
        · rw [List.getElem?_append_right (by omega), hz]
          rw [ih (k - (s + 1)) (by simp [hz]) (by rw [Nat.succ_mul] at hk; omega)]
          rw [← Nat.mod_eq_sub_mod (by omega)]
    rw [e]
    have hm : k % (s + 1) < z.length := by rw [hz]; exact Nat.mod_lt _ (by omega)
    simp [hk, hz, List.getElem?_eq_getElem hm, List.getElem!_eq_getElem?_getD, List.getElem?_eq_getElem hm]
  · rw [List.getElem?_eq_none (by simp; omega), List.getElem?_eq_none (by omega)]
theorem vl_flatten (z : List Value) : ∀ len, VL ρ η ((List.replicate len (z.map ofVal)).flatten) ((List.replicate len z).flatten)
  | 0 => trivial
  | len + 1 => by
    rw [List.replicate_succ, List.flatten_cons, List.replicate_succ, List.flatten_cons]
    exact (vl_ofVal ρ η z).append (vl_flatten z len)

/-- The cells of a slice's literal. -/
def bsCells (P : Program) (t : TypeId) (len : Nat) (parts : List (Nat × EV)) : Option (TypeId × Nat × List EV) :=
  match elemA P t with
  | some e =>
    match sizeA P e, zeroA P e with
    | some (s + 1), some z =>
      if len * (s + 1) ≤ 2 ^ 24 && z.length == s + 1 then
        match fillE (fun i => some (i * (s + 1), s + 1)) ((List.replicate len (z.map ofVal)).flatten) parts with
        | some cs => if cs.length == len * (s + 1) then some (e, s + 1, cs) else none
        | none => none
      else none
    | _, _ => none
  | none => none
/-- A slice's literal. -/
def buildSliceA (P : Program) (hp : Hp) (nx : Nat) (t : TypeId) (len : Nat) (parts : List (Nat × EV)) : Option (EV × Hp × Nat) :=
  match bsCells P t len parts with
  | some (e, sz, cs) => some (rowE hp nx e cs len sz)
  | none => none
theorem bsCells_sound (hη : Ones η) {t : TypeId} {len : Nat} {xs : List (Nat × EV)} {parts : Array (Nat × Value)} {e : TypeId} {sz : Nat} {cs : List EV}
    (hr : bsCells P t len xs = some (e, sz, cs)) (hp : PL ρ η xs parts.toList) :
    ∃ arr', (Instr.buildSlice t len parts).run P w = .ok (.slice (some ⟨w.heap.size, 0, none⟩) len len) (w.alloc (.cells arr' e)) ∧ VL ρ η cs arr'.toList ∧ cs.length = arr'.size ∧ len ≤ maxLen ∧ 0 < sz ∧ len * sz = arr'.size := by
  unfold bsCells at hr
  split at hr
  · rename_i e' he
    have hu := elemA_run he
    split at hr
    · rename_i s z hs hz
      split at hr
      · rename_i hcond
        simp only [Bool.and_eq_true, beq_iff_eq, decide_eq_true_eq] at hcond
        split at hr
        · rename_i cs' hcs
          split at hr
          · rename_i hcond2
            simp only [beq_iff_eq] at hcond2
            simp only [Option.some.injEq, Prod.mk.injEq] at hr
            obtain ⟨rfl, rfl, rfl⟩ := hr
            unfold zeroA at hz
            obtain ⟨zv, hz1, rfl⟩ := Option.map_eq_some_iff.1 hz
            obtain ⟨it, hit, hzero⟩ := Option.bind_eq_some_iff.1 hz1
            unfold sizeA at hs
            obtain ⟨it2, hit2, hsz⟩ := Option.map_eq_some_iff.1 hs
            rw [hit] at hit2; injection hit2 with hit2; subst hit2
            have hzs : ((Array.range (len * (s + 1))).map (zv.cells[· % zv.cells.size]!)).toList = (List.replicate len zv.cells.toList).flatten := by
              have := zeros_list zv.cells.toList s hcond.2 len
              simpa using this
            obtain ⟨arr', e1, e2⟩ := fillE_sound hη (arr := (Array.range (len * (s + 1))).map (zv.cells[· % zv.cells.size]!)) hp (by rw [hzs]; exact vl_flatten _ _) hcs
            have hl := VL.length e2
            rw [Array.length_toList] at hl
            have hrun : (Instr.buildSlice t len parts).run P w = .ok (.slice (some ⟨w.heap.size, 0, none⟩) len len) (w.alloc (.cells arr' e')) := by
              by_cases h0 : len * (s + 1) = 0
              · have hl0 : len = 0 := by rcases Nat.mul_eq_zero.1 h0 with h | h; exact h; omega
                subst hl0
                simp only [Nat.zero_mul] at e1
                have e1' : Instr.fill (fun i => some (i * it.size, it.size)) ((Array.range 0).map ((#[] : Array Value)[· % (#[] : Array Value).size]!)) parts.toList = some arr' := by
                  rw [hsz]
                  rw [show Array.range 0 = #[] from rfl, Array.map_empty] at e1 ⊢
                  exact e1
                simp only [Nat.zero_mul, Instr.buildSlice, und_run hu, sizeOf, typeInfo, hit, Sem.run_bind, run_program, Result.andThen_ok, Sem.run_pure, if_true, Nat.not_lt_zero, gt_iff_lt, if_false, Sem.run_ite]
                simp only [e1', newRow, Sem.run_bind, run_newObj, Result.andThen_ok, Sem.run_pure]
                rfl
              · exact run_buildSlice w t e' len parts arr' it zv hu hit hzero (by rw [hsz]; exact Nat.not_lt.2 hcond.1) (by rw [hsz]; exact h0) (by rw [hsz]; exact e1)
            exact ⟨arr', hrun, e2, hl.symm, Nat.le_trans (Nat.le_trans (Nat.le_mul_of_pos_right len (Nat.succ_pos s)) hcond.1) (by decide), Nat.succ_pos s, by omega⟩
          · cases hr
        · cases hr
      · cases hr
    · cases hr
  · cases hr

theorem buildSliceA_sound (hη : Ones η) (H : HR B ρ η hp nx w) {t : TypeId} {len : Nat} {xs : List (Nat × EV)} {parts : Array (Nat × Value)} {r : EV} {hp' : Hp} {nx' : Nat}
    (hr : buildSliceA P hp nx t len xs = some (r, hp', nx')) (hp : PL ρ η xs parts.toList) :
    ∃ v w' ρ', (Instr.buildSlice t len parts).run P w = .ok v w' ∧ Go1 B η ρ ρ' hp' nx' w w' ∧ VR ρ' η r v := by
  unfold buildSliceA at hr
  split at hr
  · rename_i e sz cs hb
    simp only [rowE, Option.some.injEq, Prod.mk.injEq] at hr
    obtain ⟨rfl, rfl, rfl⟩ := hr
    obtain ⟨arr', k1, k2, k3, k4, k5, k6⟩ := bsCells_sound (w := w) hη hb hp
    refine ⟨_, _, _, k1, H.newCells e cs arr' (by rw [List.take_of_length_le (by simp [k3])]; exact k2) (by omega), w.heap.size, 0, arr'.size, len, Pl.ext_same _ _ _, ?_, Nat.le_refl _, k4, k5, by omega⟩
    simp
  · cases hr

/-! Stores. -/
def storeE (hp : Hp) (n : Nat) (x v : EV) : Option Hp :=
  match x with
  | .ptr o off => match hp.get o with
    | some (.cells ty cs) => if flatE v && (cellsE v).length == n && decide (off + n ≤ cs.length) then some (hp.set o (some (.cells ty (splice cs off (cellsE v))))) else none
    | _ => none
  | _ => none
theorem storeE_sound (hη : Ones η) (H : HR B ρ η hp nx w) {t : TypeId} {n : Nat} (hn : sizeA P t = some n) {x v : EV} {u uv : Value} {hp' : Hp} (hx : VR ρ η x u) (hv : VR ρ η v uv)
    (hr : storeE hp n x v = some hp') : ∃ w', (Instr.storeAt t u uv).run P w = .ok () w' ∧ Go1 B η ρ ρ hp' nx w w' := by
  unfold storeE at hr
  split at hr
  · rename_i o off
    split at hr
    · rename_i ty cs ho
      split at hr
      · rename_i hcond
        simp only [Bool.and_eq_true, beq_iff_eq, decide_eq_true_eq] at hcond
        obtain ⟨⟨hf, hlen⟩, hoff⟩ := hcond
        injection hr with hr
        subst hr
        obtain ⟨b, d, N, h1, rfl⟩ := hx
        obtain ⟨p, h2, h3⟩ := H.obj o _ ho
        rw [h1] at h2; injection h2 with h2; subst h2
        obtain ⟨arr, a1, a2, a3, a4⟩ := h3
        obtain ⟨k1, k2⟩ := flat_sound hη hf hv
        have kl := VL.length k1
        have hst := run_storeCells_at (P := P) b (d + off) ty uv.cells.toList 0 arr w a1 (by simp only at a3; omega) k2
        simp only [Nat.add_zero] at hst
        have hsz : uv.cells.size = n := by rw [← Array.length_toList, kl, hlen]
        obtain ⟨arr2, harr2⟩ : ∃ arr2, (arr.toList.take (d + off) ++ uv.cells.toList ++ arr.toList.drop (d + off + uv.cells.toList.length)).toArray = arr2 := ⟨_, rfl⟩
        rw [harr2] at hst
        have harr3 : arr2.toList = splice arr.toList (d + off) uv.cells.toList := by rw [← harr2]; rfl
        have hle : d + off + uv.cells.toList.length ≤ arr.toList.length := by simp only at a3; rw [kl, hlen, Array.length_toList]; omega
        have hsz2 : arr2.size = arr.size := by rw [← Array.length_toList, harr3, splice_length hle, Array.length_toList]
        refine ⟨_, by
          simp only [Instr.storeAt, Instr.sureAddr, Sem.run_bind, Sem.run_pure, Result.andThen_ok, storeVar, sizeA_run hn, hsz, ne_eq, not_true_eq_false, if_false, hst], H.setO ho h1 (Upd.setRow w b arr2 rfl) ?_⟩
        refine ⟨arr2, setRow_heap w b arr arr2 ty _ a1, hsz2.trans a2, ?_, ?_⟩
        · rw [splice_length (by omega), hsz2]; exact a3
        · have e : (arr2.toList.drop d).take (splice cs off (cellsE v)).length = splice ((arr.toList.drop d).take cs.length) off uv.cells.toList := by
            rw [splice_length (by omega), harr3]
            simp only at a3
            apply List.ext_getElem?
            intro k
            rw [splice_get (by rw [List.length_take, List.length_drop, Array.length_toList]; omega), List.getElem?_take, List.getElem?_drop, splice_get hle]
            by_cases q : k < cs.length
            · rw [if_pos q]
              by_cases q2 : off ≤ k ∧ k < off + uv.cells.toList.length
              · rw [if_pos q2, if_pos (by omega)]
                congr 1
                omega
              · rw [if_neg q2, if_neg (by omega), List.getElem?_take, if_pos q, List.getElem?_drop]
            · rw [if_neg q, if_neg (by omega), List.getElem?_take, if_neg q]
          rw [e]
          exact a4.splice k1
      · cases hr
    · cases hr
  · cases hr

/-! Append. -/
/-- What is put behind: its cells, how many things. -/
def newsE (hp : Hp) (sz : Nat) : EV → Option (List EV × Nat)
  | .val (.slice none 0 0) => some ([], 0)
  | .slc o off m sz' _ =>
    match hp.get o with
    | some (.cells _ cs) => if Nat.beq sz' sz && decide (off + m * sz ≤ cs.length) then some ((cs.drop off).take (m * sz), m) else none
    | _ => if m = 0 then some ([], 0) else none
  | _ => none
theorem newsE_sound (hη : Ones η) (H : HR B ρ η hp nx w) {sz : Nat} {tx e' : TypeId} (hk : P.underlying tx = some (.slice e')) {x : EV} {u : Value} {cs : List EV} {m : Nat} (hr : newsE hp sz x = some (cs, m)) (hone : cs.all oneE = true) (hx : VR ρ η x u) :
    ∃ news, VL ρ η cs news ∧ Src P sz tx u m news w := by
  unfold newsE at hr
  split at hr
  · obtain rfl : u = .slice none 0 0 := hx
    simp only [Option.some.injEq, Prod.mk.injEq] at hr
    obtain ⟨rfl, rfl⟩ := hr
    exact ⟨[], trivial, Src.ofNil w hk 0⟩
  · rename_i o off m' sz' off0
    obtain ⟨b, d, N, c, h1, rfl, h3, h4, h5, h6⟩ := hx
    have zero : cs = [] → m = 0 → m' = 0 → ∃ news, VL ρ η cs news ∧ Src P sz tx (.slice (some ⟨b, d + (if c = 0 then off0 else off), none⟩) m' c) m news w := by
      rintro rfl rfl rfl
      exact ⟨[], trivial, Src.ofSlice w hk _ 0 c [] (by simp) (fun j u h => by simp at h) (fun u h => by cases h)⟩
    split at hr
    · rename_i ty cs' ho
      split at hr
      · rename_i hcond
        simp only [Bool.and_eq_true, Nat.beq_eq, decide_eq_true_eq] at hcond
        obtain ⟨rfl, hle⟩ := hcond
        simp only [Option.some.injEq, Prod.mk.injEq] at hr
        obtain ⟨rfl, rfl⟩ := hr
        obtain ⟨p, k2, k3⟩ := H.obj o _ ho
        rw [h1] at k2; injection k2 with k2; subst k2
        obtain ⟨us, e1, e2, e3⟩ := k3.cellsAt off (m' * sz') hle
        by_cases hm : m' = 0
        · subst hm
          exact zero (by simp) rfl rfl
        · have hc : c ≠ 0 := by omega
          refine ⟨us, e2, Src.ofSlice w hk _ m' c us e1 (fun j v hj => ?_) (oneL_sound hη hone e2)⟩
          rw [Addr.add_lit, if_neg hc]
          exact e3 j v hj
      · cases hr
    · split at hr
      · rename_i hm
        simp only [Option.some.injEq, Prod.mk.injEq] at hr
        obtain ⟨rfl, rfl⟩ := hr
        exact zero rfl rfl hm
      · cases hr
  · cases hr

theorem setCells_row (b : Nat) (ty : TypeId) : ∀ (vs : List Value) (o : Nat) (arr : Array Value) (w : World), w.heap[b]? = some (.cells arr ty (0, 0)) → o + vs.length ≤ arr.size →
    ∃ arr2, (w.setCells b o vs).heap[b]? = some (.cells arr2 ty (0, 0)) ∧ arr2.toList = splice arr.toList o vs ∧ Upd (· = b) w (w.setCells b o vs)
  | [], o, arr, w, h, _ => by
    refine ⟨arr, h, ?_, Upd.refl _ _⟩
    simp [splice]
  | v :: vs, o, arr, w, h, hl => by
    simp only [List.length_cons] at hl
    have h1 : (w.setCell ⟨b, o, none⟩ v).heap[b]? = some (.cells (arr.setIfInBounds o v) ty (0, 0)) := by
      simp [World.setCell, Array.getElem?_modify, h]
    have hu1 : Upd (· = b) w (w.setCell ⟨b, o, none⟩ v) := ⟨rfl, rfl, rfl, by simp [World.setCell], fun k _ hn => Below.heap_setCell w _ v k (fun e => hn e)⟩
    obtain ⟨arr2, k1, k2, k3⟩ := setCells_row b ty vs (o + 1) (arr.setIfInBounds o v) (w.setCell ⟨b, o, none⟩ v) h1 (by simp; omega)
    refine ⟨arr2, k1, ?_, hu1.trans k3 (fun _ _ e => e)⟩
    rw [k2]
    apply List.ext_getElem?
    intro k
    rw [splice_get (by simp; omega), splice_get (by simp; omega)]
    simp only [Array.toList_setIfInBounds, List.getElem?_set, List.length_cons, Array.length_toList]
    by_cases q1 : k = o
    · subst q1
      rw [if_neg (by omega), if_pos rfl, if_pos (by omega), if_pos (by omega)]
      simp
    · by_cases q2 : o + 1 ≤ k ∧ k < o + 1 + vs.length
      · rw [if_pos q2, if_pos (by omega)]
        rw [show k - o = (k - (o + 1)) + 1 by omega, List.getElem?_cons_succ]
      · have q3 : ¬ (o ≤ k ∧ k < o + (vs.length + 1)) := by omega
        have q4 : ¬ o = k := fun e => q1 e.symm
        rw [if_neg q2, if_neg q3, if_neg q4]

def appendE (hp : Hp) (nx : Nat) (e : TypeId) (sz by' : Nat) (s : EV) (nw : Option (List EV × Nat)) : Option (EV × Hp × Nat) :=
  match nw with
  | some (cs, m) =>
    if cs.all oneE then
      match s with
      | .val (.slice none 0 0) =>
        if m = 0 then some (s, hp, nx)
        else if Nat.ble m 4294967296 && Nat.ble (m * by') 140737488355328 then some (rowE hp nx e cs m sz) else none
      | .slc o off n sz' off0 =>
        match hp.get o with
        | some (.cells ty cs0) =>
          if Nat.beq sz' sz && ty == e && decide (off + n * sz ≤ cs0.length) then
            if m = 0 then some (s, hp, nx)
            else if Nat.ble (n + m) 4294967296 && Nat.ble ((n + m) * by') 140737488355328 then some (rowE (hp.set o none) nx e ((cs0.drop off).take (n * sz) ++ cs) (n + m) sz) else none
          else none
        | _ => none
      | _ => none
    else none
  | none => none
def appendA (P : Program) (hp : Hp) (nx : Nat) (t : TypeId) (s x : EV) : Option (EV × Hp × Nat) :=
  match elemA P t with
  | some e =>
    match sizeA P e, bytesA P e, zeroA P e with
    | some (z + 1), some by', some zs => if zs.length == z + 1 then appendE hp nx e (z + 1) by' s (newsE hp (z + 1) x) else none
    | _, _, _ => none
  | none => none

theorem append_zero {t tx e ty : TypeId} {n : Nat} (hu : P.underlying t = some (.slice e)) (hn : sizeA P e = some n) (b : Option Addr) (k c : Nat) (hk : k ≤ c) {u : Value} {news : List Value} (hs : Src P n tx u 0 news w) :
    (Builtin.append_ #[t, tx] ty #[.slice b k c, u]).run P w = .ok (.slice b k c) w := by
  have hl := hs.len
  have hnews : news = [] := List.eq_nil_of_length_eq_zero (by simpa using hs.newsLen)
  subst hnews
  have hc := hs.cells
  rcases hs.kind with ⟨e', hk'⟩ | hk'
  · cases b with
    | none => simp [Builtin.append_, und_run hu, und_run hk', sizeA_run hn, hl, hc, hk]
    | some bd => simp [Builtin.append_, und_run hu, und_run hk', sizeA_run hn, hl, hc, hk, storeCells]
  · cases b with
    | none => simp [Builtin.append_, und_run hu, und_run hk', sizeA_run hn, hl, hc, hk]
    | some bd => simp [Builtin.append_, und_run hu, und_run hk', sizeA_run hn, hl, hc, hk, storeCells]

theorem appendE_sound (hη : Ones η) (H : HR B ρ η hp nx w) {t tx ty : TypeId} {e : TypeId} (hu : P.underlying t = some (.slice e)) {z by' : Nat} {it : TypeInfo} {zv : Value} (hit : P.info? e = some it) (hzero : it.zero = some zv)
    (hsz : it.size = z + 1) (hby : it.bytes = by') (hzl : zv.cells.size = z + 1) {s r : EV} {us ux : Value} {hp' : Hp} {nx' : Nat} {nw : Option (List EV × Nat)} (hr : appendE hp nx e (z + 1) by' s nw = some (r, hp', nx')) (hs : VR ρ η s us) (hnw : ∀ cs m, nw = some (cs, m) → cs.all oneE = true → ∃ news, VL ρ η cs news ∧ Src P (z + 1) tx ux m news w) :
    ∃ v w' ρ', (Builtin.append_ #[t, tx] ty #[us, ux]).run P w = .ok v w' ∧ Go1 B η ρ ρ' hp' nx' w w' ∧ VR ρ' η r v := by
  have hsA : sizeA P e = some (z + 1) := by simp [sizeA, hit, hsz]
  unfold appendE at hr
  generalize hnews : nw = nw' at hr
  split at hr
  · rename_i cs m
    split at hr
    · rename_i hone
      obtain ⟨news, hv, src⟩ := hnw _ _ hnews hone
      have srcI : Src P it.size tx ux m news w := by rw [hsz]; exact src
      have hnl : news.length = cs.length := VL.length hv
      -- the arm that grows
      have grow : ∀ (base : Option Addr) (n c : Nat) (olds : List Value) (ocs : List EV) (kill : Option Nat), us = .slice base n c → olds.length = n * (z + 1) → VL ρ η ocs olds → c < n + m → n + m ≤ 4294967296 → (n + m) * by' ≤ 140737488355328 →
          ((Builtin.firstCells it.size n (.slice base n c)).run P w.drew = .ok olds.toArray w.drew) → ∃ v w' ρ', (Builtin.append_ #[t, tx] ty #[us, ux]).run P w = .ok v w' ∧
            Go1 B η ρ ρ' ((match kill with | some o => hp.set o none | none => hp).set nx (some (.cells e (ocs ++ cs)))) (nx + 1) w w' ∧ VR ρ' η (.slc nx 0 (n + m) (z + 1) 0) v := by
        intro base n c olds ocs kill hus hol hov hlt h63 hb hfirst
        have hr := run_append_grow_src (P := P) w t tx ty e it zv hu hit hzero base n c olds hfirst ux m news srcI hlt (by omega) (by rw [hby]; exact growslice_fits hlt hb)
        obtain ⟨G, hG⟩ : ∃ G, grownCap w (n + m) c e = G := ⟨_, rfl⟩
        have hge : n + m ≤ G := by rw [← hG]; exact grownCap_ge w (n + m) c e
        have hcm : G ≤ maxLen := by rw [← hG]; exact grownCap_le_maxLen w (n + m) c e (by have : maxLen = 9223372036854775807 := rfl; omega)
        rw [hG] at hr
        obtain ⟨arr, harr⟩ : ∃ arr, (olds ++ news).toArray ++ Builtin.zeroCells zv.cells (G - (n + m)) = arr := ⟨_, rfl⟩
        rw [harr] at hr
        have hol2 : (olds ++ news).length = (n + m) * (z + 1) := by rw [List.length_append, hol, src.newsLen, Nat.add_mul]
        have hasz : arr.size = G * (z + 1) := by
          rw [← harr, Array.size_append, size_zeroCells, hzl, List.size_toArray, hol2, ← Nat.add_mul]
          congr 1
          omega
        have hocl : (ocs ++ cs).length = (n + m) * (z + 1) := by rw [List.length_append, ← VL.length hov, ← hnl, ← List.length_append, hol2]
        have hle : ρ.Le (ρ.ext nx (w.heap.size, 0, arr.size)) := Pl.le_ext _ (H.out nx (Nat.le_refl _))
        refine ⟨_, _, ρ.ext nx (w.heap.size, 0, arr.size), by rw [hus]; exact hr, H.newO kill (S := fun _ => False) ((Upd.drew _ w).trans (Upd.alloc (fun _ => False) w.drew _) (fun _ _ h => h)) (fun _ h => h.elim) ?_ (.inl (Nat.le_refl _)) ?_,
          w.heap.size, 0, arr.size, G, Pl.ext_same _ _ _, ?_, hge, hcm, by omega, by rw [hasz]; omega⟩
        · simp
        · refine ⟨arr, heap_alloc_new w.drew _, rfl, ?_, ?_⟩
          · rw [hocl, hasz, Nat.zero_add]; exact Nat.mul_le_mul_right _ hge
          · have e : (arr.toList.drop 0).take (ocs ++ cs).length = olds ++ news := by
              rw [List.drop_zero, hocl, ← hol2, ← harr]
              simp only [Array.toList_append, List.toList_toArray]
              rw [List.take_left]
            rw [e]
            exact (VL.le hle _ _ hov).append (VL.le hle _ _ hv)
        · congr 2
          split <;> rfl
      split at hr
      · obtain rfl : us = .slice none 0 0 := hs
        split at hr
        · rename_i hm
          subst hm
          simp only [Option.some.injEq, Prod.mk.injEq] at hr
          obtain ⟨rfl, rfl, rfl⟩ := hr
          exact ⟨_, w, ρ, append_zero hu hsA none 0 0 (Nat.le_refl _) src, Go1.refl H, rfl⟩
        · rename_i hm
          split at hr
          · rename_i hb
            simp only [Bool.and_eq_true, Nat.ble_eq] at hb
            simp only [rowE, Option.some.injEq, Prod.mk.injEq] at hr
            obtain ⟨rfl, rfl, rfl⟩ := hr
            have := grow none 0 0 [] [] none rfl (by simp) trivial (by omega) (by omega) (by rw [Nat.zero_add]; exact hb.2) (run_firstCells_none w.drew it.size 0 0 0)
            simpa using this
          · cases hr
      · rename_i o off n sz' off0
        split at hr
        · rename_i ty0 cs0 ho
          split at hr
          · rename_i hc2
            simp only [Bool.and_eq_true, Nat.beq_eq, beq_iff_eq, decide_eq_true_eq] at hc2
            obtain ⟨⟨rfl, rfl⟩, hle⟩ := hc2
            obtain ⟨b, d, N, c, h1, hus, h3, h4, h5, h6⟩ := hs
            split at hr
            · rename_i hm
              subst hm
              simp only [Option.some.injEq, Prod.mk.injEq] at hr
              obtain ⟨rfl, rfl, rfl⟩ := hr
              exact ⟨_, w, ρ, by rw [hus]; exact append_zero hu hsA _ n c h3 src, Go1.refl H, b, d, N, c, h1, rfl, h3, h4, h5, h6⟩
            · rename_i hm
              split at hr
              · rename_i hb
                simp only [Bool.and_eq_true, Nat.ble_eq] at hb
                simp only [rowE, Option.some.injEq, Prod.mk.injEq] at hr
                obtain ⟨rfl, rfl, rfl⟩ := hr
                obtain ⟨p, k2, k3⟩ := H.obj o _ ho
                rw [h1] at k2; injection k2 with k2; subst k2
                obtain ⟨olds, e1, e2, e3⟩ := k3.cellsAt off (n * (z + 1)) hle
                by_cases hroom : n + m ≤ c
                · have hc0 : c ≠ 0 := by omega
                  obtain ⟨arr, a1, a2, a3, a4⟩ := k3
                  simp only at a1 a2 a3 a4
                  have hcz : (n + m) * (z + 1) ≤ c * (z + 1) := Nat.mul_le_mul_right _ hroom
                  rw [Nat.add_mul] at hcz
                  have hml : news.length = m * (z + 1) := src.newsLen
                  have hfit : d + off + n * (z + 1) + news.length ≤ arr.size := by omega
                  have hcell : ∀ j, j < news.length → w.cell? ⟨b, d + off + n * it.size + j, none⟩ = arr[d + off + n * (z + 1) + j]? := fun j _ => by
                    simp [World.cell?, a1, hsz]
                  have hr := run_append_room_src (P := P) w t tx ty ty0 it hu hit b (d + off) n c ux m news srcI hroom
                    (fun j hj => by rw [hcell j hj, Array.getElem?_eq_getElem (by omega)]; rfl)
                    (fun j hj => by simp [World.frozen?, a1])
                  rw [hsz] at hr
                  obtain ⟨arr2, q1, q2, q3⟩ := setCells_row b ty0 news (d + off + n * (z + 1)) arr w a1 hfit
                  have hl2 : arr2.size = arr.size := by rw [← Array.length_toList, q2, splice_length (by rw [Array.length_toList]; exact hfit), Array.length_toList]
                  have hle2 : ρ.Le (ρ.ext nx (b, d + off, N)) := Pl.le_ext _ (H.out nx (Nat.le_refl _))
                  have hocl : ((cs0.drop off).take (n * (z + 1))).length = n * (z + 1) := by rw [List.length_take, List.length_drop]; omega
                  refine ⟨_, _, ρ.ext nx (b, d + off, N), by rw [hus, if_neg hc0]; exact hr, H.newO (some o) (S := (· = b)) q3 ?_ ?_ (.inr ⟨o, _, _, rfl, ho, h1, rfl⟩) ?_, b, d + off, N, c, Pl.ext_same _ _ _, ?_, hroom, h4, by omega, by omega⟩
                  · rintro k rfl
                    exact ⟨o, _, _, rfl, ho, h1, rfl⟩
                  · exact (Array.getElem?_eq_some_iff.1 q1).1
                  · refine ⟨arr2, q1, hl2.trans a2, ?_, ?_⟩
                    · simp only [List.length_append, hocl, ← hnl, hl2]; omega
                    · simp only
                      have e : (arr2.toList.drop (d + off)).take ((cs0.drop off).take (n * (z + 1)) ++ cs).length = olds ++ news := by
                        rw [List.length_append, hocl, ← hnl, q2]
                        apply List.ext_getElem?
                        intro k
                        rw [List.getElem?_take, List.getElem?_drop, splice_get (by rw [Array.length_toList]; exact hfit)]
                        by_cases w1 : k < n * (z + 1)
                        · rw [if_pos (by omega), if_neg (by omega), List.getElem?_append_left (by omega)]
                          have := e3 k (olds[k]'(by omega)) (List.getElem?_eq_getElem (by omega))
                          simp only [World.cell?, a1, Option.isSome_none, Bool.false_eq_true, if_false] at this
                          rw [List.getElem?_eq_getElem (by omega : k < olds.length), Array.getElem?_toList]
                          exact this
                        · by_cases w2 : k < n * (z + 1) + news.length
                          · rw [if_pos w2, if_pos (by omega), List.getElem?_append_right (by omega), e1]
                            congr 1
                            omega
                          · rw [if_neg w2, List.getElem?_eq_none (by rw [List.length_append]; omega)]
                      rw [e]
                      exact (VL.le hle2 _ _ e2).append (VL.le hle2 _ _ hv)
                  · congr 2
                    split <;> rfl
                · refine grow _ n c olds ((cs0.drop off).take (n * (z + 1))) (some o) hus e1 e2 (by omega) hb.1 hb.2 ?_
                  by_cases hn0 : n = 0
                  · subst hn0
                    have : olds = [] := List.eq_nil_of_length_eq_zero (by simpa using e1)
                    subst this
                    simp [Builtin.firstCells, loadCells, loadCellsFrom]
                  · have hc0 : c ≠ 0 := by omega
                    rw [if_neg hc0]
                    refine run_firstCells_some w.drew it.size n _ n c olds (by rw [hsz]; exact e1) (fun j u hj => ?_)
                    rw [Addr.add_lit]
                    exact e3 j u hj
              · cases hr
          · cases hr
        · cases hr
      · cases hr
    · cases hr
  · cases hr

theorem appendA_sound (hη : Ones η) (H : HR B ρ η hp nx w) {t ty : TypeId} {s x r : EV} {us ux : Value} {hp' : Hp} {nx' : Nat} (hr : appendA P hp nx t s x = some (r, hp', nx')) (hs : VR ρ η s us) (hx : VR ρ η x ux) :
    ∃ v w' ρ', (Builtin.append_ #[t, t] ty #[us, ux]).run P w = .ok v w' ∧ Go1 B η ρ ρ' hp' nx' w w' ∧ VR ρ' η r v := by
  unfold appendA at hr
  split at hr
  · rename_i e he
    have hu := elemA_run he
    split at hr
    · rename_i z by' zs hz hby hzs
      split at hr
      · rename_i hl
        simp only [beq_iff_eq] at hl
        unfold sizeA at hz
        obtain ⟨it, hit, hsz⟩ := Option.map_eq_some_iff.1 hz
        unfold bytesA at hby
        obtain ⟨it2, hit2, hbytes⟩ := Option.map_eq_some_iff.1 hby
        rw [hit] at hit2; injection hit2 with hit2; subst hit2
        unfold zeroA at hzs
        obtain ⟨zv, hz1, hzl⟩ := Option.map_eq_some_iff.1 hzs
        obtain ⟨it3, hit3, hzero⟩ := Option.bind_eq_some_iff.1 hz1
        rw [hit] at hit3; injection hit3 with hit3; subst hit3
        exact appendE_sound hη H hu hit hzero hsz hbytes (by rw [← Array.length_toList, hzl]; exact hl) hr hs (fun cs m h1 h2 => newsE_sound (P := P) hη H hu h1 h2 hx)
      · cases hr
    · cases hr
  · cases hr
end

end Go.Proofs.YtnfdkmnmniiokaaGreatDoor
