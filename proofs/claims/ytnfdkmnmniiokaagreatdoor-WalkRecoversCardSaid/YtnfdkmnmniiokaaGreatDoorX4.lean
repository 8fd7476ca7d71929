import Derived.Test.YtnfdkmnmniiokaaGreatDoorX3
set_option linter.unusedVariables false
set_option linter.unusedSimpArgs false
namespace Go.Proofs.YtnfdkmnmniiokaaGreatDoor
open Go.RowKit

/-- Things of one cell. -/
def oneE : EV → Bool
  | .val v => v.oneCell'
  | .agg _ => false
  | .tup _ => false
  | .any => false
  | _ => true
def cellsE : EV → List EV
  | .agg cs => cs
  | x => [x]
def flatE : EV → Bool
  | .agg cs => cs.all oneE
  | x => oneE x
def splice {α : Type} (cs : List α) (off : Nat) (xs : List α) : List α := cs.take off ++ xs ++ cs.drop (off + xs.length)

/-- What the laid values are: of one cell each. -/
def Ones (η : Nat → Value) : Prop := ∀ i, (η i).oneCell' = true

section
variable {P : Program} {ρ : Pl} {η : Nat → Value} {B : Nat} {hp : Hp} {nx : Nat} {w : World}

theorem oneE_sound (hη : Ones η) {x : EV} {u : Value} (h : oneE x = true) (hv : VR ρ η x u) : u.oneCell' = true := by
  cases x with
  | bool b => obtain rfl : u = _ := hv; rfl
  | int k n => obtain rfl : u = _ := hv; rfl
  | str l v => obtain ⟨s, rfl, _⟩ := hv; rfl
  | val v => obtain rfl : u = v := hv; exact h
  | ptr o off => obtain ⟨b, d, N, _, rfl⟩ := hv; rfl
  | slc o off n sz off0 => obtain ⟨b, d, N, c, _, rfl, _⟩ := hv; rfl
  | mp o => obtain ⟨b, d, N, _, rfl⟩ := hv; rfl
  | fn f fs cs => obtain ⟨us, vs, rfl, _⟩ := hv; rfl
  | ifc t x => obtain ⟨v, rfl, _⟩ := hv; rfl
  | mfn t x => obtain ⟨v, rfl, _⟩ := hv; rfl
  | agg cs => cases h
  | tup cs => cases h
  | sym i => obtain rfl : u = _ := hv; exact hη i
  | any => cases h
theorem oneL_sound (hη : Ones η) : ∀ {cs : List EV} {us : List Value}, cs.all oneE = true → VL ρ η cs us → ∀ u ∈ us, u.oneCell' = true
  | [], [], _, _ => by simp
  | x :: xs, u :: us, h, ⟨h1, h2⟩ => by
    simp only [List.all_cons, Bool.and_eq_true] at h
    intro v hv
    rcases List.mem_cons.1 hv with rfl | hv
    · exact oneE_sound hη h.1 h1
    · exact oneL_sound hη h.2 h2 v hv
  | [], _ :: _, _, h => h.elim
  | _ :: _, [], _, h => h.elim
theorem cells_one {u : Value} (h : u.oneCell' = true) : u.cells = #[u] := by
  cases u <;> first | rfl | (cases h; done)
theorem flat_sound (hη : Ones η) {x : EV} {u : Value} (h : flatE x = true) (hv : VR ρ η x u) : VL ρ η (cellsE x) u.cells.toList ∧ ∀ c ∈ u.cells.toList, c.oneCell' = true := by
  have one : oneE x = true → cellsE x = [x] → VL ρ η (cellsE x) u.cells.toList ∧ ∀ c ∈ u.cells.toList, c.oneCell' = true := fun h1 he => by
    have h2 := oneE_sound hη h1 hv
    rw [he, cells_one h2]
    exact ⟨⟨hv, trivial⟩, by simpa using h2⟩
  cases x with
  | agg cs =>
    obtain ⟨us, rfl, h1⟩ := hv
    exact ⟨h1, oneL_sound hη h h1⟩
  | tup cs => cases h
  | bool _ => exact one h rfl
  | int _ _ => exact one h rfl
  | str _ _ => exact one h rfl
  | val v => exact one h rfl
  | ptr _ _ => exact one h rfl
  | slc _ _ _ _ _ => exact one h rfl
  | mp _ => exact one h rfl
  | fn f fs cs => exact one h rfl
  | ifc t x => exact one h rfl
  | mfn t x => exact one h rfl
  | sym _ => exact one h rfl
  | any => cases h

theorem aggA_run {t : TypeId} {b : Bool} (h : aggA P t = some b) (w : World) : (isAgg t).run P w = .ok b w := by
  unfold aggA at h
  cases hu : P.underlying t with
  | none => rw [hu] at h; cases h
  | some d =>
    rw [hu] at h
    simp only [isAgg, Sem.run_bind, underlying, run_program, Result.andThen_ok, hu, Sem.run_pure]
    cases d <;> simp only [Option.some.injEq] at h <;> subst h <;> rfl
theorem sizeA_run {t : TypeId} {n : Nat} (h : sizeA P t = some n) (w : World) : (sizeOf t).run P w = .ok n w := by
  unfold sizeA at h
  obtain ⟨i, h1, h2⟩ := Option.map_eq_some_iff.1 h
  simp [sizeOf, typeInfo, h1, h2]
theorem elemA_run {t e : TypeId} (h : elemA P t = some e) : P.underlying t = some (.slice e) := by
  unfold elemA at h
  split at h
  · rename_i hu; injection h with h; subst h; exact hu
  · cases h
theorem und_run {t : TypeId} {d : TypeDesc} (h : P.underlying t = some d) (w : World) : (underlying t).run P w = .ok d w := by simp [underlying, h]
theorem stringA_eq {t : TypeId} (h : stringA P t = true) : P.underlying t = some .string := by
  unfold stringA at h
  split at h
  · assumption
  · cases h
theorem fieldA_eq {s : TypeId} {f off : Nat} {t : TypeId} (h : fieldA P s f = some (off, t)) : ∃ fs x, P.underlying s = some (.struct fs) ∧ fs[f]? = some x ∧ x.offset = off ∧ x.type = t := by
  unfold fieldA at h
  split at h
  · rename_i fs hu
    obtain ⟨x, h1, h2⟩ := Option.map_eq_some_iff.1 h
    simp only [Prod.mk.injEq] at h2
    exact ⟨fs, x, hu, h1, h2.1, h2.2⟩
  · cases h
theorem concreteA_eq {t : TypeId} (h : concreteA P t = true) : ∃ d, P.underlying t = some d ∧ ∀ ms, d ≠ .interface ms := by
  unfold concreteA at h
  split at h
  · cases h
  · rename_i d hne hu
    exact ⟨d, hu, hne⟩
  · cases h

def packE (ag : Bool) (cs : List EV) : Option EV :=
  if ag then some (.agg cs) else match cs with | [x] => some x | _ => none
def loadE (hp : Hp) (n : Nat) (ag : Bool) : EV → Option EV
  | .ptr o off => match hp.get o with
    | some (.cells _ cs) => if off + n ≤ cs.length then packE ag ((cs.drop off).take n) else none
    | _ => none
  | _ => none
def loadA (P : Program) (hp : Hp) (t : TypeId) (x : EV) : Option EV :=
  match sizeA P t, aggA P t with
  | some n, some ag => loadE hp n ag x
  | _, _ => none

theorem load_cells {t : TypeId} {n : Nat} {ag : Bool} (hn : sizeA P t = some n) (ha : aggA P t = some ag) (b off : Nat) (cs : List EV) (us : List Value) (hl : us.length = n) (hv : VL ρ η cs us)
    (hc : ∀ i u, us[i]? = some u → w.cell? ⟨b, off + i, none⟩ = some u) {r : EV} (hr : packE ag cs = some r) :
    ∃ v, (loadVar t ⟨b, off, none⟩).run P w = .ok v w ∧ VR ρ η r v := by
  have hadd : ∀ i u, us[i]? = some u → w.cell? ((⟨b, off, none⟩ : Addr).add i) = some u := fun i u hi => by
    rw [Addr.add_lit]
    exact hc i u hi
  cases ag with
  | true =>
    simp only [packE, if_true, Option.some.injEq] at hr
    subst hr
    refine ⟨.agg us.toArray, ?_, us.toArray, rfl, by simpa using hv⟩
    simp only [loadVar, Sem.run_bind, aggA_run ha, Result.andThen_ok, if_true, sizeA_run hn]
    rw [← hl, run_loadCells_list w ⟨b, off, none⟩ us hadd]
    rfl
  | false =>
    simp only [packE, Bool.false_eq_true, if_false] at hr
    split at hr
    · rename_i x
      injection hr with hr
      subst hr
      cases us with
      | nil => exact hv.elim
      | cons u us =>
        refine ⟨u, ?_, hv.1⟩
        have h0 := hc 0 u rfl
        rw [Nat.add_zero] at h0
        simp only [loadVar, Sem.run_bind, aggA_run ha, Result.andThen_ok, Bool.false_eq_true, if_false, run_load, h0]
    · cases hr

theorem loadA_var (H : HR B ρ η hp nx w) {t : TypeId} {x r : EV} {u : Value} (hx : VR ρ η x u) (hr : loadA P hp t x = some r) :
    ∃ a v, u = .pointer (some a) ∧ (loadVar t a).run P w = .ok v w ∧ VR ρ η r v := by
  unfold loadA at hr
  split at hr
  · rename_i n ag hn ha
    unfold loadE at hr
    split at hr
    · rename_i o off
      split at hr
      · rename_i ty cs ho
        split at hr
        · rename_i hlen
          obtain ⟨b, d, N, h1, rfl⟩ := hx
          obtain ⟨p, h2, h3⟩ := H.obj o _ ho
          rw [h1] at h2; injection h2 with h2; subst h2
          obtain ⟨us, k1, k2, k3⟩ := h3.cellsAt off n hlen
          obtain ⟨v, e1, e2⟩ := load_cells hn ha b (d + off) _ us k1 k2 k3 hr
          exact ⟨_, v, rfl, e1, e2⟩
        · cases hr
      · cases hr
    · cases hr
  · cases hr
theorem loadA_sound (H : HR B ρ η hp nx w) {t : TypeId} {x r : EV} {u : Value} (hx : VR ρ η x u) (hr : loadA P hp t x = some r) :
    ∃ v, (Instr.loadAt t u).run P w = .ok v w ∧ VR ρ η r v := by
  obtain ⟨a, v, rfl, e1, e2⟩ := loadA_var H hx hr
  exact ⟨v, by simp only [Instr.loadAt, Instr.sureAddr, Sem.run_bind, Sem.run_pure, Result.andThen_ok, e1], e2⟩

/-- Part of a struct's cells. -/
def partA (P : Program) (t : TypeId) (cs : List EV) (off : Nat) : Option EV :=
  match aggA P t, sizeA P t with
  | some true, some n => if off + n ≤ cs.length then some (.agg ((cs.drop off).take n)) else none
  | some false, some _ => cs[off]?
  | _, _ => none
theorem partA_sound {t : TypeId} {cs : List EV} {us : Array Value} {off : Nat} {r : EV} (h : partA P t cs off = some r) (hv : VL ρ η cs us.toList) :
    ∃ v, (∀ w, (part t us off).run P w = .ok v w) ∧ VR ρ η r v := by
  unfold partA at h
  split at h
  · rename_i n ha hn
    split at h
    · rename_i hl
      injection h with h
      subst h
      refine ⟨.agg (us.extract off (off + n)), fun w => by simp [part, aggA_run ha, sizeA_run hn], _, rfl, ?_⟩
      have := (hv.drop off).take n
      rw [show (us.extract off (off + n)).toList = (us.toList.drop off).take n by simp [List.extract]]
      exact this
    · cases h
  · rename_i n ha hn
    obtain ⟨u, k1, k2⟩ := VL.get off hv h
    refine ⟨u, ?_, k2⟩
    rw [Array.getElem?_toList] at k1
    intro w
    simp [part, aggA_run ha, k1]
  · cases h
def fieldV (P : Program) (s : TypeId) (x : EV) (f : Nat) : Option EV :=
  match x, fieldA P s f with
  | .agg cs, some (off, t) => partA P t cs off
  | _, _ => none
theorem fieldV_sound {s : TypeId} {x r : EV} {u : Value} {f : Nat} (h : fieldV P s x f = some r) (hv : VR ρ η x u) :
    ∃ v, (∀ w, (Instr.field s u f).run P w = .ok v w) ∧ VR ρ η r v := by
  unfold fieldV at h
  split at h
  · rename_i cs off t hf
    obtain ⟨fs, fl, h1, h2, h3, h4⟩ := fieldA_eq hf
    obtain ⟨us, rfl, hv⟩ := hv
    obtain ⟨v, k1, k2⟩ := partA_sound (P := P) h hv
    refine ⟨v, ?_, k2⟩
    subst h3; subst h4
    intro w
    simp [Instr.field, und_run h1, h2, asAgg, k1]
  · cases h
def fieldAt (P : Program) (s : TypeId) (x : EV) (f : Nat) : Option EV :=
  match fieldA P s f with
  | some (off, t) =>
    match sizeA P t, x with
    | some (_ + 1), .ptr o k => some (.ptr o (k + off))
    | _, _ => none
  | _ => none
theorem fieldAt_sound {s : TypeId} {x r : EV} {u : Value} {f : Nat} (h : fieldAt P s x f = some r) (hv : VR ρ η x u) :
    ∃ v, (∀ w', (Instr.fieldAt s u f).run P w' = .ok v w') ∧ VR ρ η r v := by
  unfold fieldAt at h
  split at h
  · rename_i off t hf
    obtain ⟨fs, fl, h1, h2, h3, h4⟩ := fieldA_eq hf
    subst h3; subst h4
    split at h
    · rename_i n o k hn
      injection h with h
      subst h
      obtain ⟨b, d, N, h5, rfl⟩ := hv
      refine ⟨.pointer (some ⟨b, d + k + fl.offset, none⟩), ?_, b, d, N, h5, by rw [Nat.add_assoc]⟩
      intro w'; simp [Instr.fieldAt, und_run h1, h2, Instr.sureAddr, fieldPlace, sizeA_run hn, Addr.add_lit]
    · cases h
  · cases h
def indexAt (P : Program) (t : TypeId) (x ix : EV) : Option EV :=
  match P.underlying t with
  | some (.slice e) =>
    match sizeA P e, x, ix with
    | some sz, .slc o off n sz' _, .int _ i => if sz' == sz && decide (0 ≤ i) && decide (i < n) then some (.ptr o (off + i.toNat * sz)) else none
    | _, _, _ => none
  | some (.array n e) =>
    match sizeA P e, x, ix with
    | some sz, .ptr o off, .int _ i => if decide (0 ≤ i) && decide (i < n) then some (.ptr o (off + i.toNat * sz)) else none
    | _, _, _ => none
  | _ => none
theorem indexAt_sound {t : TypeId} {x ix r : EV} {u ui : Value} (hr : indexAt P t x ix = some r) (hv : VR ρ η x u) (hi : VR ρ η ix ui) :
    ∃ v, (∀ w', (Instr.indexAt t u ui).run P w' = .ok v w') ∧ VR ρ η r v := by
  unfold indexAt at hr
  split at hr
  · rename_i e hu
    split at hr
    · rename_i sz o off n sz' off0 k i hsz
      obtain rfl : ui = .int k i := hi
      split at hr
      · rename_i hcond
        simp only [Bool.and_eq_true, beq_iff_eq, decide_eq_true_eq] at hcond
        obtain ⟨⟨rfl, h0⟩, hlt⟩ := hcond
        injection hr with hr
        subst hr
        obtain ⟨b, d, N, c, h1, rfl, h2, h3, h4, h5⟩ := hv
        have hc : c ≠ 0 := by omega
        refine ⟨.pointer (some ⟨b, d + off + i.toNat * sz', none⟩), ?_, b, d, N, h1, by rw [Nat.add_assoc]⟩
        intro w'; simp [Instr.indexAt, asIntOf, und_run hu, sizeA_run hsz, h0, hlt, Addr.add_lit, hc]
      · cases hr
    · cases hr
  · rename_i n e hu
    split at hr
    · rename_i sz o off k i hsz
      obtain rfl : ui = .int k i := hi
      split at hr
      · rename_i hcond
        simp only [Bool.and_eq_true, decide_eq_true_eq] at hcond
        injection hr with hr
        subst hr
        obtain ⟨b, d, N, h1, rfl⟩ := hv
        refine ⟨.pointer (some ⟨b, d + off + i.toNat * sz, none⟩), ?_, b, d, N, h1, by rw [Nat.add_assoc]⟩
        intro w'; simp [Instr.indexAt, Instr.sureAddr, asIntOf, und_run hu, sizeA_run hsz, hcond.1, hcond.2, Addr.add_lit]
      · cases hr
    · cases hr
  · cases hr

/-! Slicing. -/
def boundE (d : Nat) : Option EV → Option Nat
  | none => some d
  | some (.int _ i) => if 0 ≤ i then some i.toNat else none
  | _ => none
def OptR (ρ : Pl) (η : Nat → Value) : Option EV → Option Value → Prop
  | none, none => True
  | some x, some u => VR ρ η x u
  | _, _ => False
theorem bounds_run {s : Bool} {len cap n l h : Nat} {lo hi : Option EV} {vlo vhi : Option Value} (hlo : OptR ρ η lo vlo) (hhi : OptR ρ η hi vhi) (hl : boundE 0 lo = some l) (hh : boundE n hi = some h)
    (hn : hi = none → n = len) (h1 : l ≤ h) (h2 : h ≤ cap) : (Instr.sliceBounds s len cap vlo vhi none).run P w = .ok (l, h, cap) w := by
  have bound : ∀ (d : Nat) (x : EV) (u : Value) (y i : Nat) (code : BoundsCode), VR ρ η x u → boundE d (some x) = some i → i ≤ y → (Instr.sliceBound u y code).run P w = .ok i w := fun d x u y i code hx hb hy => by
    unfold boundE at hb
    split at hb
    · rename_i heq; cases heq
    · rename_i k j heq
      injection heq with heq
      subst heq
      obtain rfl : u = .int k j := hx
      split at hb
      · injection hb with hb
        subst hb
        have h0 : 0 ≤ j ∧ j ≤ y := ⟨by assumption, by omega⟩
        simp [Instr.sliceBound, asIntOf, h0]
      · cases hb
    · cases hb
  cases hi with
  | none =>
    cases vhi with
    | some _ => exact hhi.elim
    | none =>
      simp only [boundE, Option.some.injEq] at hh
      subst hh
      obtain rfl := hn rfl
      cases lo with
      | none =>
        cases vlo with
        | some _ => exact hlo.elim
        | none =>
          simp only [boundE, Option.some.injEq] at hl
          subst hl
          simp [Instr.sliceBounds]
      | some x =>
        cases vlo with
        | none => exact hlo.elim
        | some u => simp [Instr.sliceBounds, bound 0 x u n l _ hlo hl h1]
  | some y =>
    cases vhi with
    | none => exact hhi.elim
    | some uy =>
      have hb := bound n y uy cap h (if s then .sliceAcap else .sliceAlen) hhi hh h2
      cases lo with
      | none =>
        cases vlo with
        | some _ => exact hlo.elim
        | none =>
          simp only [boundE, Option.some.injEq] at hl
          subst hl
          simp [Instr.sliceBounds, hb]
      | some x =>
        cases vlo with
        | none => exact hlo.elim
        | some u => simp [Instr.sliceBounds, hb, bound 0 x u h l _ hlo hl h1]

theorem bnum_extract (s : ByteArray) (l h : Nat) (hl : l ≤ h) (hh : h ≤ s.size) : (s.extract l h).size = h - l ∧ bnum (s.extract l h) = bnum s / 256 ^ (s.size - h) % 256 ^ (h - l) := by
  have hs : s.data.toList.length = s.size := by simp
  have e : (s.extract l h).data.toList = (s.data.toList.drop l).take (h - l) := by
    rw [ByteArray.data_extract, Array.toList_extract]
  have hsz : (s.extract l h).size = h - l := by
    rw [ByteArray.size_extract]; omega
  refine ⟨hsz, ?_⟩
  unfold bnum
  rw [e]
  have d1 : s.data.toList = s.data.toList.take l ++ ((s.data.toList.drop l).take (h - l) ++ s.data.toList.drop h) := by
    conv => lhs; rw [← List.take_append_drop l s.data.toList, ← List.take_append_drop (h - l) (s.data.toList.drop l), List.drop_drop]
    rw [show l + (h - l) = h by omega]
  have l3 : (s.data.toList.drop h).length = s.size - h := by rw [List.length_drop, hs]
  have l2 : ((s.data.toList.drop l).take (h - l)).length = h - l := by rw [List.length_take, List.length_drop, hs]; omega
  conv => rhs; rw [d1]
  rw [bnumL_append, bnumL_append, List.length_append, l2, l3]
  have b2 := bnumL_lt ((s.data.toList.drop l).take (h - l))
  have b3 := bnumL_lt (s.data.toList.drop h)
  rw [l2] at b2
  rw [l3] at b3
  generalize bnumL ((s.data.toList.drop l).take (h - l)) 0 = Y at *
  generalize bnumL (s.data.toList.drop h) 0 = Z at *
  generalize bnumL (s.data.toList.take l) 0 = X at *
  have hp : 0 < 256 ^ (s.size - h) := Nat.pos_of_ne_zero (by simp)
  rw [Nat.pow_add, ← Nat.mul_assoc, ← Nat.add_assoc, ← Nat.add_mul, Nat.mul_comm _ (256 ^ (s.size - h)), Nat.mul_add_div hp, Nat.div_eq_of_lt b3, Nat.add_zero]
  rw [Nat.mul_comm X, Nat.mul_add_mod, Nat.mod_eq_of_lt b2]

def sliceE (P : Program) (t : TypeId) (x : EV) (lo hi : Option EV) : Option EV :=
  match x with
  | .str n v =>
    match stringA P t, boundE 0 lo, boundE n hi with
    | true, some l, some h => if Nat.ble l h && Nat.ble h n then some (.str (h - l) (v / 256 ^ (n - h) % 256 ^ (h - l))) else none
    | _, _, _ => none
  | .slc o off n sz off0 =>
    match (elemA P t).bind (sizeA P), boundE 0 lo, boundE n hi with
    | some z, some l, some h => if Nat.ble l h && Nat.ble h n && Nat.beq sz z then some (.slc o (off + l * sz) (h - l) sz (if l = 0 then off0 else off)) else none
    | _, _, _ => none
  | .val (.slice none 0 0) =>
    match (elemA P t).bind (sizeA P), boundE 0 lo, boundE 0 hi with
    | some _, some 0, some 0 => some (.val (.slice none 0 0))
    | _, _, _ => none
  | _ => none

theorem sliceE_sound {t : TypeId} {x r : EV} {lo hi : Option EV} {u : Value} {vlo vhi : Option Value}
    (hr : sliceE P t x lo hi = some r) (hx : VR ρ η x u) (hlo : OptR ρ η lo vlo) (hhi : OptR ρ η hi vhi) :
    ∃ v, (∀ w', (Instr.sliceAt t u vlo vhi none).run P w' = .ok v w') ∧ VR ρ η r v := by
  unfold sliceE at hr
  split at hr
  · rename_i n v
    obtain ⟨s, rfl, rfl, rfl⟩ := hx
    split at hr
    · rename_i l hh ht hl hb
      split at hr
      · rename_i hcond
        simp only [Bool.and_eq_true, Nat.ble_eq] at hcond
        injection hr with hr
        subst hr
        have hu := stringA_eq ht
        have hbr := fun w' => bounds_run (P := P) (w := w') (s := false) (len := s.size) (cap := s.size) hlo hhi hl hb (fun _ => rfl) hcond.1 hcond.2
        obtain ⟨k1, k2⟩ := bnum_extract s l hh hcond.1 hcond.2
        refine ⟨.string (s.extract l hh), fun w' => ?_, _, rfl, k1, k2⟩
        simp [Instr.sliceAt, und_run hu, Instr.slice, hbr]
      · cases hr
    · cases hr
  · rename_i o off n sz off0
    split at hr
    · rename_i z l hh hz hl hb
      obtain ⟨e, he, hsz⟩ := Option.bind_eq_some_iff.1 hz
      have hu := elemA_run he
      split at hr
      · rename_i hcond
        simp only [Bool.and_eq_true, Nat.ble_eq, Nat.beq_eq] at hcond
        obtain ⟨⟨h1, h2⟩, rfl⟩ := hcond
        injection hr with hr
        subst hr
        obtain ⟨b, d, N, c, k1, rfl, k2, k3, k4, k5⟩ := hx
        have hbr := fun w' => bounds_run (P := P) (w := w') (s := true) (len := n) (cap := c) hlo hhi hl hb (fun _ => rfl) h1 (by omega)
        refine ⟨.slice (if c = l then some ⟨b, d + (if c = 0 then off0 else off), none⟩ else some ⟨b, d + (if c = 0 then off0 else off) + l * sz, none⟩) (hh - l) (c - l), fun w' => ?_, b, d, N, c - l, k1, ?_, by omega, by omega, k4, ?_⟩
        · simp only [Instr.sliceAt, und_run hu, Instr.slice, hbr, sizeA_run hsz, Sem.run_bind, Result.andThen_ok, Sem.run_pure, Option.map_some, Addr.add_lit]
        · congr 1
          by_cases hcl : c = l
          · subst hcl
            by_cases hl0 : c = 0
            · simp [hl0]
            · simp [hl0]
          · have q1 : c ≠ 0 := by omega
            have q2 : c - l ≠ 0 := by omega
            simp only [if_neg hcl, if_neg q1, if_neg q2, Nat.add_assoc]
        · have : l * sz + (c - l) * sz = c * sz := by rw [← Nat.add_mul]; congr 1; omega
          omega
      · cases hr
    · cases hr
  · obtain rfl : u = _ := hx
    split at hr
    · rename_i z hz hl hb
      obtain ⟨e, he, hsz⟩ := Option.bind_eq_some_iff.1 hz
      have hu := elemA_run he
      injection hr with hr
      subst hr
      have hbr := fun w' => bounds_run (P := P) (w := w') (s := true) (len := 0) (cap := 0) hlo hhi hl hb (fun _ => rfl) (Nat.le_refl _) (Nat.le_refl _)
      refine ⟨.slice none 0 0, fun w' => ?_, rfl⟩
      simp [Instr.sliceAt, und_run hu, Instr.slice, hbr, sizeA_run hsz]
    · cases hr
  · cases hr

def lenE : EV → Option Nat
  | .str l _ => some l
  | .val (.slice none 0 0) => some 0
  | .slc _ _ n _ _ => some n
  | _ => none
def lenT (P : Program) (t : TypeId) : EV → Bool
  | .str _ _ => stringA P t
  | _ => (elemA P t).isSome
theorem lenE_sound {t ty : TypeId} {x : EV} {u : Value} {n : Nat} (ht : lenT P t x = true) (hl : lenE x = some n) (hx : VR ρ η x u) (w' : World) :
    (Builtin.len_ #[t] ty #[u]).run P w' = .ok (.int .i64 n) w' := by
  have slice : ∀ a m c, (elemA P t).isSome = true → u = .slice a m c → m = n → (Builtin.len_ #[t] ty #[u]).run P w' = .ok (.int .i64 n) w' := by
    rintro a m c he0 rfl rfl
    obtain ⟨e, he⟩ := Option.isSome_iff_exists.1 he0
    simp [Builtin.len_, und_run (elemA_run he), goInt]
  unfold lenE at hl
  split at hl
  · obtain ⟨s, rfl, rfl, rfl⟩ := hx
    injection hl with hl
    subst hl
    simp [Builtin.len_, und_run (stringA_eq ht), goInt]
  · injection hl with hl
    exact slice none 0 0 ht hx hl
  · injection hl with hl
    obtain ⟨b, d, N, c, _, hu, _⟩ := hx
    exact slice _ _ c ht hu hl
  · cases hl
end

end Go.Proofs.YtnfdkmnmniiokaaGreatDoor
