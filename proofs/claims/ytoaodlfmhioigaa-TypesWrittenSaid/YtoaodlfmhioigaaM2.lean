/- A part of the proof of TypesWrittenSaid. No condition. -/
import Derived.Test.YtoaodlfmhioigaaM1
set_option linter.unusedSimpArgs false
set_option linter.unusedVariables false
section
namespace Go.Proofs.Ytoaodlfmhioigaa
open Go.RowKit

/-- What a function does, told of the objects that it is given alone. -/
def Tri (P : Program) (f : FuncId) (args : List AV) (os : List AO) (R : AV → List AO → Prop) : Prop :=
  ∀ (X : Nat → Prop) (ρ : List Nat) (w : World) (us : List Value), SR X ρ w os → VL (envOf X ρ w os) args us →
    Calls P f us.toArray w fun e w' => ∃ v r os' ρ', e = .returned v ∧ R r os' ∧ Goes X (fun _ => True) ρ ρ' w w' os os' ∧ VR (envOf X ρ' w' os') r v

theorem Tri.mono {P : Program} {f : FuncId} {args : List AV} {os : List AO} {R R' : AV → List AO → Prop} (h : Tri P f args os R) (hr : ∀ r os', R r os' → R' r os') : Tri P f args os R' :=
  fun X ρ w us h1 h2 => (h X ρ w us h1 h2).mono fun _ _ ⟨v, r, os', ρ', e, k1, k2, k3⟩ => ⟨v, r, os', ρ', e, hr r os' k1, k2, k3⟩

/-- The objects' cells told otherwise. -/
theorem SR.recell {X : Nat → Prop} {ρ : List Nat} {w : World} {os os' : List AO} (h : SR X ρ w os) (hlen : os'.length = os.length)
    (hget : ∀ (o : Nat) (a : AO), os[o]? = some a → ∃ a', os'[o]? = some a' ∧ a'.live = a.live ∧ a'.g = a.g ∧ a'.sz = a.sz ∧ a'.ty = a.ty ∧ a'.cells.length = a.cells.length ∧
      (a.live = true → ∀ b arr, ρ[o]? = some b → w.heap[b]? = some (.cells arr a.ty (0, 0)) → VL (envOf X ρ w os) a'.cells (arr.toList.take a.cells.length))) :
    SR X ρ w os' ∧ (envOf X ρ w os).Le (envOf X ρ w os') ∧ (∀ b, Lv ρ os' b → Lv ρ os b) := by
  have hcur : ∀ o, curOf ρ os' o = curOf ρ os o := fun o => by
    unfold curOf
    cases ho : os[o]? with
    | none =>
      have : os'[o]? = none := by
        rw [List.getElem?_eq_none_iff] at ho ⊢
        omega
      rw [this]
    | some a =>
      obtain ⟨a', e, h1, h2, _⟩ := hget o a ho
      rw [e]
      cases ρ[o]? <;> simp [h1, h2]
  have hlv : ∀ b, Lv ρ os' b → Lv ρ os b := fun b ⟨o, g, hc⟩ => ⟨o, g, (hcur o).symm.trans hc⟩
  have hlv2 : ∀ b, Lv ρ os b → Lv ρ os' b := fun b ⟨o, g, hc⟩ => ⟨o, g, (hcur o).trans hc⟩
  have hle : (envOf X ρ w os).Le (envOf X ρ w os') := by
    refine ⟨?_, ?_, fun b hb => ⟨hb.1, fun hl => hb.2.1 (hlv b hl), hb.2.2⟩, fun _ _ _ => rfl⟩
    · rintro o g ⟨a, ha, hg⟩
      obtain ⟨a', e, _, h2, _⟩ := hget o a ha
      exact ⟨a', e, by rw [h2]; exact hg⟩
    · intro o b g _ hc
      exact ⟨(hcur o).symm.trans hc, rfl⟩
  refine ⟨⟨by rw [hlen]; exact h.len, fun b hl => h.apart b (hlv b hl), h.xlt, ?_, ?_⟩, hle, hlv⟩
  · intro o o' b g g' h1 h2
    rw [hcur] at h1 h2
    exact h.inj o o' b g g' h1 h2
  · intro o a' b ho hl hb
    have hlt := (List.getElem?_eq_some_iff.1 ho).1
    have ho2 : os[o]? = some (os[o]'(by omega)) := List.getElem?_eq_getElem _
    obtain ⟨a2, e, h1, h2, h3, h4, h5, h6⟩ := hget o _ ho2
    rw [ho] at e; injection e with e; subst e
    have hl2 : (os[o]'(by omega)).live = true := by rw [← h1]; exact hl
    obtain ⟨arr, k1, k2, k3⟩ := h.obj o _ b ho2 hl2 hb
    refine ⟨arr, by rw [h4]; exact k1, ?_, ?_⟩
    · unfold ObjOk at k2 ⊢
      rw [h3, h5]
      exact k2
    · rw [h5]
      exact VL.le hle _ _ (h6 hl2 b arr hb k1)

/-- At a function's end: what is new and isn't written any more is data; the objects that were given are told of. -/
@[simp] def fin (k : Nat) (os : List AO) : List AO := ((ends (fun o => decide (k ≤ o)) os).take k).map (frzO os (fun o => decide (k ≤ o)) 4)
@[simp] def finV (k : Nat) (os : List AO) (x : AV) : AV := frz os (fun o => decide (k ≤ o)) 4 x
@[simp] def clo (k : Nat) : AV → Bool := AV.closed (fun o => decide (o < k))
@[simp] def cloO (k : Nat) (os : List AO) : Bool := os.all fun a => AV.closedL (fun o => decide (o < k)) a.cells

theorem SR.fin {X : Nat → Prop} {ρ : List Nat} {w : World} {os : List AO} (h : SR X ρ w os) (k : Nat) (hk : k ≤ os.length) (hcl : cloO k (Ytoaodlfmhioigaa.fin k os) = true) :
    SR X (ρ.take k) w (Ytoaodlfmhioigaa.fin k os) ∧ (∀ x u, clo k (finV k os x) = true → VR (envOf X ρ w os) x u → VR (envOf X (ρ.take k) w (Ytoaodlfmhioigaa.fin k os)) (finV k os x) u) ∧
      (∀ o, o < k → curOf (ρ.take k) (Ytoaodlfmhioigaa.fin k os) o = curOf ρ os o) ∧ (∀ b, Lv (ρ.take k) (Ytoaodlfmhioigaa.fin k os) b → Lv ρ os b) := by
  have h1 := h.ends (W := fun _ => True) (fun o => decide (k ≤ o))
  -- the cells, frozen
  obtain ⟨os2, hos2⟩ : ∃ os2, (Ytoaodlfmhioigaa.ends (fun o => decide (k ≤ o)) os).map (frzO os (fun o => decide (k ≤ o)) 4) = os2 := ⟨_, rfl⟩
  have hget2 : ∀ (o : Nat), os2[o]? = (Ytoaodlfmhioigaa.ends (fun o => decide (k ≤ o)) os)[o]?.map (frzO os (fun o => decide (k ≤ o)) 4) := fun o => by rw [← hos2, List.getElem?_map]
  have hlen2 : os2.length = os.length := by rw [← hos2, List.length_map, ends_length]
  have hfin : Ytoaodlfmhioigaa.fin k os = os2.take k := by rw [← hos2]; unfold Ytoaodlfmhioigaa.fin; rw [List.map_take]
  have h2 := h1.sr.recell (os' := os2) (by rw [hlen2, ends_length]) (fun o a ha => by
    refine ⟨frzO os (fun o => decide (k ≤ o)) 4 a, by rw [hget2, ha]; rfl, rfl, rfl, rfl, rfl, by simp [frzO], fun hl b arr hb harr => ?_⟩
    rw [ends_get] at ha
    cases hx : os[o]? with
    | none => rw [hx] at ha; cases ha
    | some x =>
      rw [hx] at ha
      simp only [Option.map_some, Option.some.injEq] at ha
      by_cases hk2 : decide (k ≤ o) = true
      · rw [if_pos hk2] at ha
        subst ha
        cases hl
      · rw [if_neg hk2] at ha
        subst ha
        obtain ⟨arr2, e1, _, e3⟩ := h.obj o x b hx hl hb
        rw [harr] at e1
        injection e1 with e1
        injection e1 with e1
        subst e1
        exact h.freezeL _ 4 _ _ e3)
  have h3 := h2.1.cut k (by omega) (fun o a ho ha _ => by
    have : (Ytoaodlfmhioigaa.fin k os)[o]? = some a := by rw [hfin, List.getElem?_take, if_pos ho]; exact ha
    unfold cloO at hcl
    rw [List.all_eq_true] at hcl
    exact hcl a (List.mem_of_getElem? this))
  rw [hfin]
  refine ⟨h3.1, fun x u hc hv => ?_, fun o ho => ?_, fun b hb => (by have q := h1.lv b (h2.2.2 b (h3.2.2 b hb)); rcases q with q | q; exact q; exact absurd (h1.sr.lt (h2.2.2 b (h3.2.2 b hb))) (by omega))⟩
  · exact VR.leC h3.2.1 _ _ hc (VR.le h2.2.1 _ _ (h.freeze _ 4 x u hv))
  · unfold curOf
    rw [List.getElem?_take, List.getElem?_take, if_pos ho, if_pos ho, hget2, ends_get]
    cases hx : os[o]? with
    | none => rfl
    | some x =>
      simp only [Option.map_some]
      rw [if_neg (by simp; omega)]
      cases ρ[o]? <;> rfl

end Go.Proofs.Ytoaodlfmhioigaa
end

section
namespace Go.Proofs.Ytoaodlfmhioigaa
open Go.RowKit

/-- A callee that is given the first k objects alone. -/
theorem SR.call {P : Program} {f : FuncId} {X W : Nat → Prop} {ρ : List Nat} {w : World} {os : List AO} (h : SR X ρ w os) (k : Nat) (hW : ∀ o, o < k → W o) (hk : k ≤ os.length) (args : List AV) (us : List Value) (hv : VL (envOf X ρ w os) args us)
    (hca : AV.closedL (fun o => decide (o < k)) args = true) (hco : cloO k (os.take k) = true) (R : AV → List AO → Prop) (ht : Tri P f args (os.take k) R)
    (hR : ∀ r os', R r os' → os'.length = k ∧ clo k r = true ∧ cloO k os' = true) :
    Calls P f us.toArray w fun e w' => ∃ v r os' ρ', e = .returned v ∧ R r os' ∧ Goes X W ρ ρ' w w' os (os' ++ os.drop k) ∧ VR (envOf X ρ' w' (os' ++ os.drop k)) r v := by
  obtain ⟨X', hX'⟩ : ∃ X' : Nat → Prop, X' = fun b => X b ∨ ∃ o g, k ≤ o ∧ curOf ρ os o = some (b, g) := ⟨_, rfl⟩
  have hx : ∀ b, X' b ↔ X b ∨ ∃ o g, k ≤ o ∧ curOf ρ os o = some (b, g) := fun b => by rw [hX']
  obtain ⟨c1, c2, c3⟩ := h.cut k hk (fun o a ho ha _ => by
    unfold cloO at hco
    rw [List.all_eq_true] at hco
    exact hco a (List.mem_of_getElem? (i := o) (by rw [List.getElem?_take, if_pos ho]; exact ha)))
  have hcurL : ∀ o, curOf (ρ.take k) (os.take k) o = if o < k then curOf ρ os o else none := fun o => by
    unfold curOf
    rw [List.getElem?_take, List.getElem?_take]
    by_cases ho : o < k
    · simp only [if_pos ho]
    · simp only [if_neg ho]
  have hdata : ∀ b, (envOf X ρ w os).data b ↔ (envOf X' (ρ.take k) w (os.take k)).data b := fun b => by
    constructor
    · rintro ⟨d1, d2, d3⟩
      refine ⟨d1, fun hl => d2 (c3 b hl), fun hb => ?_⟩
      rcases (hx b).1 hb with hb | ⟨o, g, _, hc⟩
      · exact d3 hb
      · exact d2 ⟨o, g, hc⟩
    · rintro ⟨d1, d2, d3⟩
      refine ⟨d1, fun ⟨o, g, hc⟩ => ?_, fun hb => d3 ((hx b).2 (.inl hb))⟩
      by_cases ho : o < k
      · exact d2 ⟨o, g, by rw [hcurL, if_pos ho]; exact hc⟩
      · exact d3 ((hx b).2 (.inr ⟨o, g, by omega, hc⟩))
  have hleL : Env.LeC (fun o => decide (o < k)) (envOf X ρ w os) (envOf X' (ρ.take k) w (os.take k)) :=
    ⟨c2.dom, c2.cur, fun b hb => (hdata b).1 hb, fun _ _ _ => rfl⟩
  have hsrL : SR X' (ρ.take k) w (os.take k) := by
    refine ⟨c1.len, fun b hl hb => ?_, fun b hb => ?_, c1.inj, fun o a b ho hl hb => ?_⟩
    · rcases (hx b).1 hb with hb | ⟨o, g, ho, hc⟩
      · exact c1.apart b hl hb
      · obtain ⟨o', g', hc'⟩ := hl
        rw [hcurL] at hc'
        split at hc'
        · have := h.inj o o' b g g' hc hc'
          omega
        · cases hc'
    · rcases (hx b).1 hb with hb | ⟨o, g, ho, hc⟩
      · exact h.xlt b hb
      · exact h.lt ⟨o, g, hc⟩
    · rw [List.getElem?_take] at ho hb
      split at ho
      · rename_i hlt
        rw [if_pos hlt] at hb
        obtain ⟨arr, k1, k2, k3⟩ := h.obj o a b ho hl hb
        unfold cloO at hco
        rw [List.all_eq_true] at hco
        exact ⟨arr, k1, k2, VL.leC hleL _ _ (hco a (List.mem_of_getElem? (i := o) (by rw [List.getElem?_take, if_pos hlt]; exact ho))) k3⟩
      · cases ho
  refine (ht X' (ρ.take k) w us hsrL (VL.leC hleL _ _ hca hv)).mono ?_
  rintro e w' ⟨v, r, os', ρ', rfl, hRr, hgo, hvr⟩
  obtain ⟨hl', hcr, hcos⟩ := hR r os' hRr
  have hlρ' : ρ'.length = k := hgo.sr.len.trans hl'
  refine ⟨v, r, os', ρ' ++ ρ.drop k, rfl, hRr, ?_⟩
  have hget : ∀ o : Nat, (os' ++ os.drop k)[o]? = if o < k then os'[o]? else os[o]? := fun o => by
    by_cases ho : o < k
    · rw [if_pos ho, List.getElem?_append_left (by omega)]
    · rw [if_neg ho, List.getElem?_append_right (by omega), List.getElem?_drop, hl']
      congr 1; omega
  have hgetρ : ∀ o : Nat, (ρ' ++ ρ.drop k)[o]? = if o < k then ρ'[o]? else ρ[o]? := fun o => by
    by_cases ho : o < k
    · rw [if_pos ho, List.getElem?_append_left (by omega)]
    · rw [if_neg ho, List.getElem?_append_right (by omega), List.getElem?_drop, hlρ']
      congr 1; omega
  have hcur : ∀ o, curOf (ρ' ++ ρ.drop k) (os' ++ os.drop k) o = if o < k then curOf ρ' os' o else curOf ρ os o := fun o => by
    unfold curOf
    rw [hget, hgetρ]
    by_cases ho : o < k
    · simp only [if_pos ho]
    · simp only [if_neg ho]
  have hcurk : ∀ o b g, curOf ρ' os' o = some (b, g) → o < k := fun o b g hc => by
    obtain ⟨a, h1, _⟩ := curOf_some hc
    have := (List.getElem?_eq_some_iff.1 h1).1
    omega
  have hblock : ∀ o b g, k ≤ o → curOf ρ os o = some (b, g) → w'.heap[b]? = w.heap[b]? := fun o b g ho hc => by
    refine hgo.updL.block b (h.lt ⟨o, g, hc⟩) ?_
    rintro ⟨o', g', hc'⟩
    rw [hcurL] at hc'
    split at hc'
    · have := h.inj o o' b g g' hc hc'
      omega
    · cases hc'
  have hdata2 : ∀ b, (envOf X' ρ' w' os').data b ↔ (envOf X (ρ' ++ ρ.drop k) w' (os' ++ os.drop k)).data b := fun b => by
    constructor
    · rintro ⟨d1, d2, d3⟩
      refine ⟨d1, fun ⟨o, g, hc⟩ => ?_, fun hb => d3 ((hx b).2 (.inl hb))⟩
      rw [hcur] at hc
      split at hc
      · exact d2 ⟨o, g, hc⟩
      · exact d3 ((hx b).2 (.inr ⟨o, g, by omega, hc⟩))
    · rintro ⟨d1, d2, d3⟩
      refine ⟨d1, fun ⟨o, g, hc⟩ => d2 ⟨o, g, by rw [hcur, if_pos (hcurk o b g hc)]; exact hc⟩, fun hb => ?_⟩
      rcases (hx b).1 hb with hb | ⟨o, g, ho, hc⟩
      · exact d3 hb
      · exact d2 ⟨o, g, by rw [hcur, if_neg (by omega)]; exact hc⟩
  have hle2 : Env.LeC (fun o => decide (o < k)) (envOf X' ρ' w' os') (envOf X (ρ' ++ ρ.drop k) w' (os' ++ os.drop k)) := by
    refine ⟨?_, ?_, fun b hb => (hdata2 b).1 hb, fun _ _ _ => rfl⟩
    · rintro o g ho ⟨a, ha, hg⟩
      simp only [decide_eq_true_eq] at ho
      exact ⟨a, by rw [hget, if_pos ho]; exact ha, hg⟩
    · intro o b g ho _ hc
      simp only [decide_eq_true_eq] at ho
      have hc2 : curOf (ρ' ++ ρ.drop k) (os' ++ os.drop k) o = some (b, g) := hc
      rw [hcur, if_pos ho] at hc2
      exact ⟨hc2, rfl⟩
  have hle : (envOf X ρ w os).Le (envOf X (ρ' ++ ρ.drop k) w' (os' ++ os.drop k)) := by
    refine ⟨?_, ?_, fun b hb => (hdata2 b).1 (hgo.le.data b ((hdata b).1 hb)), fun b i hb => hgo.le.cell b i ((hdata b).1 hb)⟩
    · rintro o g ⟨a, ha, hg⟩
      by_cases ho : o < k
      · obtain ⟨a', ha', hg'⟩ := hgo.le.dom o g ⟨a, by rw [List.getElem?_take, if_pos ho]; exact ha, hg⟩
        exact ⟨a', by rw [hget, if_pos ho]; exact ha', hg'⟩
      · exact ⟨a, by rw [hget, if_neg ho]; exact ha, hg⟩
    · rintro o b g ⟨a, ha, hg⟩ hc
      have hc2 : curOf (ρ' ++ ρ.drop k) (os' ++ os.drop k) o = some (b, g) := hc
      rw [hcur] at hc2
      split at hc2
      · rename_i ho
        obtain ⟨q1, q2⟩ := hgo.le.cur o b g ⟨a, by rw [List.getElem?_take, if_pos ho]; exact ha, hg⟩ hc2
        have q3 : curOf (ρ.take k) (os.take k) o = some (b, g) := q1
        rw [hcurL, if_pos ho] at q3
        exact ⟨q3, q2⟩
      · exact ⟨hc2, sizeAt_block (hblock o b g (by omega) hc2)⟩
  have hobj : ∀ o b g, curOf (ρ' ++ ρ.drop k) (os' ++ os.drop k) o = some (b, g) → (∃ g', curOf ρ os o = some (b, g')) ∨ w.heap.size ≤ b := fun o b g hc => by
    rw [hcur] at hc
    split at hc
    · rename_i ho
      rcases hgo.obj o b g hc with ⟨g', q⟩ | q
      · rw [hcurL, if_pos ho] at q
        exact .inl ⟨g', q⟩
      · exact .inr q
    · exact .inl ⟨g, hc⟩
  refine ⟨⟨⟨by simp [hlρ', hl', h.len], fun b ⟨o, g, hc⟩ hb => ?_, fun b hb => Nat.lt_of_lt_of_le (h.xlt b hb) hgo.upd.size, ?_, ?_⟩, hle, hgo.upd.wide ?_, hobj⟩, VR.leC hle2 _ _ hcr hvr⟩
  · rw [hcur] at hc
    split at hc
    · exact hgo.sr.apart b ⟨o, g, hc⟩ ((hx b).2 (.inl hb))
    · exact h.apart b ⟨o, g, hc⟩ hb
  · intro o o' b g g' h1 h2
    rw [hcur] at h1 h2
    split at h1
    · split at h2
      · exact hgo.sr.inj o o' b g g' h1 h2
      · exact absurd ((hx b).2 (.inr ⟨o', g', by omega, h2⟩)) (hgo.sr.apart b ⟨o, g, h1⟩)
    · split at h2
      · exact absurd ((hx b).2 (.inr ⟨o, g, by omega, h1⟩)) (hgo.sr.apart b ⟨o', g', h2⟩)
      · exact h.inj o o' b g g' h1 h2
  · intro o a b ho hl hb
    rw [hget] at ho
    rw [hgetρ] at hb
    split at ho
    · rename_i hlt
      rw [if_pos hlt] at hb
      obtain ⟨arr, k1, k2, k3⟩ := hgo.sr.obj o a b ho hl hb
      unfold cloO at hcos
      rw [List.all_eq_true] at hcos
      exact ⟨arr, k1, k2, VL.leC hle2 _ _ (hcos a (List.mem_of_getElem? ho)) k3⟩
    · rename_i hlt
      rw [if_neg hlt] at hb
      obtain ⟨arr, k1, k2, k3⟩ := h.obj o a b ho hl hb
      exact ⟨arr, (hblock o b _ (by omega) (curOf_mk ho hb hl)).trans k1, k2, VL.le hle _ _ k3⟩
  · rintro b _ ⟨o, g, _, hc⟩
    rw [hcurL] at hc
    split at hc
    · rename_i ho
      exact ⟨o, g, hW o ho, hc⟩
    · cases hc

end Go.Proofs.Ytoaodlfmhioigaa
end

section
namespace Go.Proofs.Ytoaodlfmhioigaa
open Go.RowKit

/-! What the program's types are, told shortly (each a closed fact). -/
def sizeA (P : Program) (t : TypeId) : Option Nat := (P.info? t).map (·.size)
def bytesA (P : Program) (t : TypeId) : Option Nat := (P.info? t).map (·.bytes)
def zeroA (P : Program) (t : TypeId) : Option (List Value) := ((P.info? t).bind (·.zero)).map (·.cells.toList)
def elemA (P : Program) (t : TypeId) : Option TypeId := match P.underlying t with | some (.slice e) => some e | _ => none
def aggA (P : Program) (t : TypeId) : Option Bool := match P.underlying t with | some (.struct _) => some true | some (.array _ _) => some true | some _ => some false | none => none
/-- a field: where its cells lie, and its type -/
def fieldA (P : Program) (s : TypeId) (f : Nat) : Option (Nat × TypeId) := match P.underlying s with | some (.struct fs) => (fs[f]?).map (fun x => (x.offset, x.type)) | _ => none
def stringA (P : Program) (t : TypeId) : Bool := match P.underlying t with | some .string => true | _ => false
def boolA (P : Program) (t : TypeId) : Bool := match P.underlying t with | some .bool => true | _ => false
def concreteA (P : Program) (t : TypeId) : Bool := match P.underlying t with | some (.interface _) => false | some _ => true | none => false

/-- What an operand is. -/
@[simp] def ev (tm : List AV) : Operand → AV
  | .tmp t => tm.getD t (.val undef)
  | .const v => .val v
  | .global g => .val (.pointer (some ⟨g, 0, none⟩))
  | .func f => .val (.func (.func f) #[] #[])

theorem ev_sound {E : Env} {tm : List AV} {a : Act} (h : VL E tm a.tmps.toList) (x : Operand) : VR E (ev tm x) (a.eval x) := by
  cases x with
  | tmp t =>
    simp only [ev, Act.eval]
    cases ht : tm[t]? with
    | none =>
      have hl := VL.length h
      rw [List.getElem?_eq_none_iff] at ht
      rw [Array.length_toList] at hl
      rw [List.getD_eq_getElem?_getD, List.getElem?_eq_none ht]
      simp only [Option.getD_none]
      rw [Array.getD_eq_getD_getElem?, Array.getElem?_eq_none (by omega)]
      exact rfl
    | some v =>
      obtain ⟨u, h1, h2⟩ := VL.get t h ht
      rw [List.getD_eq_getElem?_getD, ht]
      rw [Array.getD_eq_getD_getElem?, ← Array.getElem?_toList, h1]
      exact h2
  | const v => exact rfl
  | global g => exact rfl
  | func f => exact rfl

/-- Numbers, flags, texts: two of them. -/
@[simp] def abin (P : Program) (op : BinOp) (t : TypeId) : Value → Value → Option Value
  | .int k a, .int k' b =>
    if k = k' then
      match op with
      | .add => some (.int k (k.wrap (a + b)))
      | .sub => some (.int k (k.wrap (a - b)))
      | .mul => some (.int k (k.wrap (a * b)))
      | .quo => if b = 0 then none else some (.int k (k.wrap (a.tdiv b)))
      | .rem => if b = 0 then none else some (.int k (a.tmod b))
      | .eql => some (.bool (decide (a = b)))
      | .neq => some (.bool (!decide (a = b)))
      | .lss => some (.bool (a < b))
      | .leq => some (.bool (a ≤ b))
      | .gtr => some (.bool (a > b))
      | .geq => some (.bool (a ≥ b))
      | _ => none
    else none
  | .string x, .string y =>
    match op with
    | .add => if ((x.size + y.size : Nat) : Int) > IntKind.i64.max then none else some (.string (x ++ y))
    | .eql => some (.bool (x.toList == y.toList))
    | .neq => some (.bool (!(x.toList == y.toList)))
    | .lss => some (.bool (Op.bytesLess x.toList y.toList))
    | .leq => some (.bool (Op.bytesLess x.toList y.toList || x.toList == y.toList))
    | .gtr => some (.bool (!(Op.bytesLess x.toList y.toList || x.toList == y.toList)))
    | .geq => some (.bool (!Op.bytesLess x.toList y.toList))
    | _ => none
  | .bool x, .bool y =>
    if boolA P t then
      match op with
      | .eql => some (.bool (x == y))
      | .neq => some (.bool (!(x == y)))
      | _ => none
    else none
  | _, _ => none

theorem boolA_eq {P : Program} {t : TypeId} (h : boolA P t = true) : P.underlying t = some .bool := by
  unfold boolA at h
  split at h
  · assumption
  · cases h

theorem abin_sound {P : Program} {op : BinOp} {t : TypeId} {x y r : Value} (h : abin P op t x y = some r) (ox oy : Operand) (w : World) :
    (do eqGuard op t ox oy x y; binOp op t x y : Sem Value).run P w = .ok r w := by
  unfold abin at h
  split at h
  · rename_i k a k' b
    split at h
    · rename_i hk
      subst hk
      have hg : (eqGuard op t ox oy (.int k a) (.int k b)).run P w = .ok () w := by
        unfold eqGuard
        split <;> simp
      rw [Sem.run_bind, hg, Result.andThen_ok]
      cases op <;> simp only [binOp, Op.intArith, Op.intDiv, Op.intCmp, ne_eq, not_true_eq_false, if_false] at h ⊢ <;>
        first
          | (injection h with h; subst h; rfl)
          | (split at h <;> first | (cases h; done) | (rename_i hb; injection h with h; subst h; rw [if_neg hb]; rfl))
          | (cases h; done)
    · cases h
  · rename_i x y
    have hg : (eqGuard op t ox oy (.string x) (.string y)).run P w = .ok () w := by
      unfold eqGuard
      split <;> simp
    rw [Sem.run_bind, hg, Result.andThen_ok]
    cases op <;> simp only [binOp, Op.stringOp] at h ⊢ <;>
      first
        | (injection h with h; subst h; rfl)
        | (split at h <;> first | (cases h; done) | (rename_i hb; injection h with h; subst h; rw [if_neg hb]; rfl))
        | (cases h; done)
  · rename_i x y
    split at h
    · rename_i hb
      have hu := boolA_eq hb
      have hg : (eqGuard op t ox oy (.bool x) (.bool y)).run P w = .ok () w := by
        unfold eqGuard
        split <;> simp
      rw [Sem.run_bind, hg, Result.andThen_ok]
      have hund : (underlying t).run P w = .ok .bool w := by simp [underlying, hu]
      have heq : (Op.equal t (.bool x) (.bool y)).run P w = .ok (x == y) w := by
        unfold Op.equal
        rw [show Op.maxDepth = (Op.maxDepth - 1) + 1 from rfl]
        simp only [Op.equalIn, Sem.run_bind, hund, Result.andThen_ok, Sem.run_pure]
      cases op <;> simp only [binOp] at h ⊢ <;>
        first
          | (injection h with h; subst h; simp only [Sem.run_bind, heq, Result.andThen_ok, Sem.run_pure]; done)
          | (cases h; done)
    · cases h
  · cases h

@[simp] def aun (op : UnOp) : Value → Option Value
  | .int k a => match op with | .neg => some (.int k (k.wrap (0 - a))) | _ => none
  | .bool b => match op with | .not => some (.bool (!b)) | _ => none
  | _ => none
theorem aun_sound {P : Program} {op : UnOp} {x r : Value} (h : aun op x = some r) (w : World) : (Op.unary op x).run P w = .ok r w := by
  unfold aun at h
  split at h
  · cases op <;> simp only at h <;> first | (injection h with h; subst h; rfl) | (cases h; done)
  · cases op <;> simp only at h <;> first | (injection h with h; subst h; rfl) | (cases h; done)
  · cases h

end Go.Proofs.Ytoaodlfmhioigaa
end

section
namespace Go.Proofs.Ytoaodlfmhioigaa
open Go.RowKit

/-- Values of one cell. -/
def oneA : AV → Bool
  | .val v => v.oneCell'
  | .agg _ => false
  | .tup _ => false
  | .any => false
  | _ => true
def AV.cellsA : AV → List AV
  | .agg cs => cs
  | x => [x]
/-- A value that can be written: of one cell, or of cells that are each of one. -/
def flatA : AV → Bool
  | .agg cs => cs.all oneA
  | x => oneA x

@[simp] theorem oneA_val (v : Value) : oneA (AV.val v) = v.oneCell' := rfl
@[simp] theorem flatA_val (v : Value) : flatA (AV.val v) = v.oneCell' := rfl
@[simp] theorem cellsA_val (v : Value) : AV.cellsA (AV.val v) = [AV.val v] := rfl
@[simp] theorem oneA_ref (o off g : Nat) : oneA (AV.ref o off g) = true := rfl
@[simp] theorem flatA_ref (o off g : Nat) : flatA (AV.ref o off g) = true := rfl
@[simp] theorem cellsA_ref (o off g : Nat) : AV.cellsA (AV.ref o off g) = [AV.ref o off g] := rfl
@[simp] theorem oneA_dat (cs : List AV) : oneA (AV.dat cs) = true := rfl
@[simp] theorem flatA_dat (cs : List AV) : flatA (AV.dat cs) = true := rfl
@[simp] theorem cellsA_dat (cs : List AV) : AV.cellsA (AV.dat cs) = [AV.dat cs] := rfl
@[simp] theorem oneA_vec (sz n : Nat) (cs : List AV) : oneA (AV.vec sz n cs) = true := rfl
@[simp] theorem flatA_vec (sz n : Nat) (cs : List AV) : flatA (AV.vec sz n cs) = true := rfl
@[simp] theorem cellsA_vec (sz n : Nat) (cs : List AV) : AV.cellsA (AV.vec sz n cs) = [AV.vec sz n cs] := rfl
@[simp] theorem oneA_row (o sz off n g : Nat) : oneA (AV.row o sz off n g) = true := rfl
@[simp] theorem flatA_row (o sz off n g : Nat) : flatA (AV.row o sz off n g) = true := rfl
@[simp] theorem cellsA_row (o sz off n g : Nat) : AV.cellsA (AV.row o sz off n g) = [AV.row o sz off n g] := rfl
@[simp] theorem oneA_fn (f : Fn) (a b : List AV) : oneA (AV.fn f a b) = true := rfl
@[simp] theorem flatA_fn (f : Fn) (a b : List AV) : flatA (AV.fn f a b) = true := rfl
@[simp] theorem cellsA_fn (f : Fn) (a b : List AV) : AV.cellsA (AV.fn f a b) = [AV.fn f a b] := rfl
@[simp] theorem oneA_ifc (t : TypeId) (x : AV) : oneA (AV.ifc t x) = true := rfl
@[simp] theorem flatA_ifc (t : TypeId) (x : AV) : flatA (AV.ifc t x) = true := rfl
@[simp] theorem cellsA_ifc (t : TypeId) (x : AV) : AV.cellsA (AV.ifc t x) = [AV.ifc t x] := rfl
@[simp] theorem oneA_agg (cs : List AV) : oneA (AV.agg cs) = false := rfl
@[simp] theorem flatA_agg (cs : List AV) : flatA (AV.agg cs) = cs.all oneA := rfl
@[simp] theorem cellsA_agg (cs : List AV) : AV.cellsA (AV.agg cs) = cs := rfl
@[simp] theorem oneA_tup (cs : List AV) : oneA (AV.tup cs) = false := rfl
@[simp] theorem flatA_tup (cs : List AV) : flatA (AV.tup cs) = false := rfl
@[simp] theorem cellsA_tup (cs : List AV) : AV.cellsA (AV.tup cs) = [AV.tup cs] := rfl
@[simp] theorem oneA_any  : oneA (AV.any ) = false := rfl
@[simp] theorem flatA_any  : flatA (AV.any ) = false := rfl
@[simp] theorem cellsA_any  : AV.cellsA (AV.any ) = [AV.any ] := rfl

theorem oneA_sound {E : Env} {x : AV} {u : Value} (h : oneA x = true) (hv : VR E x u) : u.oneCell' = true := by
  cases x with
  | val v => obtain rfl : u = v := hv; exact h
  | ref o off g => exact hv.2.1
  | dat cs => obtain ⟨b, off, rfl, _⟩ := hv; rfl
  | vec sz n cs => obtain ⟨a, c, rfl, _⟩ := hv; rfl
  | row o sz off n g => exact hv.2.1
  | fn f fs cs => obtain ⟨us, vs, rfl, _⟩ := hv; rfl
  | ifc t x => obtain ⟨v, rfl, _⟩ := hv; rfl
  | agg cs => cases h
  | tup cs => cases h
  | any => cases h

theorem oneL_sound {E : Env} : ∀ {cs : List AV} {us : List Value}, cs.all oneA = true → VL E cs us → ∀ u ∈ us, u.oneCell' = true
  | [], [], _, _ => by simp
  | x :: xs, u :: us, h, ⟨h1, h2⟩ => by
    simp only [List.all_cons, Bool.and_eq_true] at h
    intro v hv
    rcases List.mem_cons.1 hv with rfl | hv
    · exact oneA_sound h.1 h1
    · exact oneL_sound h.2 h2 v hv
  | [], _ :: _, _, h => h.elim
  | _ :: _, [], _, h => h.elim

theorem cells_one {u : Value} (h : u.oneCell' = true) : u.cells = #[u] := by
  cases u <;> first | rfl | (cases h; done)

theorem flat_sound {E : Env} {x : AV} {u : Value} (h : flatA x = true) (hv : VR E x u) : VL E x.cellsA u.cells.toList ∧ ∀ c ∈ u.cells.toList, c.oneCell' = true := by
  have one : oneA x = true → x.cellsA = [x] → VL E x.cellsA u.cells.toList ∧ ∀ c ∈ u.cells.toList, c.oneCell' = true := fun h1 he => by
    have h2 := oneA_sound h1 hv
    rw [he, cells_one h2]
    exact ⟨⟨hv, trivial⟩, by simpa using h2⟩
  cases x with
  | agg cs =>
    obtain ⟨us, rfl, h1⟩ := hv
    exact ⟨h1, oneL_sound h h1⟩
  | tup cs => cases h
  | any => cases h
  | val v => exact one h rfl
  | ref o off g => exact one h rfl
  | dat cs => exact one h rfl
  | vec sz n cs => exact one h rfl
  | row o sz off n g => exact one h rfl
  | fn f fs cs => exact one h rfl
  | ifc t x => exact one h rfl

@[simp] def packA (ag : Bool) (cs : List AV) : Option AV :=
  if ag then some (.agg cs) else match cs with | [x] => some x | _ => none

theorem aggA_run {P : Program} {t : TypeId} {b : Bool} (h : aggA P t = some b) (w : World) : (isAgg t).run P w = .ok b w := by
  unfold aggA at h
  cases hu : P.underlying t with
  | none => rw [hu] at h; cases h
  | some d =>
    rw [hu] at h
    simp only [isAgg, Sem.run_bind, underlying, run_program, Result.andThen_ok, hu, Sem.run_pure]
    cases d <;> simp only [Option.some.injEq] at h <;> subst h <;> rfl
theorem sizeA_run {P : Program} {t : TypeId} {n : Nat} (h : sizeA P t = some n) (w : World) : (sizeOf t).run P w = .ok n w := by
  unfold sizeA at h
  obtain ⟨i, h1, h2⟩ := Option.map_eq_some_iff.1 h
  simp [sizeOf, typeInfo, h1, h2]
theorem elemA_run {P : Program} {t e : TypeId} (h : elemA P t = some e) : P.underlying t = some (.slice e) := by
  unfold elemA at h
  split at h
  · rename_i hu; injection h with h; subst h; exact hu
  · cases h
theorem und_run {P : Program} {t : TypeId} {d : TypeDesc} (h : P.underlying t = some d) (w : World) : (underlying t).run P w = .ok d w := by simp [underlying, h]

/-- A read of cells that stand in a row. -/
theorem load_cells {P : Program} {E : Env} {w : World} {t : TypeId} {n : Nat} {ag : Bool} (hn : sizeA P t = some n) (ha : aggA P t = some ag) (b off : Nat) (cs : List AV) (us : List Value) (hl : us.length = n) (hv : VL E cs us)
    (hc : ∀ i u, us[i]? = some u → w.cell? ⟨b, off + i, none⟩ = some u) {r : AV} (hr : packA ag cs = some r) :
    ∃ v, (loadVar t ⟨b, off, none⟩).run P w = .ok v w ∧ VR E r v := by
  have hadd : ∀ i u, us[i]? = some u → w.cell? ((⟨b, off, none⟩ : Addr).add i) = some u := fun i u hi => by
    rw [Addr.add_lit]
    exact hc i u hi
  cases ag with
  | true =>
    simp only [packA, if_true, Option.some.injEq] at hr
    subst hr
    refine ⟨.agg us.toArray, ?_, us.toArray, rfl, by simpa using hv⟩
    simp only [loadVar, Sem.run_bind, aggA_run ha, Result.andThen_ok, if_true, sizeA_run hn]
    rw [← hl, run_loadCells_list w ⟨b, off, none⟩ us hadd]
    rfl
  | false =>
    simp only [packA, Bool.false_eq_true, if_false] at hr
    split at hr
    · rename_i x
      injection hr with hr
      subst hr
      cases us with
      | nil => exact hv.elim
      | cons u us =>
        refine ⟨u, ?_, hv.1⟩
        have h0 := hc 0 u rfl
        rw [Nat.add_zero] at h0
        simp only [loadVar, Sem.run_bind, aggA_run ha, Result.andThen_ok, Bool.false_eq_true, if_false, run_load, h0]
    · cases hr

@[simp] def loadA (P : Program) (os : List AO) (t : TypeId) (x : AV) : Option AV :=
  match sizeA P t, aggA P t with
  | some n, some ag =>
    match x with
    | .ref o off g =>
      match os[o]? with
      | some a => if a.live && a.g == g && decide (off + n ≤ a.cells.length) then packA ag ((a.cells.drop off).take n) else none
      | none => none
    | .dat cs => if n ≤ cs.length then packA ag (cs.take n) else none
    | _ => none
  | _, _ => none

theorem loadA_sound {P : Program} {X : Nat → Prop} {ρ : List Nat} {w : World} {os : List AO} (h : SR X ρ w os) {t : TypeId} {x r : AV} {u : Value} (hx : VR (envOf X ρ w os) x u) (hr : loadA P os t x = some r) :
    ∃ v, (Instr.loadAt t u).run P w = .ok v w ∧ VR (envOf X ρ w os) r v := by
  unfold loadA at hr
  split at hr
  · rename_i n ag hn ha
    split at hr
    · rename_i o off g
      split at hr
      · rename_i a ho
        split at hr
        · rename_i hcond
          simp only [Bool.and_eq_true, beq_iff_eq, decide_eq_true_eq] at hcond
          obtain ⟨⟨hl, hg⟩, hlen⟩ := hcond
          obtain ⟨b, hc⟩ := h.cur ho hl
          rw [hg] at hc
          obtain ⟨us, k1, k2, k3⟩ := h.cells hc ho off n hlen
          obtain ⟨v, e1, e2⟩ := load_cells hn ha b off _ us k1 k2 k3 hr
          refine ⟨v, ?_, e2⟩
          rw [hx.2.2 b hc]
          simp only [Instr.loadAt, Instr.sureAddr, Sem.run_bind, Sem.run_pure, Result.andThen_ok, e1]
        · cases hr
      · cases hr
    · rename_i cs
      split at hr
      · rename_i hlen
        obtain ⟨b, off, rfl, hd, hcs⟩ := hx
        obtain ⟨us, k1, k2⟩ := VC.list (VC.take n hcs)
        have k1' := VL.le (Env.nr_le _) _ _ k1
        obtain ⟨v, e1, e2⟩ := load_cells (w := w) hn ha b off _ us (by rw [VL.length k1, List.length_take]; omega) k1' (fun i u hi => k2 i u hi) hr
        refine ⟨v, ?_, e2⟩
        simp only [Instr.loadAt, Instr.sureAddr, Sem.run_bind, Sem.run_pure, Result.andThen_ok, e1]
      · cases hr
    · cases hr
  · cases hr

@[simp] def storeA (P : Program) (os : List AO) (t : TypeId) (x v : AV) : Option (List AO) :=
  match sizeA P t, x with
  | some n, .ref o off g =>
    match os[o]? with
    | some a => if a.live && a.g == g && flatA v && v.cellsA.length == n && decide (off + n ≤ a.cells.length) then some (os.set o { a with cells := splice a.cells off v.cellsA }) else none
    | none => none
  | _, _ => none

theorem storeA_sound {P : Program} {X W : Nat → Prop} {ρ : List Nat} {w : World} {os os' : List AO} (h : SR X ρ w os) {t : TypeId} {x v : AV} {u uv : Value} (hW : ∀ o off g, x = .ref o off g → W o) (hx : VR (envOf X ρ w os) x u) (hv : VR (envOf X ρ w os) v uv)
    (hr : storeA P os t x v = some os') : ∃ w', (Instr.storeAt t u uv).run P w = .ok () w' ∧ Goes X W ρ ρ w w' os os' := by
  unfold storeA at hr
  split at hr
  · rename_i n o off g hn
    split at hr
    · rename_i a ho
      split at hr
      · rename_i hcond
        simp only [Bool.and_eq_true, beq_iff_eq, decide_eq_true_eq] at hcond
        obtain ⟨⟨⟨⟨hl, hg⟩, hf⟩, hlen⟩, hoff⟩ := hcond
        injection hr with hr
        subst hr
        obtain ⟨b, hc⟩ := h.cur ho hl
        rw [hg] at hc
        obtain ⟨k1, k2⟩ := flat_sound hf hv
        have kl := VL.length k1
        obtain ⟨arr, e1, e2, e3⟩ := h.store (hW o off g rfl) hc ho off v.cellsA uv.cells.toList (by omega) k1
        refine ⟨_, ?_, e3⟩
        rw [hx.2.2 b hc]
        have hst := run_storeCells_at (P := P) b off a.ty uv.cells.toList 0 arr w e1 (by simpa using e2) k2
        simp only [Nat.add_zero] at hst
        have hsz : uv.cells.size = n := by rw [← Array.length_toList, kl, hlen]
        simp only [Instr.storeAt, Instr.sureAddr, Sem.run_bind, Sem.run_pure, Result.andThen_ok, storeVar, sizeA_run hn, hsz, ne_eq, not_true_eq_false, if_false, hst]
      · cases hr
    · cases hr
  · cases hr

/-- A new variable. -/
@[simp] def newA (os : List AO) (t : TypeId) (cs : List AV) : AV × List AO := (.ref os.length 0 0, os ++ [⟨true, 0, none, t, cs⟩])

theorem newA_sound {X W : Nat → Prop} {ρ : List Nat} {w : World} {os : List AO} (h : SR X ρ w os) (t : TypeId) (cs : List AV) (arr : Array Value) (hv : VL (envOf X ρ w os) cs arr.toList) :
    ∃ ρ', Goes X W ρ ρ' w (w.alloc (.cells arr t)) os (newA os t cs).2 ∧ VR (envOf X ρ' (w.alloc (.cells arr t)) (newA os t cs).2) (newA os t cs).1 (.pointer (some ⟨w.heap.size, 0, none⟩)) := by
  have hl := VL.length hv
  rw [Array.length_toList] at hl
  obtain ⟨h1, h2⟩ := h.new ⟨true, 0, none, t, cs⟩ arr rfl hl (by rw [List.take_of_length_le (by simp [hl])]; exact hv)
  refine ⟨_, h1, ⟨⟨true, 0, none, t, cs⟩, by simp [newA], Nat.le_refl _⟩, rfl, fun b hc => ?_⟩
  have hc2 : curOf (ρ ++ [w.heap.size]) (os ++ [⟨true, 0, none, t, cs⟩]) os.length = some (b, 0) := hc
  rw [h2] at hc2
  simp only [Option.some.injEq, Prod.mk.injEq] at hc2
  rw [hc2.1]

end Go.Proofs.Ytoaodlfmhioigaa
end

section
namespace Go.Proofs.Ytoaodlfmhioigaa
open Go.RowKit

/-- Part of a struct's cells. -/
@[simp] def partA (P : Program) (t : TypeId) (cs : List AV) (off : Nat) : Option AV :=
  match aggA P t, sizeA P t with
  | some true, some n => if off + n ≤ cs.length then some (.agg ((cs.drop off).take n)) else none
  | some false, some _ => cs[off]?
  | _, _ => none

theorem partA_sound {P : Program} {E : Env} {t : TypeId} {cs : List AV} {us : Array Value} {off : Nat} {r : AV} (h : partA P t cs off = some r) (hv : VL E cs us.toList) :
    ∃ v, (∀ w, (part t us off).run P w = .ok v w) ∧ VR E r v := by
  unfold partA at h
  split at h
  · rename_i n ha hn
    split at h
    · rename_i hl
      injection h with h
      subst h
      refine ⟨.agg (us.extract off (off + n)), fun w => by simp [part, aggA_run ha, sizeA_run hn], _, rfl, ?_⟩
      have := (hv.drop off).take n
      rw [show (us.extract off (off + n)).toList = (us.toList.drop off).take n by simp [List.extract]]
      exact this
    · cases h
  · rename_i n ha hn
    obtain ⟨u, k1, k2⟩ := VL.get off hv h
    refine ⟨u, ?_, k2⟩
    rw [Array.getElem?_toList] at k1
    intro w
    simp [part, aggA_run ha, k1]
  · cases h

@[simp] def fieldV (P : Program) (s : TypeId) (x : AV) (f : Nat) : Option AV :=
  match x, fieldA P s f with
  | .agg cs, some (off, t) => partA P t cs off
  | _, _ => none

theorem fieldA_eq {P : Program} {s : TypeId} {f off : Nat} {t : TypeId} (h : fieldA P s f = some (off, t)) : ∃ fs x, P.underlying s = some (.struct fs) ∧ fs[f]? = some x ∧ x.offset = off ∧ x.type = t := by
  unfold fieldA at h
  split at h
  · rename_i fs hu
    obtain ⟨x, h1, h2⟩ := Option.map_eq_some_iff.1 h
    simp only [Prod.mk.injEq] at h2
    exact ⟨fs, x, hu, h1, h2.1, h2.2⟩
  · cases h

theorem fieldV_sound {P : Program} {E : Env} {s : TypeId} {x r : AV} {u : Value} {f : Nat} (h : fieldV P s x f = some r) (hv : VR E x u) :
    ∃ v, (∀ w, (Instr.field s u f).run P w = .ok v w) ∧ VR E r v := by
  unfold fieldV at h
  split at h
  · rename_i cs off t hf
    obtain ⟨fs, fl, h1, h2, h3, h4⟩ := fieldA_eq hf
    obtain ⟨us, rfl, hv⟩ := hv
    obtain ⟨v, k1, k2⟩ := partA_sound (P := P) h hv
    refine ⟨v, ?_, k2⟩
    subst h3; subst h4
    intro w
    simp [Instr.field, und_run h1, h2, asAgg, k1]
  · cases h

@[simp] def fieldAt (P : Program) (s : TypeId) (x : AV) (f : Nat) : Option AV :=
  match fieldA P s f with
  | some (off, t) =>
    match sizeA P t, x with
    | some (_ + 1), .ref o k g => some (.ref o (k + off) g)
    | some (_ + 1), .dat cs => some (.dat (cs.drop off))
    | _, _ => none
  | _ => none

theorem fieldAt_sound {P : Program} {X : Nat → Prop} {ρ : List Nat} {w : World} {os : List AO} {s : TypeId} {x r : AV} {u : Value} {f : Nat} (h : fieldAt P s x f = some r) (hv : VR (envOf X ρ w os) x u) (hcur : ∀ o k g, x = .ref o k g → ∃ b, curOf ρ os o = some (b, g)) :
    ∃ v, (∀ w', (Instr.fieldAt s u f).run P w' = .ok v w') ∧ VR (envOf X ρ w os) r v := by
  unfold fieldAt at h
  split at h
  · rename_i off t hf
    obtain ⟨fs, fl, h1, h2, h3, h4⟩ := fieldA_eq hf
    subst h3; subst h4
    split at h
    · rename_i n o k g hn
      injection h with h
      subst h
      obtain ⟨b, hb⟩ := hcur o k g rfl
      have hu := hv.2.2 b hb
      subst hu
      refine ⟨.pointer (some ⟨b, k + fl.offset, none⟩), ?_, hv.1, rfl, fun b' hb' => ?_⟩
      · intro w'; simp [Instr.fieldAt, und_run h1, h2, Instr.sureAddr, fieldPlace, sizeA_run hn, Addr.add_lit]
      · have : curOf ρ os o = some (b', g) := hb'
        rw [hb] at this
        simp only [Option.some.injEq, Prod.mk.injEq, and_true] at this
        rw [this]
    · rename_i n cs hn
      injection h with h
      subst h
      obtain ⟨b, k, rfl, hd, hc⟩ := hv
      refine ⟨.pointer (some ⟨b, k + fl.offset, none⟩), ?_, b, k + fl.offset, rfl, hd, VC.drop _ hc⟩
      intro w'
      simp [Instr.fieldAt, und_run h1, h2, Instr.sureAddr, fieldPlace, sizeA_run hn, Addr.add_lit]
    · cases h
  · cases h

/-- The place of a thing in a slice. -/
@[simp] def indexAt (P : Program) (os : List AO) (t : TypeId) (x ix : AV) : Option AV :=
  match elemA P t with
  | some e =>
    match sizeA P e, x, ix with
    | some sz, .row o sz' off n g, .val (.int _ i) =>
      match os[o]? with
      | some a => if a.live && a.g == g && sz' == sz && decide (0 ≤ i) && decide (i < n) then some (.ref o (off * sz + i.toNat * sz) g) else none
      | none => none
    | some sz, .vec sz' n cs, .val (.int _ i) => if sz' == sz && decide (0 ≤ i) && decide (i < n) && !cs.isEmpty then some (.dat (cs.drop (i.toNat * sz))) else none
    | _, _, _ => none
  | none => none

theorem indexAt_sound {P : Program} {X : Nat → Prop} {ρ : List Nat} {w : World} {os : List AO} (h : SR X ρ w os) {t : TypeId} {x ix r : AV} {u ui : Value} (hr : indexAt P os t x ix = some r) (hv : VR (envOf X ρ w os) x u) (hi : VR (envOf X ρ w os) ix ui) :
    ∃ v, (∀ w', (Instr.indexAt t u ui).run P w' = .ok v w') ∧ VR (envOf X ρ w os) r v := by
  unfold indexAt at hr
  split at hr
  · rename_i e he
    have hu := elemA_run he
    split at hr
    · rename_i sz o sz' off n g k i hsz
      obtain rfl : ui = .int k i := hi
      split at hr
      · rename_i a ho
        split at hr
        · rename_i hcond
          simp only [Bool.and_eq_true, beq_iff_eq, decide_eq_true_eq] at hcond
          obtain ⟨⟨⟨⟨hl, hg⟩, rfl⟩, h0⟩, hlt⟩ := hcond
          injection hr with hr
          subst hr
          obtain ⟨b, hc⟩ := h.cur ho hl
          rw [hg] at hc
          obtain ⟨c, p, rfl, hp, _, _, _⟩ := hv.2.2 b hc
          obtain rfl : p = off * sz' := hp.resolve_right (fun q => by have := q.1; omega)
          refine ⟨.pointer (some ⟨b, off * sz' + i.toNat * sz', none⟩), ?_, hv.1, rfl, fun b' hb' => ?_⟩
          · intro w'; simp [Instr.indexAt, asIntOf, und_run hu, sizeA_run hsz, h0, hlt, Addr.add_lit]
          · have : curOf ρ os o = some (b', g) := hb'
            rw [hc] at this
            simp only [Option.some.injEq, Prod.mk.injEq, and_true] at this
            rw [this]
        · cases hr
      · cases hr
    · rename_i sz sz' n cs k i hsz
      obtain rfl : ui = .int k i := hi
      split at hr
      · rename_i hcond
        simp only [Bool.and_eq_true, beq_iff_eq, decide_eq_true_eq, Bool.not_eq_true', List.isEmpty_eq_false_iff] at hcond
        obtain ⟨⟨⟨rfl, h0⟩, hlt⟩, hne⟩ := hcond
        injection hr with hr
        subst hr
        obtain ⟨a, c, rfl, h1, h2, h3, h4⟩ := hv
        obtain ⟨b, off, rfl, hd, hc⟩ := h4 hne
        refine ⟨.pointer (some ⟨b, off + i.toNat * sz', none⟩), ?_, b, off + i.toNat * sz', rfl, hd, VC.drop _ hc⟩
        intro w'
        simp [Instr.indexAt, asIntOf, und_run hu, sizeA_run hsz, h0, hlt, Addr.add_lit]
      · cases hr
    · cases hr
  · cases hr

end Go.Proofs.Ytoaodlfmhioigaa
end
