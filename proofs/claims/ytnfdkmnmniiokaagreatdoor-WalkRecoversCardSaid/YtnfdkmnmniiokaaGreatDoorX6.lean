import Derived.Test.YtnfdkmnmniiokaaGreatDoorX5
import Derived.MapKept
import Derived.Laws.MakeOwn
import Derived.Laws.StructEq
set_option linter.unusedVariables false
set_option linter.unusedSimpArgs false
namespace Go.Proofs.YtnfdkmnmniiokaaGreatDoor
open Go.RowKit
open Go.MapKept (IsKey run_checkKey run_findKey)

section
variable {P : Program} {ρ : Pl} {η : Nat → Value} {B : Nat} {hp : Hp} {nx : Nat} {w : World}

theorem getM {b : Nat} {ms : Array MapEntry} {c : Nat} (h : w.heap[b]? = some (.map ms c)) : (getObj b).run P w = .ok (.map ms c) w := by simp [getObj, Sem.run, h]
theorem setM {b : Nat} {ms : Array MapEntry} {c : Nat} (o : Obj) (h : w.heap[b]? = some (.map ms c)) : (setObj b o).run P w = .ok () { w with heap := w.heap.setIfInBounds b o } := by simp [setObj, Sem.run, h]
theorem getI {b : Nat} {s : ByteArray} {c : Nat} (h : w.heap[b]? = some (.stringIter s c)) : (getObj b).run P w = .ok (.stringIter s c) w := by simp [getObj, Sem.run, h]
theorem setI {b : Nat} {s : ByteArray} {c : Nat} (o : Obj) (h : w.heap[b]? = some (.stringIter s c)) : (setObj b o).run P w = .ok () { w with heap := w.heap.setIfInBounds b o } := by simp [setObj, Sem.run, h]

/-- The zero of a type, as a thing. -/
def ofZero : Value → EV
  | .agg cs => .agg (cs.toList.map ofVal)
  | v => ofVal v
theorem ofZero_sound (v : Value) : VR ρ η (ofZero v) v := by
  unfold ofZero
  split
  · exact ⟨_, rfl, vl_ofVal ρ η _⟩
  · exact ofVal_sound ρ η _

/-- Keys that are held against each other: numbers, texts, flags. -/
inductive KK | int (k : IntKind) | str | bool
def keyKind (P : Program) (t : TypeId) : Option KK :=
  match P.underlying t with
  | some (.int k) => some (.int k)
  | some .string => some .str
  | some .bool => some .bool
  | _ => none
def eqKey : KK → EV → EV → Option Bool
  | .int q, .int k a, .int k' b => if k = q ∧ k' = q then some (decide (a = b)) else none
  | .str, .str l v, .str m u => some (Nat.beq l m && Nat.beq v u)
  | .bool, .bool a, .bool b => some (a == b)
  | _, _, _ => none
def findE (kk : KK) (k : EV) : List (EV × EV) → Nat → Option (Option (Nat × EV))
  | [], _ => some none
  | (x, v) :: es, i =>
    match eqKey kk k x with
    | some true => some (some (i, v))
    | some false => findE kk k es (i + 1)
    | none => none

theorem bytes_beq2 (a b : ByteArray) : (a == b) = (Nat.beq a.size b.size && Nat.beq (bnum a) (bnum b)) := by
  rw [beq_toListBytes, seq_eq]

def KOk : KK → TypeDesc → Prop
  | .int k, d => d = .int k
  | .str, d => d = .string
  | .bool, d => d = .bool
theorem keyKind_ok {t : TypeId} {kk : KK} (h : keyKind P t = some kk) : ∃ d, P.underlying t = some d ∧ KOk kk d := by
  unfold keyKind at h
  split at h <;> first | (cases h; done) | (rename_i hd; injection h with h; subst h; exact ⟨_, hd, rfl⟩)

theorem eqKey_sound {kk : KK} {d : TypeDesc} (hk : KOk kk d) {x y : EV} {u v : Value} {b : Bool} (h : eqKey kk x y = some b) (hu : VR ρ η x u) (hv : VR ρ η y v) :
    Instr.sameNow d u v = some b ∧ (b = true → Instr.sameBits 10000 v u = true) ∧ IsKey d u := by
  unfold eqKey at h
  split at h
  · rename_i q k a k' c
    obtain rfl := hk
    obtain rfl : u = .int k a := hu
    obtain rfl : v = .int k' c := hv
    split at h
    · rename_i hkk
      obtain ⟨rfl, rfl⟩ := hkk
      injection h with h
      subst h
      refine ⟨by simp only [Instr.sameNow, if_true]; rfl, fun hb => ?_, by simp [IsKey]⟩
      simp only [decide_eq_true_eq] at hb
      subst hb
      simp [Instr.sameBits]
    · cases h
  · rename_i l x m y
    obtain rfl := hk
    obtain ⟨s, rfl, rfl, rfl⟩ := hu
    obtain ⟨s', rfl, rfl, rfl⟩ := hv
    injection h with h
    subst h
    refine ⟨by simp only [Instr.sameNow, bytes_beq2], fun hb => ?_, by simp [IsKey]⟩
    have e : s = s' := by
      simp only [Bool.and_eq_true, Nat.beq_eq] at hb
      exact bnum_inj hb.1 hb.2
    subst e
    simp [Instr.sameBits, bytes_beq2]
  · rename_i a c
    obtain rfl := hk
    obtain rfl : u = .bool a := hu
    obtain rfl : v = .bool c := hv
    injection h with h
    subst h
    refine ⟨by simp [Instr.sameNow], fun hb => ?_, by simp [IsKey]⟩
    simp only [beq_iff_eq] at hb
    subst hb
    simp [Instr.sameBits]
  · cases h

theorem findE_sound {kk : KK} {d : TypeDesc} (hk : KOk kk d) {k : EV} {u : Value} (hu : VR ρ η k u) : ∀ {es : List (EV × EV)} {ms : List MapEntry} {i : Nat} {r : Option (Nat × EV)}, ME ρ η es ms → findE kk k es i = some r →
    match r with
    | none => Instr.findNow d u ms i = some none
    | some (j, v) => i ≤ j ∧ ∃ m x, Instr.findNow d u ms i = some (some (j, m.val)) ∧ ms[j - i]? = some m ∧ es[j - i]? = some (x, v) ∧ VR ρ η v m.val ∧ VR ρ η x m.key ∧ Instr.sameBits 10000 m.key u = true
  | [], [], i, r, _, h => by
    simp only [findE, Option.some.injEq] at h
    subst h
    rfl
  | (x, v) :: es, m :: ms, i, r, ⟨h1, h2, h3⟩, h => by
    simp only [findE] at h
    split at h
    · rename_i he
      obtain ⟨k1, k2, _⟩ := eqKey_sound hk he hu h1
      injection h with h
      subst h
      exact ⟨Nat.le_refl _, m, x, by simp [Instr.findNow, k1], by simp, by simp, h2, h1, k2 rfl⟩
    · rename_i he
      obtain ⟨k1, _, _⟩ := eqKey_sound hk he hu h1
      have ih := findE_sound hk hu h3 h
      cases r with
      | none => simpa [Instr.findNow, k1] using ih
      | some p =>
        obtain ⟨j, v'⟩ := p
        obtain ⟨a1, m', x', a2, a3, a4, a5⟩ := ih
        refine ⟨by omega, m', x', by simpa [Instr.findNow, k1] using a2, ?_, ?_, a5⟩
        · rw [show j - i = (j - (i + 1)) + 1 by omega, List.getElem?_cons_succ]; exact a3
        · rw [show j - i = (j - (i + 1)) + 1 by omega, List.getElem?_cons_succ]; exact a4
    · cases h
  | [], _ :: _, _, _, h, _ => h.elim
  | _ :: _, [], _, _, h, _ => h.elim

/-- Is a thing a key of that kind? -/
def isKey : KK → EV → Bool
  | .int q, .int k _ => decide (k = q)
  | .str, .str _ _ => true
  | .bool, .bool _ => true
  | _, _ => false
theorem isKey_sound {kk : KK} {d : TypeDesc} (hk : KOk kk d) {x : EV} {u : Value} (h : isKey kk x = true) (hu : VR ρ η x u) : IsKey d u := by
  unfold isKey at h
  split at h
  · obtain rfl := hk; obtain rfl : u = _ := hu; simpa [IsKey] using h
  · obtain rfl := hk; obtain ⟨s, rfl, _⟩ := hu; simp [IsKey]
  · obtain rfl := hk; obtain rfl : u = _ := hu; simp [IsKey]
  · cases h

def entsE (hp : Hp) : EV → Option (List (EV × EV))
  | .val (.map none) => some []
  | .mp o => match hp.get o with | some (.map es) => some es | _ => none
  | _ => none
def lookupE (P : Program) (hp : Hp) (t : TypeId) (x k : EV) (ok : Bool) : Option EV :=
  match P.underlying t with
  | some (.map kt et) =>
    match keyKind P kt, (P.info? et).bind (·.zero), entsE hp x with
    | some kk, some zv, some es =>
      if isKey kk k then
        match findE kk k es 0 with
        | some (some (_, v)) => some (if ok then .tup [v, .bool true] else v)
        | some none => some (if ok then .tup [ofZero zv, .bool false] else ofZero zv)
        | none => none
      else none
    | _, _, _ => none
  | _ => none
theorem lookup_of {t kt et : TypeId} (ht : P.underlying t = some (.map kt et)) {u uk : Value} {ok : Bool} {ms : Array MapEntry} (hu : (u = .map none ∧ ms = #[]) ∨ ∃ b clock, u = .map (some b) ∧ w.heap[b]? = some (.map ms clock)) :
    (Instr.lookup t u uk ok).run P w = (do
      Instr.checkKey ms.isEmpty 10000 kt uk
      let (v, ok') ← match ← Instr.findKey kt uk ms.toList with
        | some (_, v) => pure (v, true)
        | none => pure (← zeroValue et, false)
      pure (if ok then .tuple #[v, .bool ok'] else v) : Sem Value).run P w := by
  rcases hu with ⟨rfl, rfl⟩ | ⟨b, clock, rfl, h4⟩
  · simp only [Instr.lookup, Sem.run_bind, und_run ht, Result.andThen_ok, Sem.run_pure]
    rfl
  · simp only [Instr.lookup, Sem.run_bind, und_run ht, Result.andThen_ok, Sem.run_pure, getM h4]
    rfl
theorem lookupE_sound (H : HR B ρ η hp nx w) {t : TypeId} {x k r : EV} {u uk : Value} {ok : Bool} (hr : lookupE P hp t x k ok = some r) (hx : VR ρ η x u) (hk : VR ρ η k uk) :
    ∃ v, (Instr.lookup t u uk ok).run P w = .ok v w ∧ VR ρ η r v := by
  unfold lookupE at hr
  split at hr
  · rename_i kt et ht
    split at hr
    · rename_i kk zv es hkk hzv hes
      obtain ⟨d, hd, hko⟩ := keyKind_ok hkk
      split at hr
      · rename_i hik
        have hkey := isKey_sound hko hik hk
        obtain ⟨it, hit, hzero⟩ := Option.bind_eq_some_iff.1 hzv
        have hents : ∃ ms : Array MapEntry, ME ρ η es ms.toList ∧ ((u = .map none ∧ ms = #[]) ∨ ∃ b clock, u = .map (some b) ∧ w.heap[b]? = some (.map ms clock)) := by
          unfold entsE at hes
          split at hes
          · obtain rfl : u = _ := hx
            simp only [Option.some.injEq] at hes
            subst hes
            exact ⟨#[], trivial, .inl ⟨rfl, rfl⟩⟩
          · rename_i o
            split at hes
            · rename_i es' ho
              simp only [Option.some.injEq] at hes
              subst hes
              obtain ⟨b, dd, N, h1, rfl⟩ := hx
              obtain ⟨p, h2, h3⟩ := H.obj o _ ho
              rw [h1] at h2; injection h2 with h2; subst h2
              obtain ⟨ms, clock, h4, h5⟩ := h3
              exact ⟨ms, h5, .inr ⟨b, clock, rfl, h4⟩⟩
            · cases hes
          · cases hes
        obtain ⟨ms, hme, hms⟩ := hents
        have hrun := lookup_of (P := P) (w := w) (uk := uk) (ok := ok) ht hms
        have hck := run_checkKey (P := P) (w := w) hd hkey ms.isEmpty 9999
        have hf := fun r h => findE_sound (i := 0) (r := r) hko hk hme h
        split at hr
        · rename_i j v hfe
          obtain ⟨_, m, x', q1, _, _, q2, _⟩ := hf _ hfe
          have hfk := run_findKey (P := P) (w := w) hd q1
          injection hr with hr
          subst hr
          cases ok with
          | true => 
            refine ⟨.tuple #[m.val, .bool true], ?_, _, rfl, ⟨q2, rfl, trivial⟩⟩
            rw [hrun]
            simp [hck, hfk]
          | false =>
            refine ⟨m.val, ?_, q2⟩
            rw [hrun]
            simp [hck, hfk]
        · rename_i hfe
          have q1 := hf _ hfe
          have hfk := run_findKey (P := P) (w := w) hd q1
          injection hr with hr
          subst hr
          cases ok with
          | true => 
            refine ⟨.tuple #[zv, .bool false], ?_, _, rfl, ⟨ofZero_sound zv, rfl, trivial⟩⟩
            rw [hrun]
            simp [hck, hfk, zeroValue, typeInfo, hit, hzero]
          | false =>
            refine ⟨zv, ?_, ofZero_sound zv⟩
            rw [hrun]
            simp [hck, hfk, zeroValue, typeInfo, hit, hzero]
        · cases hr
      · cases hr
    · cases hr
  · cases hr

def mapUpdateE (P : Program) (hp : Hp) (t : TypeId) (x k v : EV) : Option Hp :=
  match P.underlying t, x with
  | some (.map kt _), .mp o =>
    match keyKind P kt, hp.get o with
    | some kk, some (.map es) =>
      if isKey kk k then
        match findE kk k es 0 with
        | some (some (j, _)) => some (hp.set o (some (.map (es.set j (k, v)))))
        | some none => some (hp.set o (some (.map (es ++ [(k, v)]))))
        | none => none
      else none
    | _, _ => none
  | _, _ => none
theorem ME.set {k v : EV} {m : MapEntry} (hk : VR ρ η k m.key) (hv : VR ρ η v m.val) : ∀ {es : List (EV × EV)} {ms : List MapEntry} (j : Nat), ME ρ η es ms → ME ρ η (es.set j (k, v)) (ms.set j m)
  | [], [], _, h => by simp [ME]
  | (x, y) :: es, n :: ms, 0, ⟨_, _, h⟩ => ⟨hk, hv, h⟩
  | (x, y) :: es, n :: ms, j + 1, ⟨h1, h2, h⟩ => ⟨h1, h2, ME.set hk hv j h⟩
  | [], _ :: _, _, h => h.elim
  | _ :: _, [], _, h => h.elim
theorem ME.push {k v : EV} {m : MapEntry} (hk : VR ρ η k m.key) (hv : VR ρ η v m.val) : ∀ {es : List (EV × EV)} {ms : List MapEntry}, ME ρ η es ms → ME ρ η (es ++ [(k, v)]) (ms ++ [m])
  | [], [], _ => ⟨hk, hv, trivial⟩
  | (x, y) :: es, n :: ms, ⟨h1, h2, h⟩ => ⟨h1, h2, ME.push hk hv h⟩
  | [], _ :: _, h => h.elim
  | _ :: _, [], h => h.elim
theorem upd_setObj (w : World) (b : Nat) (o : Obj) : Upd (· = b) w { w with heap := w.heap.setIfInBounds b o } :=
  ⟨rfl, rfl, rfl, by simp, fun k _ hn => by simp [Array.getElem?_setIfInBounds, Ne.symm hn]⟩
theorem mapUpdateE_sound (H : HR B ρ η hp nx w) {t : TypeId} {x k v : EV} {u uk uv : Value} {hp' : Hp} (hr : mapUpdateE P hp t x k v = some hp') (hx : VR ρ η x u) (hk : VR ρ η k uk) (hv : VR ρ η v uv) :
    ∃ w', (Instr.mapUpdate t u uk uv).run P w = .ok () w' ∧ Go1 B η ρ ρ hp' nx w w' := by
  unfold mapUpdateE at hr
  split at hr
  · rename_i kt et o ht
    split at hr
    · rename_i kk es hkk ho
      obtain ⟨d, hd, hko⟩ := keyKind_ok hkk
      split at hr
      · rename_i hik
        have hkey := isKey_sound hko hik hk
        obtain ⟨b, dd, N, h1, rfl⟩ := hx
        obtain ⟨p, h2, h3⟩ := H.obj o _ ho
        rw [h1] at h2; injection h2 with h2; subst h2
        obtain ⟨ms, clock, h4, h5⟩ := h3
        simp only at h4
        have hblt : b < w.heap.size := (Array.getElem?_eq_some_iff.1 h4).1
        have hck := run_checkKey (P := P) (w := w) hd hkey false 9999
        have hf := fun r h => findE_sound (i := 0) (r := r) hko hk h5 h
        split at hr
        · rename_i j v0 hfe
          obtain ⟨_, m, x', q1, q2, _, _, _, q3⟩ := hf _ hfe
          rw [Nat.sub_zero, Array.getElem?_toList] at q2
          have hfk := run_findKey (P := P) (w := w) hd q1
          injection hr with hr
          subst hr
          refine ⟨{ w with heap := w.heap.setIfInBounds b (.map (ms.modify j fun e => { e with key := uk, val := uv }) clock) }, ?_, H.setO ho h1 (upd_setObj w b _) ?_⟩
          · have hstay : (Instr.keyThatStays m.key uk).run P w = .ok uk w := by simp [Instr.keyThatStays, q3]
            simp [Instr.mapUpdate, und_run ht, getM h4, hck, hfk, q2, hstay, setM _ h4]
          · refine ⟨ms.modify j fun e => { e with key := uk, val := uv }, clock, by simp [hblt], ?_⟩
            have hjlt : j < ms.size := (Array.getElem?_eq_some_iff.1 q2).1
            have hmj : ms[j]'hjlt = m := (Array.getElem?_eq_some_iff.1 q2).2
            have e : (ms.modify j fun e => { e with key := uk, val := uv }).toList = ms.toList.set j { m with key := uk, val := uv } := by
              apply List.ext_getElem?
              intro i
              rw [Array.getElem?_toList, Array.getElem?_modify, List.getElem?_set, Array.length_toList, Array.getElem?_toList]
              by_cases q : j = i
              · subst q
                simp [hjlt, hmj]
              · simp [q]
            rw [e]
            exact ME.set (m := { m with key := uk, val := uv }) hk hv j h5
        · rename_i hfe
          have q1 := hf _ hfe
          have hfk := run_findKey (P := P) (w := w) hd q1
          injection hr with hr
          subst hr
          refine ⟨{ w with heap := w.heap.setIfInBounds b (.map (ms.push { key := uk, val := uv, born := clock }) (clock + 1)) }, ?_, H.setO ho h1 (upd_setObj w b _) ?_⟩
          · simp [Instr.mapUpdate, und_run ht, getM h4, hck, hfk, setM _ h4]
          · refine ⟨ms.push { key := uk, val := uv, born := clock }, clock + 1, by simp [hblt], ?_⟩
            rw [Array.toList_push]
            exact ME.push (m := { key := uk, val := uv, born := clock }) hk hv h5
        · cases hr
      · cases hr
    · cases hr
  · cases hr

/-- A new object that is no row of cells. -/
theorem HR.newObj (H : HR B ρ η hp nx w) (x : EO) (o : Obj) (hst : St (ρ.ext nx (w.heap.size, 0, 0)) η (w.alloc o) (w.heap.size, 0, 0) x) :
    Go1 B η ρ (ρ.ext nx (w.heap.size, 0, 0)) (hp.set nx (some x)) (nx + 1) w (w.alloc o) :=
  H.newO none (S := fun _ => False) (Upd.alloc _ w _) (fun _ h => h.elim) (by simp) (.inl (Nat.le_refl _)) hst

def isMapT (P : Program) (t : TypeId) : Bool := match P.underlying t with | some (.map _ _) => true | _ => false
def makeMapE (P : Program) (hp : Hp) (nx : Nat) (t : TypeId) (hint : Option EV) : Option (EV × Hp × Nat) :=
  match hint with
  | none => some (.mp nx, hp.set nx (some (.map [])), nx + 1)
  | some (.int _ _) => if isMapT P t then some (.mp nx, hp.set nx (some (.map [])), nx + 1) else none
  | _ => none
theorem makeMapE_sound (H : HR B ρ η hp nx w) {t : TypeId} {hint : Option EV} {vh : Option Value} {r : EV} {hp' : Hp} {nx' : Nat} (hr : makeMapE P hp nx t hint = some (r, hp', nx')) (hh : OptR ρ η hint vh) :
    ∃ v w' ρ', (Instr.makeMap t vh).run P w = .ok v w' ∧ Go1 B η ρ ρ' hp' nx' w w' ∧ VR ρ' η r v := by
  have key : (Instr.makeMap t vh).run P w = .ok (.map (some w.heap.size)) (w.alloc (.map #[] 0)) → r = .mp nx → hp' = hp.set nx (some (.map [])) → nx' = nx + 1 →
      ∃ v w' ρ', (Instr.makeMap t vh).run P w = .ok v w' ∧ Go1 B η ρ ρ' hp' nx' w w' ∧ VR ρ' η r v := by
    rintro e rfl rfl rfl
    exact ⟨_, _, _, e, H.newObj _ _ ⟨#[], 0, heap_alloc_new w _, trivial⟩, _, _, _, Pl.ext_same _ _ _, rfl⟩
  unfold makeMapE at hr
  split at hr
  · simp only [Option.some.injEq, Prod.mk.injEq] at hr
    cases vh with
    | some _ => exact hh.elim
    | none => exact key (by simp [Instr.makeMap]) hr.1.symm hr.2.1.symm hr.2.2.symm
  · rename_i k n
    split at hr
    · rename_i hm
      simp only [Option.some.injEq, Prod.mk.injEq] at hr
      cases vh with
      | none => exact hh.elim
      | some u =>
        obtain rfl : u = .int k n := hh
        unfold isMapT at hm
        split at hm
        · rename_i kt et hu
          exact key (by simp [Instr.makeMap, und_run hu, asInt, asIntOf]) hr.1.symm hr.2.1.symm hr.2.2.symm
        · cases hm
    · cases hr
  · cases hr

def makeSliceE (P : Program) (hp : Hp) (nx : Nat) (t : TypeId) (l c : EV) : Option (EV × Hp × Nat) :=
  match elemA P t, l, c with
  | some e, .int _ l, .int _ c =>
    match sizeA P e, bytesA P e, zeroA P e with
    | some (z + 1), some by', some zs =>
      if zs.length == z + 1 && decide (0 ≤ l) && decide (l ≤ c) && decide (c ≤ 16777216) && decide ((by' : Int) * c ≤ 281474976710656) then
        some (rowE hp nx e ((List.replicate c.toNat (zs.map ofVal)).flatten) l.toNat (z + 1)) else none
    | _, _, _ => none
  | _, _, _ => none
theorem makeSliceE_sound (H : HR B ρ η hp nx w) {t : TypeId} {l c r : EV} {ul uc : Value} {hp' : Hp} {nx' : Nat} (hr : makeSliceE P hp nx t l c = some (r, hp', nx')) (hl : VR ρ η l ul) (hc : VR ρ η c uc) :
    ∃ v w' ρ', (Instr.makeSlice t ul uc).run P w = .ok v w' ∧ Go1 B η ρ ρ' hp' nx' w w' ∧ VR ρ' η r v := by
  unfold makeSliceE at hr
  split at hr
  · rename_i e k1 l k2 c he
    have hu := elemA_run he
    obtain rfl : ul = .int k1 l := hl
    obtain rfl : uc = .int k2 c := hc
    split at hr
    · rename_i z by' zs hz hby hzs
      split at hr
      · rename_i hcond
        simp only [Bool.and_eq_true, beq_iff_eq, decide_eq_true_eq] at hcond
        obtain ⟨⟨⟨⟨hzl, h0⟩, hlc⟩, hc2⟩, hb⟩ := hcond
        simp only [rowE, Option.some.injEq, Prod.mk.injEq] at hr
        obtain ⟨rfl, rfl, rfl⟩ := hr
        unfold sizeA at hz
        obtain ⟨it, hit, hsz⟩ := Option.map_eq_some_iff.1 hz
        unfold bytesA at hby
        obtain ⟨it2, hit2, hbytes⟩ := Option.map_eq_some_iff.1 hby
        rw [hit] at hit2; injection hit2 with hit2; subst hit2
        unfold zeroA at hzs
        obtain ⟨zv, hz1, rfl⟩ := Option.map_eq_some_iff.1 hzs
        obtain ⟨it3, hit3, hzero⟩ := Option.bind_eq_some_iff.1 hz1
        rw [hit] at hit3; injection hit3 with hit3; subst hit3
        have hrun := run_make (P := P) w t e it zv hu hit hzero k1 k2 l c h0 hlc (by rw [hbytes]; exact hb) (by omega)
        have hms : (madeCells zv.cells (c.toNat * it.size)).toList = (List.replicate c.toNat zv.cells.toList).flatten := by
          have := zeros_list zv.cells.toList z hzl c.toNat
          rw [hsz]
          unfold madeCells
          by_cases q : c.toNat * (z + 1) = 0
          · have q0 : c.toNat = 0 := by rcases Nat.mul_eq_zero.1 q with h | h; exact h; omega
            simp [q0]
          · simpa [q] using this
        have hml : (madeCells zv.cells (c.toNat * it.size)).size = c.toNat * (z + 1) := by
          rw [← Array.length_toList, hms]; simp [← Array.length_toList, hzl]
        have hcl : ((List.replicate c.toNat (zv.cells.toList.map ofVal)).flatten).length = c.toNat * (z + 1) := by simp [← Array.length_toList, hzl]
        refine ⟨_, _, _, hrun, H.newCells e _ (madeCells zv.cells (c.toNat * it.size)) (by rw [hms, hcl, List.take_of_length_le (by simp [← Array.length_toList, hzl])]; exact vl_flatten _ _) (by rw [hml, hcl]; exact Nat.le_refl _), w.heap.size, 0, _, c.toNat, Pl.ext_same _ _ _, ?_, ?_, ?_, by omega, ?_⟩
        · congr 2
          split <;> rfl
        · omega
        · have : maxLen = 9223372036854775807 := rfl
          omega
        · rw [hml]; omega
      · cases hr
    · cases hr
  · cases hr

/-! Going through a text, letter by letter (of one byte each). -/
def isStrT (P : Program) (t : TypeId) : Bool := stringA P t
def rangeE (P : Program) (hp : Hp) (nx : Nat) (t : TypeId) : EV → Option (EV × Hp × Nat)
  | .str l v => if stringA P t then some (.ptr nx 0, hp.set nx (some (.iter l v 0)), nx + 1) else none
  | _ => none
theorem rangeE_sound (H : HR B ρ η hp nx w) {t : TypeId} {x r : EV} {u : Value} {hp' : Hp} {nx' : Nat} (hr : rangeE P hp nx t x = some (r, hp', nx')) (hx : VR ρ η x u) :
    ∃ v w' ρ', (Instr.range t u).run P w = .ok v w' ∧ Go1 B η ρ ρ' hp' nx' w w' ∧ VR ρ' η r v := by
  unfold rangeE at hr
  split at hr
  · rename_i l v
    split at hr
    · rename_i ht
      simp only [Option.some.injEq, Prod.mk.injEq] at hr
      obtain ⟨rfl, rfl, rfl⟩ := hr
      obtain ⟨s, rfl, rfl, rfl⟩ := hx
      refine ⟨.pointer (some ⟨w.heap.size, 0, none⟩), w.alloc (.stringIter s 0), _, by simp [Instr.range, und_run (stringA_eq ht)], H.newObj _ _ ⟨s, heap_alloc_new w _, rfl, rfl, rfl⟩, _, _, _, Pl.ext_same _ _ _, rfl⟩
    · cases hr
  · cases hr

theorem bnumL_at : ∀ (s : List UInt8) (i : Nat) (h : i < s.length), bnumL s 0 / 256 ^ (s.length - 1 - i) % 256 = (s[i]'h).toNat
  | [], _, h => by simp at h
  | b :: bs, 0, _ => by
    rw [bnumL, bnumL_eq, Nat.zero_mul, Nat.zero_add, List.length_cons, Nat.add_sub_cancel, Nat.sub_zero, Nat.mul_comm, Nat.mul_add_div (Nat.pos_of_ne_zero (by simp)), Nat.div_eq_of_lt (bnumL_lt bs), Nat.add_zero]
    exact Nat.mod_eq_of_lt b.toNat_lt
  | b :: bs, i + 1, h => by
    have h' : i < bs.length := by simpa using h
    have ih := bnumL_at bs i h'
    rw [bnumL, bnumL_eq, Nat.zero_mul, Nat.zero_add, List.length_cons, List.getElem_cons_succ]
    rw [show bs.length + 1 - 1 - (i + 1) = bs.length - 1 - i by omega]
    have e : b.toNat * 256 ^ bs.length = 256 ^ (bs.length - 1 - i) * (b.toNat * 256 ^ i * 256) := by
      rw [show bs.length = (bs.length - 1 - i) + (i + 1) by omega, Nat.pow_add, Nat.pow_succ]
      rw [show (bs.length - 1 - i + (i + 1)) - 1 - i = bs.length - 1 - i by omega]
      simp only [Nat.mul_comm, Nat.mul_left_comm, Nat.mul_assoc]
    rw [e, Nat.mul_add_div (Nat.pos_of_ne_zero (by simp)), Nat.mul_comm _ 256, Nat.mul_add_mod, ih]
theorem byte_at (s : ByteArray) (i : Nat) (h : i < s.size) : bnum s / 256 ^ (s.size - 1 - i) % 256 = s[i].toNat := by
  have := bnumL_at s.data.toList i (by simpa using h)
  simp only [Array.length_toList, Array.getElem_toList] at this
  exact this

def nextE (hp : Hp) (x : EV) : Option (EV × Hp) :=
  match x with
  | .ptr o 0 => match hp.get o with
    | some (.iter l v pos) =>
      if Nat.blt pos l then
        (if Nat.blt (v / 256 ^ (l - 1 - pos) % 256) 128 then some (.tup [.bool true, .int .i64 pos, .int .i32 (v / 256 ^ (l - 1 - pos) % 256 : Nat)], hp.set o (some (.iter l v (pos + 1)))) else none)
      else some (.tup [.bool false], hp)
    | _ => none
  | _ => none
theorem nextE_sound (H : HR B ρ η hp nx w) {ty : TypeId} {x r : EV} {u : Value} {hp' : Hp} (hr : nextE hp x = some (r, hp')) (hx : VR ρ η x u) :
    ∃ v w', (Instr.next u true ty).run P w = .ok v w' ∧ Go1 B η ρ ρ hp' nx w w' ∧ VR ρ η r v := by
  unfold nextE at hr
  split at hr
  · rename_i o
    split at hr
    · rename_i l v pos ho
      obtain ⟨b, d, N, h1, rfl⟩ := hx
      obtain ⟨p, h2, h3⟩ := H.obj o _ ho
      rw [h1] at h2; injection h2 with h2; subst h2
      obtain ⟨s, h4, rfl, rfl, h5⟩ := h3
      simp only at h4 h5
      subst h5
      have hblt : b < w.heap.size := (Array.getElem?_eq_some_iff.1 h4).1
      split at hr
      · rename_i hpos
        rw [Nat.blt_eq] at hpos
        have hby := byte_at s pos hpos
        split at hr
        · rename_i hlt
          rw [Nat.blt_eq, hby] at hlt
          simp only [Option.some.injEq, Prod.mk.injEq] at hr
          obtain ⟨rfl, rfl⟩ := hr
          have hdec : Utf8.decode s pos = (s[pos].toNat, 1) := by
            unfold Utf8.decode
            have hg : s.get! (pos + 0) = s[pos] := by
              rw [Nat.add_zero]
              show s.data[pos]! = s.data[pos]'_
              rw [getElem!_pos]
            simp only [hg]
            rw [if_pos hlt]
          refine ⟨.tuple #[.bool true, goInt pos, .int .i32 (s[pos].toNat : Nat)], { w with heap := w.heap.setIfInBounds b (.stringIter s (pos + 1)) }, ?_, H.setO ho h1 (upd_setObj w b _) ⟨s, by simp [hblt], rfl, rfl, rfl⟩, _, rfl, ⟨rfl, rfl, ?_, trivial⟩⟩
          · simp [Instr.next, getI h4, hpos, hdec, setI _ h4]
          · rw [hby]; rfl
        · cases hr
      · rename_i hpos
        rw [Nat.blt_eq] at hpos
        simp only [Option.some.injEq, Prod.mk.injEq] at hr
        obtain ⟨rfl, rfl⟩ := hr
        exact ⟨.tuple #[.bool false], w, by simp [Instr.next, getI h4, hpos], Go1.refl H, #[.bool false], rfl, ⟨rfl, trivial⟩⟩
    · cases hr
  · cases hr

/-! Conversions. -/
def byteE : EV → Option Nat
  | .int .u8 (.ofNat n) => if Nat.blt n 256 then some n else none
  | _ => none
def bytesE : List EV → Nat → Option Nat
  | [], a => some a
  | x :: xs, a => match byteE x with | some n => bytesE xs (a * 256 + n) | none => none
def byteElem (P : Program) (t : TypeId) : Bool :=
  match elemA P t with
  | some e => (match P.underlying e with | some (.int .u8) => true | _ => false) && sizeA P e == some 1
  | none => false
def convE (P : Program) (hp : Hp) (src dst : TypeId) (x : EV) : Option EV :=
  match x with
  | .int _ n => match P.underlying src, P.underlying dst with
    | some _, some (.int k) => some (.int k (wrapQ k n))
    | _, _ => none
  | .str l v => if stringA P src && stringA P dst then some (.str l v) else none
  | x => if byteElem P src && stringA P dst then
      match newsE hp 1 x with
      | some (cs, m) => match bytesE cs 0 with | some v => some (.str m v) | none => none
      | none => none
    else none
theorem byteE_sound {x : EV} {u : Value} {n : Nat} (h : byteE x = some n) (hx : VR ρ η x u) : u = .int .u8 n ∧ n < 256 := by
  unfold byteE at h
  split at h
  · rename_i m
    split at h
    · rename_i hlt
      rw [Nat.blt_eq] at hlt
      injection h with h
      subst h
      exact ⟨hx, hlt⟩
    · cases h
  · cases h
theorem bytesE_sound : ∀ {cs : List EV} {us : List Value} {a v : Nat}, bytesE cs a = some v → VL ρ η cs us → ∃ bs : List UInt8, us = bs.map (fun b => Value.int .u8 b.toNat) ∧ bnumL bs a = v
  | [], [], a, v, h, _ => by
    simp only [bytesE, Option.some.injEq] at h
    exact ⟨[], rfl, h⟩
  | x :: xs, u :: us, a, v, h, ⟨h1, h2⟩ => by
    simp only [bytesE] at h
    split at h
    · rename_i n hb
      obtain ⟨rfl, hlt⟩ := byteE_sound hb h1
      obtain ⟨bs, rfl, e⟩ := bytesE_sound h h2
      have hn : (UInt8.ofNat n).toNat = n := by simp [Nat.mod_eq_of_lt hlt]
      exact ⟨UInt8.ofNat n :: bs, by rw [List.map_cons, hn], by rw [bnumL, hn]; exact e⟩
    · cases h
  | [], _ :: _, _, _, _, h => h.elim
  | _ :: _, [], _, _, _, h => h.elim
theorem foldl_push : ∀ (ns : List UInt8) (s : ByteArray), (ns.map fun b => (b.toNat : Int)).foldl (fun r n => r.push (UInt8.ofNat n.toNat)) s = ⟨s.data ++ ns.toArray⟩
  | [], s => by simp
  | n :: ns, s => by
    rw [List.map_cons, List.foldl_cons, foldl_push ns]
    simp [ByteArray.push]
theorem convE_sound (hη : Ones η) (H : HR B ρ η hp nx w) {src dst : TypeId} {x r : EV} {u : Value} (hr : convE P hp src dst x = some r) (hx : VR ρ η x u) :
    ∃ v, (convert src dst u).run P w = .ok v w ∧ VR ρ η r v := by
  unfold convE at hr
  split at hr
  · rename_i k n
    obtain rfl : u = .int k n := hx
    split at hr
    · rename_i d k' h1 h2
      injection hr with hr
      subst hr
      refine ⟨_, ?_, rfl⟩
      simp [convert, und_run h1, und_run h2, Conv.intToInt, wrapQ]
    · cases hr
  · rename_i l v
    obtain ⟨s, rfl, rfl, rfl⟩ := hx
    split at hr
    · rename_i hc
      simp only [Bool.and_eq_true] at hc
      injection hr with hr
      subst hr
      refine ⟨.string s, ?_, s, rfl, rfl, rfl⟩
      simp [convert, und_run (stringA_eq hc.1), und_run (stringA_eq hc.2)]
    · cases hr
  · split at hr
    · rename_i hc
      simp only [Bool.and_eq_true] at hc
      split at hr
      · rename_i cs m hnews
        split at hr
        · rename_i v hb
          injection hr with hr
          subst hr
          have hbe := hc.1
          unfold byteElem at hbe
          split at hbe
          · rename_i e he
            simp only [Bool.and_eq_true, beq_iff_eq] at hbe
            have hu8 : P.underlying e = some (.int .u8) := by
              have q := hbe.1
              split at q
              · assumption
              · cases q
            have hone : cs.all oneE = true := by
              have : ∀ (cs : List EV) (a v : Nat), bytesE cs a = some v → cs.all oneE = true := fun cs => by
                induction cs with
                | nil => intro _ _ _; rfl
                | cons x xs ih =>
                  intro a v h
                  simp only [bytesE] at h
                  split at h
                  · rename_i n hb
                    rw [List.all_cons, ih _ _ h, Bool.and_true]
                    unfold byteE at hb
                    split at hb
                    · rfl
                    · cases hb
                  · cases h
              exact this _ _ _ hb
            obtain ⟨news, hv, src'⟩ := newsE_sound (P := P) hη H (elemA_run he) hnews hone hx
            obtain ⟨bs, rfl, e2⟩ := bytesE_sound hb hv
            have hlen : bs.length = m := by simpa using src'.newsLen
            have hsl : ∃ a c, u = .slice a m c := by
              unfold newsE at hnews
              split at hnews
              · simp only [Option.some.injEq, Prod.mk.injEq] at hnews
                obtain ⟨_, rfl⟩ := hnews
                exact ⟨_, _, hx⟩
              · obtain ⟨b, d, N, c, _, rfl, _⟩ := hx
                split at hnews
                · split at hnews
                  · simp only [Option.some.injEq, Prod.mk.injEq] at hnews
                    obtain ⟨_, rfl⟩ := hnews
                    exact ⟨_, _, rfl⟩
                  · cases hnews
                · split at hnews
                  · rename_i h0
                    simp only [Option.some.injEq, Prod.mk.injEq] at hnews
                    obtain ⟨_, rfl⟩ := hnews
                    rw [h0]
                    exact ⟨_, _, rfl⟩
                  · cases hnews
              · cases hnews
            obtain ⟨a, c, rfl⟩ := hsl
            have hcells := src'.cells
            refine ⟨.string ⟨bs.toArray⟩, ?_, _, rfl, hlen, by simpa [bnum] using e2⟩
            rw [run_convert_bytes_string w src dst e a m c (elemA_run he) hu8 (stringA_eq hc.2)]
            cases a with
            | none =>
              have hm : bs = [] := by
                simp [Builtin.firstCells] at hcells
                have := congrArg List.length hcells.symm
                exact List.eq_nil_of_length_eq_zero (by simpa using this.symm)
              subst hm
              simp [Conv.bytesToString]; rfl
            | some ad =>
              simp only [Builtin.firstCells, Nat.mul_one] at hcells
              rw [run_bytesToString w ad m c (bs.map fun b => (b.toNat : Int)) (by rw [List.map_map]; exact hcells), foldl_push]
              simp
          · cases hbe
        · cases hr
      · cases hr
    · cases hr
end

end Go.Proofs.YtnfdkmnmniiokaaGreatDoor
