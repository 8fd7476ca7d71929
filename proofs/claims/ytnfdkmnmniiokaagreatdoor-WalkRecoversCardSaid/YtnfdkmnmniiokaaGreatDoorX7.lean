import Derived.Test.YtnfdkmnmniiokaaGreatDoorX6
import Derived.Laws.StructEq
set_option linter.unusedVariables false
set_option linter.unusedSimpArgs false
namespace Go.Proofs.YtnfdkmnmniiokaaGreatDoor
open Go.RowKit

section
variable {P : Program} {ρ : Pl} {η : Nat → Value} {B : Nat} {hp : Hp} {nx : Nat} {w : World}

theorem pl_map {fr : List EV} {a : Act} (h : VL ρ η fr a.tmps.toList) : ∀ (l : List (Nat × Operand)), PL ρ η (l.map fun p => (p.1, evO fr p.2)) (l.map fun p => (p.1, a.eval p.2))
  | [] => trivial
  | (_, x) :: l => ⟨rfl, evO_sound h x, pl_map h l⟩
theorem vl_map {fr : List EV} {a : Act} (h : VL ρ η fr a.tmps.toList) : ∀ (l : List Operand), VL ρ η (l.map (evO fr)) (l.map a.eval)
  | [] => trivial
  | x :: l => ⟨evO_sound h x, vl_map h l⟩
theorem opt_map {fr : List EV} {a : Act} (h : VL ρ η fr a.tmps.toList) : ∀ (o : Option Operand), OptR ρ η (o.map (evO fr)) (o.map a.eval)
  | none => trivial
  | some x => evO_sound h x

/-- The function that a method's name stands for, at a pointer's type. -/
def mthA (P : Program) (t : TypeId) (m : String) : Option FuncId := match P.info? t with
  | some i => match i.methods.find? (·.name == m) with
    | some r => match r.path.toList, r.func, P.underlying t with
      | [], some (f, true), some (.pointer _) => some f
      | _, _, _ => none
    | none => none
  | none => none
theorem mthA_run {t : TypeId} {m : String} {f : FuncId} (h : mthA P t m = some f) (n : Nat) (v : Value) (w : World) :
    (method (n + 1) t v m).run P w = .ok (f, v) w ∧ (nilAhead (n + 1) t v m).run P w = .ok (some false) w := by
  unfold mthA at h
  split at h
  · rename_i i hi
    split at h
    · rename_i r hr
      split at h
      · rename_i h1 h2 h3
        injection h with h
        subst h
        constructor
        · simp [method, typeInfo, hi, hr, h1, h2, h3, follow, receiverAt, underlying, Place.get]
        · simp [nilAhead, typeInfo, hi, hr, h1, h2, h3, followBlind]
      · cases h
    · cases h
  · cases h

def nilChk (P : Program) : EV → Option EV
  | .ptr o off => some (.ptr o off)
  | .fn f a b => some (.fn f a b)
  | .ifc t x => some (.ifc t x)
  | .mfn m x => match x with
    | .ifc t v => (match mthA P t m with | some _ => some (.mfn m (.ifc t v)) | none => none)
    | _ => none
  | _ => none
theorem nilChk_sound {ρ : Pl} {η : Nat → Value} {x r : EV} {u : Value} (h : nilChk P x = some r) (hx : VR ρ η x u) :
    r = x ∧ ∀ (ev : Operand → Value) (y : Operand), ev y = u → ∀ {dst ty pos after guard} (w : World), (execOp ev { dst := dst, op := .nilCheck y, type := ty, pos := pos, after := after, guard := guard }).run P w = .ok (.value u) w := by
  unfold nilChk at h
  split at h
  · obtain ⟨b, d, N, _, h2⟩ := hx
    injection h with h; subst h
    exact ⟨rfl, fun ev y hy _ _ _ _ _ w => by simp [execOp, hy, h2]⟩
  · obtain ⟨us, vs, h2, _⟩ := hx
    injection h with h; subst h
    exact ⟨rfl, fun ev y hy _ _ _ _ _ w => by simp [execOp, hy, h2]⟩
  · obtain ⟨v, h2, _⟩ := hx
    injection h with h; subst h
    exact ⟨rfl, fun ev y hy _ _ _ _ _ w => by simp [execOp, hy, h2]⟩
  · rename_i m x
    split at h
    · rename_i t v
      split at h
      · rename_i f hf
        injection h with h; subst h
        obtain ⟨_, h2, v', rfl, _⟩ := hx
        refine ⟨rfl, fun ev y hy _ _ _ _ _ w => ?_⟩
        have h3 := (mthA_run hf (P.types.size + Made.depth - 1) v' w).2
        have h4 : P.types.size + Made.depth - 1 + 1 = P.types.size + Made.depth := by
          have : 0 < Made.depth := by decide
          omega
        rw [h4] at h3
        simp [execOp, hy, h2, h3]
      · cases h
    · cases h
  · cases h
/-- Structs held against each other: of numbers, texts, true and false. -/
def eqCell (P : Program) (t : TypeId) (a b : EV) : Option Bool :=
  match P.underlying t, a, b with
  | some .bool, .bool a, .bool b => some (a == b)
  | some (.int _), .int k a, .int k' b => if k = k' then some (a == b) else none
  | some .string, .str l v, .str m w => some (Nat.beq l m && Nat.beq v w)
  | _, _, _ => none
def eqFs (P : Program) (xs ys : List EV) : List Field → Option Bool
  | [] => some true
  | f :: fs => if f.name == "_" then none else
    match partA P f.type xs f.offset, partA P f.type ys f.offset with
    | some a, some b => match eqCell P f.type a b with
      | some true => eqFs P xs ys fs
      | some false => some false
      | none => none
    | _, _ => none
def aggEq (P : Program) (op : BinOp) (t : TypeId) (x y : EV) : Option EV :=
  match x, y with
  | .agg xs, .agg ys => match P.underlying t with
    | some (.struct fs) => if P.stoodInHeld t || P.eqGuardType P.depth t then none else
      match eqFs P xs ys fs.toList with
      | some b => match op with
        | .eql => some (.bool b)
        | .neq => some (.bool (!b))
        | _ => none
      | none => none
    | _ => none
  | _, _ => none
theorem eqCell_sound {ρ : Pl} {η : Nat → Value} {t : TypeId} {a b : EV} {u v : Value} {r : Bool} (h : eqCell P t a b = some r) (hu : VR ρ η a u) (hv : VR ρ η b v) (d : Nat) (w : World) : (Op.equalIn (d + 1) t u v).run P w = .ok r w := by
  unfold eqCell at h
  split at h
  · rename_i ht
    obtain rfl : u = _ := hu
    obtain rfl : v = _ := hv
    injection h with h; subst h
    exact run_equalIn_bool' w d t _ _ ht
  · rename_i ht
    obtain rfl : u = _ := hu
    obtain rfl : v = _ := hv
    split at h
    · rename_i hk
      subst hk
      injection h with h; subst h
      exact run_equalIn_int w d t _ _ _ _ ht
    · cases h
  · rename_i ht
    obtain ⟨s, rfl, rfl, rfl⟩ := hu
    obtain ⟨s', rfl, rfl, rfl⟩ := hv
    injection h with h; subst h
    rw [run_equalIn_string w d t _ _ ht, seq_eq]
  · cases h
theorem eqFs_sound {ρ : Pl} {η : Nat → Value} {xs ys : List EV} {us vs : Array Value} (hu : VL ρ η xs us.toList) (hv : VL ρ η ys vs.toList) (d : Nat) (w : World) : ∀ {fs : List Field} {r : Bool}, eqFs P xs ys fs = some r → (Op.eqFields (d + 1) us vs fs).run P w = .ok r w
  | [], r, h => by injection h with h; subst h; simp [Op.eqFields]
  | f :: fs, r, h => by
    unfold eqFs at h
    split at h
    · cases h
    · rename_i hn
      simp only [beq_iff_eq] at hn
      split at h
      · rename_i a b ha hb
        obtain ⟨p, p1, p2⟩ := partA_sound (P := P) ha hu
        obtain ⟨q, q1, q2⟩ := partA_sound (P := P) hb hv
        split at h
        · rename_i he
          simp [Op.eqFields, hn, p1, q1, eqCell_sound he p2 q2 d w, eqFs_sound hu hv d w h]
        · rename_i he
          injection h with h; subst h
          simp [Op.eqFields, hn, p1, q1, eqCell_sound he p2 q2 d w]
        · cases h
      · cases h
theorem aggEq_sound {ρ : Pl} {η : Nat → Value} {op : BinOp} {t : TypeId} {x y r : EV} {u v : Value} (h : aggEq P op t x y = some r) (hu : VR ρ η x u) (hv : VR ρ η y v) (ox oy : Operand) (w : World) :
    ∃ q, (do eqGuard op t ox oy u v; binOp op t u v : Sem Value).run P w = .ok q w ∧ VR ρ η r q := by
  unfold aggEq at h
  split at h
  · rename_i xs ys
    obtain ⟨us, rfl, hus⟩ := hu
    obtain ⟨vs, rfl, hvs⟩ := hv
    split at h
    · rename_i fs ht
      split at h
      · cases h
      · rename_i hc
        simp only [Bool.or_eq_true, not_or, Bool.not_eq_true] at hc
        split at h
        · rename_i b hb
          have hf : P.fieldsOf t = fs := by simp [Program.fieldsOf, ht]
          have h1 := eqFs_sound (P := P) hus hvs 9998 w hb
          have h2 : (Op.equal t (.agg us) (.agg vs)).run P w = .ok b w := by
            unfold Op.equal
            rw [show Op.maxDepth = 9999 + 1 from rfl, run_equalIn_struct w 9999 t us vs (by rw [hf]; exact ht) hc.1, hf]
            exact h1
          have hg : (eqGuard op t ox oy (.agg us) (.agg vs)).run P w = .ok () w := by
            unfold eqGuard
            split <;> simp [hc.2]
          rw [Sem.run_bind, hg, Result.andThen_ok]
          split at h
          · injection h with h; subst h
            exact ⟨.bool b, by simp [binOp, h2], rfl⟩
          · injection h with h; subst h
            exact ⟨.bool (!b), by simp [binOp, h2], rfl⟩
          · cases h
        · cases h
    · cases h
  · cases h
/-- Two operands: structs are held against each other by their fields. -/
def bin2 (P : Program) {η : Nat → Value} (O : Orc P η) (op : BinOp) (t : TypeId) (x y : EV) : Option EV :=
  match aggA P t with
  | some true => aggEq P op t x y
  | _ => abin P O op t x y
theorem bin2_sound {O : Orc P η} {ρ : Pl} {op : BinOp} {t : TypeId} {x y r : EV} {u v : Value} (h : bin2 P O op t x y = some r) (hu : VR ρ η x u) (hv : VR ρ η y v) (ox oy : Operand) (w : World) :
    ∃ q, (do eqGuard op t ox oy u v; binOp op t u v : Sem Value).run P w = .ok q w ∧ VR ρ η r q := by
  unfold bin2 at h
  split at h
  · exact aggEq_sound h hu hv ox oy w
  · exact abin_sound h hu hv ox oy w
def maxE : EV → EV → Option EV
  | .int k a, .int _ b => some (.int k (if b > a then b else a))
  | _, _ => none
def indexS (P : Program) (t : TypeId) (x i : EV) : Option EV :=
  match x, i with
  | .str l v, .int _ (.ofNat i) => if stringA P t && Nat.blt i l then some (.int .u8 (v / 256 ^ (l - 1 - i) % 256 : Nat)) else none
  | .agg cs, .int _ i => match P.underlying t with
    | some (.array n e) => match sizeA P e with
      | some sz => if decide (0 ≤ i) && decide (i < n) then partA P e cs (i.toNat * sz) else none
      | none => none
    | _ => none
  | _, _ => none
def extractE (x : EV) (i : Nat) : Option EV := match x with | .tup vs => vs[i]? | _ => none
def pickE (c a b : EV) : Option EV := match c with | .bool true => some a | .bool false => some b | _ => none

def lenA (P : Program) (t : TypeId) (x : EV) : Option EV := if lenT P t x then (match lenE x with | some n => some (.int .i64 n) | none => none) else none
def ifcA (P : Program) (t : TypeId) (x : EV) : Option EV := if concreteA P t then some (.ifc t x) else none
/-- An operation that only reads. -/
def pop (P : Program) (O : Orc P η) (hp : Hp) (fr : List EV) : Op → Option EV
  | .move x => some (evO fr x)
  | .assign x => some (evO fr x)
  | .pick c a b => pickE (evO fr c) (evO fr a) (evO fr b)
  | .build t parts => buildA P t (parts.toList.map fun p => (p.1, evO fr p.2))
  | .load t x => loadA P hp t (evO fr x)
  | .nilCheck x => nilChk P (evO fr x)
  | .binOp op t x y _ => bin2 P O op t (evO fr x) (evO fr y)
  | .unOp op _ x => aun op (evO fr x)
  | .convert src dst x => convE P hp src dst (evO fr x)
  | .makeInterface t x => ifcA P t (evO fr x)
  | .makeFunc (.func f) first cap => some (.fn f (first.toList.map (evO fr)) (cap.toList.map (evO fr)))
  | .makeFunc (.method m) ⟨[x]⟩ ⟨[]⟩ => some (.mfn m (evO fr x))
  | .slice t x lo hi none => sliceE P t (evO fr x) (lo.map (evO fr)) (hi.map (evO fr))
  | .fieldAddr t x f => fieldAt P t (evO fr x) f
  | .field t x f => fieldV P t (evO fr x) f
  | .indexAddr t x ix => indexAt P t (evO fr x) (evO fr ix)
  | .index t x ix => indexS P t (evO fr x) (evO fr ix)
  | .lookup t x k ok => lookupE P hp t (evO fr x) (evO fr k) ok
  | .extract x i => extractE (evO fr x) i
  | .call { callee := .builtin .len, args := ⟨[s]⟩, argTypes := ⟨[t]⟩ } => lenA P t (evO fr s)
  | .call { callee := .builtin .max, args := ⟨[x, y]⟩, argTypes := _ } => maxE (evO fr x) (evO fr y)
  | _ => none

theorem e0 (s : Sem Value) (v : Value) (w' : World) (hs : s.run P w = .ok v w') : ((do pure (.value (← s)) : Sem Next)).run P w = .ok (.value v) w' := by simp [hs]

set_option maxRecDepth 4000 in
theorem pop_sound (O : Orc P η) (hη : Ones η) (H : HR B ρ η hp nx w) {fr : List EV} {a : Act} {o : Oper} {r : EV} (hv : VL ρ η fr a.tmps.toList) (hr : pop P O hp fr o.op = some r) :
    ∃ v, (execOp a.eval o).run P w = .ok (.value v) w ∧ VR ρ η r v := by
  obtain ⟨dst, op, ty, pos, after, guard⟩ := o
  have ev := evO_sound hv
  simp only at hr
  unfold pop at hr
  split at hr
  · rename_i x
    injection hr with hr; subst hr
    exact ⟨_, rfl, ev x⟩
  · rename_i x
    injection hr with hr; subst hr
    exact ⟨_, rfl, ev x⟩
  · rename_i c x y
    have hc := ev c
    unfold pickE at hr
    split at hr
    · rename_i h1
      rw [h1] at hc
      have hc' : a.eval c = .bool true := hc
      injection hr with hr; subst hr
      exact ⟨a.eval x, by simp [execOp, asBool, hc'], ev x⟩
    · rename_i h1
      rw [h1] at hc
      have hc' : a.eval c = .bool false := hc
      injection hr with hr; subst hr
      exact ⟨a.eval y, by simp [execOp, asBool, hc'], ev y⟩
    · cases hr
  · rename_i t parts
    obtain ⟨v, k1, k2⟩ := buildA_sound hη hr (parts := parts.map fun (i, x) => (i, a.eval x)) (by simpa using pl_map hv parts.toList)
    exact ⟨v, e0 _ _ _ (k1 w), k2⟩
  · rename_i t x
    obtain ⟨v, k1, k2⟩ := loadA_sound H (ev x) hr
    exact ⟨v, e0 _ _ _ k1, k2⟩
  · rename_i x
    have hx := ev x
    obtain ⟨rfl, h2⟩ := nilChk_sound hr hx
    exact ⟨a.eval x, h2 a.eval x rfl w, hx⟩
  · rename_i op t x y yt
    obtain ⟨q, k1, k2⟩ := bin2_sound hr (ev x) (ev y) x y w
    refine ⟨q, ?_, k2⟩
    simp only [execOp]
    exact e0 _ _ _ k1
  · rename_i op t x
    obtain ⟨q, k1, k2⟩ := aun_sound (P := P) hr (ev x) w
    exact ⟨q, e0 _ _ _ k1, k2⟩
  · rename_i src d x
    obtain ⟨q, k1, k2⟩ := convE_sound hη H hr (ev x)
    exact ⟨q, e0 _ _ _ k1, k2⟩
  · rename_i t x
    unfold ifcA at hr
    split at hr
    · rename_i hc
      obtain ⟨d, hd, hne⟩ := concreteA_eq hc
      injection hr with hr; subst hr
      refine ⟨.iface t (a.eval x), ?_, _, rfl, ev x⟩
      refine e0 _ _ _ ?_
      simp only [Instr.makeInterface, Sem.run_bind, und_run hd, Result.andThen_ok]
      first
        | rfl
        | (split
           · rename_i ms; exact absurd rfl (hne ms)
           · rfl)
    · cases hr
  · rename_i f first cap
    injection hr with hr; subst hr
    exact ⟨.func (.func f) (first.map a.eval) (cap.map a.eval), rfl, _, _, rfl, by simpa using vl_map hv first.toList, by simpa using vl_map hv cap.toList⟩
  · rename_i m x
    injection hr with hr; subst hr
    exact ⟨.func (.method m) #[a.eval x] #[], by simp [execOp, Instr.makeFunc], _, rfl, ev x⟩
  · rename_i t x lo hi
    obtain ⟨v, k1, k2⟩ := sliceE_sound hr (ev x) (opt_map hv lo) (opt_map hv hi)
    exact ⟨v, e0 _ _ _ (k1 w), k2⟩
  · rename_i t x f
    obtain ⟨v, k1, k2⟩ := fieldAt_sound hr (ev x)
    exact ⟨v, e0 _ _ _ (k1 w), k2⟩
  · rename_i t x f
    obtain ⟨v, k1, k2⟩ := fieldV_sound hr (ev x)
    exact ⟨v, e0 _ _ _ (k1 w), k2⟩
  · rename_i t x ix
    obtain ⟨v, k1, k2⟩ := indexAt_sound hr (ev x) (ev ix)
    exact ⟨v, e0 _ _ _ (k1 w), k2⟩
  · rename_i t x ix
    have hx := ev x
    have hy := ev ix
    unfold indexS at hr
    split at hr
    · rename_i l v k i h1 h2
      rw [h1] at hx; rw [h2] at hy
      obtain ⟨s, hx', rfl, rfl⟩ := hx
      have hy' : a.eval ix = .int k (.ofNat i) := hy
      split at hr
      · rename_i hc
        simp only [Bool.and_eq_true, Nat.blt_eq] at hc
        injection hr with hr; subst hr
        refine ⟨.int .u8 (s[i]'hc.2).toNat, ?_, by rw [byte_at s i hc.2]; rfl⟩
        refine e0 _ _ _ ?_
        rw [hx', hy']
        simp [Instr.index, asIntOf, und_run (stringA_eq hc.1), hc.2]
      · cases hr
    · rename_i cs k i h1 h2
      rw [h1] at hx; rw [h2] at hy
      obtain ⟨us, hx', hus⟩ := hx
      have hy' : a.eval ix = .int k i := hy
      split at hr
      · rename_i n e hu
        split at hr
        · rename_i sz hsz
          split at hr
          · rename_i hc
            simp only [Bool.and_eq_true, decide_eq_true_eq] at hc
            obtain ⟨v, k1, k2⟩ := partA_sound (P := P) hr hus
            refine ⟨v, ?_, k2⟩
            refine e0 _ _ _ ?_
            rw [hx', hy']
            simp [Instr.index, asIntOf, und_run hu, hc.1, hc.2, sizeA_run hsz, k1]
          · cases hr
        · cases hr
      · cases hr
    · cases hr
  · rename_i t x k ok
    obtain ⟨v, k1, k2⟩ := lookupE_sound H hr (ev x) (ev k)
    exact ⟨v, e0 _ _ _ k1, k2⟩
  · rename_i x i
    have hx := ev x
    unfold extractE at hr
    split at hr
    · rename_i vs h1
      rw [h1] at hx
      obtain ⟨us, hu, hl⟩ := hx
      obtain ⟨u, e1, e2⟩ := VL.get i hl hr
      refine ⟨u, ?_, e2⟩
      refine e0 _ _ _ ?_
      rw [Array.getElem?_toList] at e1
      simp [Instr.extract, hu, e1]
    · cases hr
  · rename_i s t
    unfold lenA at hr
    split at hr
    · rename_i hc
      split at hr
      · rename_i n hn
        injection hr with hr; subst hr
        have hrun := lenE_sound (P := P) (ty := ty) hc hn (ev s) w
        refine ⟨.int .i64 n, ?_, rfl⟩
        simp [execOp, resolve, invoke, builtin, hrun]
      · cases hr
    · cases hr
  · rename_i x y ts
    have hx := ev x
    have hy := ev y
    unfold maxE at hr
    split at hr
    · rename_i k i k' j h1 h2
      rw [h1] at hx
      rw [h2] at hy
      injection hr with hr; subst hr
      obtain hx : a.eval x = _ := hx
      obtain hy : a.eval y = _ := hy
      refine ⟨_, ?_, rfl⟩
      simp [execOp, resolve, invoke, builtin, Builtin.max_, Builtin.max2, hx, hy]
    · cases hr
  · cases hr

/-- A text's bytes. -/
def strCells (l v : Nat) : List EV := (List.range l).map fun i => .int .u8 (v / 256 ^ (l - 1 - i) % 256 : Nat)
theorem strCells_sound (s : ByteArray) : VL ρ η (strCells s.size (bnum s)) (byteCells s) := by
  have key : ∀ (l : List Nat) (us : List Value), us.length = l.length → (∀ (i x : Nat), l[i]? = some x → us[i]? = some (Value.int .u8 (bnum s / 256 ^ (s.size - 1 - x) % 256 : Nat))) → VL ρ η (l.map fun i => EV.int .u8 (bnum s / 256 ^ (s.size - 1 - i) % 256 : Nat)) us := by
    intro l
    induction l with
    | nil =>
      intro us hl _
      rw [List.length_nil, List.length_eq_zero_iff] at hl
      subst hl
      trivial
    | cons x l ih =>
      intro us hl h
      cases us with
      | nil => simp at hl
      | cons u us =>
        refine ⟨?_, ih us (by simpa using hl) fun i y hy => by simpa using h (i + 1) y (by simpa using hy)⟩
        have := h 0 x rfl
        simp only [List.getElem?_cons_zero, Option.some.injEq] at this
        exact this
  refine key (List.range s.size) _ (by simp [byteCells]) fun i x hx => ?_
  obtain ⟨h1, h2⟩ := List.getElem?_eq_some_iff.1 hx
  simp only [List.length_range] at h1
  simp only [List.getElem_range] at h2
  subst h2
  rw [byte_at s i h1]
  have : s.data.toList[i]? = some s[i] := by
    rw [Array.getElem?_toList, Array.getElem?_eq_getElem (by simpa using h1)]
    rfl
  simp [byteCells, this]
def newsT : EV → Option (List EV × Nat)
  | .str l v => some (strCells l v, l)
  | _ => none
/-- A text's bytes, put behind. -/
def appendT (P : Program) (hp : Hp) (nx : Nat) (t tx : TypeId) (s x : EV) : Option (EV × Hp × Nat) :=
  match elemA P t with
  | some e =>
    match sizeA P e, bytesA P e, zeroA P e with
    | some 1, some by', some zs => if zs.length == 1 && stringA P tx then appendE hp nx e 1 by' s (newsT x) else none
    | _, _, _ => none
  | none => none
theorem appendT_sound (hη : Ones η) (H : HR B ρ η hp nx w) {t tx ty : TypeId} {s x r : EV} {us ux : Value} {hp' : Hp} {nx' : Nat} (hr : appendT P hp nx t tx s x = some (r, hp', nx')) (hs : VR ρ η s us) (hx : VR ρ η x ux) :
    ∃ v w' ρ', (Builtin.append_ #[t, tx] ty #[us, ux]).run P w = .ok v w' ∧ Go1 B η ρ ρ' hp' nx' w w' ∧ VR ρ' η r v := by
  unfold appendT at hr
  split at hr
  · rename_i e he
    have hu := elemA_run he
    split at hr
    · rename_i by' zs hz hby hzs
      split at hr
      · rename_i hl
        simp only [Bool.and_eq_true, beq_iff_eq] at hl
        obtain ⟨hl, hst⟩ := hl
        unfold sizeA at hz
        obtain ⟨it, hit, hsz⟩ := Option.map_eq_some_iff.1 hz
        unfold bytesA at hby
        obtain ⟨it2, hit2, hbytes⟩ := Option.map_eq_some_iff.1 hby
        rw [hit] at hit2; injection hit2 with hit2; subst hit2
        unfold zeroA at hzs
        obtain ⟨zv, hz1, hzl⟩ := Option.map_eq_some_iff.1 hzs
        obtain ⟨it3, hit3, hzero⟩ := Option.bind_eq_some_iff.1 hz1
        rw [hit] at hit3; injection hit3 with hit3; subst hit3
        refine appendE_sound (z := 0) hη H hu hit hzero hsz hbytes (by rw [← Array.length_toList, hzl]; exact hl) hr hs (fun cs m h1 h2 => ?_)
        unfold newsT at h1
        split at h1
        · obtain ⟨str, rfl, rfl, rfl⟩ := hx
          simp only [Option.some.injEq, Prod.mk.injEq] at h1
          obtain ⟨rfl, rfl⟩ := h1
          exact ⟨_, strCells_sound str, Src.ofString w (stringA_eq hst) str⟩
        · cases h1
      · cases hr
    · cases hr
  · cases hr
def allocA (P : Program) (hp : Hp) (nx : Nat) (t : TypeId) : Option (EV × Hp × Nat) := match zeroA P t with | some z => some (newE hp nx t (z.map ofVal)) | none => none
def boxA (hp : Hp) (nx : Nat) (t : TypeId) (x : EV) : Option (EV × Hp × Nat) := if flatE x then some (newE hp nx t (cellsE x)) else none
def storeA (P : Program) (hp : Hp) (nx : Nat) (t : TypeId) (x v : EV) : Option (EV × Hp × Nat) := match sizeA P t with
    | some n => (match storeE hp n x v with | some hp' => some (.val undef, hp', nx) | none => none)
    | none => none
def mapUpA (P : Program) (hp : Hp) (nx : Nat) (t : TypeId) (m k v : EV) : Option (EV × Hp × Nat) := match mapUpdateE P hp t m k v with | some hp' => some (.val undef, hp', nx) | none => none
def nextA (hp : Hp) (nx : Nat) (x : EV) : Option (EV × Hp × Nat) := match nextE hp x with | some (r, hp') => some (r, hp', nx) | none => none
/-- An operation that makes or writes. -/
def wop (P : Program) (hp : Hp) (nx : Nat) (fr : List EV) : Op → Option (EV × Hp × Nat)
  | .alloc t => allocA P hp nx t
  | .box t x => boxA hp nx t (evO fr x)
  | .buildSlice t len parts => buildSliceA P hp nx t len (parts.toList.map fun p => (p.1, evO fr p.2))
  | .store t x v => storeA P hp nx t (evO fr x) (evO fr v)
  | .mapUpdate t m k v => mapUpA P hp nx t (evO fr m) (evO fr k) (evO fr v)
  | .insert t m k v => mapUpA P hp nx t (evO fr m) (evO fr k) (evO fr v)
  | .makeMap t r => makeMapE P hp nx t (r.map (evO fr))
  | .makeSlice t l c => makeSliceE P hp nx t (evO fr l) (evO fr c)
  | .range t x => rangeE P hp nx t (evO fr x)
  | .next it true => nextA hp nx (evO fr it)
  | .call { callee := .builtin .append, args := ⟨[s, x]⟩, argTypes := ⟨[t, t']⟩ } => if t = t' then appendA P hp nx t (evO fr s) (evO fr x) else appendT P hp nx t t' (evO fr s) (evO fr x)
  | _ => none

set_option maxRecDepth 4000 in
theorem wop_sound (hη : Ones η) (H : HR B ρ η hp nx w) {fr : List EV} {a : Act} {o : Oper} {r : EV} {hp' : Hp} {nx' : Nat} (hv : VL ρ η fr a.tmps.toList) (hr : wop P hp nx fr o.op = some (r, hp', nx')) :
    ∃ w' ρ', Go1 B η ρ ρ' hp' nx' w w' ∧ ((∃ v, (execOp a.eval o).run P w = .ok (.value v) w' ∧ VR ρ' η r v) ∨ ((execOp a.eval o).run P w = .ok .skip w' ∧ r = .val undef)) := by
  obtain ⟨dst, op, ty, pos, after, guard⟩ := o
  have ev := evO_sound hv
  simp only at hr
  unfold wop at hr
  split at hr
  · rename_i t
    unfold allocA at hr
    split at hr
    · rename_i z h1
      simp only [newE, Option.some.injEq, Prod.mk.injEq] at hr
      obtain ⟨rfl, rfl, rfl⟩ := hr
      unfold zeroA at h1
      obtain ⟨zv, hz1, rfl⟩ := Option.map_eq_some_iff.1 h1
      obtain ⟨it, hit, hzero⟩ := Option.bind_eq_some_iff.1 hz1
      obtain ⟨ρ', k1, k2⟩ := newE_sound H t (zv.cells.toList.map ofVal) zv.cells (vl_ofVal _ _ _)
      refine ⟨_, ρ', k1, .inl ⟨_, ?_, k2⟩⟩
      simp [execOp, Instr.alloc, zeroValue, typeInfo, hit, hzero, newVar, newRow]
    · cases hr
  · rename_i t x
    unfold boxA at hr
    split at hr
    · rename_i hf
      simp only [newE, Option.some.injEq, Prod.mk.injEq] at hr
      obtain ⟨rfl, rfl, rfl⟩ := hr
      obtain ⟨k0, _⟩ := flat_sound hη hf (ev x)
      obtain ⟨ρ', k1, k2⟩ := newE_sound H t _ (a.eval x).cells k0
      refine ⟨_, ρ', k1, .inl ⟨_, ?_, k2⟩⟩
      simp [execOp, Instr.box, newVar, newRow]
    · cases hr
  · rename_i t len parts
    obtain ⟨v, w', ρ', k1, k2, k3⟩ := buildSliceA_sound hη H hr (parts := parts.map fun (i, x) => (i, a.eval x)) (by simpa using pl_map hv parts.toList)
    exact ⟨w', ρ', k2, .inl ⟨v, e0 _ _ _ k1, k3⟩⟩
  · rename_i t x v
    unfold storeA at hr
    split at hr
    · rename_i n hn
      split at hr
      · rename_i hp2 hs
        simp only [Option.some.injEq, Prod.mk.injEq] at hr
        obtain ⟨rfl, rfl, rfl⟩ := hr
        obtain ⟨w', k1, k2⟩ := storeE_sound hη H hn (ev x) (ev v) hs
        exact ⟨w', ρ, k2, .inr ⟨by simp [execOp, k1], rfl⟩⟩
      · cases hr
    · cases hr
  · rename_i t m k v
    unfold mapUpA at hr
    split at hr
    · rename_i hp2 hs
      simp only [Option.some.injEq, Prod.mk.injEq] at hr
      obtain ⟨rfl, rfl, rfl⟩ := hr
      obtain ⟨w', k1, k2⟩ := mapUpdateE_sound H hs (ev m) (ev k) (ev v)
      exact ⟨w', ρ, k2, .inr ⟨by simp [execOp, k1], rfl⟩⟩
    · cases hr
  · rename_i t m k v
    unfold mapUpA at hr
    split at hr
    · rename_i hp2 hs
      simp only [Option.some.injEq, Prod.mk.injEq] at hr
      obtain ⟨rfl, rfl, rfl⟩ := hr
      obtain ⟨w', k1, k2⟩ := mapUpdateE_sound H hs (ev m) (ev k) (ev v)
      exact ⟨w', ρ, k2, .inr ⟨by simp [execOp, k1], rfl⟩⟩
    · cases hr
  · rename_i t r0
    obtain ⟨v, w', ρ', k1, k2, k3⟩ := makeMapE_sound H hr (opt_map hv r0)
    exact ⟨w', ρ', k2, .inl ⟨v, e0 _ _ _ k1, k3⟩⟩
  · rename_i t l c
    obtain ⟨v, w', ρ', k1, k2, k3⟩ := makeSliceE_sound H hr (ev l) (ev c)
    exact ⟨w', ρ', k2, .inl ⟨v, e0 _ _ _ k1, k3⟩⟩
  · rename_i t x
    obtain ⟨v, w', ρ', k1, k2, k3⟩ := rangeE_sound H hr (ev x)
    exact ⟨w', ρ', k2, .inl ⟨v, e0 _ _ _ k1, k3⟩⟩
  · rename_i it
    unfold nextA at hr
    split at hr
    · rename_i r2 hp2 hs
      simp only [Option.some.injEq, Prod.mk.injEq] at hr
      obtain ⟨rfl, rfl, rfl⟩ := hr
      obtain ⟨v, w', k1, k2, k3⟩ := nextE_sound (ty := ty) H hs (ev it)
      exact ⟨w', ρ, k2, .inl ⟨v, e0 _ _ _ k1, k3⟩⟩
    · cases hr
  · rename_i s x t t'
    split at hr
    · rename_i htt
      subst htt
      obtain ⟨v, w', ρ', k1, k2, k3⟩ := appendA_sound (ty := ty) hη H hr (ev s) (ev x)
      refine ⟨w', ρ', k2, .inl ⟨v, ?_, k3⟩⟩
      simp [execOp, resolve, invoke, builtin, k1]
    · obtain ⟨v, w', ρ', k1, k2, k3⟩ := appendT_sound (ty := ty) hη H hr (ev s) (ev x)
      refine ⟨w', ρ', k2, .inl ⟨v, ?_, k3⟩⟩
      simp [execOp, resolve, invoke, builtin, k1]
  · cases hr

/-- An operation that makes an object of what it is handed, and looks at nothing: the object, and what is told of it by its number. -/
def alcE (P : Program) (fr : List EV) : Op → Option (EO × (Nat → EV))
  | .buildSlice t len parts => match bsCells P t len (parts.toList.map fun p => (p.1, evO fr p.2)) with
    | some (e, sz, cs) => some (.cells e cs, fun o => .slc o 0 len sz 0)
    | none => none
  | .makeMap _ none => some (.map [], fun o => .mp o)
  | _ => none
theorem alcE_sound (hη : Ones η) {fr : List EV} {a : Act} {o : Oper} {x : EO} {res : Nat → EV} (hv : VL ρ η fr a.tmps.toList) (hr : alcE P fr o.op = some (x, res)) :
    ∃ obj N v, (execOp a.eval o).run P w = .ok (.value v) (w.alloc obj) ∧ ∀ (ρ' : Pl) (w' : World) (id : Nat), ρ.Le ρ' → ρ' id = some (w.heap.size, 0, N) → w'.heap[w.heap.size]? = some obj →
      St ρ' η w' (w.heap.size, 0, N) x ∧ VR ρ' η (res id) v := by
  obtain ⟨dst, op, ty, pos, after, guard⟩ := o
  simp only at hr
  unfold alcE at hr
  split at hr
  · rename_i t len parts
    split at hr
    · rename_i e sz cs hb
      simp only [Option.some.injEq, Prod.mk.injEq] at hr
      obtain ⟨rfl, rfl⟩ := hr
      obtain ⟨arr', k1, k2, k3, k4, k5, k6⟩ := bsCells_sound (w := w) hη hb (parts := parts.map fun (i, x) => (i, a.eval x)) (by simpa using pl_map hv parts.toList)
      refine ⟨_, arr'.size, _, e0 _ _ _ k1, fun ρ' w' id hle hid hh => ⟨⟨arr', hh, rfl, by simp [k3], ?_⟩, w.heap.size, 0, arr'.size, len, hid, ?_, Nat.le_refl _, k4, k5, by omega⟩⟩
      · simp only [List.drop_zero]
        rw [List.take_of_length_le (by simp [k3])]
        exact VL.le hle _ _ k2
      · simp
    · cases hr
  · simp only [Option.some.injEq, Prod.mk.injEq] at hr
    obtain ⟨rfl, rfl⟩ := hr
    exact ⟨.map #[] 0, 0, .map (some w.heap.size), by simp [execOp, Instr.makeMap], fun ρ' w' id hle hid hh => ⟨⟨#[], 0, hh, trivial⟩, _, _, _, hid, rfl⟩⟩
  · cases hr
end

end Go.Proofs.YtnfdkmnmniiokaaGreatDoor
