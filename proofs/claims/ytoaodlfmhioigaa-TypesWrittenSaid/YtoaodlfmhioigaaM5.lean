/- A part of the proof of TypesWrittenSaid. No condition. -/
import Derived.Test.YtoaodlfmhioigaaM4
set_option linter.unusedSimpArgs false
set_option linter.unusedVariables false
section
namespace Go.Proofs.Ytoaodlfmhioigaa
open Go.RowKit

@[simp] def resOne (P : Program) (s : AS) : ResultVar → Option AV
  | .tmp t => some (ev s.tm (.tmp t))
  | .cell t ty => loadA P s.os ty (ev s.tm (.tmp t))
@[simp] def resL (P : Program) (s : AS) : List ResultVar → Option (List AV)
  | [] => some []
  | x :: xs => match resOne P s x, resL P s xs with | some v, some vs => some (v :: vs) | _, _ => none
@[simp] def oneOf : List AV → AV
  | [x] => x
  | xs => .tup xs
@[simp] def resA (P : Program) (rs : List ResultVar) (s : AS) : Option AV := (resL P s rs).map oneOf

def resSem (tmps : Array Value) : ResultVar → Sem Value
  | .tmp t => pure (tmps.getD t undef)
  | .cell p t => do loadVar t (← asAddr (tmps.getD p undef))

theorem resL_sound {P : Program} {X : Nat → Prop} {ρ : List Nat} {w : World} {s : AS} {a : Act} (h : Rel X ρ w s a) : ∀ (rs : List ResultVar) (vs : List AV), resL P s rs = some vs →
    ∃ us : List Value, Sem.run P (rs.mapM (resSem a.tmps)) w = .ok us w ∧ VL (envOf X ρ w s.os) vs us
  | [], vs, hr => by
    simp only [resL, Option.some.injEq] at hr
    subst hr
    exact ⟨[], rfl, trivial⟩
  | x :: xs, vs, hr => by
    simp only [resL] at hr
    split at hr
    · rename_i v ws h1 h2
      simp only [Option.some.injEq] at hr
      subst hr
      obtain ⟨us, e1, e2⟩ := resL_sound h xs ws h2
      cases x with
      | tmp t =>
        simp only [resOne, Option.some.injEq] at h1
        subst h1
        refine ⟨a.tmps.getD t undef :: us, ?_, ev_sound h.vl (.tmp t), e2⟩
        rw [List.mapM_cons]
        simp only [resSem, Sem.run_bind, Sem.run_pure, Result.andThen_ok, e1]
      | cell p t =>
        simp only [resOne] at h1
        obtain ⟨u, k1, k2⟩ := loadA_sound h.sr (ev_sound h.vl (.tmp p)) h1
        refine ⟨u :: us, ?_, k2, e2⟩
        rw [List.mapM_cons]
        have k3 : (resSem a.tmps (.cell p t)).run P w = .ok u w := by
          unfold resSem
          have e : a.eval (.tmp p) = a.tmps.getD p undef := rfl
          rw [e] at k1
          cases hu : a.tmps.getD p undef with
          | pointer q =>
            rw [hu] at k1
            cases q with
            | none => simp [Instr.loadAt, Instr.sureAddr] at k1
            | some ad =>
              simp only [hu, asAddr, Sem.run_bind, Sem.run_pure, Result.andThen_ok]
              simpa [Instr.loadAt, Instr.sureAddr] using k1
          | _ => rw [hu] at k1; simp [Instr.loadAt, Instr.sureAddr] at k1
        simp only [Sem.run_bind, k3, Sem.run_pure, Result.andThen_ok, e1]
    · cases hr

theorem resA_sound {P : Program} {X : Nat → Prop} {ρ : List Nat} {w : World} {s : AS} {a : Act} (h : Rel X ρ w s a) {fn : Func} {r : AV} (hr : resA P fn.results.toList s = some r) : ∃ v, (results fn a.tmps).run P w = .ok v w ∧ VR (envOf X ρ w s.os) r v := by
  unfold resA at hr
  obtain ⟨vs, h1, rfl⟩ := Option.map_eq_some_iff.1 hr
  obtain ⟨us, e1, e2⟩ := resL_sound h _ _ h1
  have hrun : (results fn a.tmps).run P w = .ok (if h : us.toArray.size = 1 then us.toArray[0] else .tuple us.toArray) w := by
    have e : results fn a.tmps = (do let vs ← fn.results.mapM (resSem a.tmps); pure (if h : vs.size = 1 then vs[0] else .tuple vs)) := by
      unfold results
      congr 1
      try (congr 1; funext x; cases x <;> rfl)
    rw [e, Array.mapM_eq_mapM_toList]
    simp only [Sem.run_bind, Sem.run_map, e1, Result.andThen_ok, Sem.run_pure]
  refine ⟨_, hrun, ?_⟩
  match vs, us, e2 with
  | [], [], _ => exact ⟨#[], rfl, trivial⟩
  | [x], [u], ⟨hx, _⟩ => exact hx
  | [_], [], h => exact h.elim
  | [], _ :: _, h => exact h.elim
  | [_], _ :: _ :: _, ⟨_, h⟩ => exact h.elim
  | _ :: _ :: _, [], h => exact h.elim
  | _ :: _ :: _, [_], ⟨_, h⟩ => exact h.elim
  | x :: y :: xs, u :: v :: us, h => exact ⟨(u :: v :: us).toArray, by simp, by simpa [oneOf] using h⟩

/-- What stands at a function's end. -/
@[simp] def APost (P : Program) (rs : List ResultVar) (k : Nat) (R : AV → List AO → Prop) : Exit → AS → Prop
  | .normal, s => ∃ r, resA P rs s = some r ∧ k ≤ s.os.length ∧ clo k (finV k s.os r) = true ∧ cloO k (fin k s.os) = true ∧ R (finV k s.os r) (fin k s.os)
  | .ret, s => ∃ r, resA P rs s = some r ∧ k ≤ s.os.length ∧ clo k (finV k s.os r) = true ∧ cloO k (fin k s.os) = true ∧ R (finV k s.os r) (fin k s.os)
  | _, _ => False

theorem vl_undef (E : Env) : ∀ n, VL E (List.replicate n (.val undef)) (List.replicate n undef)
  | 0 => trivial
  | n + 1 => ⟨rfl, vl_undef E n⟩

theorem tri_of_awp {P : Program} {f : FuncId} {fn : Func} {c : Code} {args : List AV} {os : List AO} {R : AV → List AO → Prop} (hf : P.funcs[f]? = some fn) (hb : fn.body = some c)
    (h : awp P c (APost P fn.results.toList os.length R) ⟨args ++ List.replicate (fn.ntmps - args.length) (.val undef), os⟩) : Tri P f args os R := by
  intro X ρ w us hsr hv
  have hl := VL.length hv
  have hrel : Rel X ρ w ⟨args ++ List.replicate (fn.ntmps - args.length) (.val undef), os⟩ { tmps := us.toArray ++ Array.replicate (fn.ntmps - us.toArray.size) undef, defers := [] } := by
    refine ⟨hsr, ?_, rfl⟩
    simp only [Array.toList_append, Array.toList_replicate, List.size_toArray, hl, List.toList_toArray]
    exact hv.append (vl_undef _ _)
  refine calls_of_wp hf hb (wp_mono (awp_sound c _ _ ρ w _ hrel h) ?_)
  rintro e a' w' ⟨s', ρ', hq, hg, hr⟩
  have finish : (∃ r, resA P fn.results.toList s' = some r ∧ os.length ≤ s'.os.length ∧ clo os.length (finV os.length s'.os r) = true ∧ cloO os.length (fin os.length s'.os) = true ∧ R (finV os.length s'.os r) (fin os.length s'.os)) →
      a'.defers = [] ∧ ∃ v, (results fn a'.tmps).run P w' = .ok v w' ∧ ∃ v_1 r os' ρ'', (Ending.returned v = .returned v_1) ∧ R r os' ∧ Goes X (fun _ => True) ρ ρ'' w w' os os' ∧ VR (envOf X ρ'' w' os') r v_1 := by
    rintro ⟨r, h1, h2, h3, h4, h5⟩
    obtain ⟨v, e1, e2⟩ := resA_sound hr h1
    obtain ⟨k1, k2, k3, k4⟩ := hr.sr.fin os.length h2 h4
    refine ⟨hr.defers, v, e1, v, _, _, ρ'.take os.length, rfl, h5, ⟨k1, ?_, hg.upd, fun i b g hc => hg.obj i b g (by rw [← k3 i (by obtain ⟨x, hx, _⟩ := curOf_some hc; have := (List.getElem?_eq_some_iff.1 hx).1; unfold fin at this; simp at this; omega)]; exact hc)⟩, k2 r v h3 e2⟩
    have hget : ∀ (o : Nat) (x : AO), o < os.length → s'.os[o]? = some x → ∃ y, (fin os.length s'.os)[o]? = some y ∧ y.g = x.g := fun o x ho hx => by
      refine ⟨frzO s'.os (fun o => decide (os.length ≤ o)) 4 (if decide (os.length ≤ o) then { x with live := false } else x), ?_, by simp only [frzO]; split <;> rfl⟩
      unfold fin
      rw [List.getElem?_map, List.getElem?_take, if_pos ho, ends_get, hx]
      rfl
    refine ⟨?_, ?_, ?_, ?_⟩
    · rintro o g hd
      have ho : o < os.length := by
        obtain ⟨x, hx, _⟩ := hd
        exact (List.getElem?_eq_some_iff.1 hx).1
      obtain ⟨x, hx, hgx⟩ := hg.le.dom o g hd
      obtain ⟨y, hy, hyg⟩ := hget o x ho hx
      exact ⟨y, hy, by omega⟩
    · intro o b g hd hc
      have ho : o < os.length := by
        obtain ⟨x, hx, _⟩ := hd
        exact (List.getElem?_eq_some_iff.1 hx).1
      exact hg.le.cur o b g hd ((k3 o ho).symm.trans hc)
    · intro b hb
      obtain ⟨d1, d2, d3⟩ := hg.le.data b hb
      exact ⟨d1, fun hl => d2 (k4 b hl), d3⟩
    · intro b i hb
      exact hg.le.cell b i hb
  cases e with
  | normal => exact finish hq
  | ret => exact finish hq
  | exit _ => exact hq.elim
  | goto _ => exact hq.elim
  | panic _ => exact hq.elim
  | outgrown => exact hq.elim

/-- A call by the callee's triple. -/
theorem ACall.use {P : Program} {W : Nat → Prop} {f : FuncId} {args args' : List AV} {dst : Option Tmp} {K : AS → Prop} {s : AS} {os' : List AO} {R : AV → List AO → Prop} (k : Nat) (hT : Tri P f args' os' R) (hW : ∀ o, o < k → W o) (hp : plainF P f = true) (hk : k ≤ s.os.length)
    (ha : argsF k s.os args = args') (ho : (osF k s.os args).take k = os') (hca : AV.closedL (fun o => decide (o < k)) args' = true) (hco : cloO k os' = true)
    (hK : ∀ r os2, R r os2 → os2.length = k ∧ clo k r = true ∧ cloO k os2 = true ∧ K (AS.put ⟨s.tm, os2 ++ (osF k s.os args).drop k⟩ dst r)) : ACall P W f args dst K s :=
  .inl ⟨k, R, hW, hp, hk, by rw [ha]; exact hca, by rw [ho]; exact hco, by rw [ha, ho]; exact hT, hK⟩

/-- A triple that tells all. -/
def TriE (P : Program) (f : FuncId) (args : List AV) (os : List AO) (r : AV) (os' : List AO) : Prop := Tri P f args os fun r' o' => r' = r ∧ o' = os'
theorem ACall.useE {P : Program} {W : Nat → Prop} {f : FuncId} {args args' : List AV} {dst : Option Tmp} {K : AS → Prop} {s : AS} {os' os2 : List AO} {r : AV} (k : Nat) (hT : TriE P f args' os' r os2) (hW : ∀ o, o < k → W o) (hp : plainF P f = true) (hk : k ≤ s.os.length)
    (ha : argsF k s.os args = args') (ho : (osF k s.os args).take k = os') (hca : AV.closedL (fun o => decide (o < k)) args' = true) (hco : cloO k os' = true)
    (hl : os2.length = k) (hr : clo k r = true) (ho2 : cloO k os2 = true) (hK : K (AS.put ⟨s.tm, os2 ++ (osF k s.os args).drop k⟩ dst r)) : ACall P W f args dst K s :=
  ACall.use k hT hW hp hk ha ho hca hco fun _ _ ⟨e1, e2⟩ => by subst e1; subst e2; exact ⟨hl, hr, ho2, hK⟩

end Go.Proofs.Ytoaodlfmhioigaa
end

section
namespace Go.Proofs.Ytoaodlfmhioigaa
open Go.RowKit

/-! The walk in a form that 'simp' goes through from the front: what comes behind is not looked into before it is reached. -/
class KC where
  go : AS → Prop
class QC where
  go : Exit → AS → Prop

def awpC (P : Program) (c : Code) [q : QC] (s : AS) : Prop := awp P c q.go s
def alistC (P : Program) (ops : Array Oper) (l : List Oper) [k : KC] (s : AS) : Prop := AList P ops l k.go s
def astepC (P : Program) (W : Nat → Prop) (o : Oper) [k : KC] (s : AS) : Prop := AStep P W o k.go s
def acallC (P : Program) (W : Nat → Prop) (f : FuncId) (args : List AV) (dst : Option Tmp) [k : KC] (s : AS) : Prop := ACall P W f args dst k.go s
def adrawC (P : Program) (ops : Array Oper) [k : KC] (s : AS) : Prop := ADraw P ops k.go s
def alateC (P : Program) (W : Nat → Prop) (ops : Array Oper) (p : Plan) [k : KC] (s : AS) : Prop := ALate P W ops p k.go s
def aearlyC (P : Program) (ws : List Nat) (ops : Array Oper) (es : List Nat) [k : KC] (s : AS) : Prop := AEarly P ws ops es k.go s
def loopC (P : Program) (c : Code) [q : QC] (s : AS) : Prop := awp P (.loop c) q.go s

section
variable (P : Program) (W : Nat → Prop) (q : QC) (k : KC) (s : AS)

@[simp] theorem awpC_skip : @awpC P .skip q s = q.go .normal s := rfl
@[simp] theorem awpC_exit (id : Nat) : @awpC P (.exit id) q s = q.go (.exit id) s := rfl
@[simp] theorem awpC_ret : @awpC P .ret q s = q.go .ret s := rfl
@[simp] theorem awpC_label (l : Nat) : @awpC P (.label l) q s = q.go .normal s := rfl
@[simp] theorem awpC_seq (x y : Code) : @awpC P (.seq x y) q s = @awpC P x ⟨fun e s' => match e with | .normal => @awpC P y q s' | e => q.go e s'⟩ s := by
  show awp P (.seq x y) q.go s = awp P x _ s
  rw [awp]
  rfl
@[simp] theorem awpC_block (id : Nat) (c : Code) : @awpC P (.block id c) q s = @awpC P c ⟨fun e s' => match e with | .exit j => if j = id then q.go .normal s' else q.go (.exit j) s' | e => q.go e s'⟩ s := by
  show awp P (.block id c) q.go s = awp P c _ s
  rw [awp]
  rfl
@[simp] theorem awpC_cond (c : Operand) (x y : Code) : @awpC P (.cond c x y) q s = (match ev s.tm c with | .val (.bool t) => if t = true then @awpC P x q s else @awpC P y q s | _ => False) := by
  show awp P (.cond c x y) q.go s = _
  rw [awp]
  apply propext
  constructor
  · rintro ⟨t, he, h1, h2⟩
    rw [he]
    cases t
    · exact h2 rfl
    · exact h1 rfl
  · intro h
    split at h
    · rename_i t he
      refine ⟨t, he, fun e => ?_, fun e => ?_⟩
      · rw [if_pos e] at h; exact h
      · rw [if_neg (by rw [e]; simp)] at h; exact h
    · exact h.elim
@[simp] theorem awpC_region (id : Nat) (ops : Array Oper) : @awpC P (.region id ops false) q s = @alistC P ops ops.toList ⟨fun s => q.go .normal s⟩ s := rfl
@[simp] theorem awpC_draw (id : Nat) (ops : Array Oper) : @awpC P (.region id ops true) q s = @adrawC P ops ⟨fun s => q.go .normal s⟩ s := rfl
@[simp] theorem awpC_loop (c : Code) : @awpC P (.loop c) q s = @loopC P c q s := rfl

@[simp] theorem alistC_nil (ops : Array Oper) : @alistC P ops [] k s = k.go s := rfl
theorem guard_eq (A B : Prop) (y : Option (Option Bool)) (want : Bool) : (∃ b, y = some b ∧ (b = some want → A) ∧ (b ≠ some want → B)) = (match y with | some b => if b = some want then A else B | none => False) := by
  apply propext
  constructor
  · rintro ⟨b, rfl, h1, h2⟩
    by_cases hb : b = some want
    · simp only [if_pos hb]; exact h1 hb
    · simp only [if_neg hb]; exact h2 hb
  · intro h
    split at h
    · rename_i b
      exact ⟨b, rfl, fun e => by rw [if_pos e] at h; exact h, fun e => by rw [if_neg e] at h; exact h⟩
    · exact h.elim
@[simp] theorem alistC_cons (ops : Array Oper) (o : Oper) (rest : List Oper) : @alistC P ops (o :: rest) k s =
    (match o.guard with
     | none => @astepC P (fun _ => True) o ⟨fun s => @alistC P ops rest k s⟩ s
     | some (j, want) => match wantA (yieldA ops s.tm j) with | some b => if b = some want then @astepC P (fun _ => True) o ⟨fun s => @alistC P ops rest k s⟩ s else @alistC P ops rest k (s.put o.dst (.val undef)) | none => False) := by
  show AList P ops (o :: rest) k.go s = _
  rw [AList]
  cases o.guard with
  | none => rfl
  | some g => exact guard_eq _ _ _ _
theorem astepC_eq (o : Oper) (h : ∀ c args ts, o.op ≠ .call { callee := .value c, args := args, argTypes := ts }) : @astepC P W o k s =
    ((∀ i, i ∈ wrA s.tm o.op → W i) ∧ match aop P s.tm s.os o.op with | some (r, os') => k.go (AS.put ⟨s.tm, os'⟩ o.dst r) | none => False) := by
  show AStep P W o k.go s = _
  unfold AStep
  split
  · rename_i f args ts ho
    exact absurd ho (h _ args ts)
  · rename_i j args ts ho
    exact absurd ho (h _ args ts)
  · rfl
@[simp] theorem astepC_callT (dst : Option Tmp) (j : Nat) (args : Array Operand) (ts : Array TypeId) (ty : TypeId) (pos : String) (after : Array Edge) (g : Option (Nat × Bool)) :
    @astepC P W ⟨dst, .call { callee := .value (.tmp j), args := args, argTypes := ts }, ty, pos, after, g⟩ k s = (match s.tm[j]? with | some (.fn (.func f) first cap) => @acallC P W f (first ++ args.toList.map (ev s.tm) ++ cap) dst k s | _ => False) := rfl
@[simp] theorem astepC_call (dst : Option Tmp) (f : FuncId) (args : Array Operand) (ts : Array TypeId) (ty : TypeId) (pos : String) (after : Array Edge) (g : Option (Nat × Bool)) :
    @astepC P W ⟨dst, .call { callee := .value (.func f), args := args, argTypes := ts }, ty, pos, after, g⟩ k s = @acallC P W f (args.toList.map (ev s.tm)) dst k s := rfl
@[simp] theorem astepC_move (x : Operand) (dst : Option Tmp) (ty : TypeId) (pos : String) (after : Array Edge) (g : Option (Nat × Bool)) : @astepC P W ⟨dst, .move x, ty, pos, after, g⟩ k s = (match aop P s.tm s.os (.move x) with | some (r, os') => k.go (AS.put ⟨s.tm, os'⟩ dst r) | none => False) := by
  rw [astepC_eq _ _ _ _ _ (by intro _ _ _ h; cases h)]
  simp only [wrA, List.not_mem_nil, false_implies, implies_true, true_and]
@[simp] theorem astepC_assign (x : Operand) (dst : Option Tmp) (ty : TypeId) (pos : String) (after : Array Edge) (g : Option (Nat × Bool)) : @astepC P W ⟨dst, .assign x, ty, pos, after, g⟩ k s = (match aop P s.tm s.os (.assign x) with | some (r, os') => k.go (AS.put ⟨s.tm, os'⟩ dst r) | none => False) := by
  rw [astepC_eq _ _ _ _ _ (by intro _ _ _ h; cases h)]
  simp only [wrA, List.not_mem_nil, false_implies, implies_true, true_and]
@[simp] theorem astepC_pick (c a b : Operand) (dst : Option Tmp) (ty : TypeId) (pos : String) (after : Array Edge) (g : Option (Nat × Bool)) : @astepC P W ⟨dst, .pick c a b, ty, pos, after, g⟩ k s = (match aop P s.tm s.os (.pick c a b) with | some (r, os') => k.go (AS.put ⟨s.tm, os'⟩ dst r) | none => False) := by
  rw [astepC_eq _ _ _ _ _ (by intro _ _ _ h; cases h)]
  simp only [wrA, List.not_mem_nil, false_implies, implies_true, true_and]
@[simp] theorem astepC_alloc (t : TypeId) (dst : Option Tmp) (ty : TypeId) (pos : String) (after : Array Edge) (g : Option (Nat × Bool)) : @astepC P W ⟨dst, .alloc t, ty, pos, after, g⟩ k s = (match aop P s.tm s.os (.alloc t) with | some (r, os') => k.go (AS.put ⟨s.tm, os'⟩ dst r) | none => False) := by
  rw [astepC_eq _ _ _ _ _ (by intro _ _ _ h; cases h)]
  simp only [wrA, List.not_mem_nil, false_implies, implies_true, true_and]
@[simp] theorem astepC_box (t : TypeId) (x : Operand) (dst : Option Tmp) (ty : TypeId) (pos : String) (after : Array Edge) (g : Option (Nat × Bool)) : @astepC P W ⟨dst, .box t x, ty, pos, after, g⟩ k s = (match aop P s.tm s.os (.box t x) with | some (r, os') => k.go (AS.put ⟨s.tm, os'⟩ dst r) | none => False) := by
  rw [astepC_eq _ _ _ _ _ (by intro _ _ _ h; cases h)]
  simp only [wrA, List.not_mem_nil, false_implies, implies_true, true_and]
@[simp] theorem astepC_build (t : TypeId) (ps : Array (Nat × Operand)) (dst : Option Tmp) (ty : TypeId) (pos : String) (after : Array Edge) (g : Option (Nat × Bool)) : @astepC P W ⟨dst, .build t ps, ty, pos, after, g⟩ k s = (match aop P s.tm s.os (.build t ps) with | some (r, os') => k.go (AS.put ⟨s.tm, os'⟩ dst r) | none => False) := by
  rw [astepC_eq _ _ _ _ _ (by intro _ _ _ h; cases h)]
  simp only [wrA, List.not_mem_nil, false_implies, implies_true, true_and]
@[simp] theorem astepC_buildSlice (t : TypeId) (n : Nat) (ps : Array (Nat × Operand)) (dst : Option Tmp) (ty : TypeId) (pos : String) (after : Array Edge) (g : Option (Nat × Bool)) : @astepC P W ⟨dst, .buildSlice t n ps, ty, pos, after, g⟩ k s = (match aop P s.tm s.os (.buildSlice t n ps) with | some (r, os') => k.go (AS.put ⟨s.tm, os'⟩ dst r) | none => False) := by
  rw [astepC_eq _ _ _ _ _ (by intro _ _ _ h; cases h)]
  simp only [wrA, List.not_mem_nil, false_implies, implies_true, true_and]
@[simp] theorem astepC_load (t : TypeId) (x : Operand) (dst : Option Tmp) (ty : TypeId) (pos : String) (after : Array Edge) (g : Option (Nat × Bool)) : @astepC P W ⟨dst, .load t x, ty, pos, after, g⟩ k s = (match aop P s.tm s.os (.load t x) with | some (r, os') => k.go (AS.put ⟨s.tm, os'⟩ dst r) | none => False) := by
  rw [astepC_eq _ _ _ _ _ (by intro _ _ _ h; cases h)]
  simp only [wrA, List.not_mem_nil, false_implies, implies_true, true_and]
@[simp] theorem astepC_nilCheck (x : Operand) (dst : Option Tmp) (ty : TypeId) (pos : String) (after : Array Edge) (g : Option (Nat × Bool)) : @astepC P W ⟨dst, .nilCheck x, ty, pos, after, g⟩ k s = (match aop P s.tm s.os (.nilCheck x) with | some (r, os') => k.go (AS.put ⟨s.tm, os'⟩ dst r) | none => False) := by
  rw [astepC_eq _ _ _ _ _ (by intro _ _ _ h; cases h)]
  simp only [wrA, List.not_mem_nil, false_implies, implies_true, true_and]
@[simp] theorem astepC_binOp (op : BinOp) (t : TypeId) (x y : Operand) (u : TypeId) (dst : Option Tmp) (ty : TypeId) (pos : String) (after : Array Edge) (g : Option (Nat × Bool)) : @astepC P W ⟨dst, .binOp op t x y u, ty, pos, after, g⟩ k s = (match aop P s.tm s.os (.binOp op t x y u) with | some (r, os') => k.go (AS.put ⟨s.tm, os'⟩ dst r) | none => False) := by
  rw [astepC_eq _ _ _ _ _ (by intro _ _ _ h; cases h)]
  simp only [wrA, List.not_mem_nil, false_implies, implies_true, true_and]
@[simp] theorem astepC_unOp (op : UnOp) (t : TypeId) (x : Operand) (dst : Option Tmp) (ty : TypeId) (pos : String) (after : Array Edge) (g : Option (Nat × Bool)) : @astepC P W ⟨dst, .unOp op t x, ty, pos, after, g⟩ k s = (match aop P s.tm s.os (.unOp op t x) with | some (r, os') => k.go (AS.put ⟨s.tm, os'⟩ dst r) | none => False) := by
  rw [astepC_eq _ _ _ _ _ (by intro _ _ _ h; cases h)]
  simp only [wrA, List.not_mem_nil, false_implies, implies_true, true_and]
@[simp] theorem astepC_convert (a b : TypeId) (x : Operand) (dst : Option Tmp) (ty : TypeId) (pos : String) (after : Array Edge) (g : Option (Nat × Bool)) : @astepC P W ⟨dst, .convert a b x, ty, pos, after, g⟩ k s = (match aop P s.tm s.os (.convert a b x) with | some (r, os') => k.go (AS.put ⟨s.tm, os'⟩ dst r) | none => False) := by
  rw [astepC_eq _ _ _ _ _ (by intro _ _ _ h; cases h)]
  simp only [wrA, List.not_mem_nil, false_implies, implies_true, true_and]
@[simp] theorem astepC_makeInterface (t : TypeId) (x : Operand) (dst : Option Tmp) (ty : TypeId) (pos : String) (after : Array Edge) (g : Option (Nat × Bool)) : @astepC P W ⟨dst, .makeInterface t x, ty, pos, after, g⟩ k s = (match aop P s.tm s.os (.makeInterface t x) with | some (r, os') => k.go (AS.put ⟨s.tm, os'⟩ dst r) | none => False) := by
  rw [astepC_eq _ _ _ _ _ (by intro _ _ _ h; cases h)]
  simp only [wrA, List.not_mem_nil, false_implies, implies_true, true_and]
@[simp] theorem astepC_makeFunc (fn : Fn) (a b : Array Operand) (dst : Option Tmp) (ty : TypeId) (pos : String) (after : Array Edge) (g : Option (Nat × Bool)) : @astepC P W ⟨dst, .makeFunc fn a b, ty, pos, after, g⟩ k s = (match aop P s.tm s.os (.makeFunc fn a b) with | some (r, os') => k.go (AS.put ⟨s.tm, os'⟩ dst r) | none => False) := by
  rw [astepC_eq _ _ _ _ _ (by intro _ _ _ h; cases h)]
  simp only [wrA, List.not_mem_nil, false_implies, implies_true, true_and]
@[simp] theorem astepC_slice (t : TypeId) (x : Operand) (lo hi mx : Option Operand) (dst : Option Tmp) (ty : TypeId) (pos : String) (after : Array Edge) (g : Option (Nat × Bool)) : @astepC P W ⟨dst, .slice t x lo hi mx, ty, pos, after, g⟩ k s = (match aop P s.tm s.os (.slice t x lo hi mx) with | some (r, os') => k.go (AS.put ⟨s.tm, os'⟩ dst r) | none => False) := by
  rw [astepC_eq _ _ _ _ _ (by intro _ _ _ h; cases h)]
  simp only [wrA, List.not_mem_nil, false_implies, implies_true, true_and]
@[simp] theorem astepC_fieldAddr (t : TypeId) (x : Operand) (f : Nat) (dst : Option Tmp) (ty : TypeId) (pos : String) (after : Array Edge) (g : Option (Nat × Bool)) : @astepC P W ⟨dst, .fieldAddr t x f, ty, pos, after, g⟩ k s = (match aop P s.tm s.os (.fieldAddr t x f) with | some (r, os') => k.go (AS.put ⟨s.tm, os'⟩ dst r) | none => False) := by
  rw [astepC_eq _ _ _ _ _ (by intro _ _ _ h; cases h)]
  simp only [wrA, List.not_mem_nil, false_implies, implies_true, true_and]
@[simp] theorem astepC_field (t : TypeId) (x : Operand) (f : Nat) (dst : Option Tmp) (ty : TypeId) (pos : String) (after : Array Edge) (g : Option (Nat × Bool)) : @astepC P W ⟨dst, .field t x f, ty, pos, after, g⟩ k s = (match aop P s.tm s.os (.field t x f) with | some (r, os') => k.go (AS.put ⟨s.tm, os'⟩ dst r) | none => False) := by
  rw [astepC_eq _ _ _ _ _ (by intro _ _ _ h; cases h)]
  simp only [wrA, List.not_mem_nil, false_implies, implies_true, true_and]
@[simp] theorem astepC_indexAddr (t : TypeId) (x ix : Operand) (dst : Option Tmp) (ty : TypeId) (pos : String) (after : Array Edge) (g : Option (Nat × Bool)) : @astepC P W ⟨dst, .indexAddr t x ix, ty, pos, after, g⟩ k s = (match aop P s.tm s.os (.indexAddr t x ix) with | some (r, os') => k.go (AS.put ⟨s.tm, os'⟩ dst r) | none => False) := by
  rw [astepC_eq _ _ _ _ _ (by intro _ _ _ h; cases h)]
  simp only [wrA, List.not_mem_nil, false_implies, implies_true, true_and]
@[simp] theorem astepC_index (t : TypeId) (x ix : Operand) (dst : Option Tmp) (ty : TypeId) (pos : String) (after : Array Edge) (g : Option (Nat × Bool)) : @astepC P W ⟨dst, .index t x ix, ty, pos, after, g⟩ k s = (match aop P s.tm s.os (.index t x ix) with | some (r, os') => k.go (AS.put ⟨s.tm, os'⟩ dst r) | none => False) := by
  rw [astepC_eq _ _ _ _ _ (by intro _ _ _ h; cases h)]
  simp only [wrA, List.not_mem_nil, false_implies, implies_true, true_and]
@[simp] theorem astepC_extract (x : Operand) (i : Nat) (dst : Option Tmp) (ty : TypeId) (pos : String) (after : Array Edge) (g : Option (Nat × Bool)) : @astepC P W ⟨dst, .extract x i, ty, pos, after, g⟩ k s = (match aop P s.tm s.os (.extract x i) with | some (r, os') => k.go (AS.put ⟨s.tm, os'⟩ dst r) | none => False) := by
  rw [astepC_eq _ _ _ _ _ (by intro _ _ _ h; cases h)]
  simp only [wrA, List.not_mem_nil, false_implies, implies_true, true_and]
@[simp] theorem astepC_len (args : Array Operand) (ts : Array TypeId) (dst : Option Tmp) (ty : TypeId) (pos : String) (after : Array Edge) (g : Option (Nat × Bool)) : @astepC P W ⟨dst, .call { callee := .builtin .len, args := args, argTypes := ts }, ty, pos, after, g⟩ k s = (match aop P s.tm s.os (.call { callee := .builtin .len, args := args, argTypes := ts }) with | some (r, os') => k.go (AS.put ⟨s.tm, os'⟩ dst r) | none => False) := by
  rw [astepC_eq _ _ _ _ _ (by intro _ _ _ h; cases h)]
  simp only [wrA, List.not_mem_nil, false_implies, implies_true, true_and]
@[simp] theorem astepC_store (t : TypeId) (x v : Operand) (dst : Option Tmp) (ty : TypeId) (pos : String) (after : Array Edge) (g : Option (Nat × Bool)) : @astepC P W ⟨dst, .store t x v, ty, pos, after, g⟩ k s = ((∀ i, i ∈ wrA s.tm (.store t x v) → W i) ∧ match aop P s.tm s.os (.store t x v) with | some (r, os') => k.go (AS.put ⟨s.tm, os'⟩ dst r) | none => False) := by
  rw [astepC_eq _ _ _ _ _ (by intro _ _ _ h; cases h)]
@[simp] theorem astepC_append (args : Array Operand) (ts : Array TypeId) (dst : Option Tmp) (ty : TypeId) (pos : String) (after : Array Edge) (g : Option (Nat × Bool)) : @astepC P W ⟨dst, .call { callee := .builtin .append, args := args, argTypes := ts }, ty, pos, after, g⟩ k s = ((∀ i, i ∈ wrA s.tm (.call { callee := .builtin .append, args := args, argTypes := ts }) → W i) ∧ match aop P s.tm s.os (.call { callee := .builtin .append, args := args, argTypes := ts }) with | some (r, os') => k.go (AS.put ⟨s.tm, os'⟩ dst r) | none => False) := by
  rw [astepC_eq _ _ _ _ _ (by intro _ _ _ h; cases h)]

@[simp] theorem alateC_fin (ops : Array Oper) : @alateC P W ops .fin k s = k.go s := rfl
theorem aoneC_eq (ops : Array Oper) (o : Oper) (K : AS → Prop) : AOne P W ops o K s = (match o.guard with
     | none => @astepC P W o ⟨K⟩ s
     | some (j, want) => match wantA (yieldA ops s.tm j) with | some b => if b = some want then @astepC P W o ⟨K⟩ s else K (s.put o.dst (.val undef)) | none => False) := by
  unfold AOne
  cases o.guard with
  | none => rfl
  | some g => exact guard_eq _ _ _ _
@[simp] theorem alateC_late (ops : Array Oper) (i : Nat) (p : Plan) : @alateC P W ops (.late i p) k s = (match ops[i]? with
     | some o => (match o.guard with
       | none => @astepC P W o ⟨fun s => @alateC P W ops p k s⟩ s
       | some (j, want) => match wantA (yieldA ops s.tm j) with | some b => if b = some want then @astepC P W o ⟨fun s => @alateC P W ops p k s⟩ s else @alateC P W ops p k (s.put o.dst (.val undef)) | none => False)
     | none => False) := by
  show ALate P W ops (.late i p) k.go s = _
  rw [ALate]
  cases ops[i]? with
  | none => rfl
  | some o => exact aoneC_eq _ _ _ _ _ _
@[simp] theorem alateC_two (ops : Array Oper) (i j : Nat) (p r : Plan) : @alateC P W ops (.two i j p r) k s = (@alateC P W ops (.late i p) k s ∧ @alateC P W ops (.late j r) k s) := rfl
@[simp] theorem aearlyC_nil (ws : List Nat) (ops : Array Oper) : @aearlyC P ws ops [] k s = k.go s := rfl
@[simp] theorem aearlyC_cons (ws : List Nat) (ops : Array Oper) (i : Nat) (es : List Nat) : @aearlyC P ws ops (i :: es) k s = (match ops[i]? with
     | some o => (match o.guard with
       | none => (earlyOp ws s.tm o.op = true ∧ match aop P s.tm s.os o.op with | some (r, _) => @aearlyC P ws ops es k (s.put o.dst r) | none => False)
       | some (j, want) => match wantA (yieldA ops s.tm j) with | some b => if b = some want then (earlyOp ws s.tm o.op = true ∧ match aop P s.tm s.os o.op with | some (r, _) => @aearlyC P ws ops es k (s.put o.dst r) | none => False) else @aearlyC P ws ops es k (s.put o.dst (.val undef)) | none => False)
     | none => False) := by
  show AEarly P ws ops (i :: es) k.go s = _
  rw [AEarly]
  cases ops[i]? with
  | none => rfl
  | some o =>
    simp only
    cases o.guard with
    | none => rfl
    | some g => exact guard_eq _ _ _ _

end

/-- A region that draws its order. -/
theorem adrawC_by {P : Program} {ops : Array Oper} {k : KC} {s : AS} (ws es : List Nat) (p : Plan) (hm : P.follows .mixedOrders = true) (hsel : Region.noSelect ops = true) (hd : drawOk ops p es ops.size (Array.replicate ops.size false) = true)
    (h : @aearlyC P ws ops es ⟨fun s' => @alateC P (fun o => ws.contains o = true ∨ s.os.length ≤ o) ops p k s'⟩ s) : @adrawC P ops k s :=
  ⟨ws, es, p, hm, hsel, hd, h⟩

theorem acallC_by {P : Program} {W : Nat → Prop} {f : FuncId} {args args' : List AV} {dst : Option Tmp} {K : KC} {s : AS} {os' os2 : List AO} {r : AV} (k : Nat) (hT : TriE P f args' os' r os2) (hW : ∀ o, o < k → W o) (hp : plainF P f = true) (hk : k ≤ s.os.length)
    (ha : argsF k s.os args = args') (ho : (osF k s.os args).take k = os') (hca : AV.closedL (fun o => decide (o < k)) args' = true) (hco : cloO k os' = true)
    (hl : os2.length = k) (hr : clo k r = true) (ho2 : cloO k os2 = true) (hK : K.go (AS.put ⟨s.tm, os2 ++ (osF k s.os args).drop k⟩ dst r)) : @acallC P W f args dst K s :=
  ACall.useE k hT hW hp hk ha ho hca hco hl hr ho2 hK

/-- A loop whose states are F v i: the temporaries that matter nothing are v's; b objects were there at its beginning. -/
def Again {α : Type} (b : Nat) (F : (Nat → AV) → α → AS) (C : α → Prop) (μ : α → Nat) (m : Nat) (s' : AS) : Prop :=
  ∃ k v i', b ≤ k ∧ k ≤ s'.os.length ∧ cloO k (s'.os.take k) = true ∧ cutA k s' = F v i' ∧ C i' ∧ μ i' < m
theorem Again.mk {α : Type} {b : Nat} {F : (Nat → AV) → α → AS} {C : α → Prop} {μ : α → Nat} {m : Nat} {s' : AS} (k : Nat) (i' : α) (hb : b ≤ k) (hk : k ≤ s'.os.length) (hc : cloO k (s'.os.take k) = true)
    (ht : (cutA k s').tm = (F (fun j => (cutA k s').tm.getD j (.val undef)) i').tm) (ho : ∀ v, s'.os.take k = (F v i').os) (hC : C i') (hm : μ i' < m) : Again b F C μ m s' := by
  have e : cutA k s' = F (fun j => (cutA k s').tm.getD j (.val undef)) i' := by
    rcases hX : F (fun j => (cutA k s').tm.getD j (.val undef)) i' with ⟨t', o'⟩
    have ho := ho (fun j => (cutA k s').tm.getD j (.val undef))
    rw [hX] at ht ho
    have ho2 : (cutA k s').os = o' := ho
    rcases hY : cutA k s' with ⟨t2, o2⟩
    rw [hY] at ht ho2
    simp only at ht ho2
    rw [ht, ho2]
  exact ⟨k, _, i', hb, hk, hc, e, hC, hm⟩
theorem loopC_at {P : Program} {c : Code} {q : QC} {s : AS} {α : Type} (F : (Nat → AV) → α → AS) (C : α → Prop) (μ : α → Nat) (i0 : α) (h0 : s = F (fun k => s.tm.getD k (.val undef)) i0) (hc : C i0)
    (h : ∀ v i, C i → @awpC P c ⟨fun e s' => match e with | .normal => Again s.os.length F C μ (μ i) s' | e => q.go e s'⟩ (F v i)) : @loopC P c q s := by
  refine ⟨fun m s1 => ∃ v i, s1 = F v i ∧ C i ∧ μ i = m, μ i0, ⟨_, i0, h0, hc, rfl⟩, ?_⟩
  rintro m s1 ⟨v, i, e1, c1, m1⟩
  have hh := h v i c1
  rw [← e1, m1] at hh
  have e : (QC.mk fun e s' => match e with | .normal => Again s.os.length F C μ m s' | e => q.go e s').go = fun (e : Exit) (s' : AS) => match e with | .normal => ∃ m' k, m' < m ∧ s.os.length ≤ k ∧ k ≤ s'.os.length ∧ cloO k (s'.os.take k) = true ∧ ∃ v i, cutA k s' = F v i ∧ C i ∧ μ i = m' | e => q.go e s' := by
    funext e s'
    cases e with
    | normal =>
      apply propext
      constructor
      · rintro ⟨k, v', i', h1, h2, h3, e2, c2, m2⟩
        exact ⟨_, k, m2, h1, h2, h3, v', i', e2, c2, rfl⟩
      · rintro ⟨m', k, hm, h1, h2, h3, v', i', e2, c2, rfl⟩
        exact ⟨k, v', i', h1, h2, h3, e2, c2, hm⟩
    | _ => rfl
  exact e ▸ hh

theorem tri_by {P : Program} {f : FuncId} {fn : Func} {c : Code} {args : List AV} {os : List AO} {R : AV → List AO → Prop} (hf : P.funcs[f]? = some fn) (hb : fn.body = some c) (n : Nat) (hn : fn.ntmps = n) (rs : List ResultVar) (hrs : fn.results.toList = rs)
    (h : @awpC P c ⟨APost P rs os.length R⟩ ⟨args ++ List.replicate (n - args.length) (.val undef), os⟩) : Tri P f args os R := by
  subst hn
  subst hrs
  exact tri_of_awp hf hb h

/-- A call whose triple only tells what holds of the result. -/
theorem acallC_of {P : Program} {W : Nat → Prop} {f : FuncId} {args args' : List AV} {dst : Option Tmp} {K : KC} {s : AS} {os' : List AO} {R : AV → List AO → Prop} (k : Nat) (hT : Tri P f args' os' R) (hW : ∀ o, o < k → W o) (hp : plainF P f = true) (hk : k ≤ s.os.length)
    (ha : argsF k s.os args = args') (ho : (osF k s.os args).take k = os') (hca : AV.closedL (fun o => decide (o < k)) args' = true) (hco : cloO k os' = true)
    (hK : ∀ r os2, R r os2 → os2.length = k ∧ clo k r = true ∧ cloO k os2 = true ∧ K.go (AS.put ⟨s.tm, os2 ++ (osF k s.os args).drop k⟩ dst r)) : @acallC P W f args dst K s :=
  ACall.use k hT hW hp hk ha ho hca hco hK

end Go.Proofs.Ytoaodlfmhioigaa
end

section
namespace Go.Proofs.Ytoaodlfmhioigaa

theorem ACall.mono {P : Program} {W : Nat → Prop} {f : FuncId} {args : List AV} {dst : Option Tmp} {K K' : AS → Prop} {s : AS} (hk : ∀ s, K s → K' s) (h : ACall P W f args dst K s) : ACall P W f args dst K' s := by
  rcases h with ⟨k, R, h1, h2, h3, h4, h5, h6, h7⟩ | ⟨k, R, h1, h2, h3, h4, h5, h6, h7⟩
  · exact .inl ⟨k, R, h1, h2, h3, h4, h5, h6, fun r os' hr => ⟨(h7 r os' hr).1, (h7 r os' hr).2.1, (h7 r os' hr).2.2.1, hk _ (h7 r os' hr).2.2.2⟩⟩
  · exact .inr ⟨k, R, h1, h2, h3, h4, h5, h6, fun r os' hr => ⟨(h7 r os' hr).1, (h7 r os' hr).2.1, (h7 r os' hr).2.2.1, hk _ (h7 r os' hr).2.2.2⟩⟩
theorem AStep.mono {P : Program} {W : Nat → Prop} {o : Oper} {K K' : AS → Prop} {s : AS} (hk : ∀ s, K s → K' s) (h : AStep P W o K s) : AStep P W o K' s := by
  unfold AStep at h ⊢
  split
  · rename_i ho
    simp only [ho] at h
    exact h.mono hk
  · rename_i j args ts ho
    simp only [ho] at h
    generalize s.tm[j]? = x at h ⊢
    rcases x with _ | y
    · exact h.elim
    · cases y with
      | fn fn first cap =>
        cases fn with
        | func f => exact ACall.mono hk h
        | _ => exact h.elim
      | _ => exact h.elim
  · rename_i ho1 ho2
    split at h
    · rename_i f args ts ho3
      exact absurd ho3 (ho1 f args ts)
    · rename_i f args ts ho3
      exact absurd ho3 (ho2 f args ts)
    · refine ⟨h.1, ?_⟩
      have h2 := h.2
      split at h2
      · exact hk _ h2
      · exact h2.elim
theorem AList.mono {P : Program} {ops : Array Oper} {K K' : AS → Prop} (hk : ∀ s, K s → K' s) : ∀ (l : List Oper) (s : AS), AList P ops l K s → AList P ops l K' s
  | [], s, h => hk s h
  | o :: rest, s, h => by
    unfold AList at h ⊢
    cases hg : o.guard with
    | none => rw [hg] at h; exact AStep.mono (AList.mono hk rest) h
    | some g =>
      rw [hg] at h
      obtain ⟨b, h1, h2, h3⟩ := h
      exact ⟨b, h1, fun e => AStep.mono (AList.mono hk rest) (h2 e), fun e => AList.mono hk rest _ (h3 e)⟩
theorem AOne.mono {P : Program} {W : Nat → Prop} {ops : Array Oper} {o : Oper} {K K' : AS → Prop} {s : AS} (hk : ∀ s, K s → K' s) (h : AOne P W ops o K s) : AOne P W ops o K' s := by
  unfold AOne at h ⊢
  cases hg : o.guard with
  | none => rw [hg] at h; exact AStep.mono hk h
  | some g =>
    rw [hg] at h
    obtain ⟨b, h1, h2, h3⟩ := h
    exact ⟨b, h1, fun e => AStep.mono hk (h2 e), fun e => hk _ (h3 e)⟩
theorem ALate.mono {P : Program} {W : Nat → Prop} {ops : Array Oper} {K K' : AS → Prop} (hk : ∀ s, K s → K' s) : ∀ (p : Plan) (s : AS), ALate P W ops p K s → ALate P W ops p K' s
  | .fin, s, h => hk s h
  | .late i p, s, h => by
    unfold ALate at h ⊢
    cases hi : ops[i]? with
    | none => rw [hi] at h; exact h
    | some o => rw [hi] at h; exact AOne.mono (ALate.mono hk p) h
  | .two i j p q, s, h => by
    unfold ALate at h ⊢
    refine ⟨?_, ?_⟩
    · have h1 := h.1
      cases hi : ops[i]? with
      | none => rw [hi] at h1; exact h1
      | some o => rw [hi] at h1; exact AOne.mono (ALate.mono hk p) h1
    · have h1 := h.2
      cases hi : ops[j]? with
      | none => rw [hi] at h1; exact h1
      | some o => rw [hi] at h1; exact AOne.mono (ALate.mono hk q) h1
theorem AEarly1.mono {P : Program} {ws : List Nat} {o : Oper} {K K' : AS → Prop} {s : AS} (hk : ∀ s, K s → K' s) (h : AEarly1 P ws o K s) : AEarly1 P ws o K' s := by
  refine ⟨h.1, ?_⟩
  have h2 := h.2
  split at h2
  · exact hk _ h2
  · exact h2.elim
theorem AEarly.mono {P : Program} {ws : List Nat} {ops : Array Oper} {K K' : AS → Prop} (hk : ∀ s, K s → K' s) : ∀ (es : List Nat) (s : AS), AEarly P ws ops es K s → AEarly P ws ops es K' s
  | [], s, h => hk s h
  | i :: es, s, h => by
    unfold AEarly at h ⊢
    cases hi : ops[i]? with
    | none => rw [hi] at h; exact h
    | some o =>
      rw [hi] at h
      simp only at h ⊢
      cases hg : o.guard with
      | none => rw [hg] at h; exact AEarly1.mono (AEarly.mono hk es) h
      | some g =>
        rw [hg] at h
        obtain ⟨b, h1, h2, h3⟩ := h
        exact ⟨b, h1, fun e => AEarly1.mono (AEarly.mono hk es) (h2 e), fun e => AEarly.mono hk es _ (h3 e)⟩
theorem ADraw.mono {P : Program} {ops : Array Oper} {K K' : AS → Prop} {s : AS} (hk : ∀ s, K s → K' s) (h : ADraw P ops K s) : ADraw P ops K' s := by
  obtain ⟨ws, es, p, h1, h2, h3, h4⟩ := h
  exact ⟨ws, es, p, h1, h2, h3, AEarly.mono (ALate.mono hk p) _ _ h4⟩
theorem awp_mono {P : Program} : ∀ (c : Code) {Q Q' : Exit → AS → Prop} (_ : ∀ e s, Q e s → Q' e s) (s : AS), awp P c Q s → awp P c Q' s
  | .skip, Q, Q', hq, s, h => hq _ _ h
  | .region _ ops draw, Q, Q', hq, s, h => by
    unfold awp at h ⊢
    cases draw
    · exact AList.mono (hq .normal) _ _ h
    · exact ADraw.mono (hq .normal) h
  | .seq x y, Q, Q', hq, s, h => by
    unfold awp at h ⊢
    refine awp_mono x (fun e s' h' => ?_) s h
    cases e with
    | normal => exact awp_mono y hq s' h'
    | _ => exact hq _ _ h'
  | .cond c x y, Q, Q', hq, s, h => by
    unfold awp at h ⊢
    obtain ⟨t, h1, h2, h3⟩ := h
    exact ⟨t, h1, fun e => awp_mono x hq s (h2 e), fun e => awp_mono y hq s (h3 e)⟩
  | .block id c, Q, Q', hq, s, h => by
    unfold awp at h ⊢
    refine awp_mono c (fun e s' h' => ?_) s h
    cases e with
    | exit j => by_cases hj : j = id <;> simp only [hj, if_true, if_false] at h' ⊢ <;> exact hq _ _ h'
    | _ => exact hq _ _ h'
  | .loop c, Q, Q', hq, s, h => by
    unfold awp at h ⊢
    obtain ⟨I, m, h1, h2⟩ := h
    refine ⟨I, m, h1, fun m s1 hi => awp_mono c (fun e s' h' => ?_) s1 (h2 m s1 hi)⟩
    cases e with
    | normal => exact h'
    | _ => exact hq _ _ h'
  | .exit id, Q, Q', hq, s, h => hq _ _ h
  | .ret, Q, Q', hq, s, h => hq _ _ h
  | .label _, Q, Q', hq, s, h => hq _ _ h
  | .rangeFunc .., _, _, _, _, h => by exact h.elim
  | .scope _, _, _, _, _, h => by exact h.elim
  | .goto _, _, _, _, _, h => by exact h.elim
  | .refuse _, _, _, _, _, h => by exact h.elim

/-- A loop is left in one of its states. -/
def Left {α : Type} (F : (Nat → AV) → α → AS) (C : α → Prop) (s' : AS) : Prop := ∃ v i', s' = F v i' ∧ C i'
theorem Left.mk {α : Type} {F : (Nat → AV) → α → AS} {C : α → Prop} {s' : AS} (i' : α) (ht : s'.tm = (F (fun j => s'.tm.getD j (.val undef)) i').tm) (ho : ∀ v, s'.os = (F v i').os) (hC : C i') : Left F C s' := by
  refine ⟨fun j => s'.tm.getD j (.val undef), i', ?_, hC⟩
  rcases hX : F (fun j => s'.tm.getD j (.val undef)) i' with ⟨t', o'⟩
  have ho := ho (fun j => s'.tm.getD j (.val undef))
  rw [hX] at ht ho
  cases s'
  simp only at ht ho
  rw [ht, ho]
theorem loopC_to {P : Program} {c : Code} {q : QC} {s : AS} {α : Type} (x : Nat) (F : (Nat → AV) → α → AS) (C C' : α → Prop) (μ : α → Nat) (i0 : α) (h0 : s = F (fun k => s.tm.getD k (.val undef)) i0) (hc : C i0)
    (h : ∀ v i, C i → @awpC P c ⟨fun e s' => match e with | .normal => Again s.os.length F C μ (μ i) s' | .exit j => if j = x then Left F C' s' else q.go (.exit j) s' | e => q.go e s'⟩ (F v i))
    (hX : ∀ v i, C' i → q.go (.exit x) (F v i)) : @loopC P c q s := by
  refine loopC_at F C μ i0 h0 hc fun v i hi => awp_mono c (fun e s' h' => ?_) _ (h v i hi)
  cases e with
  | exit j =>
    by_cases hj : j = x
    · subst hj
      simp only [if_true] at h'
      obtain ⟨v', i', rfl, hC⟩ := h'
      exact hX v' i' hC
    · simp only [if_neg hj] at h'
      exact h'
  | _ => exact h'
end Go.Proofs.Ytoaodlfmhioigaa
end

section
namespace Go.Proofs.Ytoaodlfmhioigaa
open Go.RowKit

/-- A function that is told of one object is told of it wherever it stands. -/
theorem Tri.mid {P : Program} {f : FuncId} {cs : List AV} {A : AO} {R : AV → List AO → Prop} (hT : Tri P f (.ref 0 0 0 :: cs) [A] R) (hcs : AV.closedL (fun _ => false) cs = true) (hA : AV.closedL (fun _ => false) A.cells = true) (hAl : A.live = true)
    (hR : ∀ r o, R r o → ∃ A', o = [A'] ∧ A'.live = true ∧ AV.closedL (fun _ => false) A'.cells = true ∧ r.closed (fun _ => false) = true) {os : List AO} {m : Nat} (hm : os[m]? = some A) :
    Tri P f (.ref m 0 0 :: cs) os fun r o => ∃ A', R r [A'] ∧ o = os.set m A' := by
  intro X ρ w us h hv
  obtain ⟨b, hb⟩ := h.block hm
  have hmlt := (List.getElem?_eq_some_iff.1 hm).1
  have hcm : curOf ρ os m = some (b, A.g) := curOf_mk hm hb hAl
  obtain ⟨X', hX'⟩ : ∃ X' : Nat → Prop, X' = fun c => X c ∨ ∃ o g, o ≠ m ∧ curOf ρ os o = some (c, g) := ⟨_, rfl⟩
  have hx : ∀ c, X' c ↔ X c ∨ ∃ o g, o ≠ m ∧ curOf ρ os o = some (c, g) := fun c => by rw [hX']
  have hcL : curOf [b] [A] 0 = some (b, A.g) := curOf_mk rfl rfl hAl
  have hcL1 : ∀ o c g, curOf [b] [A] o = some (c, g) → o = 0 ∧ c = b ∧ g = A.g := fun o c g hc => by
    obtain ⟨a, h1, h2, _, h4⟩ := curOf_some hc
    have h0 : o = 0 := by
      have := (List.getElem?_eq_some_iff.1 h1).1
      simpa using this
    subst h0
    simp at h1 h2
    exact ⟨rfl, h2.symm, by rw [← h4, h1]⟩
  have hdata : ∀ c, (envOf X ρ w os).data c ↔ (envOf X' [b] w [A]).data c := fun c => by
    constructor
    · rintro ⟨d1, d2, d3⟩
      refine ⟨d1, fun ⟨o, g, hc⟩ => ?_, fun hc => ?_⟩
      · obtain ⟨_, rfl, _⟩ := hcL1 o c g hc
        exact d2 ⟨m, _, hcm⟩
      · rcases (hx c).1 hc with hc | ⟨o, g, _, hc⟩
        · exact d3 hc
        · exact d2 ⟨o, g, hc⟩
    · rintro ⟨d1, d2, d3⟩
      refine ⟨d1, fun ⟨o, g, hc⟩ => ?_, fun hc => d3 ((hx c).2 (.inl hc))⟩
      by_cases ho : o = m
      · subst ho
        rw [hcm] at hc
        injection hc with hc
        injection hc with h1 h2
        subst h1
        exact d2 ⟨0, _, hcL⟩
      · exact d3 ((hx c).2 (.inr ⟨o, g, ho, hc⟩))
  have hleL : Env.LeC (fun _ => false) (envOf X ρ w os) (envOf X' [b] w [A]) := ⟨fun _ _ e => (by cases e), fun _ _ _ e => (by cases e), fun c hc => (hdata c).1 hc, fun _ _ _ => rfl⟩
  have hsrL : SR X' [b] w [A] := by
    refine ⟨rfl, fun c hl hc => ?_, fun c hc => ?_, fun o o' c g g' h1 h2 => ?_, fun o a c ho hl hc => ?_⟩
    · obtain ⟨o, g, hl⟩ := hl
      obtain ⟨_, rfl, _⟩ := hcL1 o c g hl
      rcases (hx c).1 hc with hc | ⟨o', g', ho', hc⟩
      · exact h.apart c ⟨m, _, hcm⟩ hc
      · exact ho' (h.inj o' m c _ _ hc hcm)
    · rcases (hx c).1 hc with hc | ⟨o', g', ho', hc⟩
      · exact h.xlt c hc
      · exact h.lt ⟨o', g', hc⟩
    · rw [(hcL1 _ _ _ h1).1, (hcL1 _ _ _ h2).1]
    · have h0 : o = 0 := by
        have := (List.getElem?_eq_some_iff.1 ho).1
        simpa using this
      subst h0
      simp at ho hc
      subst ho; subst hc
      obtain ⟨arr, k1, k2, k3⟩ := h.obj m A b hm hl hb
      exact ⟨arr, k1, k2, VL.leC hleL _ _ hA k3⟩
  have hvL : VL (envOf X' [b] w [A]) (.ref 0 0 0 :: cs) us := by
    match us, hv with
    | u :: us', ⟨⟨hd, hs, hu⟩, hv2⟩ =>
      refine ⟨⟨?_, hs, fun c hc => ?_⟩, VL.leC hleL _ _ hcs hv2⟩
      · exact ⟨A, rfl, Nat.zero_le _⟩
      · obtain ⟨_, rfl, hg⟩ := hcL1 0 c 0 hc
        exact hu _ (by rw [hg]; exact hcm)
    | [], hv => exact hv.elim
  refine (hT X' [b] w us hsrL hvL).mono ?_
  rintro e w' ⟨v, r, os', ρ', rfl, hRr, hgo, hvr⟩
  obtain ⟨A', rfl, hAl', hA', hr⟩ := hR r os' hRr
  obtain ⟨b', hb'⟩ : ∃ b', ρ' = [b'] := by
    have := hgo.sr.len
    match ρ', this with
    | [b'], _ => exact ⟨b', rfl⟩
  subst hb'
  have hcL' : curOf [b'] [A'] 0 = some (b', A'.g) := curOf_mk rfl rfl hAl'
  have hg : A.g ≤ A'.g := by
    obtain ⟨a, ha, hga⟩ := hgo.le.dom 0 A.g ⟨A, rfl, Nat.le_refl _⟩
    simp at ha
    rw [ha]; exact hga
  have hsame : A'.g = A.g → b' = b ∧ sizeAt w' b = sizeAt w b := fun e => by
    obtain ⟨q1, q2⟩ := hgo.le.cur 0 b' A'.g ⟨A, rfl, by rw [e]; exact Nat.le_refl _⟩ hcL'
    obtain ⟨_, q3, _⟩ := hcL1 0 b' A'.g q1
    subst q3
    exact ⟨rfl, q2⟩
  have hbb : (∃ g, curOf ρ os m = some (b', g)) ∨ w.heap.size ≤ b' := by
    rcases hgo.obj 0 b' A'.g hcL' with ⟨g', q⟩ | q
    · obtain ⟨_, q3, _⟩ := hcL1 0 b' g' q
      exact .inl ⟨_, by rw [q3]; exact hcm⟩
    · exact .inr q
  have hupd : Upd (fun k => ∃ g, curOf ρ os m = some (k, g)) w w' := hgo.upd.wide fun k _ ⟨o, g, _, hc⟩ => by
    obtain ⟨_, rfl, _⟩ := hcL1 o k g hc
    exact ⟨_, hcm⟩
  have hlen := h.len
  have hρm : (ρ.set m b')[m]? = some b' := by rw [List.getElem?_set_self (by omega)]
  have hom : (os.set m A')[m]? = some A' := by rw [List.getElem?_set_self hmlt]
  have hcur2 : ∀ o, o ≠ m → curOf (ρ.set m b') (os.set m A') o = curOf ρ os o := fun o ho => by
    unfold curOf
    rw [List.getElem?_set_ne (Ne.symm ho), List.getElem?_set_ne (Ne.symm ho)]
  have hcur2m : curOf (ρ.set m b') (os.set m A') m = some (b', A'.g) := curOf_mk hom hρm hAl'
  have hdata2 : ∀ c, (envOf X' [b'] w' [A']).data c → (envOf X (ρ.set m b') w' (os.set m A')).data c := by
    rintro c ⟨d1, d2, d3⟩
    refine ⟨d1, fun ⟨o, g, hc⟩ => ?_, fun hc => d3 ((hx c).2 (.inl hc))⟩
    by_cases ho : o = m
    · subst ho
      rw [hcur2m] at hc
      injection hc with hc
      injection hc with h1 h2
      subst h1
      exact d2 ⟨0, _, hcL'⟩
    · rw [hcur2 o ho] at hc
      exact d3 ((hx c).2 (.inr ⟨o, g, ho, hc⟩))
  have hle2 : Env.LeC (fun _ => false) (envOf X' [b'] w' [A']) (envOf X (ρ.set m b') w' (os.set m A')) := ⟨fun _ _ e => (by cases e), fun _ _ _ e => (by cases e), hdata2, fun _ _ _ => rfl⟩
  have ht := h.turn (ρ' := ρ.set m b') (os' := os.set m A') (w' := w') m A' b' hupd (by simp [hlen]) (by simp) (fun i hi => List.getElem?_set_ne (Ne.symm hi)) (fun i hi => List.getElem?_set_ne (Ne.symm hi)) hom hρm hbb
    (fun a ha => by rw [hm] at ha; injection ha with ha; rw [← ha]; exact hg)
    (fun c hc _ => by
      rw [hcm] at hc
      injection hc with hc
      injection hc with h1 h2
      subst h1
      exact hsame h2.symm)
    (fun a ha _ _ => by rw [hm] at ha; injection ha with ha; rw [← ha]; exact hAl)
    (fun _ _ => by
      obtain ⟨arr, k1, k2, k3⟩ := hgo.sr.obj 0 A' b' rfl hAl' rfl
      exact ⟨arr, k1, k2, VL.leC hle2 _ _ hA' k3⟩)
  exact ⟨v, r, os.set m A', ρ.set m b', rfl, ⟨A', hRr, rfl⟩, ⟨ht.1, ht.2.1, hupd.wide fun k _ ⟨g, hc⟩ => ⟨m, g, trivial, hc⟩, ht.2.2⟩, VR.leC hle2 _ _ hr hvr⟩

theorem TriE.mid {P : Program} {f : FuncId} {cs : List AV} {A A' : AO} {r : AV} (hT : TriE P f (.ref 0 0 0 :: cs) [A] r [A']) (hcs : AV.closedL (fun _ => false) cs = true) (hA : AV.closedL (fun _ => false) A.cells = true) (hAl : A.live = true)
    (hA' : AV.closedL (fun _ => false) A'.cells = true) (hAl' : A'.live = true) (hr : r.closed (fun _ => false) = true) {os : List AO} {m : Nat} (hm : os[m]? = some A) :
    TriE P f (.ref m 0 0 :: cs) os r (os.set m A') :=
  (Tri.mid hT hcs hA hAl (fun r' o ⟨e1, e2⟩ => ⟨A', e2, hAl', hA', by rw [e1]; exact hr⟩) hm).mono fun r' o ⟨A2, ⟨e1, e2⟩, e3⟩ => ⟨e1, by rw [e3]; injection e2 with e2; rw [e2]⟩
end Go.Proofs.Ytoaodlfmhioigaa
end

section
namespace Go.Proofs.Ytoaodlfmhioigaa
open Go.RowKit

/-- A walk whose new objects are kept: the first kk. -/
theorem tri_of_awp_more {P : Program} {f : FuncId} {fn : Func} {c : Code} {args : List AV} {os : List AO} {R : AV → List AO → Prop} (kk : Nat) (hkk : os.length ≤ kk) (hf : P.funcs[f]? = some fn) (hb : fn.body = some c)
    (h : awp P c (APost P fn.results.toList kk R) ⟨args ++ List.replicate (fn.ntmps - args.length) (.val undef), os⟩) : Tri P f args os R := by
  intro X ρ w us hsr hv
  have hl := VL.length hv
  have hrel : Rel X ρ w ⟨args ++ List.replicate (fn.ntmps - args.length) (.val undef), os⟩ { tmps := us.toArray ++ Array.replicate (fn.ntmps - us.toArray.size) undef, defers := [] } := by
    refine ⟨hsr, ?_, rfl⟩
    simp only [Array.toList_append, Array.toList_replicate, List.size_toArray, hl, List.toList_toArray]
    exact hv.append (vl_undef _ _)
  refine calls_of_wp hf hb (wp_mono (awp_sound c _ _ ρ w _ hrel h) ?_)
  rintro e a' w' ⟨s', ρ', hq, hg, hr⟩
  have finish : (∃ r, resA P fn.results.toList s' = some r ∧ kk ≤ s'.os.length ∧ clo kk (finV kk s'.os r) = true ∧ cloO kk (fin kk s'.os) = true ∧ R (finV kk s'.os r) (fin kk s'.os)) →
      a'.defers = [] ∧ ∃ v, (results fn a'.tmps).run P w' = .ok v w' ∧ ∃ v_1 r os' ρ'', (Ending.returned v = .returned v_1) ∧ R r os' ∧ Goes X (fun _ => True) ρ ρ'' w w' os os' ∧ VR (envOf X ρ'' w' os') r v_1 := by
    rintro ⟨r, h1, h2, h3, h4, h5⟩
    obtain ⟨v, e1, e2⟩ := resA_sound hr h1
    obtain ⟨k1, k2, k3, k4⟩ := hr.sr.fin kk h2 h4
    refine ⟨hr.defers, v, e1, v, _, _, ρ'.take kk, rfl, h5, ⟨k1, ?_, hg.upd, fun i b g hc => hg.obj i b g (by rw [← k3 i (by obtain ⟨x, hx, _⟩ := curOf_some hc; have := (List.getElem?_eq_some_iff.1 hx).1; unfold fin at this; simp at this; omega)]; exact hc)⟩, k2 r v h3 e2⟩
    have hget : ∀ (o : Nat) (x : AO), o < kk → s'.os[o]? = some x → ∃ y, (fin kk s'.os)[o]? = some y ∧ y.g = x.g := fun o x ho hx => by
      refine ⟨frzO s'.os (fun o => decide (kk ≤ o)) 4 (if decide (kk ≤ o) then { x with live := false } else x), ?_, by simp only [frzO]; split <;> rfl⟩
      unfold fin
      rw [List.getElem?_map, List.getElem?_take, if_pos ho, ends_get, hx]
      rfl
    refine ⟨?_, ?_, ?_, ?_⟩
    · rintro o g hd
      have ho : o < kk := by
        obtain ⟨x, hx, _⟩ := hd
        exact Nat.lt_of_lt_of_le (List.getElem?_eq_some_iff.1 hx).1 hkk
      obtain ⟨x, hx, hgx⟩ := hg.le.dom o g hd
      obtain ⟨y, hy, hyg⟩ := hget o x ho hx
      exact ⟨y, hy, by omega⟩
    · intro o b g hd hc
      have ho : o < kk := by
        obtain ⟨x, hx, _⟩ := hd
        exact Nat.lt_of_lt_of_le (List.getElem?_eq_some_iff.1 hx).1 hkk
      exact hg.le.cur o b g hd ((k3 o ho).symm.trans hc)
    · intro b hb
      obtain ⟨d1, d2, d3⟩ := hg.le.data b hb
      exact ⟨d1, fun hl => d2 (k4 b hl), d3⟩
    · intro b i hb
      exact hg.le.cell b i hb
  cases e with
  | normal => exact finish hq
  | ret => exact finish hq
  | exit _ => exact hq.elim
  | goto _ => exact hq.elim
  | panic _ => exact hq.elim
  | outgrown => exact hq.elim
theorem tri_by_more {P : Program} {f : FuncId} {fn : Func} {c : Code} {args : List AV} {os : List AO} {R : AV → List AO → Prop} (kk : Nat) (hkk : os.length ≤ kk) (hf : P.funcs[f]? = some fn) (hb : fn.body = some c) (n : Nat) (hn : fn.ntmps = n) (rs : List ResultVar) (hrs : fn.results.toList = rs)
    (h : @awpC P c ⟨APost P rs kk R⟩ ⟨args ++ List.replicate (n - args.length) (.val undef), os⟩) : Tri P f args os R := by
  subst hn
  subst hrs
  exact tri_of_awp_more kk hkk hf hb h

/-- A row is given, a new one comes back: told as the same object that has moved. -/
theorem Tri.moved {P : Program} {f : FuncId} {cs : List AV} {A : AO} {sz n n' g' p : Nat} {B : AO} (hT : Tri P f (.row 0 sz 0 n A.g :: cs) [A] fun r o => r = .row p sz 0 n' g' ∧ o[p]? = some B ∧ 1 ≤ p ∧ o.length = p + 1) (hcs : AV.closedL (fun _ => false) cs = true) (hA : AV.closedL (fun _ => false) A.cells = true) (hAl : A.live = true)
    (hB : AV.closedL (fun _ => false) B.cells = true) (hBl : B.live = true) (hBg : B.g = g') {os : List AO} {m : Nat} (hm : os[m]? = some A) :
    TriE P f (.row m sz 0 n A.g :: cs) os (.row m sz 0 n' (A.g + 1)) (os.set m { B with g := A.g + 1 }) := by
  intro X ρ w us h hv
  obtain ⟨b, hb⟩ := h.block hm
  have hmlt := (List.getElem?_eq_some_iff.1 hm).1
  have hcm : curOf ρ os m = some (b, A.g) := curOf_mk hm hb hAl
  obtain ⟨X', hX'⟩ : ∃ X' : Nat → Prop, X' = fun c => X c ∨ ∃ o g, o ≠ m ∧ curOf ρ os o = some (c, g) := ⟨_, rfl⟩
  have hx : ∀ c, X' c ↔ X c ∨ ∃ o g, o ≠ m ∧ curOf ρ os o = some (c, g) := fun c => by rw [hX']
  have hcL : curOf [b] [A] 0 = some (b, A.g) := curOf_mk rfl rfl hAl
  have hcL1 : ∀ o c g, curOf [b] [A] o = some (c, g) → o = 0 ∧ c = b ∧ g = A.g := fun o c g hc => by
    obtain ⟨a, h1, h2, _, h4⟩ := curOf_some hc
    have h0 : o = 0 := by
      have := (List.getElem?_eq_some_iff.1 h1).1
      simpa using this
    subst h0
    simp at h1 h2
    exact ⟨rfl, h2.symm, by rw [← h4, h1]⟩
  have hdata : ∀ c, (envOf X ρ w os).data c ↔ (envOf X' [b] w [A]).data c := fun c => by
    constructor
    · rintro ⟨d1, d2, d3⟩
      refine ⟨d1, fun ⟨o, g, hc⟩ => ?_, fun hc => ?_⟩
      · obtain ⟨_, rfl, _⟩ := hcL1 o c g hc
        exact d2 ⟨m, _, hcm⟩
      · rcases (hx c).1 hc with hc | ⟨o, g, _, hc⟩
        · exact d3 hc
        · exact d2 ⟨o, g, hc⟩
    · rintro ⟨d1, d2, d3⟩
      refine ⟨d1, fun ⟨o, g, hc⟩ => ?_, fun hc => d3 ((hx c).2 (.inl hc))⟩
      by_cases ho : o = m
      · subst ho
        rw [hcm] at hc
        injection hc with hc
        injection hc with h1 h2
        subst h1
        exact d2 ⟨0, _, hcL⟩
      · exact d3 ((hx c).2 (.inr ⟨o, g, ho, hc⟩))
  have hleL : Env.LeC (fun _ => false) (envOf X ρ w os) (envOf X' [b] w [A]) := ⟨fun _ _ e => (by cases e), fun _ _ _ e => (by cases e), fun c hc => (hdata c).1 hc, fun _ _ _ => rfl⟩
  have hsrL : SR X' [b] w [A] := by
    refine ⟨rfl, fun c hl hc => ?_, fun c hc => ?_, fun o o' c g g' h1 h2 => ?_, fun o a c ho hl hc => ?_⟩
    · obtain ⟨o, g, hl⟩ := hl
      obtain ⟨_, rfl, _⟩ := hcL1 o c g hl
      rcases (hx c).1 hc with hc | ⟨o', g', ho', hc⟩
      · exact h.apart c ⟨m, _, hcm⟩ hc
      · exact ho' (h.inj o' m c _ _ hc hcm)
    · rcases (hx c).1 hc with hc | ⟨o', g', ho', hc⟩
      · exact h.xlt c hc
      · exact h.lt ⟨o', g', hc⟩
    · rw [(hcL1 _ _ _ h1).1, (hcL1 _ _ _ h2).1]
    · have h0 : o = 0 := by
        have := (List.getElem?_eq_some_iff.1 ho).1
        simpa using this
      subst h0
      simp at ho hc
      subst ho; subst hc
      obtain ⟨arr, k1, k2, k3⟩ := h.obj m A b hm hl hb
      exact ⟨arr, k1, k2, VL.leC hleL _ _ hA k3⟩
  have hvL : VL (envOf X' [b] w [A]) (.row 0 sz 0 n A.g :: cs) us := by
    match us, hv with
    | u :: us', ⟨⟨hd, hs, hu⟩, hv2⟩ =>
      refine ⟨⟨⟨A, rfl, Nat.le_refl _⟩, hs, fun c hc => ?_⟩, VL.leC hleL _ _ hcs hv2⟩
      obtain ⟨_, rfl, _⟩ := hcL1 0 c _ hc
      exact hu _ hcm
    | [], hv => exact hv.elim
  refine (hT X' [b] w us hsrL hvL).mono ?_
  rintro e w' ⟨v, r, os', ρ', rfl, ⟨rfl, hop, hp1, hlo⟩, hgo, hvr⟩
  obtain ⟨b', hb'⟩ := hgo.sr.block hop
  have hcB : curOf ρ' os' p = some (b', B.g) := curOf_mk hop hb' hBl
  have hnew : w.heap.size ≤ b' := by
    rcases hgo.obj p b' B.g hcB with ⟨g2, q⟩ | q
    · obtain ⟨q1, _⟩ := hcL1 p b' g2 q
      omega
    · exact q
  have hupd : Upd (fun k => ∃ g, curOf ρ os m = some (k, g)) w w' := hgo.upd.wide fun k _ ⟨o, g, _, hc⟩ => by
    obtain ⟨_, rfl, _⟩ := hcL1 o k g hc
    exact ⟨_, hcm⟩
  have hlen := h.len
  have hρm : (ρ.set m b')[m]? = some b' := by rw [List.getElem?_set_self (by omega)]
  have hom : (os.set m { B with g := A.g + 1 })[m]? = some { B with g := A.g + 1 } := by rw [List.getElem?_set_self hmlt]
  have hcur2 : ∀ o, o ≠ m → curOf (ρ.set m b') (os.set m { B with g := A.g + 1 }) o = curOf ρ os o := fun o ho => by
    unfold curOf
    rw [List.getElem?_set_ne (Ne.symm ho), List.getElem?_set_ne (Ne.symm ho)]
  have hcur2m : curOf (ρ.set m b') (os.set m { B with g := A.g + 1 }) m = some (b', A.g + 1) := curOf_mk hom hρm hBl
  have hdata2 : ∀ c, (envOf X' ρ' w' os').data c → (envOf X (ρ.set m b') w' (os.set m { B with g := A.g + 1 })).data c := by
    rintro c ⟨d1, d2, d3⟩
    refine ⟨d1, fun ⟨o, g, hc⟩ => ?_, fun hc => d3 ((hx c).2 (.inl hc))⟩
    by_cases ho : o = m
    · subst ho
      rw [hcur2m] at hc
      injection hc with hc
      injection hc with h1 h2
      subst h1
      exact d2 ⟨p, _, hcB⟩
    · rw [hcur2 o ho] at hc
      exact d3 ((hx c).2 (.inr ⟨o, g, ho, hc⟩))
  have hle2 : Env.LeC (fun _ => false) (envOf X' ρ' w' os') (envOf X (ρ.set m b') w' (os.set m { B with g := A.g + 1 })) := ⟨fun _ _ e => (by cases e), fun _ _ _ e => (by cases e), hdata2, fun _ _ _ => rfl⟩
  have ht := h.turn (ρ' := ρ.set m b') (os' := os.set m { B with g := A.g + 1 }) (w' := w') m { B with g := A.g + 1 } b' hupd (by simp [hlen]) (by simp) (fun i hi => List.getElem?_set_ne (Ne.symm hi)) (fun i hi => List.getElem?_set_ne (Ne.symm hi)) hom hρm (.inr hnew)
    (fun a ha => by rw [hm] at ha; injection ha with ha; rw [← ha]; exact Nat.le_succ _)
    (fun c hc _ => by
      rw [hcm] at hc
      injection hc with hc
      injection hc with h1 h2
      simp at h2)
    (fun a ha _ _ => by rw [hm] at ha; injection ha with ha; rw [← ha]; exact hAl)
    (fun _ _ => by
      obtain ⟨arr, k1, k2, k3⟩ := hgo.sr.obj p B b' hop hBl hb'
      exact ⟨arr, k1, k2, VL.leC hle2 _ _ hB k3⟩)
  refine ⟨v, _, _, ρ.set m b', rfl, ⟨rfl, rfl⟩, ⟨ht.1, ht.2.1, hupd.wide fun k _ ⟨g, hc⟩ => ⟨m, g, trivial, hc⟩, ht.2.2⟩, ?_⟩
  obtain ⟨_, hs, hu⟩ := hvr
  refine ⟨⟨_, hom, Nat.le_refl _⟩, hs, fun c hc => ?_⟩
  have hc2 : curOf (ρ.set m b') (os.set m { B with g := A.g + 1 }) m = some (c, A.g + 1) := hc
  rw [hcur2m] at hc2
  injection hc2 with hc2
  injection hc2 with h1 _
  subst h1
  exact hu b' (by rw [← hBg]; exact hcB)
end Go.Proofs.Ytoaodlfmhioigaa
end

section
namespace Go.Proofs.Ytoaodlfmhioigaa
open Go.RowKit

/-- What stands at a function's end, nothing frozen. -/
@[simp] def APostR (P : Program) (rs : List ResultVar) (k : Nat) (R : AV → List AO → Prop) : Exit → AS → Prop
  | .normal, s => ∃ r, resA P rs s = some r ∧ k ≤ s.os.length ∧ clo k r = true ∧ cloO k (s.os.take k) = true ∧ R r (s.os.take k)
  | .ret, s => ∃ r, resA P rs s = some r ∧ k ≤ s.os.length ∧ clo k r = true ∧ cloO k (s.os.take k) = true ∧ R r (s.os.take k)
  | _, _ => False

theorem tri_of_awp_raw {P : Program} {f : FuncId} {fn : Func} {c : Code} {args : List AV} {os : List AO} {R : AV → List AO → Prop} (kk : Nat) (hkk : os.length ≤ kk) (hf : P.funcs[f]? = some fn) (hb : fn.body = some c)
    (h : awp P c (APostR P fn.results.toList kk R) ⟨args ++ List.replicate (fn.ntmps - args.length) (.val undef), os⟩) : Tri P f args os R := by
  intro X ρ w us hsr hv
  have hl := VL.length hv
  have hrel : Rel X ρ w ⟨args ++ List.replicate (fn.ntmps - args.length) (.val undef), os⟩ { tmps := us.toArray ++ Array.replicate (fn.ntmps - us.toArray.size) undef, defers := [] } := by
    refine ⟨hsr, ?_, rfl⟩
    simp only [Array.toList_append, Array.toList_replicate, List.size_toArray, hl, List.toList_toArray]
    exact hv.append (vl_undef _ _)
  refine calls_of_wp hf hb (wp_mono (awp_sound c _ _ ρ w _ hrel h) ?_)
  rintro e a' w' ⟨s', ρ', hq, hg, hr⟩
  have finish : (∃ r, resA P fn.results.toList s' = some r ∧ kk ≤ s'.os.length ∧ clo kk r = true ∧ cloO kk (s'.os.take kk) = true ∧ R r (s'.os.take kk)) →
      a'.defers = [] ∧ ∃ v, (results fn a'.tmps).run P w' = .ok v w' ∧ ∃ v_1 r os' ρ'', (Ending.returned v = .returned v_1) ∧ R r os' ∧ Goes X (fun _ => True) ρ ρ'' w w' os os' ∧ VR (envOf X ρ'' w' os') r v_1 := by
    rintro ⟨r, h1, h2, h3, h4, h5⟩
    obtain ⟨v, e1, e2⟩ := resA_sound hr h1
    obtain ⟨k1, k2, k4⟩ := hr.sr.cut kk h2 (fun o a ho ha _ => by
      unfold cloO at h4
      rw [List.all_eq_true] at h4
      exact h4 a (List.mem_of_getElem? (i := o) (by rw [List.getElem?_take, if_pos ho]; exact ha)))
    have k3 : ∀ o, o < kk → curOf (ρ'.take kk) (s'.os.take kk) o = curOf ρ' s'.os o := fun o ho => by
      unfold curOf
      rw [List.getElem?_take, List.getElem?_take, if_pos ho, if_pos ho]
    refine ⟨hr.defers, v, e1, v, r, _, ρ'.take kk, rfl, h5, ⟨k1, ?_, hg.upd, fun i b g hc => hg.obj i b g (by rw [← k3 i (by obtain ⟨x, hx, _⟩ := curOf_some hc; have := (List.getElem?_eq_some_iff.1 hx).1; simp at this; omega)]; exact hc)⟩, VR.leC k2 _ _ h3 e2⟩
    refine ⟨?_, ?_, ?_, ?_⟩
    · rintro o g hd
      have ho : o < kk := by
        obtain ⟨x, hx, _⟩ := hd
        exact Nat.lt_of_lt_of_le (List.getElem?_eq_some_iff.1 hx).1 hkk
      obtain ⟨x, hx, hgx⟩ := hg.le.dom o g hd
      exact ⟨x, by rw [List.getElem?_take, if_pos ho]; exact hx, hgx⟩
    · intro o b g hd hc
      have ho : o < kk := by
        obtain ⟨x, hx, _⟩ := hd
        exact Nat.lt_of_lt_of_le (List.getElem?_eq_some_iff.1 hx).1 hkk
      exact hg.le.cur o b g hd ((k3 o ho).symm.trans hc)
    · intro b hb
      obtain ⟨d1, d2, d3⟩ := hg.le.data b hb
      exact ⟨d1, fun hl => d2 (k4 b hl), d3⟩
    · intro b i hb
      exact hg.le.cell b i hb
  cases e with
  | normal => exact finish hq
  | ret => exact finish hq
  | exit _ => exact hq.elim
  | goto _ => exact hq.elim
  | panic _ => exact hq.elim
  | outgrown => exact hq.elim
theorem tri_by_raw {P : Program} {f : FuncId} {fn : Func} {c : Code} {args : List AV} {os : List AO} {R : AV → List AO → Prop} (kk : Nat) (hkk : os.length ≤ kk) (hf : P.funcs[f]? = some fn) (hb : fn.body = some c) (n : Nat) (hn : fn.ntmps = n) (rs : List ResultVar) (hrs : fn.results.toList = rs)
    (h : @awpC P c ⟨APostR P rs kk R⟩ ⟨args ++ List.replicate (n - args.length) (.val undef), os⟩) : Tri P f args os R := by
  subst hn
  subst hrs
  exact tri_of_awp_raw kk hkk hf hb h
/-- A call whose arguments stand as they are. -/
theorem acallC_raw {P : Program} {W : Nat → Prop} {f : FuncId} {args : List AV} {dst : Option Tmp} {K : KC} {s : AS} {os' os2 : List AO} {r : AV} (k : Nat) (hT : TriE P f args os' r os2) (hW : ∀ o, o < k → W o) (hp : plainF P f = true) (hk : k ≤ s.os.length)
    (ho : s.os.take k = os') (hca : AV.closedL (fun o => decide (o < k)) args = true) (hco : cloO k os' = true)
    (hl : os2.length = k) (hr : clo k r = true) (ho2 : cloO k os2 = true) (hK : K.go (AS.put ⟨s.tm, os2 ++ s.os.drop k⟩ dst r)) : @acallC P W f args dst K s :=
  .inr ⟨k, fun r' o' => r' = r ∧ o' = os2, hW, hp, hk, hca, by rw [ho]; exact hco, by rw [ho]; exact hT, fun _ _ ⟨e1, e2⟩ => by subst e1; subst e2; exact ⟨hl, hr, ho2, hK⟩⟩
end Go.Proofs.Ytoaodlfmhioigaa
end
