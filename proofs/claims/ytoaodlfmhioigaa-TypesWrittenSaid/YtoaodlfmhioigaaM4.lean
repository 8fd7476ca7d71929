/- A part of the proof of TypesWrittenSaid. No condition. -/
import Derived.Test.YtoaodlfmhioigaaM3
import Derived.OrdersHeld
set_option linter.unusedSimpArgs false
set_option linter.unusedVariables false
section
namespace Go.Proofs.Ytoaodlfmhioigaa
open Go.RowKit

/-- Operations that read at most objects that the region doesn't write. -/
@[simp] def earlyOp (ws : List Nat) (tm : List AV) : Op → Bool
  | .move _ => true
  | .assign _ => true
  | .pick _ _ _ => true
  | .binOp _ _ _ _ _ => true
  | .unOp _ _ _ => true
  | .field _ _ _ => true
  | .extract _ _ => true
  | .makeInterface _ _ => true
  | .makeFunc _ _ _ => true
  | .index _ _ _ => true
  | .fieldAddr _ _ _ => true
  | .nilCheck _ => true
  | .indexAddr _ _ _ => true
  | .slice _ _ _ _ _ => true
  | .build _ _ => true
  | .load _ x => match ev tm x with | .ref o _ _ => !ws.contains o | .dat _ => true | _ => false
  | .call { callee := .builtin .len, args := _, argTypes := _ } => true
  | _ => false

/-- A world in which all stands that the region doesn't write. -/
def Sw (W : Nat → Prop) (ρ : List Nat) (w : World) (os : List AO) (w' : World) : Prop := ∀ b, b < w.heap.size → ¬ Lw W ρ os b → w'.heap[b]? = w.heap[b]?

theorem loadA_at {P : Program} {X : Nat → Prop} {ρ : List Nat} {w : World} {os : List AO} (h : SR X ρ w os) {t : TypeId} {x r : AV} {u : Value} (hx : VR (envOf X ρ w os) x u) (hr : loadA P os t x = some r) :
    ∃ b v, ((∃ o off g, x = .ref o off g ∧ curOf ρ os o = some (b, g)) ∨ (envOf X ρ w os).data b) ∧ VR (envOf X ρ w os) r v ∧ ∀ w' : World, w'.heap[b]? = w.heap[b]? → (Instr.loadAt t u).run P w' = .ok v w' := by
  have key : ∀ (n : Nat) (ag : Bool) (b off : Nat) (cs : List AV) (us : List Value), sizeA P t = some n → aggA P t = some ag → u = .pointer (some ⟨b, off, none⟩) → us.length = n → VL (envOf X ρ w os) cs us → (∀ i v, us[i]? = some v → w.cell? ⟨b, off + i, none⟩ = some v) → packA ag cs = some r →
      ∃ v, VR (envOf X ρ w os) r v ∧ ∀ w' : World, w'.heap[b]? = w.heap[b]? → (Instr.loadAt t u).run P w' = .ok v w' := by
    rintro n ag b off cs us hn ha rfl hl hv hc hp
    have hcw : ∀ w' : World, w'.heap[b]? = w.heap[b]? → ∀ i v, us[i]? = some v → w'.cell? ⟨b, off + i, none⟩ = some v := fun w' hw i v hi => by
      rw [cell_block hw]
      exact hc i v hi
    cases ag with
    | true =>
      simp only [packA, if_true, Option.some.injEq] at hp
      subst hp
      refine ⟨.agg us.toArray, ⟨us.toArray, rfl, by simpa using hv⟩, fun w' hw => ?_⟩
      have hadd : ∀ i v, us[i]? = some v → w'.cell? ((⟨b, off, none⟩ : Addr).add i) = some v := fun i v hi => by
        rw [Addr.add_lit]
        exact hcw w' hw i v hi
      simp only [Instr.loadAt, Instr.sureAddr, loadVar, Sem.run_bind, Sem.run_pure, aggA_run ha, Result.andThen_ok, if_true, sizeA_run hn]
      rw [← hl, run_loadCells_list w' ⟨b, off, none⟩ us hadd]
      rfl
    | false =>
      simp only [packA, Bool.false_eq_true, if_false] at hp
      split at hp
      · rename_i x
        injection hp with hp
        subst hp
        cases us with
        | nil => exact hv.elim
        | cons v us =>
          refine ⟨v, hv.1, fun w' hw => ?_⟩
          have h0 := hcw w' hw 0 v rfl
          rw [Nat.add_zero] at h0
          simp only [Instr.loadAt, Instr.sureAddr, loadVar, Sem.run_bind, Sem.run_pure, aggA_run ha, Result.andThen_ok, Bool.false_eq_true, if_false, run_load, h0]
      · cases hp
  unfold loadA at hr
  split at hr
  · rename_i n ag hn ha
    split at hr
    · rename_i o off g
      split at hr
      · rename_i a ho
        split at hr
        · rename_i hcond
          simp only [Bool.and_eq_true, beq_iff_eq, decide_eq_true_eq] at hcond
          obtain ⟨⟨hl, hg⟩, hlen⟩ := hcond
          obtain ⟨b, hc⟩ := h.cur ho hl
          rw [hg] at hc
          obtain ⟨us, k1, k2, k3⟩ := h.cells hc ho off n hlen
          obtain ⟨v, e1, e2⟩ := key n ag b off _ us hn ha (hx.2.2 b hc) k1 k2 k3 hr
          exact ⟨b, v, .inl ⟨o, off, g, rfl, hc⟩, e1, e2⟩
        · cases hr
      · cases hr
    · rename_i cs
      split at hr
      · rename_i hlen
        obtain ⟨b, off, rfl, hd, hcs⟩ := hx
        obtain ⟨us, k1, k2⟩ := VC.list (VC.take n hcs)
        have k1' := VL.le (Env.nr_le _) _ _ k1
        obtain ⟨v, e1, e2⟩ := key n ag b off _ us hn ha rfl (by rw [VL.length k1, List.length_take]; omega) k1' (fun i u hi => k2 i u hi) hr
        exact ⟨b, v, .inr hd, e1, e2⟩
      · cases hr
    · cases hr
  · cases hr

set_option maxRecDepth 4000 in
theorem early_sound {P : Program} {X W : Nat → Prop} {ρ : List Nat} {w : World} {os os' : List AO} {tm : List AV} {a : Act} {o : Oper} {r : AV} {ws : List Nat} (h : SR X ρ w os) (hv : VL (envOf X ρ w os) tm a.tmps.toList)
    (hr : aop P tm os o.op = some (r, os')) (he : earlyOp ws tm o.op = true) (hws : ∀ i, i < os.length → W i → ws.contains i = true) :
    os' = os ∧ ∃ v, VR (envOf X ρ w os) r v ∧ ∀ w', Sw W ρ w os w' → (execOp a.eval o).run P w' = .ok (.value v) w' := by
  have same : ∀ (v : Value), os' = os → (∀ w' : World, (execOp a.eval o).run P w' = .ok (.value v) w') → VR (envOf X ρ w os) r v → os' = os ∧ ∃ v, VR (envOf X ρ w os) r v ∧ ∀ w', Sw W ρ w os w' → (execOp a.eval o).run P w' = .ok (.value v) w' :=
    fun v e1 e2 e3 => ⟨e1, v, e3, fun w' _ => e2 w'⟩
  have mapped : ∀ {α : Type} {z : Option α} {f : α → AV}, z.map (fun q => (f q, os)) = some (r, os') → ∃ q, z = some q ∧ r = f q ∧ os' = os := by
    intro α z f hz
    obtain ⟨q, h1, h2⟩ := Option.map_eq_some_iff.1 hz
    simp only [Prod.mk.injEq] at h2
    exact ⟨q, h1, h2.1.symm, h2.2.symm⟩
  obtain ⟨dst, op, ty, pos, after, guard⟩ := o
  have e0 : ∀ (s : Sem Value) (v : Value) (w' : World), s.run P w' = .ok v w' → ((do pure (.value (← s)) : Sem Next)).run P w' = .ok (.value v) w' := fun s v w' hs => by simp [hs]
  cases op with
  | move x =>
    simp only [aop, Option.some.injEq, Prod.mk.injEq] at hr
    exact same _ hr.2.symm (fun _ => rfl) (by rw [← hr.1]; exact ev_sound hv x)
  | assign x =>
    simp only [aop, Option.some.injEq, Prod.mk.injEq] at hr
    exact same _ hr.2.symm (fun _ => rfl) (by rw [← hr.1]; exact ev_sound hv x)
  | pick c x y =>
    have hc := ev_sound hv c
    have hx := ev_sound hv x
    have hy := ev_sound hv y
    have key : ∀ t, ev tm c = .val (.bool t) → ∀ w', (execOp a.eval ⟨dst, .pick c x y, ty, pos, after, guard⟩).run P w' = .ok (.value (if t then a.eval x else a.eval y)) w' := fun t ht w' => by
      rw [ht] at hc
      have hc' : a.eval c = .bool t := hc
      simp [execOp, asBool, hc']
    simp only [aop] at hr
    split at hr
    · rename_i t h1
      simp only [Option.some.injEq, Prod.mk.injEq] at hr
      refine same _ hr.2.symm (key t h1) ?_
      rw [← hr.1]
      cases t
      · exact hy
      · exact hx
    · cases hr
  | build t parts =>
    simp only [aop] at hr
    obtain ⟨q, h1, rfl, h3⟩ := mapped hr
    obtain ⟨v, k1, k2⟩ := buildA_sound h1 (parts := parts.map fun (i, x) => (i, a.eval x)) (by simpa using pl_map hv parts.toList)
    exact same v h3 (fun w' => e0 _ _ _ (k1 w')) k2
  | load t x =>
    simp only [aop] at hr
    obtain ⟨q, h1, rfl, h3⟩ := mapped hr
    obtain ⟨b, v, k0, k1, k2⟩ := loadA_at h (ev_sound hv x) h1
    refine ⟨h3, v, k1, fun w' hw' => e0 _ _ _ (k2 w' ?_)⟩
    rcases k0 with ⟨o, off, g, hx, hc⟩ | hd
    · refine hw' b (h.lt ⟨o, g, hc⟩) ?_
      rintro ⟨o', g', hW, hc'⟩
      have := h.inj o o' b g g' hc hc'
      subst this
      simp only [earlyOp, hx] at he
      obtain ⟨x', hx', _⟩ := curOf_some hc
      have := hws o (List.getElem?_eq_some_iff.1 hx').1 hW
      rw [this] at he
      cases he
    · exact hw' b hd.1 (fun ⟨o', g', _, hc'⟩ => hd.2.1 ⟨o', g', hc'⟩)
  | nilCheck x =>
    have hx := ev_sound hv x
    simp only [aop] at hr
    split at hr
    · rename_i o off g he
      rw [he] at hx
      split at hr
      · rename_i hok
        simp only [Option.some.injEq, Prod.mk.injEq] at hr
        obtain ⟨b, hb⟩ := refOk_cur h hok o off g rfl
        have hu := hx.2.2 b hb
        refine same (a.eval x) hr.2.symm (fun w' => ?_) (by rw [← hr.1]; exact hx)
        simp [execOp, hu]
      · cases hr
    · rename_i cs he
      rw [he] at hx
      simp only [Option.some.injEq, Prod.mk.injEq] at hr
      have hx2 := hx
      obtain ⟨b, off, hu, _⟩ := hx2
      refine same (a.eval x) hr.2.symm (fun w' => ?_) (by rw [← hr.1]; exact hx)
      simp [execOp, hu]
    · cases hr
  | binOp op t x y yt =>
    have hx := ev_sound hv x
    have hy := ev_sound hv y
    simp only [aop] at hr
    split at hr
    · rename_i u v h1 h2
      rw [h1] at hx; rw [h2] at hy
      obtain ⟨q, k1, rfl, k3⟩ := mapped hr
      refine same q k3 (fun w' => ?_) rfl
      have hs := abin_sound k1 x y w'
      have hx' : a.eval x = u := hx
      have hy' : a.eval y = v := hy
      simp only [execOp, hx', hy']
      exact e0 _ _ _ hs
    · cases hr
  | unOp op t x =>
    have hx := ev_sound hv x
    simp only [aop] at hr
    split at hr
    · rename_i u h1
      rw [h1] at hx
      obtain ⟨q, k1, rfl, k3⟩ := mapped hr
      have hx' : a.eval x = u := hx
      refine same q k3 (fun w' => ?_) rfl
      simp only [execOp, hx']
      exact e0 _ _ _ (aun_sound k1 w')
    · cases hr
  | makeInterface t x =>
    simp only [aop] at hr
    split at hr
    · rename_i hc
      simp only [Option.some.injEq, Prod.mk.injEq] at hr
      obtain ⟨d, hd, hne⟩ := concreteA_eq hc
      refine same (.iface t (a.eval x)) hr.2.symm (fun w' => ?_) (by rw [← hr.1]; exact ⟨_, rfl, ev_sound hv x⟩)
      refine e0 _ _ _ ?_
      simp only [Instr.makeInterface, Sem.run_bind, und_run hd, Result.andThen_ok]
      first
        | rfl
        | (split
           · rename_i ms; exact absurd rfl (hne ms)
           · rfl)
    · cases hr
  | makeFunc fn first cap =>
    simp only [aop, Option.some.injEq, Prod.mk.injEq] at hr
    refine same (.func fn (first.map a.eval) (cap.map a.eval)) hr.2.symm (fun _ => rfl) ?_
    rw [← hr.1]
    exact ⟨_, _, rfl, by simpa using vl_map hv first.toList, by simpa using vl_map hv cap.toList⟩
  | slice t x lo hi mx =>
    cases mx with
    | some _ => simp only [aop] at hr; cases hr
    | none =>
      simp only [aop] at hr
      obtain ⟨q, h1, rfl, h3⟩ := mapped hr
      obtain ⟨v, k1, k2⟩ := sliceA_sound h h1 (ev_sound hv x) (opt_map hv lo) (opt_map hv hi)
      exact same v h3 (fun w' => e0 _ _ _ (k1 w')) k2
  | fieldAddr t x f =>
    simp only [aop] at hr
    split at hr
    · rename_i hok
      obtain ⟨q, h1, rfl, h3⟩ := mapped hr
      obtain ⟨v, k1, k2⟩ := fieldAt_sound h1 (ev_sound hv x) (refOk_cur h hok)
      exact same v h3 (fun w' => e0 _ _ _ (k1 w')) k2
    · cases hr
  | field t x f =>
    simp only [aop] at hr
    obtain ⟨q, h1, rfl, h3⟩ := mapped hr
    obtain ⟨v, k1, k2⟩ := fieldV_sound h1 (ev_sound hv x)
    exact same v h3 (fun w' => e0 _ _ _ (k1 w')) k2
  | indexAddr t x ix =>
    simp only [aop] at hr
    obtain ⟨q, h1, rfl, h3⟩ := mapped hr
    obtain ⟨v, k1, k2⟩ := indexAt_sound h h1 (ev_sound hv x) (ev_sound hv ix)
    exact same v h3 (fun w' => e0 _ _ _ (k1 w')) k2
  | index t x ix =>
    have hx := ev_sound hv x
    have hy := ev_sound hv ix
    simp only [aop] at hr
    split at hr
    · rename_i s k i h1 h2
      rw [h1] at hx; rw [h2] at hy
      have hx' : a.eval x = .string s := hx
      have hy' : a.eval ix = .int k i := hy
      split at hr
      · rename_i hc
        simp only [Bool.and_eq_true, decide_eq_true_eq] at hc
        obtain ⟨b, hb, rfl, h3⟩ := mapped hr
        refine same _ h3 (fun w' => ?_) rfl
        refine e0 _ _ _ ?_
        rw [hx', hy']
        have hsz : i.toNat < s.data.size := (Array.getElem?_eq_some_iff.1 hb).1
        have hg : s[i.toNat]? = some b := by
          have hlt : i.toNat < s.size := hsz
          rw [getElem?_pos s i.toNat hlt]
          congr 1
          have := (Array.getElem?_eq_some_iff.1 hb).2
          exact this
        simp [Instr.index, asIntOf, und_run (stringA_eq hc.1), hc.2, hg]
      · cases hr
    · cases hr
  | extract x i =>
    have hx := ev_sound hv x
    simp only [aop] at hr
    split at hr
    · rename_i vs h1
      rw [h1] at hx
      obtain ⟨us, hu, hl⟩ := hx
      obtain ⟨q, k1, rfl, k3⟩ := mapped hr
      obtain ⟨u, e1, e2⟩ := VL.get i hl k1
      refine same u k3 (fun w' => ?_) e2
      refine e0 _ _ _ ?_
      rw [Array.getElem?_toList] at e1
      simp [Instr.extract, hu, e1]
    · cases hr
  | call c =>
    obtain ⟨callee, args, ts⟩ := c
    cases callee with
    | value f => cases he
    | invoke r m => cases he
    | builtin b =>
      cases b <;> try (cases he; done)
      simp only [aop] at hr
      split at hr
      · rename_i s t h1 h2
        split at hr
        · rename_i hc
          have ha : args = #[s] := by apply Array.toList_inj.1; rw [h1]
          have ht : ts = #[t] := by apply Array.toList_inj.1; rw [h2]
          subst ha; subst ht
          obtain ⟨n, k1, rfl, k3⟩ := mapped hr
          have hrun := fun w' => lenA_sound (ty := ty) h hc k1 (ev_sound hv s) w'
          refine same _ k3 (fun w' => ?_) rfl
          simp [execOp, resolve, invoke, builtin, hrun]
        · cases hr
      · cases hr
  | _ => cases he

end Go.Proofs.Ytoaodlfmhioigaa
end

section
namespace Go.Proofs.Ytoaodlfmhioigaa
open Go.RowKit

/-- Where a walk stands: what the slots hold, what objects there are. -/
structure AS where
  tm : List AV
  os : List AO

@[simp] def AS.put (s : AS) (dst : Option Tmp) (x : AV) : AS :=
  match dst with
  | some d => { s with tm := s.tm.set d x }
  | none => s

@[simp] def yieldA (ops : Array Oper) (tm : List AV) (j : Nat) : Option AV := ((ops[j]?).bind (·.dst)).bind (tm[·]?)

/-- What a guard's temporary says. -/
def wantA : Option AV → Option (Option Bool)
  | some (.val (.bool b)) => some (some b)
  | some (.val (.tuple ⟨[]⟩)) => some none
  | _ => none
@[simp] theorem wantA_bool (b : Bool) : wantA (some (.val (.bool b))) = some (some b) := rfl
@[simp] theorem wantA_undef : wantA (some (.val undef)) = some none := rfl

/-- A function of the program's own, that is entered. -/
def plainF (P : Program) (f : FuncId) : Bool :=
  match P.funcs[f]? with
  | some fn => fn.body.isSome && fn.name != "runtime.NumGoroutine"
  | none => false

/-- Which rows are handed over: they are data from then on. -/
@[simp] def handed (k : Nat) (args : List AV) (o : Nat) : Bool := decide (k ≤ o) && !AV.closedL (fun x => x != o) args
@[simp] def argsF (k : Nat) (os : List AO) (args : List AV) : List AV := args.map (frz os (handed k args) 4)
@[simp] def osF (k : Nat) (os : List AO) (args : List AV) : List AO := ends (handed k args) os

def ACall (P : Program) (W : Nat → Prop) (f : FuncId) (args : List AV) (dst : Option Tmp) (K : AS → Prop) (s : AS) : Prop :=
  (∃ (k : Nat) (R : AV → List AO → Prop), (∀ o, o < k → W o) ∧ plainF P f = true ∧ k ≤ s.os.length ∧ AV.closedL (fun o => decide (o < k)) (argsF k s.os args) = true ∧ cloO k ((osF k s.os args).take k) = true ∧
    Tri P f (argsF k s.os args) ((osF k s.os args).take k) R ∧ ∀ r os', R r os' → os'.length = k ∧ clo k r = true ∧ cloO k os' = true ∧ K (AS.put ⟨s.tm, os' ++ (osF k s.os args).drop k⟩ dst r)) ∨
  ∃ (k : Nat) (R : AV → List AO → Prop), (∀ o, o < k → W o) ∧ plainF P f = true ∧ k ≤ s.os.length ∧ AV.closedL (fun o => decide (o < k)) args = true ∧ cloO k (s.os.take k) = true ∧
    Tri P f args (s.os.take k) R ∧ ∀ r os', R r os' → os'.length = k ∧ clo k r = true ∧ cloO k os' = true ∧ K (AS.put ⟨s.tm, os' ++ s.os.drop k⟩ dst r)

def AStep (P : Program) (W : Nat → Prop) (o : Oper) (K : AS → Prop) (s : AS) : Prop :=
  match o.op with
  | .call { callee := .value (.func f), args := args, argTypes := _ } => ACall P W f (args.toList.map (ev s.tm)) o.dst K s
  | .call { callee := .value (.tmp j), args := args, argTypes := _ } => match s.tm[j]? with
    | some (.fn (.func f) first cap) => ACall P W f (first ++ args.toList.map (ev s.tm) ++ cap) o.dst K s
    | _ => False
  | op => (∀ i, i ∈ wrA s.tm op → W i) ∧ match aop P s.tm s.os op with
    | some (r, os') => K (AS.put ⟨s.tm, os'⟩ o.dst r)
    | none => False

def AList (P : Program) (ops : Array Oper) : List Oper → (AS → Prop) → AS → Prop
  | [], K, s => K s
  | o :: rest, K, s =>
    match o.guard with
    | none => AStep P (fun _ => True) o (AList P ops rest K) s
    | some (j, want) => ∃ b, wantA (yieldA ops s.tm j) = some b ∧ (b = some want → AStep P (fun _ => True) o (AList P ops rest K) s) ∧ (b ≠ some want → AList P ops rest K (s.put o.dst (.val undef)))

/-- How a region that draws its order is gone through: first what only reads, then what may come up. -/
inductive Plan where
  | fin
  | late (i : Nat) (p : Plan)
  | two (i j : Nat) (p q : Plan)

def planOk (ops : Array Oper) : Plan → Nat → Array Bool → Bool
  | .fin, _, l => (Region.ready .any ops l).isEmpty
  | .late i p, n + 1, l => Region.ready .any ops l == [i] && planOk ops p n (l.setIfInBounds i true)
  | .two i j p q, n + 1, l => Region.ready .any ops l == [i, j] && planOk ops p n (l.setIfInBounds i true) && planOk ops q n (l.setIfInBounds j true)
  | _, _, _ => false

def drawOk (ops : Array Oper) (p : Plan) : List Nat → Nat → Array Bool → Bool
  | [], n, l => planOk ops p n l
  | i :: es, n + 1, l => Region.free .any ops l i && (Region.ready .any ops l).contains i && drawOk ops p es n (l.setIfInBounds i true)
  | _, _, _ => false

def AOne (P : Program) (W : Nat → Prop) (ops : Array Oper) (o : Oper) (K : AS → Prop) (s : AS) : Prop :=
  match o.guard with
  | none => AStep P W o K s
  | some (j, want) => ∃ b, wantA (yieldA ops s.tm j) = some b ∧ (b = some want → AStep P W o K s) ∧ (b ≠ some want → K (s.put o.dst (.val undef)))

def ALate (P : Program) (W : Nat → Prop) (ops : Array Oper) : Plan → (AS → Prop) → AS → Prop
  | .fin, K, s => K s
  | .late i p, K, s => match ops[i]? with | some o => AOne P W ops o (ALate P W ops p K) s | none => False
  | .two i j p q, K, s => (match ops[i]? with | some o => AOne P W ops o (ALate P W ops p K) s | none => False) ∧ (match ops[j]? with | some o => AOne P W ops o (ALate P W ops q K) s | none => False)

def AEarly1 (P : Program) (ws : List Nat) (o : Oper) (K : AS → Prop) (s : AS) : Prop :=
  earlyOp ws s.tm o.op = true ∧ match aop P s.tm s.os o.op with | some (r, _) => K (s.put o.dst r) | none => False

def AEarly (P : Program) (ws : List Nat) (ops : Array Oper) : List Nat → (AS → Prop) → AS → Prop
  | [], K, s => K s
  | i :: es, K, s =>
    match ops[i]? with
    | some o => (match o.guard with
      | none => AEarly1 P ws o (AEarly P ws ops es K) s
      | some (j, want) => ∃ b, wantA (yieldA ops s.tm j) = some b ∧ (b = some want → AEarly1 P ws o (AEarly P ws ops es K) s) ∧ (b ≠ some want → AEarly P ws ops es K (s.put o.dst (.val undef))))
    | none => False

/-- A region that draws its order: the objects that it writes, what is read first, the plan behind. -/
def ADraw (P : Program) (ops : Array Oper) (K : AS → Prop) (s : AS) : Prop :=
  ∃ (ws es : List Nat) (p : Plan), P.follows .mixedOrders = true ∧ Region.noSelect ops = true ∧ drawOk ops p es ops.size (Array.replicate ops.size false) = true ∧
    AEarly P ws ops es (ALate P (fun o => ws.contains o = true ∨ s.os.length ≤ o) ops p K) s

/-- Only the first k objects are told of. -/
def cutA (k : Nat) (s : AS) : AS := ⟨s.tm.map fun x => if clo k x then x else .any, s.os.take k⟩

/-- The walk of a body. -/
def awp (P : Program) : Code → (Exit → AS → Prop) → AS → Prop
  | .skip, Q, s => Q .normal s
  | .region _ ops draw, Q, s => if draw then ADraw P ops (Q .normal) s else AList P ops ops.toList (Q .normal) s
  | .seq x y, Q, s => awp P x (fun e s' => match e with | .normal => awp P y Q s' | e => Q e s') s
  | .cond c x y, Q, s => ∃ t, ev s.tm c = .val (.bool t) ∧ (t = true → awp P x Q s) ∧ (t = false → awp P y Q s)
  | .block id c, Q, s => awp P c (fun e s' => match e with | .exit j => if j = id then Q .normal s' else Q (.exit j) s' | e => Q e s') s
  | .loop c, Q, s => ∃ (I : Nat → AS → Prop) (m : Nat), I m s ∧ ∀ m s1, I m s1 → awp P c (fun e s' => match e with | .normal => ∃ m' k, m' < m ∧ s.os.length ≤ k ∧ k ≤ s'.os.length ∧ cloO k (s'.os.take k) = true ∧ I m' (cutA k s') | e => Q e s') s1
  | .exit id, Q, s => Q (.exit id) s
  | .ret, Q, s => Q .ret s
  | .label _, Q, s => Q .normal s
  | _, _, _ => False

/-- A concrete activation stands as the walk says. -/
structure Rel (X : Nat → Prop) (ρ : List Nat) (w : World) (s : AS) (a : Act) : Prop where
  sr : SR X ρ w s.os
  vl : VL (envOf X ρ w s.os) s.tm a.tmps.toList
  defers : a.defers = []

theorem Rel.put {X W : Nat → Prop} {ρ ρ' : List Nat} {w w' : World} {s : AS} {a : Act} {os' : List AO} {r : AV} {v : Value} (h : Rel X ρ w s a) (hg : Goes X W ρ ρ' w w' s.os os') (hv : VR (envOf X ρ' w' os') r v) (dst : Option Tmp) :
    Rel X ρ' w' (AS.put ⟨s.tm, os'⟩ dst r) (a.put dst v) := by
  have hl := VL.le hg.le _ _ h.vl
  cases dst with
  | none => exact ⟨hg.sr, hl, h.defers⟩
  | some d => exact ⟨hg.sr, by simpa [Act.put, AS.put] using hl.set d hv, h.defers⟩

theorem put_os (tm : List AV) (os : List AO) (dst : Option Tmp) (r : AV) : (AS.put ⟨tm, os⟩ dst r).os = os := by cases dst <;> rfl

theorem acall_sound' {P : Program} {X W : Nat → Prop} {ρ : List Nat} {w : World} {s : AS} {a : Act} {o : Oper} {f : FuncId} {args : List AV} {us : List Value} {K : AS → Prop} {next : Act → World → Prop} {Q : Exit → Act → World → Prop} (h : Rel X ρ w s a)
    (hargs : VL (envOf X ρ w s.os) args us) (hrun : plainF P f = true → (execOp a.eval o).run P w = .ok (.enter f us.toArray) w) (hs : ACall P W f args o.dst K s)
    (hK : ∀ s' ρ' a' w', Goes X W ρ ρ' w w' s.os s'.os → Rel X ρ' w' s' a' → K s' → next a' w') : o.wp P a w next Q := by
  rcases hs with ⟨k, R, hW, hp, hk, hca, hco, ht, hR⟩ | ⟨k, R, hW, hp, hk, hca, hco, ht, hR⟩
  · have h1 := h.sr.ends (W := W) (handed k args)
    have h2 := h.sr.freezeL (handed k args) 4 _ _ hargs
    have hlen : k ≤ (osF k s.os args).length := by unfold osF; rw [ends_length]; exact hk
    have hc := h1.sr.call (P := P) (f := f) (W := W) k hW hlen _ _ h2 hca hco R ht (fun r os' hr => ⟨(hR r os' hr).1, (hR r os' hr).2.1, (hR r os' hr).2.2.1⟩)
    unfold Oper.wp
    rw [hrun hp, Oper.upon_enter]
    refine hc.mono ?_
    rintro e w' ⟨v, r, os', ρ', rfl, hRr, hg, hv⟩
    obtain ⟨_, _, _, hk2⟩ := hR r os' hRr
    have hgo := h1.trans hg
    exact hK _ ρ' _ w' (by rw [put_os]; exact hgo) (h.put hgo hv o.dst) hk2
  · have hc := h.sr.call (P := P) (f := f) (W := W) k hW hk _ _ hargs hca hco R ht (fun r os' hr => ⟨(hR r os' hr).1, (hR r os' hr).2.1, (hR r os' hr).2.2.1⟩)
    unfold Oper.wp
    rw [hrun hp, Oper.upon_enter]
    refine hc.mono ?_
    rintro e w' ⟨v, r, os', ρ', rfl, hRr, hg, hv⟩
    obtain ⟨_, _, _, hk2⟩ := hR r os' hRr
    exact hK _ ρ' _ w' (by rw [put_os]; exact hg) (h.put hg hv o.dst) hk2

theorem acall_sound {P : Program} {X W : Nat → Prop} {ρ : List Nat} {w : World} {s : AS} {a : Act} {o : Oper} {f : FuncId} {args ts : Array _} {K : AS → Prop} {next : Act → World → Prop} {Q : Exit → Act → World → Prop} (h : Rel X ρ w s a)
    (ho : o.op = .call { callee := .value (.func f), args := args, argTypes := ts }) (hs : ACall P W f (args.toList.map (ev s.tm)) o.dst K s)
    (hK : ∀ s' ρ' a' w', Goes X W ρ ρ' w w' s.os s'.os → Rel X ρ' w' s' a' → K s' → next a' w') : o.wp P a w next Q := by
  refine acall_sound' h (vl_map h.vl _) (fun hp => ?_) hs hK
  have e : (args.toList.map a.eval).toArray = args.map a.eval := by
    apply Array.toList_inj.1
    simp
  rw [e]
  unfold plainF at hp
  split at hp
  · rename_i fn hfn
    simp only [Bool.and_eq_true, bne_iff_ne, ne_eq, Option.isSome_iff_exists] at hp
    obtain ⟨⟨c, hc⟩, hname⟩ := hp
    simp [execOp, ho, resolve, Deferred.ofValue, Act.eval, invoke, callFunc, hfn, hname, hc]
  · cases hp

/-- A function value is called. -/
theorem acallT_sound {P : Program} {X W : Nat → Prop} {ρ : List Nat} {w : World} {s : AS} {a : Act} {o : Oper} {j : Nat} {f : FuncId} {first cap : List AV} {args ts : Array _} {K : AS → Prop} {next : Act → World → Prop} {Q : Exit → Act → World → Prop} (h : Rel X ρ w s a)
    (ho : o.op = .call { callee := .value (.tmp j), args := args, argTypes := ts }) (hj : s.tm[j]? = some (.fn (.func f) first cap)) (hs : ACall P W f (first ++ args.toList.map (ev s.tm) ++ cap) o.dst K s)
    (hK : ∀ s' ρ' a' w', Goes X W ρ ρ' w w' s.os s'.os → Rel X ρ' w' s' a' → K s' → next a' w') : o.wp P a w next Q := by
  obtain ⟨u, hu, ⟨us, vs, rfl, hf, hc⟩⟩ := VL.get j h.vl hj
  rw [Array.getElem?_toList] at hu
  refine acall_sound' h ((hf.append (vl_map h.vl _)).append hc) (fun hp => ?_) hs hK
  have e : (us.toList ++ args.toList.map a.eval ++ vs.toList).toArray = us ++ args.map a.eval ++ vs := by
    apply Array.toList_inj.1
    simp
  rw [e]
  unfold plainF at hp
  split at hp
  · rename_i fn hfn
    simp only [Bool.and_eq_true, bne_iff_ne, ne_eq, Option.isSome_iff_exists] at hp
    obtain ⟨⟨c, hc⟩, hname⟩ := hp
    simp [execOp, ho, resolve, Deferred.ofValue, Act.eval, hu, invoke, callFunc, hfn, hname, hc]
  · cases hp

theorem astep_sound {P : Program} {X W : Nat → Prop} {ρ : List Nat} {w : World} {s : AS} {a : Act} {o : Oper} {K : AS → Prop} {next : Act → World → Prop} {Q : Exit → Act → World → Prop} (h : Rel X ρ w s a) (hs : AStep P W o K s)
    (hK : ∀ s' ρ' a' w', Goes X W ρ ρ' w w' s.os s'.os → Rel X ρ' w' s' a' → K s' → next a' w') : o.wp P a w next Q := by
  have plain : ((∀ i, i ∈ wrA s.tm o.op → W i) ∧ match aop P s.tm s.os o.op with | some (r, os') => K (AS.put ⟨s.tm, os'⟩ o.dst r) | none => False) → o.wp P a w next Q := fun ⟨hW, hs⟩ => by
    split at hs
    · rename_i r os' hr
      obtain ⟨w', ρ', hg, hop⟩ := aop_sound (W := W) h.sr h.vl hr hW
      unfold Oper.wp
      rcases hop with ⟨v, e1, e2⟩ | ⟨e1, rfl⟩
      · rw [e1, Oper.upon_value]
        exact hK _ ρ' _ w' (by rw [put_os]; exact hg) (h.put hg e2 o.dst) hs
      · rw [e1, Oper.upon_skip]
        exact hK _ ρ' _ w' (by rw [put_os]; exact hg) (h.put hg (show VR _ (.val undef) undef from rfl) o.dst) hs
    · exact hs.elim
  unfold AStep at hs
  split at hs
  · rename_i f args ts ho
    exact acall_sound h ho hs hK
  · rename_i j args ts ho
    split at hs
    · rename_i f first cap hj
      exact acallT_sound h ho hj hs hK
    · exact hs.elim
  · exact plain hs

theorem yieldA_sound {E : Env} {ops : Array Oper} {tm : List AV} {a : Act} {j : Nat} {b : Option Bool} (hv : VL E tm a.tmps.toList) (h : wantA (yieldA ops tm j) = some b) : yielded ops a.tmps j = b := by
  have key : ∀ x, yieldA ops tm j = some x → ∃ u, VR E x u ∧ yielded ops a.tmps j = (match some u with | some (.bool b) => some b | _ => none) := fun x hx => by
    unfold yieldA at hx
    obtain ⟨d, h1, h2⟩ := Option.bind_eq_some_iff.1 hx
    obtain ⟨u, h3, h4⟩ := VL.get d hv h2
    rw [Array.getElem?_toList] at h3
    refine ⟨u, h4, ?_⟩
    unfold yielded
    rw [h1]
    simp only [Option.bind_some, h3]
    rfl
  unfold wantA at h
  split at h
  · rename_i b' hx
    obtain ⟨u, h1, h2⟩ := key _ hx
    rw [h2, show u = .bool b' from h1]
    simpa using h
  · rename_i hx
    obtain ⟨u, h1, h2⟩ := key _ hx
    rw [h2, show u = .tuple ⟨[]⟩ from h1]
    simpa using h
  · cases h

theorem alist_sound {P : Program} {X : Nat → Prop} {ops : Array Oper} {Q : Exit → Act → World → Prop} {K : AS → Prop} {ρ0 : List Nat} {w0 : World} {os0 : List AO}
    (hK : ∀ s' ρ' a' w', Goes X (fun _ => True) ρ0 ρ' w0 w' os0 s'.os → Rel X ρ' w' s' a' → K s' → Q .normal a' w') : ∀ (l : List Oper) (s : AS) (ρ : List Nat) (w : World) (a : Act), Goes X (fun _ => True) ρ0 ρ w0 w os0 s.os → Rel X ρ w s a → AList P ops l K s → wpList P ops Q l a w
  | [], s, ρ, w, a, hg, h, hs => hK s ρ a w hg h hs
  | o :: rest, s, ρ, w, a, hg, h, hs => by
    have step : AStep P (fun _ => True) o (AList P ops rest K) s → o.wp P a w (wpList P ops Q rest) Q := fun hst =>
      astep_sound h hst (fun s' ρ' a' w' hg' h' hs' => alist_sound hK rest s' ρ' w' a' (hg.trans hg') h' hs')
    unfold wpList
    unfold AList at hs
    split at hs
    · rename_i hgd
      have hw : Region.wanted o (yielded ops a.tmps) = true := by unfold Region.wanted; rw [hgd]
      rw [if_pos hw]
      exact .inl (step hs)
    · rename_i j want hgd
      obtain ⟨b, hy, h1, h2⟩ := hs
      have hyy := yieldA_sound h.vl hy
      by_cases hb : b = some want
      · have hw : Region.wanted o (yielded ops a.tmps) = true := by unfold Region.wanted; rw [hgd]; simp [hyy, hb]
        rw [if_pos hw]
        exact .inl (step (h1 hb))
      · have hw : Region.wanted o (yielded ops a.tmps) = false := by unfold Region.wanted; rw [hgd]; simp [hyy, hb]
        rw [if_neg (by rw [hw]; simp)]
        refine alist_sound hK rest _ ρ w _ (by rw [show s.put o.dst (.val undef) = AS.put ⟨s.tm, s.os⟩ o.dst (.val undef) from rfl, put_os]; exact hg) ?_ (h2 hb)
        exact h.put (Goes.refl (W := fun _ => True) h.sr) (show VR _ (.val undef) undef from rfl) o.dst

theorem put_tm_os (s : AS) (dst : Option Tmp) (r : AV) : (s.put dst r).os = s.os := put_os s.tm s.os dst r

theorem aone_sound {P : Program} {X W : Nat → Prop} {ops : Array Oper} {Q : Exit → Act → World → Prop} {ρ : List Nat} {w : World} {s : AS} {a : Act} {i : Nat} {o : Oper} {K : AS → Prop} {K' : Act → World → Prop} (hi : ops[i]? = some o) (h : Rel X ρ w s a) (hs : AOne P W ops o K s)
    (hK : ∀ s' ρ' a' w', Goes X W ρ ρ' w w' s.os s'.os → Rel X ρ' w' s' a' → K s' → K' a' w') : wpOp P ops Q i K' a w := by
  unfold wpOp
  simp only [hi]
  unfold AOne at hs
  split at hs
  · rename_i hgd
    have hw : Region.wanted o (yielded ops a.tmps) = true := by unfold Region.wanted; rw [hgd]
    rw [if_pos hw]
    exact .inl (astep_sound h hs hK)
  · rename_i j want hgd
    obtain ⟨b, hy, h1, h2⟩ := hs
    have hyy := yieldA_sound h.vl hy
    by_cases hb : b = some want
    · have hw : Region.wanted o (yielded ops a.tmps) = true := by unfold Region.wanted; rw [hgd]; simp [hyy, hb]
      rw [if_pos hw]
      exact .inl (astep_sound h (h1 hb) hK)
    · have hw : Region.wanted o (yielded ops a.tmps) = false := by unfold Region.wanted; rw [hgd]; simp [hyy, hb]
      rw [if_neg (by rw [hw]; simp)]
      exact hK _ ρ _ w (by rw [put_tm_os]; exact Goes.refl h.sr) (h.put (Goes.refl (W := W) h.sr) (show VR _ (.val undef) undef from rfl) o.dst) (h2 hb)

theorem sw_of_goes {X W : Nat → Prop} {ρ ρ' : List Nat} {w w' : World} {os os' : List AO} (h : Goes X W ρ ρ' w w' os os') : Sw W ρ w os w' := fun b hb hn => h.upd.block b hb hn

theorem alate_sound {P : Program} {X W : Nat → Prop} {ops : Array Oper} {Q : Exit → Act → World → Prop} {K : AS → Prop} {ρ0 : List Nat} {w0 : World} {os0 : List AO}
    (hK : ∀ s' ρ' a' w', Goes X W ρ0 ρ' w0 w' os0 s'.os → Rel X ρ' w' s' a' → K s' → Q .normal a' w') : ∀ (p : Plan) (n : Nat) (l : Array Bool) (s : AS) (ρ : List Nat) (w : World) (a : Act),
      planOk ops p n l = true → Goes X W ρ0 ρ w0 w os0 s.os → Rel X ρ w s a → ALate P W ops p K s → wpAnyH P .any ops Q (Sw W ρ0 w0 os0) n l a w
  | .fin, n, l, s, ρ, w, a, hp, hg, h, hs => by
    simp only [planOk, List.isEmpty_iff] at hp
    cases n with
    | zero => exact ⟨hp, hK s ρ a w hg h hs⟩
    | succ n => exact ⟨fun _ => hK s ρ a w hg h hs, fun i hi => by rw [hp] at hi; cases hi⟩
  | .late i p, 0, l, _, _, _, _, hp, _, _, _ => by cases hp
  | .late i p, n + 1, l, s, ρ, w, a, hp, hg, h, hs => by
    simp only [planOk, Bool.and_eq_true, beq_iff_eq] at hp
    refine wpAnyH_all hp.1 (by simp) ?_
    intro j hj
    obtain rfl : j = i := by simpa using hj
    unfold ALate at hs
    split at hs
    · rename_i o ho
      exact aone_sound ho h hs fun s' ρ' a' w' hg' h' hs' => ⟨sw_of_goes (hg.trans hg'), alate_sound hK p n _ s' ρ' w' a' hp.2 (hg.trans hg') h' hs'⟩
    · exact hs.elim
  | .two i j p q, 0, l, _, _, _, _, hp, _, _, _ => by cases hp
  | .two i j p q, n + 1, l, s, ρ, w, a, hp, hg, h, hs => by
    simp only [planOk, Bool.and_eq_true, beq_iff_eq] at hp
    refine wpAnyH_all hp.1.1 (by simp) ?_
    intro k hk
    unfold ALate at hs
    have hk2 : k = i ∨ k = j := by simpa using hk
    rcases hk2 with rfl | rfl
    · have hs1 := hs.1
      split at hs1
      · rename_i o ho
        exact aone_sound ho h hs1 fun s' ρ' a' w' hg' h' hs' => ⟨sw_of_goes (hg.trans hg'), alate_sound hK p n _ s' ρ' w' a' hp.1.2 (hg.trans hg') h' hs'⟩
      · exact hs1.elim
    · have hs1 := hs.2
      split at hs1
      · rename_i o ho
        exact aone_sound ho h hs1 fun s' ρ' a' w' hg' h' hs' => ⟨sw_of_goes (hg.trans hg'), alate_sound hK q n _ s' ρ' w' a' hp.2 (hg.trans hg') h' hs'⟩
      · exact hs1.elim

theorem aearly_sound {P : Program} {X W : Nat → Prop} {ops : Array Oper} {Q : Exit → Act → World → Prop} {K : AS → Prop} {ρ0 : List Nat} {w0 : World} {os0 : List AO} {p : Plan} {ws : List Nat} (hsel : Region.noSelect ops = true) (hpan : ∀ c a w, ¬ Q (.panic c) a w)
    (hws : ∀ i, i < os0.length → W i → ws.contains i = true)
    (hK : ∀ s' ρ' a' w', Goes X W ρ0 ρ' w0 w' os0 s'.os → Rel X ρ' w' s' a' → K s' → Q .normal a' w') : ∀ (es : List Nat) (n : Nat) (l : Array Bool) (s : AS) (a : Act),
      drawOk ops p es n l = true → s.os = os0 → Rel X ρ0 w0 s a → AEarly P ws ops es (ALate P W ops p K) s → wpAnyH P .any ops Q (Sw W ρ0 w0 os0) n l a w0
  | [], n, l, s, a, hd, ho, h, hs => alate_sound hK p n l s ρ0 w0 a hd (by rw [ho]; exact Goes.refl (by rw [← ho]; exact h.sr)) h hs
  | i :: es, 0, l, s, a, hd, ho, h, hs => by cases hd
  | i :: es, n + 1, l, s, a, hd, ho, h, hs => by
    simp only [drawOk, Bool.and_eq_true] at hd
    obtain ⟨⟨hf, hr⟩, hd⟩ := hd
    unfold AEarly at hs
    split at hs
    · rename_i o hi
      have step : AEarly1 P ws o (AEarly P ws ops es (ALate P W ops p K)) s → Region.wanted o (yielded ops a.tmps) = true → wpAnyH P .any ops Q (Sw W ρ0 w0 os0) (n + 1) l a w0 := by
        rintro ⟨he, hs⟩ hw
        split at hs
        · rename_i r os' hop
          have hws' : ∀ i, i < s.os.length → W i → ws.contains i = true := by rw [ho]; exact hws
          obtain ⟨_, v, hv, hrun⟩ := early_sound (W := W) h.sr h.vl hop he hws'
          refine wpAnyH_take hi hsel hf hr (fun c a w hq => absurd hq (hpan c _ w)) (.inl ⟨hw, fun w' hS => hrun w' (by rw [ho]; exact hS)⟩) (fun _ _ _ => rfl) ?_
          exact aearly_sound hsel hpan hws hK es n _ _ _ hd (by rw [put_tm_os]; exact ho) (h.put (Goes.refl (W := W) h.sr) hv o.dst) hs
        · exact hs.elim
      split at hs
      · rename_i hgd
        exact step hs (by unfold Region.wanted; rw [hgd])
      · rename_i j want hgd
        obtain ⟨b, hy, h1, h2⟩ := hs
        have hyy := yieldA_sound h.vl hy
        by_cases hb : b = some want
        · exact step (h1 hb) (by unfold Region.wanted; rw [hgd]; simp [hyy, hb])
        · have hw : Region.wanted o (yielded ops a.tmps) = false := by unfold Region.wanted; rw [hgd]; simp [hyy, hb]
          refine wpAnyH_take hi hsel hf hr (fun c a w hq => absurd hq (hpan c _ w)) (.inr ⟨hw, rfl⟩) (fun _ _ _ => rfl) ?_
          exact aearly_sound hsel hpan hws hK es n _ _ _ hd (by rw [put_tm_os]; exact ho) (h.put (Goes.refl (W := W) h.sr) (show VR _ (.val undef) undef from rfl) o.dst) (h2 hb)
    · exact hs.elim

theorem adraw_sound {P : Program} {X : Nat → Prop} {id : Nat} {ops : Array Oper} {ρ : List Nat} {w : World} {s : AS} {a : Act} {K : AS → Prop} {Q : Exit → Act → World → Prop} (h : Rel X ρ w s a) (hs : ADraw P ops K s)
    (hK : ∀ s' ρ' a' w', Goes X (fun _ => True) ρ ρ' w w' s.os s'.os → Rel X ρ' w' s' a' → K s' → Q .normal a' w') : (Code.region id ops true).wp P Q a w := by
  obtain ⟨ws, es, p, hm, hsel, hd, hs⟩ := hs
  have hsr : SR X ρ w.drew s.os := ⟨h.sr.len, h.sr.apart, h.sr.xlt, h.sr.inj, h.sr.obj⟩
  have hg0 : Goes X (fun _ => True) ρ ρ w w.drew s.os s.os := ⟨hsr, ⟨fun _ _ h => h, fun _ _ _ _ h => ⟨h, rfl⟩, fun _ h => h, fun _ _ _ => rfl⟩, Upd.drew _ _, fun _ _ g h => .inl ⟨g, h⟩⟩
  have h0 : Rel X ρ w.drew s a := ⟨hsr, VL.le hg0.le _ _ h.vl, h.defers⟩
  have hq : (Code.region id ops true).wp P (fun e a' w' => e = .normal ∧ Q .normal a' w') a w := by
    refine wp_region_held (S := Sw (fun o => ws.contains o = true ∨ s.os.length ≤ o) ρ w.drew s.os) hm ?_
    refine aearly_sound (W := fun o => ws.contains o = true ∨ s.os.length ≤ o) hsel (fun c a w hq => by cases hq.1) (fun i hi hw => hw.resolve_right (by omega)) ?_ es ops.size _ s a hd rfl h0 hs
    intro s' ρ' a' w' hg hr hk
    exact ⟨rfl, hK s' ρ' a' w' (hg0.trans (hg.wide fun _ _ => trivial)) hr hk⟩
  refine wp_mono hq ?_
  rintro e a' w' ⟨rfl, hq⟩
  exact hq

theorem least (p : Nat → Prop) (h : ∃ n, p n) : ∃ n, p n ∧ ∀ m, p m → n ≤ m := by
  obtain ⟨n, hn⟩ := h
  induction n using Nat.strongRecOn with
  | _ n ih =>
    by_cases q : ∃ m, m < n ∧ p m
    · obtain ⟨m, h1, h2⟩ := q
      exact ih m h1 h2
    · exact ⟨n, hn, fun m hm => Nat.le_of_not_lt fun hlt => q ⟨m, hlt, hm⟩⟩

theorem Rel.cut {X : Nat → Prop} {ρ ρ0 : List Nat} {w w0 : World} {s : AS} {a : Act} {os0 : List AO} {k : Nat} (h : Rel X ρ w s a) (hg : Goes X (fun _ => True) ρ0 ρ w0 w os0 s.os) (h0 : os0.length ≤ k) (hk : k ≤ s.os.length) (hc : cloO k (s.os.take k) = true) :
    Goes X (fun _ => True) ρ0 (ρ.take k) w0 w os0 (cutA k s).os ∧ Rel X (ρ.take k) w (cutA k s) a := by
  have hget : ∀ (o : Nat), o < k → (s.os.take k)[o]? = s.os[o]? := fun o ho => by rw [List.getElem?_take, if_pos ho]
  obtain ⟨k1, k2, k4⟩ := h.sr.cut k hk (fun o x ho hx _ => by
    unfold cloO at hc
    rw [List.all_eq_true] at hc
    exact hc x (List.mem_of_getElem? (by rw [hget o ho]; exact hx)))
  have k3 : ∀ o, o < k → curOf (ρ.take k) (s.os.take k) o = curOf ρ s.os o := fun o ho => by
    unfold curOf
    rw [hget o ho, List.getElem?_take, if_pos ho]
  refine ⟨⟨k1, ?_, hg.upd, fun i b g hcu => hg.obj i b g (by
      rw [← k3 i (by
        obtain ⟨x, hx, _⟩ := curOf_some hcu
        have := (List.getElem?_eq_some_iff.1 hx).1
        unfold cutA at this
        simp at this
        omega)]
      exact hcu)⟩, k1, ?_, h.defers⟩
  · refine ⟨?_, ?_, ?_, ?_⟩
    · rintro o g hd
      have ho : o < os0.length := by
        obtain ⟨x, hx, _⟩ := hd
        exact (List.getElem?_eq_some_iff.1 hx).1
      obtain ⟨x, hx, hgx⟩ := hg.le.dom o g hd
      exact ⟨x, by rw [show (cutA k s).os = s.os.take k from rfl, hget o (by omega)]; exact hx, hgx⟩
    · intro o b g hd hcu
      have ho : o < os0.length := by
        obtain ⟨x, hx, _⟩ := hd
        exact (List.getElem?_eq_some_iff.1 hx).1
      exact hg.le.cur o b g hd ((k3 o (by omega)).symm.trans hcu)
    · intro b hb
      obtain ⟨d1, d2, d3⟩ := hg.le.data b hb
      exact ⟨d1, fun hl => d2 (k4 b hl), d3⟩
    · intro b i hb
      exact hg.le.cell b i hb
  · have key : ∀ (l : List AV) (us : List Value), VL (envOf X ρ w s.os) l us → VL (envOf X (ρ.take k) w (s.os.take k)) (l.map fun x => if clo k x then x else .any) us := by
      intro l
      induction l with
      | nil => intro us hv; cases us with | nil => trivial | cons _ _ => exact hv.elim
      | cons x l ih =>
        intro us hv
        cases us with
        | nil => exact hv.elim
        | cons u us =>
          refine ⟨?_, ih us hv.2⟩
          by_cases hx : clo k x = true
          · simp only [if_pos hx]
            exact VR.leC k2 x u hx hv.1
          · simp only [if_neg hx]
            trivial
    exact key _ _ h.vl

theorem awp_sound {P : Program} {X : Nat → Prop} : ∀ (c : Code) (Q : Exit → AS → Prop) (s : AS) (ρ : List Nat) (w : World) (a : Act), Rel X ρ w s a → awp P c Q s →
    c.wp P (fun e a' w' => ∃ s' ρ', Q e s' ∧ Goes X (fun _ => True) ρ ρ' w w' s.os s'.os ∧ Rel X ρ' w' s' a') a w
  | .skip, Q, s, ρ, w, a, h, hs => wp_skip ⟨s, ρ, hs, Goes.refl h.sr, h⟩
  | .label _, Q, s, ρ, w, a, h, hs => wp_label ⟨s, ρ, hs, Goes.refl h.sr, h⟩
  | .exit id, Q, s, ρ, w, a, h, hs => wp_exit ⟨s, ρ, hs, Goes.refl h.sr, h⟩
  | .ret, Q, s, ρ, w, a, h, hs => wp_ret ⟨s, ρ, hs, Goes.refl h.sr, h⟩
  | .region id ops draw, Q, s, ρ, w, a, h, hs => by
    cases draw with
    | true => exact adraw_sound h hs (fun s' ρ' a' w' hg h' hq => ⟨s', ρ', hq, hg, h'⟩)
    | false =>
    exact wp_region_list (alist_sound (ρ0 := ρ) (w0 := w) (os0 := s.os) (fun s' ρ' a' w' hg h' hq => ⟨s', ρ', hq, hg, h'⟩) ops.toList s ρ w a (Goes.refl h.sr) h hs)
  | .seq x y, Q, s, ρ, w, a, h, hs => by
    refine wp_seq (wp_mono (awp_sound x _ s ρ w a h hs) ?_)
    rintro e a1 w1 ⟨s1, ρ1, hq, hg, h1⟩
    cases e with
    | normal =>
      refine wp_mono (awp_sound y Q s1 ρ1 w1 a1 h1 hq) ?_
      rintro e a2 w2 ⟨s2, ρ2, hq2, hg2, h2⟩
      exact ⟨s2, ρ2, hq2, hg.trans hg2, h2⟩
    | exit id => exact ⟨s1, ρ1, hq, hg, h1⟩
    | goto l => exact ⟨s1, ρ1, hq, hg, h1⟩
    | ret => exact ⟨s1, ρ1, hq, hg, h1⟩
    | panic ch => exact ⟨s1, ρ1, hq, hg, h1⟩
    | outgrown => exact ⟨s1, ρ1, hq, hg, h1⟩
  | .cond c x y, Q, s, ρ, w, a, h, hs => by
    obtain ⟨t, he, ht, hf⟩ := hs
    have hc := ev_sound h.vl c
    rw [he] at hc
    have hc' : a.eval c = .bool t := hc
    exact wp_cond_split hc' (fun e => awp_sound x Q s ρ w a h (ht e)) (fun e => awp_sound y Q s ρ w a h (hf e))
  | .block id c, Q, s, ρ, w, a, h, hs => by
    refine wp_block (wp_mono (awp_sound c _ s ρ w a h hs) ?_)
    rintro e a1 w1 ⟨s1, ρ1, hq, hg, h1⟩
    cases e with
    | exit j =>
      simp only [Exit.inBlock]
      simp only at hq
      split
      · rename_i hj
        rw [if_pos hj] at hq
        exact ⟨s1, ρ1, hq, hg, h1⟩
      · rename_i hj
        rw [if_neg hj] at hq
        exact ⟨s1, ρ1, hq, hg, h1⟩
    | normal => exact ⟨s1, ρ1, hq, hg, h1⟩
    | goto l => exact ⟨s1, ρ1, hq, hg, h1⟩
    | ret => exact ⟨s1, ρ1, hq, hg, h1⟩
    | panic ch => exact ⟨s1, ρ1, hq, hg, h1⟩
    | outgrown => exact ⟨s1, ρ1, hq, hg, h1⟩
  | .loop c, Q, s, ρ, w, a, h, hs => by
    obtain ⟨I, m0, hI, hround⟩ := hs
    obtain ⟨J, hJ⟩ : ∃ J : Act → World → Nat → Prop, J = fun a' w' n => ∃ s' ρ', I n s' ∧ Goes X (fun _ => True) ρ ρ' w w' s.os s'.os ∧ Rel X ρ' w' s' a' := ⟨_, rfl⟩
    classical
    obtain ⟨M, hM⟩ : ∃ M : Act → World → Nat, M = fun a' w' => if q : ∃ n, J a' w' n then Classical.choose (least _ q) else 0 := ⟨_, rfl⟩
    refine wp_loop (fun a' w' => ∃ n, J a' w' n) M ⟨m0, by rw [hJ]; exact ⟨s, ρ, hI, Goes.refl h.sr, h⟩⟩ ?_
    rintro a1 w1 q
    have hs1 := (Classical.choose_spec (least _ q)).1
    have hM1 : M a1 w1 = Classical.choose (least _ q) := by rw [hM]; simp only; rw [dif_pos q]
    rw [← hM1] at hs1
    rw [hJ] at hs1
    obtain ⟨s1, ρ1, hI1, hg1, h1⟩ := hs1
    refine wp_mono (awp_sound c _ s1 ρ1 w1 a1 h1 (hround _ s1 hI1)) ?_
    rintro e a2 w2 ⟨s2, ρ2, hq, hg2, h2⟩
    cases e with
    | normal =>
      obtain ⟨m', k, hlt, hk0, hk1, hcl, hI2⟩ := hq
      obtain ⟨hg3, h3⟩ := h2.cut (hg1.trans hg2) hk0 hk1 hcl
      have hs2 : J a2 w2 m' := by rw [hJ]; exact ⟨_, _, hI2, hg3, h3⟩
      refine ⟨⟨m', hs2⟩, ?_⟩
      have q2 : ∃ n, J a2 w2 n := ⟨m', hs2⟩
      have : M a2 w2 ≤ m' := by rw [hM]; simp only; rw [dif_pos q2]; exact (Classical.choose_spec (least _ q2)).2 _ hs2
      omega
    | exit id => exact ⟨s2, ρ2, hq, hg1.trans hg2, h2⟩
    | goto l => exact ⟨s2, ρ2, hq, hg1.trans hg2, h2⟩
    | ret => exact ⟨s2, ρ2, hq, hg1.trans hg2, h2⟩
    | panic ch => exact ⟨s2, ρ2, hq, hg1.trans hg2, h2⟩
    | outgrown => exact ⟨s2, ρ2, hq, hg1.trans hg2, h2⟩
  | .rangeFunc .., _, _, _, _, _, _, hs => by exact hs.elim
  | .scope _, _, _, _, _, _, _, hs => by exact hs.elim
  | .goto _, _, _, _, _, _, _, hs => by exact hs.elim
  | .refuse _, _, _, _, _, _, _, hs => by exact hs.elim

end Go.Proofs.Ytoaodlfmhioigaa
end
