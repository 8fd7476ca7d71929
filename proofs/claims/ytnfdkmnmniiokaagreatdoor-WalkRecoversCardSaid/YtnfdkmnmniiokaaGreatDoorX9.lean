import Derived.Test.YtnfdkmnmniiokaaGreatDoorX8
set_option linter.unusedVariables false
set_option linter.unusedSimpArgs false
namespace Go.Proofs.YtnfdkmnmniiokaaGreatDoor
open Go.RowKit

/-- A concrete activation stands as the engine says. -/
structure RelA (D : List Deferred) (B : Nat) (ρ : Pl) (η : Nat → Value) (fr : List EV) (hp : Hp) (nx : Nat) (w : World) (a : Act) : Prop where
  hr : HR B ρ η hp nx w
  vl : VL ρ η fr a.tmps.toList
  defers : a.defers = D

section
variable {P : Program} {η : Nat → Value} {O : Orc P η} {D : List Deferred}

theorem RelA.put {B : Nat} {ρ ρ' : Pl} {fr : List EV} {hp hp' : Hp} {nx nx' : Nat} {w w' : World} {a : Act} {r : EV} {v : Value} (h : RelA D B ρ η fr hp nx w a) (hg : Go1 B η ρ ρ' hp' nx' w w') (hv : VR ρ' η r v) (dst : Option Tmp) :
    RelA D B ρ' η (putE fr dst r) hp' nx' w' (a.put dst v) := by
  have hl := VL.le hg.le _ _ h.vl
  cases dst with
  | none => exact ⟨hg.hr, hl, h.defers⟩
  | some d => exact ⟨hg.hr, by simpa [Act.put, putE] using hl.set d hv, h.defers⟩

/-- What a call comes to, whatever the world. -/
def CallOK (P : Program) (η : Nat → Value) (f : FuncId) (args : List EV) (hp : Hp) (nx : Nat) (r : EV) (hp' : Hp) (nx' : Nat) : Prop :=
  ∀ (B : Nat) (ρ : Pl) (w : World) (us : List Value), HR B ρ η hp nx w → VL ρ η args us →
    Calls P f us.toArray w fun e w' => ∃ v ρ', e = .returned v ∧ Go1 B η ρ ρ' hp' nx' w w' ∧ VR ρ' η r v

/-- What a call comes to, told by what is asked of it. -/
def CallW (P : Program) (η : Nat → Value) (f : FuncId) (args : List EV) (hp : Hp) (nx : Nat) (k : KV) : Prop :=
  ∀ (B : Nat) (ρ : Pl) (w : World) (us : List Value), HR B ρ η hp nx w → VL ρ η args us →
    Calls P f us.toArray w fun e w' => ∃ r hp' nx' v ρ', k r hp' nx' = true ∧ e = .returned v ∧ Go1 B η ρ ρ' hp' nx' w w' ∧ VR ρ' η r v
theorem CallOK.w {f : FuncId} {args : List EV} {hp : Hp} {nx : Nat} {r : EV} {hp' : Hp} {nx' : Nat} (h : CallOK P η f args hp nx r hp' nx') {k : KV} (hk : k r hp' nx' = true) : CallW P η f args hp nx k :=
  fun B ρ w us h1 h2 => (h B ρ w us h1 h2).mono fun _ _ ⟨v, ρ', e1, e2, e3⟩ => ⟨r, hp', nx', v, ρ', hk, e1, e2, e3⟩

def CallS (P : Program) (η : Nat → Value) (call : CallK) : Prop :=
  ∀ f args hp nx k, call f args hp nx k = true → plainF P f = true ∧ (∃ r hp' nx', k r hp' nx' = true) ∧ CallW P η f args hp nx k

theorem plainF_run {f : FuncId} (h : plainF P f = true) (us : Array Value) (w : World) : (callFunc f us).run P w = .ok (.enter f us) w := by
  unfold plainF at h
  split at h
  · rename_i fn hfn
    simp only [Bool.and_eq_true, bne_iff_ne, ne_eq, Option.isSome_iff_exists] at h
    obtain ⟨⟨c', hc'⟩, hname⟩ := h
    simp [callFunc, hfn, hname, hc']
  · cases h
theorem callMethod_run {t : TypeId} {m : String} {f : FuncId} (h : mthA P t m = some f) (hp : plainF P f = true) (v : Value) (us : Array Value) (w : World) : (callMethod (.iface t v) m us).run P w = .ok (.enter f (#[v] ++ us)) w := by
  have h3 := (mthA_run h (P.types.size + Made.depth - 1) v w).1
  have h4 : P.types.size + Made.depth - 1 + 1 = P.types.size + Made.depth := by
    have : 0 < Made.depth := by decide
    omega
  rw [h4] at h3
  simp [callMethod, h3, plainF_run hp]
theorem invoke_method (m : String) (c : Array Value) (v : Value) (us : Array Value) : invoke (.fn (.method m) c) (#[v] ++ us) = callMethod v m us := by
  have e3 : (#[v] ++ us).extract 1 (#[v] ++ us).size = us := by
    apply Array.toList_inj.1
    simp [List.take_of_length_le]
  have e4 : (#[v] ++ us)[0]? = some v := by rw [Array.getElem?_append_left (by simp)]; rfl
  unfold invoke
  simp only [e4, e3]
theorem methK_sound {call : CallK} (hc : CallS P η call) {m : String} {x : EV} {args : List EV} {hp : Hp} {nx : Nat} {k : KV} (h : methK P call m x args hp nx k = true) :
    (∃ r hp' nx', k r hp' nx' = true) ∧ ∀ {B : Nat} {ρ : Pl} {w : World} {u : Value} {us : List Value}, HR B ρ η hp nx w → VR ρ η x u → VL ρ η args us →
      ∃ f vs, (callMethod u m us.toArray).run P w = .ok (.enter f vs) w ∧ Calls P f vs w fun e w' => ∃ r hp' nx' v ρ', k r hp' nx' = true ∧ e = .returned v ∧ Go1 B η ρ ρ' hp' nx' w w' ∧ VR ρ' η r v := by
  unfold methK at h
  split at h
  · rename_i t v
    split at h
    · rename_i f hf
      obtain ⟨h1, h2, h3⟩ := hc _ _ _ _ _ h
      refine ⟨h2, fun {B ρ w u us} hr hx ha => ?_⟩
      obtain ⟨v', rfl, hv⟩ := hx
      refine ⟨f, #[v'] ++ us.toArray, callMethod_run hf h1 _ _ _, ?_⟩
      have := h3 B ρ w (v' :: us) hr ⟨hv, ha⟩
      simpa using this
    · cases h
  · cases h

theorem ev1_sound (hη : Ones η) {call : CallK} (hc : CallS P η call) {o : Oper} {fr : List EV} {hp : Hp} {nx : Nat} {k : KV} (h : ev1 P O call o fr hp nx k = true) :
    (∃ r hp' nx', k r hp' nx' = true) ∧ ∀ (B : Nat) (ρ : Pl) (w : World) (a : Act) (Q : Exit → Act → World → Prop) (next : Act → World → Prop), RelA D B ρ η fr hp nx w a →
      (∀ r hp' nx' ρ' a' w', k r hp' nx' = true → Go1 B η ρ ρ' hp' nx' w w' → RelA D B ρ' η (putE fr o.dst r) hp' nx' w' a' → next a' w') → o.wp P a w next Q := by
  unfold ev1 at h
  split at h
  · rename_i c args ts ho
    split at h
    · rename_i f first cap hev
      obtain ⟨hp1, hex, hcall⟩ := hc _ _ _ _ _ h
      refine ⟨hex, fun B ρ w a Q next hrel hnext => ?_⟩
      have hu := evO_sound hrel.vl c
      rw [hev] at hu
      obtain ⟨us, vs, hu, hf, hcp⟩ := hu
      have hcalls := hcall B ρ w _ hrel.hr ((hf.append (vl_map hrel.vl args.toList)).append hcp)
      have e : (us.toList ++ args.toList.map a.eval ++ vs.toList).toArray = us ++ args.map a.eval ++ vs := by
        apply Array.toList_inj.1
        simp
      rw [e] at hcalls
      have hrun : (execOp a.eval o).run P w = .ok (.enter f (us ++ args.map a.eval ++ vs)) w := by
        unfold plainF at hp1
        split at hp1
        · rename_i fn hfn
          simp only [Bool.and_eq_true, bne_iff_ne, ne_eq, Option.isSome_iff_exists] at hp1
          obtain ⟨⟨c', hc'⟩, hname⟩ := hp1
          simp [execOp, ho, resolve, Deferred.ofValue, hu, invoke, callFunc, hfn, hname, hc']
        · cases hp1
      unfold Oper.wp
      rw [hrun, Oper.upon_enter]
      refine hcalls.mono ?_
      rintro e w' ⟨r, hp', nx', v, ρ', hk, rfl, hg, hv⟩
      exact hnext r hp' nx' ρ' _ w' hk hg (hrel.put hg hv o.dst)
    · rename_i m x hev
      obtain ⟨hex, hcall⟩ := methK_sound hc h
      refine ⟨hex, fun B ρ w a Q next hrel hnext => ?_⟩
      have hu := evO_sound hrel.vl c
      rw [hev] at hu
      obtain ⟨v, hu, hx⟩ := hu
      obtain ⟨f, vs, e1, e2⟩ := hcall hrel.hr hx (vl_map hrel.vl args.toList)
      have e : (args.toList.map a.eval).toArray = args.map a.eval := by
        apply Array.toList_inj.1
        simp
      rw [e] at e1
      have hrun : (execOp a.eval o).run P w = .ok (.enter f vs) w := by
        have e3 : (Deferred.ofValue (a.eval c) (args.map a.eval)) = pure { target := .fn (.method m) #[], args := #[v] ++ args.map a.eval } := by rw [hu]; rfl
        simp only [execOp, ho, resolve, e3, Sem.run_bind, Sem.run_pure, Result.andThen_ok, invoke_method, e1]
      unfold Oper.wp
      rw [hrun, Oper.upon_enter]
      refine e2.mono ?_
      rintro e w' ⟨r, hp', nx', v, ρ', hk, rfl, hg, hv⟩
      exact hnext r hp' nx' ρ' _ w' hk hg (hrel.put hg hv o.dst)
    · cases h
  · rename_i x m args ts ho
    obtain ⟨hex, hcall⟩ := methK_sound hc h
    refine ⟨hex, fun B ρ w a Q next hrel hnext => ?_⟩
    obtain ⟨f, vs, e1, e2⟩ := hcall hrel.hr (evO_sound hrel.vl x) (vl_map hrel.vl args.toList)
    have e : (args.toList.map a.eval).toArray = args.map a.eval := by
      apply Array.toList_inj.1
      simp
    rw [e] at e1
    have hrun : (execOp a.eval o).run P w = .ok (.enter f vs) w := by
      simp only [execOp, ho, resolve, Sem.run_bind, Sem.run_pure, Result.andThen_ok, invoke_method, e1]
    unfold Oper.wp
    rw [hrun, Oper.upon_enter]
    refine e2.mono ?_
    rintro e w' ⟨r, hp', nx', v, ρ', hk, rfl, hg, hv⟩
    exact hnext r hp' nx' ρ' _ w' hk hg (hrel.put hg hv o.dst)
  · split at h
    · rename_i r hr
      refine ⟨⟨r, hp, nx, h⟩, fun B ρ w a Q next hrel hnext => ?_⟩
      obtain ⟨v, k1, k2⟩ := pop_sound O hη hrel.hr hrel.vl hr
      unfold Oper.wp
      rw [k1, Oper.upon_value]
      exact hnext r hp nx ρ _ w h (Go1.refl hrel.hr) (hrel.put (Go1.refl hrel.hr) k2 o.dst)
    · split at h
      · rename_i r hp' nx' hr
        refine ⟨⟨r, hp', nx', h⟩, fun B ρ w a Q next hrel hnext => ?_⟩
        obtain ⟨w', ρ', hg, hop⟩ := wop_sound hη hrel.hr hrel.vl hr
        unfold Oper.wp
        rcases hop with ⟨v, e1, e2⟩ | ⟨e1, rfl⟩
        · rw [e1, Oper.upon_value]
          exact hnext r hp' nx' ρ' _ w' h hg (hrel.put hg e2 o.dst)
        · rw [e1, Oper.upon_skip]
          exact hnext _ hp' nx' ρ' _ w' h hg (hrel.put hg (show VR _ _ (.val undef) undef from rfl) o.dst)
      · cases h

theorem wantE_sound {ρ : Pl} {ops : Array Oper} {fr : List EV} {a : Act} {o : Oper} {b : Bool} (hv : VL ρ η fr a.tmps.toList) (h : wantE ops fr o.guard = some b) : Region.wanted o (yielded ops a.tmps) = b := by
  unfold wantE at h
  split at h
  · rename_i hg
    injection h with h; subst h
    unfold Region.wanted; rw [hg]
  · rename_i j want hg
    have key : ∀ x, yieldE ops fr j = some x → ∃ u, VR ρ η x u ∧ yielded ops a.tmps j = (match some u with | some (.bool b) => some b | _ => none) := fun x hx => by
      unfold yieldE at hx
      obtain ⟨d, h1, h2⟩ := Option.bind_eq_some_iff.1 hx
      obtain ⟨u, h3, h4⟩ := VL.get d hv h2
      rw [Array.getElem?_toList] at h3
      refine ⟨u, h4, ?_⟩
      unfold yielded
      rw [h1]
      simp only [Option.bind_some, h3]
      rfl
    unfold wantG at h
    split at h
    · rename_i b' hx
      obtain ⟨u, h1, h2⟩ := key _ hx
      obtain rfl : u = .bool b' := h1
      injection h with h; subst h
      unfold Region.wanted; rw [hg]
      simp only [h2]
      cases b' <;> cases want <;> rfl
    · rename_i hx
      obtain ⟨u, h1, h2⟩ := key _ hx
      obtain rfl : u = .tuple ⟨[]⟩ := h1
      injection h with h; subst h
      unfold Region.wanted; rw [hg]
      simp only [h2]
      cases want <;> rfl
    · cases h

theorem evL_sound (hη : Ones η) {call : CallK} (hc : CallS P η call) {ops : Array Oper} : ∀ {l : List Oper} {fr : List EV} {hp : Hp} {nx : Nat} {k : KF}, evL P O call ops l fr hp nx k = true →
    (∃ fr' hp' nx', k fr' hp' nx' = true) ∧ ∀ (B : Nat) (ρ : Pl) (w : World) (a : Act) (Q : Exit → Act → World → Prop), RelA D B ρ η fr hp nx w a →
      (∀ fr' hp' nx' ρ' a' w', k fr' hp' nx' = true → Go1 B η ρ ρ' hp' nx' w w' → RelA D B ρ' η fr' hp' nx' w' a' → Q .normal a' w') → wpList P ops Q l a w
  | [], fr, hp, nx, k, h => ⟨⟨fr, hp, nx, h⟩, fun B ρ w a Q hrel hQ => hQ fr hp nx ρ a w h (Go1.refl hrel.hr) hrel⟩
  | o :: rest, fr, hp, nx, k, h => by
    unfold evL at h
    split at h
    · rename_i hw
      obtain ⟨⟨r0, h0, n0, hk0⟩, k1⟩ := ev1_sound hη hc h
      refine ⟨(evL_sound hη hc hk0).1, fun B ρ w a Q hrel hQ => ?_⟩
      unfold wpList
      rw [if_pos (wantE_sound hrel.vl hw)]
      exact .inl (k1 B ρ w a Q _ hrel fun r hp1 nx1 ρ1 a1 w1 hk1 hg1 hr1 => (evL_sound hη hc hk1).2 B ρ1 w1 a1 Q hr1 fun fr' hp' nx' ρ2 a2 w2 hk2 hg2 hr2 => hQ fr' hp' nx' ρ2 a2 w2 hk2 (hg1.trans hg2) hr2)
    · rename_i hw
      obtain ⟨hex, k2⟩ := evL_sound hη hc h
      refine ⟨hex, fun B ρ w a Q hrel hQ => ?_⟩
      unfold wpList
      rw [if_neg (by rw [wantE_sound hrel.vl hw]; simp)]
      exact k2 B ρ w _ Q (hrel.put (Go1.refl hrel.hr) (show VR _ _ (.val undef) undef from rfl) o.dst) hQ
    · cases h

theorem keepE_sound {ρ : Pl} : ∀ (m : List Bool) {fr : List EV} {us : List Value}, VL ρ η fr us → VL ρ η (keepE m fr) us
  | [], _, _, h => by unfold keepE; exact h
  | b :: m, [], [], _ => by simp [keepE, VL]
  | b :: m, x :: fr, u :: us, ⟨h1, h2⟩ => by
    unfold keepE
    refine ⟨?_, keepE_sound m h2⟩
    cases b with
    | true => exact h1
    | false => trivial
  | _ :: _, [], _ :: _, h => h.elim
  | _ :: _, _ :: _, [], h => h.elim
theorem RelA.keep {B : Nat} {ρ : Pl} {fr : List EV} {hp : Hp} {nx : Nat} {w : World} {a : Act} (m : List Bool) (h : RelA D B ρ η fr hp nx w a) : RelA D B ρ η (keepE m fr) hp nx w a := ⟨h.hr, keepE_sound m h.vl, h.defers⟩
/-! Regions that draw their order. -/
section
variable {ops : Array Oper} {Q : Exit → Act → World → Prop}
/-- Whatever order is picked; and behind every operation S holds, told of those that have come up. -/
def wpAnyL (P : Program) (ops : Array Oper) (Q : Exit → Act → World → Prop) (S : Array Bool → World → Prop) : Nat → Array Bool → Act → World → Prop
  | 0, l, a, w => Region.ready .any ops l = [] ∧ Q .normal a w
  | n + 1, l, a, w => (Region.ready .any ops l = [] → Q .normal a w) ∧
    ∀ i ∈ Region.ready .any ops l, wpOp P ops Q i (fun a' w' => S (l.setIfInBounds i true) w' ∧ wpAnyL P ops Q S n (l.setIfInBounds i true) a' w') a w
theorem wpAny_of_L {S : Array Bool → World → Prop} : ∀ (n : Nat) (l : Array Bool) (a : Act) (w : World), wpAnyL P ops Q S n l a w → wpAny P .any ops Q n l a w
  | 0, _, _, _, h => h
  | n + 1, _, _, _, h => ⟨h.1, fun i hi => wpOp_mono (fun a' w' h' => wpAny_of_L n _ a' w' h'.2) (h.2 i hi)⟩
theorem wpAnyL_mono {S S' : Array Bool → World → Prop} {I : Array Bool → Prop} (hI : ∀ L j, I L → I (L.setIfInBounds j true)) (hs : ∀ L w, I L → S L w → S' L w) : ∀ (n : Nat) (l : Array Bool) (a : Act) (w : World), I l → wpAnyL P ops Q S n l a w → wpAnyL P ops Q S' n l a w
  | 0, _, _, _, _, h => h
  | n + 1, l, a, w, hl, h => ⟨h.1, fun i hi => wpOp_mono (fun a' w' h' => ⟨hs _ _ (hI _ _ hl) h'.1, wpAnyL_mono hI hs n _ a' w' (hI _ _ hl) h'.2⟩) (h.2 i hi)⟩
theorem wpAnyL_done {S : Array Bool → World → Prop} {l : Array Bool} {a : Act} {w : World} (hr : Region.ready .any ops l = []) (h : Q .normal a w) : ∀ n, wpAnyL P ops Q S n l a w
  | 0 => ⟨hr, h⟩
  | _ + 1 => ⟨fun _ => h, by rw [hr]; simp⟩

/-- What can have come up while i has not. -/
inductive Rch (ops : Array Oper) (i : Nat) (l : Array Bool) : Array Bool → Prop
  | refl : Rch ops i l l
  | step {L : Array Bool} {j : Nat} : Rch ops i l L → j ∈ Region.ready .any ops L → j ≠ i → Rch ops i l (L.setIfInBounds j true)
theorem Rch.head {i j : Nat} {l L : Array Bool} (hj : j ∈ Region.ready .any ops l) (hne : j ≠ i) (h : Rch ops i (l.setIfInBounds j true) L) : Rch ops i l L := by
  induction h with
  | refl => exact .step .refl hj hne
  | step _ h1 h2 ih => exact .step ih h1 h2
def SU (S : Array Bool → World → Prop) (ops : Array Oper) (i : Nat) (l : Array Bool) (w : World) : Prop := ∃ L, Rch ops i l L ∧ S (L.setIfInBounds i true) w

theorem set_listed {l : Array Bool} {i : Nat} (h : l[i]? = some true) : l.setIfInBounds i true = l := by
  apply Array.ext_getElem?
  intro k
  rw [Array.getElem?_setIfInBounds]
  by_cases q : i = k
  · subst q
    obtain ⟨hlt, h2⟩ := Array.getElem?_eq_some_iff.1 h
    simp [hlt, h2]
  · simp [q]

theorem wpAnyL_first {S : Array Bool → World → Prop} {i : Nat} {oi : Oper} {v : Value} (hi : ops[i]? = some oi) (hsel : ∀ (j : Nat) (o : Oper) cs b, ops[j]? = some o → o.op ≠ .select cs b)
    (hQ : ∀ c a w, Q (.panic c) (a.put oi.dst v) w → Q (.panic c) a w) :
    ∀ (fuel : Nat) (l : Array Bool) (a : Act) (w : World),
      (∀ j oj, ops[j]? = some oj → j ≠ i → l.getD j true = false → (∀ e ∈ oj.after, Region.binds .any e = true → e.on ≠ i) → oi.apart ops oj = true) →
      i ∈ Region.ready .any ops l → YieldsIf P ops (SU S ops i l) oi v a → S (l.setIfInBounds i true) w →
      wpAnyL P ops Q S fuel (l.setIfInBounds i true) (a.put oi.dst v) w → wpAnyL P ops Q (fun L => S (L.setIfInBounds i true)) (fuel + 1) l a w := by
  intro fuel
  have listed : ∀ l : Array Bool, i ∈ Region.ready .any ops l → (l.setIfInBounds i true)[i]? = some true := fun l hr => by
    have h0 := (mem_ready.1 hr).1
    have hlt : i < l.size := by
      rcases Nat.lt_or_ge i l.size with h | h
      · exact h
      · simp [Array.getD, Nat.not_lt.2 h] at h0
    simp [hlt]
  have same : ∀ (fuel : Nat) (l : Array Bool) (a : Act) (w : World), i ∈ Region.ready .any ops l → wpAnyL P ops Q S fuel (l.setIfInBounds i true) a w → wpAnyL P ops Q (fun L => S (L.setIfInBounds i true)) fuel (l.setIfInBounds i true) a w := fun fuel l a w hr h =>
    wpAnyL_mono (I := fun L => L[i]? = some true) (fun L j hL => by
      rw [Array.getElem?_setIfInBounds]
      by_cases q : j = i
      · subst q
        obtain ⟨hlt, _⟩ := Array.getElem?_eq_some_iff.1 hL
        simp [hlt]
      · simp [q, hL]) (fun L w hL hS => by simp only [set_listed hL]; exact hS) fuel _ a w (listed l hr) h
  induction fuel with
  | zero =>
    intro l a w _ hr hy hS H
    refine ⟨fun h => (by rw [h] at hr; cases hr), fun j hj => ?_⟩
    by_cases hji : j = i
    · subst hji
      exact hy.wpOp hi ⟨l, .refl, hS⟩ ⟨by simp only [set_listed (listed l hr)]; exact hS, same 0 l _ w hr H⟩
    · have := ready_mono hj hji
      rw [H.1] at this
      cases this
  | succ fuel ih =>
    intro l a w hfree hr hy hS H
    refine ⟨fun h => (by rw [h] at hr; cases hr), fun j hj => ?_⟩
    by_cases hji : j = i
    · subst hji
      exact hy.wpOp hi ⟨l, .refl, hS⟩ ⟨by simp only [set_listed (listed l hr)]; exact hS, same (fuel + 1) l _ w hr H⟩
    · have h1 := H.2 j (ready_mono hj hji)
      obtain ⟨hjun, oj, hoj, hall⟩ := mem_ready.1 hj
      have hnot : ∀ e ∈ oj.after, Region.binds .any e = true → e.on ≠ i := fun e he hb heq => by
        have h1 := hall e he hb
        have h0 := (mem_ready.1 hr).1
        rw [heq] at h1
        rcases Nat.lt_or_ge i l.size with h' | h'
        · simp [h'] at h0 h1; rw [h0] at h1; cases h1
        · simp [Array.getElem?_eq_none h'] at h1
      have h2 := wpOp_putIf hoj (hfree j oj hoj hji hjun hnot) (fun cs b => hsel i oi cs b hi) (fun cs b => hsel j oj cs b hoj) hQ hy h1
      have hfree' : ∀ k ok, ops[k]? = some ok → k ≠ i → (l.setIfInBounds j true).getD k true = false →
          (∀ e ∈ ok.after, Region.binds .any e = true → e.on ≠ i) → oi.apart ops ok = true := fun k ok hk hki hun hno => by
        refine hfree k ok hk hki ?_ hno
        by_cases hjk : j = k
        · subst hjk; exact hjun
        · rw [getD_set_ne true hjk] at hun; exact hun
      refine wpOp_mono (fun a' w' h3 => ?_) h2
      have e : (l.setIfInBounds i true).setIfInBounds j true = (l.setIfInBounds j true).setIfInBounds i true := Array.setIfInBounds_comm _ _ (Ne.symm hji)
      rw [e] at h3
      refine ⟨h3.2.1, ih (l.setIfInBounds j true) a' w' hfree' (ready_mono hr (Ne.symm hji)) ?_ h3.2.1 h3.2.2⟩
      exact h3.1.imp (fun ⟨q1, q2⟩ => ⟨q1, fun w ⟨L, hL, hS⟩ => q2 w ⟨L, hL.head hj hji, hS⟩⟩) id

theorem waitsOn_sound {i : Nat} {l : Array Bool} (hil : l.getD i true = false) : ∀ (d e : Nat) {L : Array Bool}, waitsOn ops l i d e = true → Rch ops i l L → L.getD e true = false
  | 0, e, L, h, _ => by simp [waitsOn] at h
  | d + 1, e, L, h, hL => by
    have iun : ∀ {L}, Rch ops i l L → L.getD i true = false := fun hL => by
      induction hL with
      | refl => exact hil
      | step _ _ hne ih => rw [getD_set_ne true hne]; exact ih
    have h0 := h
    unfold waitsOn at h
    simp only [Bool.and_eq_true, Bool.not_eq_true'] at h
    obtain ⟨h1, h2⟩ := h
    induction hL with
    | refl => exact h1
    | step hL hj hne ih =>
      rename_i L j
      by_cases q : j = e
      · subst q
        exfalso
        obtain ⟨_, oj, hoj, hall⟩ := mem_ready.1 hj
        rw [hoj] at h2
        simp only [Array.any_eq_true', Bool.and_eq_true, Bool.or_eq_true, Nat.beq_eq] at h2
        obtain ⟨x, hx, hb, hw⟩ := h2
        have hlx := hall x hx hb
        have hun : L.getD x.on true = false := by
          rcases hw with hw | hw
          · rw [hw]; exact iun hL
          · exact waitsOn_sound hil d x.on hw hL
        rcases Nat.lt_or_ge x.on L.size with h' | h'
        · simp [h'] at hun hlx; rw [hun] at hlx; cases hlx
        · simp [Array.getElem?_eq_none h'] at hlx
      · rw [getD_set_ne true q]; exact ih
end

/-- The point that one is at: the one at the beginning, or one behind something that had no other beside it. -/
def PtAt : Plan → Array Bool → Hp → List Hp → Hp → Prop
  | .fin, _, hp, _, h => h = hp
  | .first _ _ p, L, hp, pts, h => PtAt p L hp pts h
  | .only e p, L, hp, pts, h => (L.getD e true = false ∧ h = hp) ∨ (L.getD e true = true ∧ ∃ hp2 pts2, pts = hp2 :: pts2 ∧ PtAt p L hp2 pts2 h)
  | .two a b p q, L, hp, pts, h => (L.getD a true = false ∧ L.getD b true = false ∧ h = hp) ∨ (L.getD a true = true ∧ ∃ hp2 pts2, pts = hp2 :: pts2 ∧ PtAt p L hp2 pts2 h) ∨ (L.getD b true = true ∧ ∃ hp2 pts2, pts = hp2 :: pts2 ∧ PtAt q L hp2 pts2 h)
  | .swap a b p, L, hp, pts, h => (L.getD a true = false ∧ h = hp) ∨ ∃ hp2 hp3 pts3, pts = hp2 :: hp3 :: pts3 ∧ ((L.getD a true = true ∧ L.getD b true = false ∧ h = hp2) ∨ (L.getD a true = true ∧ L.getD b true = true ∧ PtAt p L hp3 pts3 h))
def late : Plan → List Nat
  | .fin => []
  | .first _ _ p => late p
  | .only e p => e :: late p
  | .two a b p q => a :: b :: (late p ++ late q)
  | .swap a b p => a :: b :: late p
theorem late_un {ops : Array Oper} : ∀ {p : Plan} {n : Nat} {l : Array Bool}, planOk ops p n l = true → ∀ e ∈ late p, l.getD e true = false
  | .fin, _, _, _, e, he => by simp [late] at he
  | .first i m p, 0, _, h, _, _ => by cases h
  | .only i p, 0, _, h, _, _ => by cases h
  | .two a b p q, 0, _, h, _, _ => by cases h
  | .swap a b p, 0, _, h, _, _ => by cases h
  | .swap a b p, 1, _, h, _, _ => by cases h
  | .swap a b p, n + 2, l, h, e, he => by
    simp only [planOk, Bool.and_eq_true, beq_iff_eq] at h
    have ha : l.getD a true = false := (mem_ready.1 (show a ∈ Region.ready .any ops l by rw [h.1.1.1.1]; simp)).1
    have hb : l.getD b true = false := (mem_ready.1 (show b ∈ Region.ready .any ops l by rw [h.1.1.1.1]; simp)).1
    simp only [late, List.mem_cons] at he
    rcases he with rfl | rfl | he
    · exact ha
    · exact hb
    · have := late_un h.2 e he
      by_cases q : b = e
      · subst q; exact hb
      · rw [getD_set_ne true q] at this
        by_cases q2 : a = e
        · subst q2; exact ha
        · rw [getD_set_ne true q2] at this; exact this
  | .first i m p, n + 1, l, h, e, he => by
    simp only [planOk, Bool.and_eq_true] at h
    have := late_un h.2 e he
    by_cases q : i = e
    · subst q
      simp only [List.contains_iff_mem] at h
      exact (mem_ready.1 h.1.1.1.2).1
    · rw [getD_set_ne true q] at this; exact this
  | .only i p, n + 1, l, h, e, he => by
    simp only [planOk, Bool.and_eq_true, beq_iff_eq] at h
    have hi : l.getD i true = false := (mem_ready.1 (show i ∈ Region.ready .any ops l by rw [h.1]; simp)).1
    simp only [late, List.mem_cons] at he
    rcases he with rfl | he
    · exact hi
    · have := late_un h.2 e he
      by_cases q : i = e
      · subst q; exact hi
      · rw [getD_set_ne true q] at this; exact this
  | .two a b p q, n + 1, l, h, e, he => by
    simp only [planOk, Bool.and_eq_true, beq_iff_eq] at h
    have ha : l.getD a true = false := (mem_ready.1 (show a ∈ Region.ready .any ops l by rw [h.1.1]; simp)).1
    have hb : l.getD b true = false := (mem_ready.1 (show b ∈ Region.ready .any ops l by rw [h.1.1]; simp)).1
    simp only [late, List.mem_cons, List.mem_append] at he
    rcases he with rfl | rfl | he | he
    · exact ha
    · exact hb
    · have := late_un h.1.2 e he
      by_cases q : a = e
      · subst q; exact ha
      · rw [getD_set_ne true q] at this; exact this
    · have := late_un h.2 e he
      by_cases q : b = e
      · subst q; exact hb
      · rw [getD_set_ne true q] at this; exact this
theorem ptAt_start : ∀ {p : Plan} {L : Array Bool} {hp : Hp} {pts : List Hp}, (∀ e ∈ late p, L.getD e true = false) → PtAt p L hp pts hp
  | .fin, _, _, _, _ => rfl
  | .first _ _ p, L, hp, pts, hl => ptAt_start (p := p) hl
  | .only e p, L, hp, pts, hl => .inl ⟨hl e (by simp [late]), rfl⟩
  | .two a b p q, L, hp, pts, hl => .inl ⟨hl a (by simp [late]), hl b (by simp [late]), rfl⟩
  | .swap a b p, L, hp, pts, hl => .inl ⟨hl a (by simp [late]), rfl⟩
theorem ptAt_same : ∀ {p : Plan} {L L' : Array Bool} {hp : Hp} {pts : List Hp} {h : Hp}, (∀ e ∈ late p, L.getD e true = L'.getD e true) → PtAt p L hp pts h → PtAt p L' hp pts h
  | .fin, _, _, _, _, _, _, h => h
  | .first _ _ p, L, L', hp, pts, h, hl, hh => ptAt_same (p := p) hl hh
  | .only e p, L, L', hp, pts, h, hl, hh => by
    have he := hl e (by simp [late])
    rcases hh with ⟨h1, h2⟩ | ⟨h1, hp2, pts2, h2, h3⟩
    · exact .inl ⟨he ▸ h1, h2⟩
    · exact .inr ⟨he ▸ h1, hp2, pts2, h2, ptAt_same (fun x hx => hl x (by simp [late, hx])) h3⟩
  | .two a b p q, L, L', hp, pts, h, hl, hh => by
    have ha := hl a (by simp [late])
    have hb := hl b (by simp [late])
    rcases hh with ⟨h1, h2, h3⟩ | ⟨h1, hp2, pts2, h2, h3⟩ | ⟨h1, hp2, pts2, h2, h3⟩
    · exact .inl ⟨ha ▸ h1, hb ▸ h2, h3⟩
    · exact .inr (.inl ⟨ha ▸ h1, hp2, pts2, h2, ptAt_same (fun x hx => hl x (by simp [late, hx])) h3⟩)
    · exact .inr (.inr ⟨hb ▸ h1, hp2, pts2, h2, ptAt_same (fun x hx => hl x (by simp [late, hx])) h3⟩)
  | .swap a b p, L, L', hp, pts, h, hl, hh => by
    have ha := hl a (by simp [late])
    have hb := hl b (by simp [late])
    rcases hh with ⟨h1, h2⟩ | ⟨hp2, hp3, pts3, h1, ⟨h2, h3, h4⟩ | ⟨h2, h3, h4⟩⟩
    · exact .inl ⟨ha ▸ h1, h2⟩
    · exact .inr ⟨hp2, hp3, pts3, h1, .inl ⟨ha ▸ h2, hb ▸ h3, h4⟩⟩
    · exact .inr ⟨hp2, hp3, pts3, h1, .inr ⟨ha ▸ h2, hb ▸ h3, ptAt_same (fun x hx => hl x (by simp [late, hx])) h4⟩⟩
theorem ptAt_take {ops : Array Oper} {l L : Array Bool} {i : Nat} (hil : l.getD i true = false) (hL : Rch ops i l L) : ∀ {p : Plan} {m : Nat} {hp : Hp} {pts : List Hp} {h : Hp}, lateOk ops l i m p = true → 1 ≤ m → PtAt p L hp pts h → h = hp ∨ h ∈ pts.take (m - 1) := by
  have next : ∀ {pts : List Hp} {hp2 h : Hp} {m : Nat}, 2 ≤ m → (h = hp2 ∨ h ∈ pts.take (m - 1 - 1)) → h ∈ (hp2 :: pts).take (m - 1) := by
    intro pts hp2 h m hm hh
    obtain ⟨m', rfl⟩ : ∃ m', m = m' + 2 := ⟨m - 2, by omega⟩
    simp only [Nat.add_sub_cancel, show m' + 2 - 1 = m' + 1 by omega] at hh ⊢
    rw [List.take_succ_cons, List.mem_cons]
    exact hh
  intro p
  induction p with
  | fin => intro m hp pts h _ hm hh; exact .inl hh
  | first j mj p ih => intro m hp pts h hl hm hh; exact ih hl hm hh
  | only e p ih =>
    intro m hp pts h hl hm hh
    simp only [lateOk] at hl
    rcases hh with ⟨_, h2⟩ | ⟨h1, hp2, pts2, rfl, h2⟩
    · exact .inl h2
    · split at hl
      · have := waitsOn_sound hil 8 e hl hL
        rw [this] at h1; cases h1
      · rename_i hm1
        have hm2 : 2 ≤ m := by
          rcases Nat.lt_or_ge m 2 with q | q
          · exact absurd (by rw [Nat.ble_eq]; omega : Nat.ble m 1 = true) hm1
          · exact q
        exact .inr (next hm2 (ih hl (by omega) h2))
  | two a b p q ihp ihq =>
    intro m hp pts h hl hm hh
    simp only [lateOk] at hl
    rcases hh with ⟨_, _, h2⟩ | ⟨h1, hp2, pts2, rfl, h2⟩ | ⟨h1, hp2, pts2, rfl, h2⟩
    · exact .inl h2
    · split at hl
      · rw [Bool.and_eq_true] at hl
        have := waitsOn_sound hil 8 a hl.1 hL
        rw [this] at h1; cases h1
      · rename_i hm1
        rw [Bool.and_eq_true] at hl
        have hm2 : 2 ≤ m := by
          rcases Nat.lt_or_ge m 2 with q | q
          · exact absurd (by rw [Nat.ble_eq]; omega : Nat.ble m 1 = true) hm1
          · exact q
        exact .inr (next hm2 (ihp hl.1 (by omega) h2))
    · split at hl
      · rw [Bool.and_eq_true] at hl
        have := waitsOn_sound hil 8 b hl.2 hL
        rw [this] at h1; cases h1
      · rename_i hm1
        rw [Bool.and_eq_true] at hl
        have hm2 : 2 ≤ m := by
          rcases Nat.lt_or_ge m 2 with q | q
          · exact absurd (by rw [Nat.ble_eq]; omega : Nat.ble m 1 = true) hm1
          · exact q
        exact .inr (next hm2 (ihq hl.2 (by omega) h2))
  | swap a b p ih =>
    intro m hp pts h hl hm hh
    simp only [lateOk] at hl
    rcases hh with ⟨_, h2⟩ | ⟨hp2, hp3, pts3, rfl, h2⟩
    · exact .inl h2
    · have hla : L.getD a true = true := by rcases h2 with ⟨h, _⟩ | ⟨h, _⟩ <;> exact h
      split at hl
      · have := waitsOn_sound hil 8 a hl hL
        rw [this] at hla; cases hla
      · rename_i hm1
        have hm2 : 2 ≤ m := by
          rcases Nat.lt_or_ge m 2 with q | q
          · exact absurd (by rw [Nat.ble_eq]; omega : Nat.ble m 1 = true) hm1
          · exact q
        refine .inr (next hm2 ?_)
        rcases h2 with ⟨_, _, h3⟩ | ⟨_, hlb, h3⟩
        · exact .inl h3
        · split at hl
          · have := waitsOn_sound hil 8 b hl hL
            rw [this] at hlb; cases hlb
          · rename_i hm3
            have hm4 : 3 ≤ m := by
              rcases Nat.lt_or_ge m 3 with q | q
              · exact absurd (by rw [Nat.ble_eq]; omega : Nat.ble m 2 = true) hm3
              · exact q
            exact .inr (next (m := m - 1) (by omega) (ih hl (by omega) h3))

/-- The worlds that a region's points are told of. -/
def SP (B : Nat) (η : Nat → Value) (ρ : Pl) (k : KD) (p : Plan) (hp : Hp) (L : Array Bool) (w : World) : Prop :=
  ∃ fr' hp' nx' pts h, k fr' hp' nx' pts = true ∧ PtAt p L hp pts h ∧ ∃ ρ' nx2, ρ.Le ρ' ∧ HR B ρ' η h nx2 w

theorem noread {hp h : Hp} {fr : List EV} {op : Op} (hr : reads op = false) : pop P O h fr op = pop P O hp fr op := by
  unfold pop
  split <;> first | rfl | (simp [reads] at hr)

/-- What a plan's walk comes to. -/
def DOk (P : Program) (D : List Deferred) (η : Nat → Value) (ops : Array Oper) (p : Plan) (n : Nat) (l : Array Bool) (fr : List EV) (hp : Hp) (nx : Nat) (k : KD) : Prop :=
  (∃ fr' hp' nx' pts, k fr' hp' nx' pts = true) ∧
    ∀ (B : Nat) (ρ : Pl) (w : World) (a : Act) (Q : Exit → Act → World → Prop), (∀ c a w, ¬ Q (.panic c) a w) → RelA D B ρ η fr hp nx w a →
      (∀ fr' hp' nx' pts ρ' a' w', k fr' hp' nx' pts = true → Go1 B η ρ ρ' hp' nx' w w' → RelA D B ρ' η fr' hp' nx' w' a' → Q .normal a' w') → wpAnyL P ops Q (SP B η ρ k p hp) n l a w

/-- One that no other may come up with, or that is one of two. -/
theorem one_sound (mk : List Bool) (hη : Ones η) {call : CallK} (hc : CallS P η call) {ops : Array Oper} {i : Nat} {o : Oper} (hi : ops[i]? = some o) {fr : List EV} {hp : Hp} {nx : Nat} {k : KD} {p p0 : Plan} {n : Nat} {l : Array Bool}
    (hlt : l.getD i true = false) (hun : ∀ e ∈ late p, (l.setIfInBounds i true).getD e true = false)
    (hp0 : ∀ L hp2 pts h, L.getD i true = true → PtAt p L hp2 pts h → PtAt p0 L hp (hp2 :: pts) h)
    (ih : ∀ {fr : List EV} {hp : Hp} {nx : Nat} {k : KD}, evD P O call mk ops p fr hp nx k = true → DOk P D η ops p n (l.setIfInBounds i true) fr hp nx k)
    (h : (match wantE ops fr o.guard with
      | some true => ev1 P O call o fr hp nx fun r hp2 nx2 => evD P O call mk ops p (putE fr o.dst r) hp2 nx2 fun fr' hp' nx' pts => k fr' hp' nx' (hp2 :: pts)
      | some false => evD P O call mk ops p (putE fr o.dst (.val undef)) hp nx fun fr' hp' nx' pts => k fr' hp' nx' (hp :: pts)
      | none => false) = true) :
    (∃ fr' hp' nx' pts, k fr' hp' nx' pts = true) ∧
      ∀ (B : Nat) (ρ : Pl) (w : World) (a : Act) (Q : Exit → Act → World → Prop), (∀ c a w, ¬ Q (.panic c) a w) → RelA D B ρ η fr hp nx w a →
      (∀ fr' hp' nx' pts ρ' a' w', k fr' hp' nx' pts = true → Go1 B η ρ ρ' hp' nx' w w' → RelA D B ρ' η fr' hp' nx' w' a' → Q .normal a' w') →
      wpOp P ops Q i (fun a' w' => SP B η ρ k p0 hp (l.setIfInBounds i true) w' ∧ wpAnyL P ops Q (SP B η ρ k p0 hp) n (l.setIfInBounds i true) a' w') a w := by
  have hsz : i < l.size := by
    rcases Nat.lt_or_ge i l.size with h | h
    · exact h
    · simp [Array.getD, Nat.not_lt.2 h] at hlt
  have hset : (l.setIfInBounds i true).getD i true = true := by simp [hsz]
  have keep : ∀ (L : Array Bool) (j : Nat), L.getD i true = true → (L.setIfInBounds j true).getD i true = true := fun L j hL => by
    by_cases q : j = i
    · subst q
      rcases Nat.lt_or_ge j L.size with h | h
      · simp [h]
      · simp [Array.getD, Nat.not_lt.2 h]
    · rw [getD_set_ne true q]; exact hL
  have go : ∀ {fr1 : List EV} {hp1 : Hp} {nx1 : Nat} {B : Nat} {ρ ρ1 : Pl} {w w1 : World} {a1 : Act} {Q : Exit → Act → World → Prop}, DOk P D η ops p n (l.setIfInBounds i true) fr1 hp1 nx1 (fun fr' hp' nx' pts => k fr' hp' nx' (hp1 :: pts)) →
      (∀ c a w, ¬ Q (.panic c) a w) → Go1 B η ρ ρ1 hp1 nx1 w w1 → RelA D B ρ1 η fr1 hp1 nx1 w1 a1 →
      (∀ fr' hp' nx' pts ρ' a' w', k fr' hp' nx' pts = true → Go1 B η ρ ρ' hp' nx' w w' → RelA D B ρ' η fr' hp' nx' w' a' → Q .normal a' w') →
      SP B η ρ k p0 hp (l.setIfInBounds i true) w1 ∧ wpAnyL P ops Q (SP B η ρ k p0 hp) n (l.setIfInBounds i true) a1 w1 := by
    rintro fr1 hp1 nx1 B ρ ρ1 w w1 a1 Q ⟨⟨fr', hp', nx', pts, q1⟩, k2⟩ hpan hg1 hr1 hQ
    refine ⟨⟨fr', hp', nx', hp1 :: pts, hp1, q1, hp0 _ _ _ _ hset (ptAt_start hun), ρ1, nx1, hg1.le, hr1.hr⟩, ?_⟩
    refine wpAnyL_mono (I := fun L => L.getD i true = true) keep ?_ n _ a1 w1 hset (k2 B ρ1 w1 a1 Q hpan hr1 fun fr' hp' nx' pts ρ2 a2 w2 hk2 hg2 hr2 => hQ fr' hp' nx' (hp1 :: pts) ρ2 a2 w2 hk2 (hg1.trans hg2) hr2)
    rintro L w' hL ⟨fr', hp', nx', pts, h, hk, hm, ρ', nx2, hle, hhr⟩
    exact ⟨fr', hp', nx', hp1 :: pts, h, hk, hp0 _ _ _ _ hL hm, ρ', nx2, hg1.le.trans hle, hhr⟩
  split at h
  · rename_i hw
    obtain ⟨⟨r0, h0, n0, hk0⟩, k1⟩ := ev1_sound hη hc h
    obtain ⟨⟨fr', hp', nx', pts, q1⟩, _⟩ := ih hk0
    refine ⟨⟨fr', hp', nx', h0 :: pts, q1⟩, fun B ρ w a Q hpan hrel hQ => ?_⟩
    unfold wpOp
    simp only [hi]
    rw [if_pos (wantE_sound hrel.vl hw)]
    exact .inl (k1 B ρ w a Q _ hrel fun r hp1 nx1 ρ1 a1 w1 hk1 hg1 hr1 => go (ih hk1) hpan hg1 hr1 hQ)
  · rename_i hw
    obtain ⟨⟨fr', hp', nx', pts, q1⟩, _⟩ := ih h
    refine ⟨⟨fr', hp', nx', hp :: pts, q1⟩, fun B ρ w a Q hpan hrel hQ => ?_⟩
    unfold wpOp
    simp only [hi]
    rw [if_neg (by rw [wantE_sound hrel.vl hw]; simp)]
    exact go (ih h) hpan (Go1.refl hrel.hr) (hrel.put (Go1.refl hrel.hr) (show VR _ _ (.val undef) undef from rfl) o.dst) hQ
  · cases h

/-- What an operation comes to that looks at nothing of another's. -/
theorem wpOp_beside {ops : Array Oper} {Q : Exit → Act → World → Prop} {i : Nat} {oi oj : Oper} {v : Value} (hi : ops[i]? = some oi) (hap : oj.apart ops oi = true)
    (hsi : ∀ cs b, oi.op ≠ .select cs b) (hQ : ∀ c a w, ¬ Q (.panic c) a w) {K : Act → World → Prop} {a : Act} {w : World} (h : wpOp P ops Q i K a w) :
    wpOp P ops Q i (fun a' w' => ∃ a0, a' = a0.put oj.dst v ∧ K a0 w') (a.put oj.dst v) w := by
  obtain ⟨h1, h2, h3⟩ := Oper.apart_spec hap
  unfold wpOp at *
  simp only [hi] at *
  rw [wanted_put oi a oj.dst v h1]
  split
  · rename_i hw
    simp only [hw, if_true] at h
    rcases h with h | ⟨hasks, hlets⟩
    case inr => exact .inr ⟨by unfold Oper.asks at *; rw [execOp_put oi hsi a oj.dst v h1]; exact hasks, hlets⟩
    refine .inl ?_
    unfold Oper.wp at *
    rw [execOp_put oi hsi a oj.dst v h1]
    generalize (execOp a.eval oi).run P w = r at *
    cases r with
    | ok n w' =>
      cases n <;> simp only [Oper.upon] at h ⊢
      case value u => exact ⟨_, Act.put_comm a v u h2, h⟩
      case skip => exact ⟨_, Act.put_comm a v undef h2, h⟩
      case defer d => exact ⟨_, by rw [Act.put_defers]; exact Act.put_comm _ v undef h2, h⟩
      case enter f args =>
        refine Calls.mono h fun e w'' he => ?_
        cases e with
        | returned u => exact ⟨_, Act.put_comm a v u h2, he⟩
        | panicked c => exact absurd he (hQ _ _ _)
        | outgrown => exact he
      case row row args => exact Rows.mono h fun u w'' he => ⟨_, Act.put_comm a v u h2, he⟩
    | halt x w' =>
      cases x <;> simp only [Oper.upon] at h ⊢
      case panic u => exact absurd h (hQ _ _ _)
  · rename_i hw
    simp only [hw] at h
    exact ⟨_, Act.put_comm a v undef h2, h⟩

theorem evO_put {fr : List EV} {d : Nat} {r : EV} {x : Operand} (h : x ≠ .tmp d) : evO (fr.set d r) x = evO fr x := by
  cases x with
  | tmp t =>
    have q : d ≠ t := fun e => h (by rw [e])
    simp only [evO, List.getElem?_set_ne q]
  | const v => rfl
  | global g => rfl
  | func f => rfl
theorem alcE_put {ops : Array Oper} {oi oj : Oper} (hap : oj.apart ops oi = true) {fr : List EV} {r : EV} : alcE P (putE fr oi.dst r) oj.op = alcE P fr oj.op := by
  obtain ⟨_, _, h3⟩ := Oper.apart_spec hap
  cases hd : oi.dst with
  | none => rfl
  | some d =>
    have hno : ∀ x ∈ oj.op.operands, x ≠ .tmp d := fun x hx q => by
      subst q
      exact h3 d hd (List.mem_append_left _ (List.mem_filterMap.2 ⟨.tmp d, by simpa using hx, rfl⟩))
    unfold alcE
    split
    · rename_i t len parts heq
      have e : (parts.toList.map fun p => (p.1, evO (putE fr (some d) r) p.2)) = parts.toList.map fun p => (p.1, evO fr p.2) := by
        apply List.map_congr_left
        intro q hq
        have hx : q.2 ∈ oj.op.operands := by
          rw [heq]
          simp only [Op.operands, List.mem_toArray, List.mem_map]
          exact ⟨q, hq, rfl⟩
        simp only [putE, evO_put (hno _ hx)]
      simp only [e]
    · rfl
    · rfl

theorem swap_sound (mk : List Bool) (hη : Ones η) {call : CallK} (hc : CallS P η call) {ops : Array Oper} (hsel : Region.noSelect ops = true) {i j : Nat} {oi oj : Oper} (hi : ops[i]? = some oi) (hj : ops[j]? = some oj) {fr : List EV} {hp : Hp} {nx : Nat} {k : KD} {p : Plan} {n : Nat} {l : Array Bool}
    (hok : planOk ops (.swap i j p) (n + 2) l = true) (hgj : oj.guard = none) (hw : wantE ops fr oi.guard = some true)
    (ih : ∀ {fr : List EV} {hp : Hp} {nx : Nat} {k : KD}, evD P O call mk ops p fr hp nx k = true → DOk P D η ops p n ((l.setIfInBounds i true).setIfInBounds j true) fr hp nx k)
    (h : (ev1 P O call oi fr hp nx fun r hp2 nx2 => match alcE P fr oj.op with
        | some (x, res) => evD P O call mk ops p (putE (putE fr oi.dst r) oj.dst (res nx2)) (hp2.set nx2 (some x)) (nx2 + 1) fun fr' hp' nx' pts => k fr' hp' nx' (hp2 :: (hp2.set nx2 (some x)) :: pts)
        | none => false) = true) : DOk P D η ops (.swap i j p) (n + 2) l fr hp nx k := by
  have hun := late_un hok
  simp only [planOk, hi, hj, Bool.and_eq_true, beq_iff_eq] at hok
  obtain ⟨⟨⟨⟨hr, hri⟩, hrj⟩, hap⟩, hp0⟩ := hok
  have huni : l.getD i true = false := hun i (by simp [late])
  have hunj : l.getD j true = false := hun j (by simp [late])
  have hsz : ∀ {i}, l.getD i true = false → i < l.size := fun {i} h => by
    rcases Nat.lt_or_ge i l.size with h' | h'
    · exact h'
    · simp [Array.getD, Nat.not_lt.2 h'] at h
  have hij : i ≠ j := fun q => by
    subst q
    have := (mem_ready.1 (show i ∈ Region.ready .any ops (l.setIfInBounds i true) by rw [hri]; simp)).1
    simp [hsz huni] at this
  have gi : (l.setIfInBounds i true).getD i true = true := by simp [hsz huni]
  have gj : (l.setIfInBounds i true).getD j true = false := by rw [getD_set_ne true hij]; exact hunj
  have gi2 : (l.setIfInBounds j true).getD i true = false := by rw [getD_set_ne true (Ne.symm hij)]; exact huni
  have comm : (l.setIfInBounds j true).setIfInBounds i true = (l.setIfInBounds i true).setIfInBounds j true := Array.setIfInBounds_comm _ _ (Ne.symm hij)
  have bi : ((l.setIfInBounds i true).setIfInBounds j true).getD i true = true := by rw [getD_set_ne true (Ne.symm hij)]; exact gi
  have bj : ((l.setIfInBounds i true).setIfInBounds j true).getD j true = true := by
    have : j < (l.setIfInBounds i true).size := by simp; exact hsz hunj
    simp [hsz hunj]
  have hunp := late_un hp0
  have kp : ∀ (e : Nat) (L : Array Bool) (x : Nat), L.getD e true = true → (L.setIfInBounds x true).getD e true = true := fun e L x hL => by
    by_cases q : x = e
    · subst q
      rcases Nat.lt_or_ge x L.size with h | h
      · simp [h]
      · simp [Array.getD, Nat.not_lt.2 h]
    · rw [getD_set_ne true q]; exact hL
  have hsels := Region.noSelect_spec hsel
  -- what is behind both
  have behind : ∀ {r : EV} {hp2 : Hp} {nx2 : Nat} {x : EO} {res : Nat → EV} {B : Nat} {ρ ρ2 : Pl} {w w2 : World} {a2 : Act} {Q : Exit → Act → World → Prop},
      evD P O call mk ops p (putE (putE fr oi.dst r) oj.dst (res nx2)) (hp2.set nx2 (some x)) (nx2 + 1) (fun fr' hp' nx' pts => k fr' hp' nx' (hp2 :: (hp2.set nx2 (some x)) :: pts)) = true →
      (∀ c a w, ¬ Q (.panic c) a w) → Go1 B η ρ ρ2 (hp2.set nx2 (some x)) (nx2 + 1) w w2 → RelA D B ρ2 η (putE (putE fr oi.dst r) oj.dst (res nx2)) (hp2.set nx2 (some x)) (nx2 + 1) w2 a2 →
      (∀ fr' hp' nx' pts ρ' a' w', k fr' hp' nx' pts = true → Go1 B η ρ ρ' hp' nx' w w' → RelA D B ρ' η fr' hp' nx' w' a' → Q .normal a' w') →
      SP B η ρ k (.swap i j p) hp ((l.setIfInBounds i true).setIfInBounds j true) w2 ∧ wpAnyL P ops Q (SP B η ρ k (.swap i j p) hp) n ((l.setIfInBounds i true).setIfInBounds j true) a2 w2 := by
    intro r hp2 nx2 x res B ρ ρ2 w w2 a2 Q hev hpan hg hr2 hQ
    obtain ⟨⟨fr', hp', nx', pts, q1⟩, k2⟩ := ih hev
    refine ⟨⟨fr', hp', nx', _, _, q1, .inr ⟨_, _, _, rfl, .inr ⟨bi, bj, ptAt_start hunp⟩⟩, ρ2, _, hg.le, hr2.hr⟩, ?_⟩
    refine wpAnyL_mono (I := fun L => L.getD i true = true ∧ L.getD j true = true) (fun L x hL => ⟨kp i L x hL.1, kp j L x hL.2⟩) ?_ n _ a2 w2 ⟨bi, bj⟩
      (k2 B ρ2 w2 a2 Q hpan hr2 fun fr' hp' nx' pts ρ3 a3 w3 hk3 hg3 hr3 => hQ fr' hp' nx' _ ρ3 a3 w3 hk3 (hg.trans hg3) hr3)
    rintro L w' hL ⟨fr', hp', nx', pts, h, hk, hm, ρ', nx3, hle, hhr⟩
    exact ⟨fr', hp', nx', _, h, hk, .inr ⟨_, _, _, rfl, .inr ⟨hL.1, hL.2, hm⟩⟩, ρ', nx3, hg.le.trans hle, hhr⟩
  obtain ⟨⟨r0, h0, n0, hk0⟩, k1⟩ := ev1_sound hη hc h
  have inner : ∀ {r : EV} {hp2 : Hp} {nx2 : Nat}, (match alcE P fr oj.op with
        | some (x, res) => evD P O call mk ops p (putE (putE fr oi.dst r) oj.dst (res nx2)) (hp2.set nx2 (some x)) (nx2 + 1) fun fr' hp' nx' pts => k fr' hp' nx' (hp2 :: (hp2.set nx2 (some x)) :: pts)
        | none => false) = true → ∃ x res, alcE P fr oj.op = some (x, res) ∧ evD P O call mk ops p (putE (putE fr oi.dst r) oj.dst (res nx2)) (hp2.set nx2 (some x)) (nx2 + 1) (fun fr' hp' nx' pts => k fr' hp' nx' (hp2 :: (hp2.set nx2 (some x)) :: pts)) = true := by
    intro r hp2 nx2 hh
    split at hh
    · rename_i x res he
      exact ⟨x, res, he, hh⟩
    · cases hh
  obtain ⟨x0, res0, halc, hev0⟩ := inner hk0
  obtain ⟨⟨fr0, hp1, nx0, pts0, q1⟩, _⟩ := ih hev0
  refine ⟨⟨fr0, hp1, nx0, _, q1⟩, fun B ρ w a Q hpan hrel hQ => ⟨fun h0 => ?_, fun z hz => ?_⟩⟩
  · rw [hr] at h0; cases h0
  rw [hr] at hz
  have hwj : ∀ a : Act, Region.wanted oj (yielded ops a.tmps) = true := fun a => by unfold Region.wanted; rw [hgj]
  have hz2 : z = i ∨ z = j := by simpa using hz
  rcases hz2 with rfl | rfl
  · -- i, then j
    unfold wpOp
    simp only [hi]
    rw [if_pos (wantE_sound hrel.vl hw)]
    refine .inl (k1 B ρ w a Q _ hrel fun r hp2 nx2 ρ1 a1 w1 hk1 hg1 hr1 => ?_)
    obtain ⟨x, res, halc1, hev⟩ := inner hk1
    obtain ⟨⟨fr', hp', nx', pts, q2⟩, _⟩ := ih hev
    refine ⟨⟨fr', hp', nx', _, hp2, q2, .inr ⟨_, _, _, rfl, .inl ⟨gi, gj, rfl⟩⟩, ρ1, nx2, hg1.le, hr1.hr⟩, fun h0 => ?_, fun y hy => ?_⟩
    · rw [hri] at h0; cases h0
    rw [hri] at hy
    obtain rfl : y = j := by simpa using hy
    obtain ⟨obj, N, v, e1, e2⟩ := alcE_sound (w := w1) (x := x) (res := res) hη hr1.vl (by rw [alcE_put (ops := ops) hap]; exact halc1)
    have hle := Pl.le_ext (w1.heap.size, 0, N) (hr1.hr.out nx2 (Nat.le_refl _))
    obtain ⟨f1, f2⟩ := e2 (ρ1.ext nx2 (w1.heap.size, 0, N)) (w1.alloc obj) nx2 hle (Pl.ext_same _ _ _) (heap_alloc_new w1 _)
    have hg2 : Go1 B η ρ1 (ρ1.ext nx2 (w1.heap.size, 0, N)) (hp2.set nx2 (some x)) (nx2 + 1) w1 (w1.alloc obj) :=
      hr1.hr.newO none (S := fun _ => False) (Upd.alloc _ w1 _) (fun _ h => h.elim) (by simp) (.inl (Nat.le_refl _)) f1
    unfold wpOp
    simp only [hj]
    rw [if_pos (hwj a1)]
    refine .inl ?_
    unfold Oper.wp
    rw [e1, Oper.upon_value]
    exact behind hev hpan (hg1.trans hg2) (hr1.put hg2 f2 oj.dst) hQ
  · -- j, then i
    obtain ⟨obj, N, v, e1, e2⟩ := alcE_sound (w := w) hη hrel.vl halc
    have hA := hrel.hr.alloc obj
    have hsize : (w.alloc obj).heap.size = w.heap.size + 1 := by simp
    unfold wpOp
    simp only [hj]
    rw [if_pos (hwj a)]
    refine .inl ?_
    unfold Oper.wp
    rw [e1, Oper.upon_value]
    refine ⟨⟨fr0, hp1, nx0, _, hp, q1, .inl ⟨gi2, rfl⟩, ρ, nx, Pl.Le.refl _, hA⟩, fun h0 => ?_, fun y hy => ?_⟩
    · rw [hrj] at h0; cases h0
    rw [hrj] at hy
    obtain rfl : y = i := by simpa using hy
    have base : wpOp P ops Q y (fun a0 w' => SP B η ρ k (.swap y z p) hp ((l.setIfInBounds y true).setIfInBounds z true) w' ∧ wpAnyL P ops Q (SP B η ρ k (.swap y z p) hp) n ((l.setIfInBounds y true).setIfInBounds z true) (a0.put oj.dst v) w') a (w.alloc obj) := by
      unfold wpOp
      simp only [hi]
      rw [if_pos (wantE_sound hrel.vl hw)]
      refine .inl (k1 B ρ (w.alloc obj) a Q _ ⟨hA, hrel.vl, hrel.defers⟩ fun r hp2 nx2 ρ1 a1 w2 hk1 hg1 hr1 => ?_)
      obtain ⟨x, res, halc1, hev⟩ := inner hk1
      rw [halc] at halc1
      simp only [Option.some.injEq, Prod.mk.injEq] at halc1
      obtain ⟨rfl, rfl⟩ := halc1
      have hunp0 : ∀ o p, ρ o = some p → p.1 ≠ w.heap.size := fun o p e q => by have := (hrel.hr.fresh o p e).2; omega
      have hunp1 : ∀ o p, ρ1 o = some p → p.1 ≠ w.heap.size := fun o p e q => by
        rcases hg1.rng o p e with ⟨o', p', g1, g2⟩ | g1
        · exact hunp0 o' p' g1 (g2.trans q)
        · rw [hsize] at g1; omega
      have hle := Pl.le_ext (w.heap.size, 0, N) (hr1.hr.out nx2 (Nat.le_refl _))
      have hobj : w2.heap[w.heap.size]? = some obj := (hg1.keep w.heap.size (by rw [hsize]; omega) hunp0).trans (heap_alloc_new w _)
      obtain ⟨f1, f2⟩ := e2 (ρ1.ext nx2 (w.heap.size, 0, N)) w2 nx2 (hg1.le.trans hle) (Pl.ext_same _ _ _) hobj
      have hb2 : w.heap.size < w2.heap.size := by have := hg1.below.size; rw [hsize] at this; omega
      have hhr2 := hr1.hr.place hrel.hr.base hb2 hunp1 f1
      have hup := Upd.alloc (fun _ => False) w obj
      have hg2 : Go1 B η ρ (ρ1.ext nx2 (w.heap.size, 0, N)) (hp2.set nx2 (some x0)) (nx2 + 1) w w2 := by
        refine ⟨hg1.le.trans hle, hhr2, ⟨hg1.below.os.trans hup.os, hg1.below.tape.trans hup.tape, hg1.below.output.trans hup.output, by omega, fun k hk => (hg1.below.block k hk).trans (hup.block k (Nat.lt_of_lt_of_le hk hrel.hr.base) (fun h => h))⟩,
          fun k hk hu => (hg1.keep k (by rw [hsize]; omega) hu).trans (hup.block k hk (fun h => h)), fun o p e => ?_⟩
        unfold Pl.ext at e
        by_cases q : o = nx2
        · rw [if_pos q] at e; injection e with e; subst e; exact .inr (Nat.le_refl _)
        · rw [if_neg q] at e
          rcases hg1.rng o p e with g1 | g1
          · exact .inl g1
          · rw [hsize] at g1; exact .inr (by omega)
      have hr2 : RelA D B (ρ1.ext nx2 (w.heap.size, 0, N)) η (putE (putE fr oi.dst r) oj.dst (res0 nx2)) (hp2.set nx2 (some x0)) (nx2 + 1) w2 (a1.put oj.dst v) := by
        have hl := VL.le hle _ _ hr1.vl
        cases hd : oj.dst with
        | none => exact ⟨hhr2, hl, hr1.defers⟩
        | some d => exact ⟨hhr2, by simpa [Act.put, putE] using hl.set d f2, hr1.defers⟩
      exact behind hev hpan hg2 hr2 hQ
    refine wpOp_mono ?_ (wpOp_beside hi hap (fun cs b => hsels y oi cs b hi) hpan base)
    rintro a' w' ⟨a0, rfl, hh⟩
    rw [comm]
    exact hh

theorem evD_sound (mk : List Bool) (hη : Ones η) {call : CallK} (hc : CallS P η call) {ops : Array Oper} (hsel : Region.noSelect ops = true) : ∀ {p : Plan} {n : Nat} {l : Array Bool} {fr : List EV} {hp : Hp} {nx : Nat} {k : KD},
    planOk ops p n l = true → evD P O call mk ops p fr hp nx k = true → DOk P D η ops p n l fr hp nx k
  | .fin, n, l, fr, hp, nx, k, hp0, h => by
    refine ⟨⟨_, hp, nx, [], h⟩, fun B ρ w a Q _ hrel hQ => ?_⟩
    simp only [planOk, List.isEmpty_iff] at hp0
    exact wpAnyL_done hp0 (hQ _ hp nx [] ρ a w h (Go1.refl hrel.hr) (hrel.keep mk)) n
  | .first i m rest, 0, l, fr, hp, nx, k, hp0, h => by cases hp0
  | .only i rest, 0, l, fr, hp, nx, k, hp0, h => by cases hp0
  | .two i j p q, 0, l, fr, hp, nx, k, hp0, h => by cases hp0
  | .swap i j p, 0, l, fr, hp, nx, k, hp0, h => by cases hp0
  | .swap i j p, 1, l, fr, hp, nx, k, hp0, h => by cases hp0
  | .swap i j p, n + 2, l, fr, hp, nx, k, hp0, h => by
    have hok := hp0
    simp only [planOk, Bool.and_eq_true] at hok
    unfold evD at h
    split at h
    · rename_i oi oj hi hj
      split at h
      · rename_i hgj hw
        exact swap_sound mk hη hc hsel hi hj hp0 hgj hw (fun h => evD_sound mk hη hc hsel hok.2 h) h
      · cases h
    · cases h
  | .first i m rest, n + 1, l, fr, hp, nx, k, hp0, h => by
    simp only [planOk, Bool.and_eq_true, Nat.ble_eq] at hp0
    obtain ⟨⟨⟨⟨hf, hr⟩, hm1⟩, hlate⟩, hd⟩ := hp0
    have hr' : i ∈ Region.ready .any ops l := by simpa using hr
    have hil : l.getD i true = false := (mem_ready.1 hr').1
    have hun := late_un hd
    have hne : ∀ e ∈ late rest, e ≠ i := fun e he q => by
      subst q
      have := hun e he
      rcases Nat.lt_or_ge e l.size with h | h
      · simp [h] at this
      · simp [Array.getD, Nat.not_lt.2 h] at this
    have hsame : ∀ (L : Array Bool), ∀ e ∈ late rest, (L.setIfInBounds i true).getD e true = L.getD e true := fun L e he => getD_set_ne true (Ne.symm (hne e he))
    -- from the walk with i taken to the walk without
    have take : ∀ {B : Nat} {ρ : Pl} {w : World} {a : Act} {Q : Exit → Act → World → Prop} {o : Oper} {v : Value} {k2 : KD}, ops[i]? = some o → (∀ c a w, ¬ Q (.panic c) a w) → RelA D B ρ η fr hp nx w a →
        (∀ fr' hp' nx' pts, k2 fr' hp' nx' pts = true → k fr' hp' nx' pts = true) →
        (∃ fr' hp' nx' pts, k2 fr' hp' nx' pts = true) →
        YieldsIf P ops (SU (SP B η ρ k2 rest hp) ops i l) o v a → wpAnyL P ops Q (SP B η ρ k2 rest hp) n (l.setIfInBounds i true) (a.put o.dst v) w → wpAnyL P ops Q (SP B η ρ k (.first i m rest) hp) (n + 1) l a w := by
      intro B ρ w a Q o v k2 hi hpan hrel hkk ⟨fr0, hp1, nx0, pts0, q1⟩ hy h4
      have h5 := wpAnyL_first (P := P) hi (Region.noSelect_spec hsel) (fun c a w hq => absurd hq (hpan c _ w)) n l a w (Region.free_spec hi hf) hr' hy
        ⟨fr0, hp1, nx0, pts0, hp, q1, ptAt_start hun, ρ, nx, Pl.Le.refl _, hrel.hr⟩ h4
      refine wpAnyL_mono (I := fun _ => True) (fun _ _ _ => trivial) ?_ (n + 1) l a w trivial h5
      rintro L w' _ ⟨fr', hp', nx', pts, h, hk, hm, hrest⟩
      exact ⟨fr', hp', nx', pts, h, hkk _ _ _ _ hk, ptAt_same (p := rest) (hsame L) hm, hrest⟩
    unfold evD at h
    split at h
    · rename_i o hi
      split at h
      · rename_i hw
        split at h
        · rename_i r hpop
          rw [Bool.and_eq_true] at h
          obtain ⟨hsure, h⟩ := h
          obtain ⟨⟨fr0, hp1, nx0, pts0, q1⟩, h3⟩ := evD_sound mk hη hc hsel hd h
          have chk : ∀ fr' hp' nx' pts, ((!reads o.op || (pts.take (m - 1)).all fun h => match pop P O h fr o.op with | some r' => eqEV r r' | none => false) && k fr' hp' nx' pts) = true →
              k fr' hp' nx' pts = true ∧ ∀ h ∈ pts.take (m - 1), pop P O h fr o.op = some r := by
            intro fr' hp' nx' pts h1
            rw [Bool.and_eq_true, Bool.or_eq_true, Bool.not_eq_true', List.all_eq_true] at h1
            refine ⟨h1.2, fun h hmem => ?_⟩
            rcases h1.1 with hnr | hall
            · rw [noread (hp := hp) hnr]; exact hpop
            · have := hall h hmem
              split at this
              · rename_i r' hr'
                rw [hr', eqEV_eq this]
              · cases this
          refine ⟨⟨fr0, hp1, nx0, pts0, (chk _ _ _ _ q1).1⟩, fun B ρ w a Q hpan hrel hQ => ?_⟩
          obtain ⟨v, k1, k2⟩ := pop_sound O hη hrel.hr hrel.vl hpop
          refine take hi hpan hrel (fun fr' hp' nx' pts hk => (chk _ _ _ _ hk).1) ⟨fr0, hp1, nx0, pts0, q1⟩ (.inl ⟨wantE_sound hrel.vl hw, ?_⟩)
            (h3 B ρ w (a.put o.dst v) Q hpan (hrel.put (Go1.refl hrel.hr) k2 o.dst) (fun fr' hp' nx' pts ρ' a' w' hk => hQ fr' hp' nx' pts ρ' a' w' (chk _ _ _ _ hk).1))
          rintro w' ⟨L, hL, fr', hp', nx', pts, h, hk, hmem, ρ', nx2, hle, hhr⟩
          have hpop2 : pop P O h fr o.op = some r := by
            rcases ptAt_take hil hL hlate hm1 (ptAt_same (hsame L) hmem) with q | q
            · rw [q]; exact hpop
            · exact (chk _ _ _ _ hk).2 h q
          obtain ⟨v', e1, e2⟩ := pop_sound O hη hhr (VL.le hle _ _ hrel.vl) hpop2
          rw [e1, VR.same _ _ _ hsure e2 (VR.le hle _ _ k2)]
        · cases h
      · rename_i hw
        obtain ⟨⟨fr0, hp1, nx0, pts0, q1⟩, h3⟩ := evD_sound mk hη hc hsel hd h
        refine ⟨⟨fr0, hp1, nx0, pts0, q1⟩, fun B ρ w a Q hpan hrel hQ => ?_⟩
        exact take hi hpan hrel (fun _ _ _ _ hk => hk) ⟨fr0, hp1, nx0, pts0, q1⟩ (.inr ⟨wantE_sound hrel.vl hw, rfl⟩)
          (h3 B ρ w _ Q hpan (hrel.put (Go1.refl hrel.hr) (show VR _ _ (.val undef) undef from rfl) o.dst) hQ)
      · cases h
    · cases h
  | .only i rest, n + 1, l, fr, hp, nx, k, hp0, h => by
    have hun := late_un hp0
    simp only [planOk, Bool.and_eq_true, beq_iff_eq] at hp0
    unfold evD at h
    split at h
    · rename_i o hi
      obtain ⟨hex, k2⟩ := one_sound mk (p0 := .only i rest) hη hc hi (hun i (by simp [late])) (late_un hp0.2) (fun L hp2 pts h h1 h2 => .inr ⟨h1, hp2, pts, rfl, h2⟩) (fun h => evD_sound mk hη hc hsel hp0.2 h) h
      refine ⟨hex, fun B ρ w a Q hpan hrel hQ => ⟨fun h0 => ?_, fun j hj => ?_⟩⟩
      · rw [hp0.1] at h0; cases h0
      · rw [hp0.1] at hj
        obtain rfl : j = i := by simpa using hj
        exact k2 B ρ w a Q hpan hrel hQ
    · cases h
  | .two i j p q, n + 1, l, fr, hp, nx, k, hp0, h => by
    have hun := late_un hp0
    simp only [planOk, Bool.and_eq_true, beq_iff_eq] at hp0
    unfold evD at h
    rw [Bool.and_eq_true] at h
    obtain ⟨ha, hb⟩ := h
    split at ha
    · rename_i o1 hi1
      split at hb
      · rename_i o2 hi2
        obtain ⟨hex, k1⟩ := one_sound mk (p0 := .two i j p q) hη hc hi1 (hun i (by simp [late])) (late_un hp0.1.2) (fun L hp2 pts h h1 h2 => .inr (.inl ⟨h1, hp2, pts, rfl, h2⟩)) (fun h => evD_sound mk hη hc hsel hp0.1.2 h) ha
        obtain ⟨_, k2⟩ := one_sound mk (p0 := .two i j p q) hη hc hi2 (hun j (by simp [late])) (late_un hp0.2) (fun L hp2 pts h h1 h2 => .inr (.inr ⟨h1, hp2, pts, rfl, h2⟩)) (fun h => evD_sound mk hη hc hsel hp0.2 h) hb
        refine ⟨hex, fun B ρ w a Q hpan hrel hQ => ⟨fun h0 => ?_, fun x hx => ?_⟩⟩
        · rw [hp0.1.1] at h0; cases h0
        · rw [hp0.1.1] at hx
          have hx2 : x = i ∨ x = j := by simpa using hx
          rcases hx2 with rfl | rfl
          · exact k1 B ρ w a Q hpan hrel hQ
          · exact k2 B ρ w a Q hpan hrel hQ
      · cases hb
    · cases ha

/-! Code. -/
def Post (D : List Deferred) (B : Nat) (η : Nat → Value) (ρ : Pl) (w : World) (k : KX) : Exit → Act → World → Prop := fun e' a' w' =>
  ∃ e fr' hp' nx' ρ', k e fr' hp' nx' = true ∧ e' = e.out ∧ Go1 B η ρ ρ' hp' nx' w w' ∧ RelA D B ρ' η fr' hp' nx' w' a'
/-- What code comes to, whatever the world. -/
def Tr (P : Program) (D : List Deferred) (η : Nat → Value) (c : Code) (fr : List EV) (hp : Hp) (nx : Nat) (k : KX) : Prop :=
  ∀ (B : Nat) (ρ : Pl) (w : World) (a : Act), RelA D B ρ η fr hp nx w a → c.wp P (Post D B η ρ w k) a w

theorem least (p : Nat → Prop) (h : ∃ n, p n) : ∃ n, p n ∧ ∀ m, p m → n ≤ m := by
  obtain ⟨n, hn⟩ := h
  induction n using Nat.strongRecOn with
  | _ n ih =>
    by_cases q : ∃ m, m < n ∧ p m
    · obtain ⟨m, h1, h2⟩ := q
      exact ih m h1 h2
    · exact ⟨n, hn, fun m hm => Nat.le_of_not_lt fun hlt => q ⟨m, hlt, hm⟩⟩

/-! Results. -/
def resSem (tmps : Array Value) : ResultVar → Sem Value
  | .tmp t => pure (tmps.getD t undef)
  | .cell p t => do loadVar t (← asAddr (tmps.getD p undef))
theorem resE_sound {B : Nat} {ρ : Pl} {hp : Hp} {nx : Nat} {fr : List EV} {w : World} {a : Act} (h : RelA D B ρ η fr hp nx w a) : ∀ {rs : List ResultVar} {vs : List EV}, resE P hp fr rs = some vs →
    ∃ us : List Value, Sem.run P (rs.mapM (resSem a.tmps)) w = .ok us w ∧ VL ρ η vs us
  | [], vs, hr => by
    simp only [resE, Option.some.injEq] at hr
    subst hr
    exact ⟨[], rfl, trivial⟩
  | .tmp t :: xs, vs, hr => by
    simp only [resE] at hr
    split at hr
    · rename_i ws h2
      simp only [Option.some.injEq] at hr
      subst hr
      obtain ⟨us, e1, e2⟩ := resE_sound h h2
      refine ⟨a.tmps.getD t undef :: us, ?_, evO_sound h.vl (.tmp t), e2⟩
      rw [List.mapM_cons]
      simp only [resSem, Sem.run_bind, Sem.run_pure, Result.andThen_ok, e1]
    · cases hr
  | .cell p t :: xs, vs, hr => by
    simp only [resE] at hr
    split at hr
    · rename_i v ws h1 h2
      simp only [Option.some.injEq] at hr
      subst hr
      obtain ⟨us, e1, e2⟩ := resE_sound h h2
      obtain ⟨ad, u, k0, k1, k2⟩ := loadA_var h.hr (evO_sound h.vl (.tmp p)) h1
      refine ⟨u :: us, ?_, k2, e2⟩
      rw [List.mapM_cons]
      have e : a.eval (.tmp p) = a.tmps.getD p undef := rfl
      rw [e] at k0
      simp only [resSem, k0, asAddr, Sem.run_bind, Sem.run_pure, Result.andThen_ok, k1, e1]
    · cases hr
theorem results_sound {B : Nat} {ρ : Pl} {hp : Hp} {nx : Nat} {fr : List EV} {w : World} {a : Act} (h : RelA D B ρ η fr hp nx w a) {fn : Func} {vs : List EV} (hr : resE P hp fr fn.results.toList = some vs) : ∃ v, (results fn a.tmps).run P w = .ok v w ∧ VR ρ η (oneOf vs) v := by
  obtain ⟨us, e1, e2⟩ := resE_sound h hr
  have hrun : (results fn a.tmps).run P w = .ok (if h : us.toArray.size = 1 then us.toArray[0] else .tuple us.toArray) w := by
    have e : results fn a.tmps = (do let vs ← fn.results.mapM (resSem a.tmps); pure (if h : vs.size = 1 then vs[0] else .tuple vs)) := by
      unfold results
      congr 1
      try (congr 1; funext x; cases x <;> rfl)
    rw [e, Array.mapM_eq_mapM_toList]
    simp only [Sem.run_bind, Sem.run_map, e1, Result.andThen_ok, Sem.run_pure]
  refine ⟨_, hrun, ?_⟩
  match vs, us, e2 with
  | [], [], _ => exact ⟨#[], rfl, trivial⟩
  | [x], [u], ⟨hx, _⟩ => exact hx
  | [_], [], h => exact h.elim
  | [], _ :: _, h => exact h.elim
  | [_], _ :: _ :: _, ⟨_, h⟩ => exact h.elim
  | _ :: _ :: _, [], h => exact h.elim
  | _ :: _ :: _, [_], ⟨_, h⟩ => exact h.elim
  | x :: y :: xs, u :: v :: us, h => exact ⟨(u :: v :: us).toArray, by simp, by simpa [oneOf] using h⟩

theorem vl_undef (ρ : Pl) : ∀ n, VL ρ η (List.replicate n (.val undef)) (List.replicate n undef)
  | 0 => trivial
  | n + 1 => ⟨rfl, vl_undef ρ n⟩

/-- Each function's plans are right. -/
def PlOk (P : Program) (pl : Pls) : Prop := ∀ f fn c, P.funcs[f]? = some fn → fn.body = some c → codeOk (pl f) c = true

theorem Tr.keep {c : Code} {fr : List EV} {hp : Hp} {nx : Nat} {k : KX} (m : List Bool) (h : Tr P D η c (keepE m fr) hp nx k) : Tr P D η c fr hp nx k := fun B ρ w a hr => h B ρ w a (hr.keep m)

theorem loopE_sound (mask : List Bool) {c : Code} {body : List EV → Hp → Nat → KX → Bool}
    (ih : ∀ (fr : List EV) (hp : Hp) (nx : Nat) (k : KX), body fr hp nx k = true → (∃ e fr' hp' nx', k e fr' hp' nx' = true) ∧ Tr P D η c fr hp nx k) {n : Nat} {fr : List EV} {hp : Hp} {nx : Nat} {k : KX} (h : loopE mask body n fr hp nx k = true) :
    (∃ e fr' hp' nx', k e fr' hp' nx' = true) ∧ Tr P D η (.loop c) fr hp nx k := by
  obtain ⟨K, hK⟩ : ∃ K : Nat → KX, K = fun m => kSeq mask (fun fr hp nx => loopE mask body m fr hp nx k) k := ⟨_, rfl⟩
  have next : ∀ m fr hp nx, loopE mask body (m + 1) fr hp nx k = true → body fr hp nx (K m) = true := fun m fr hp nx hh => by
    rw [hK]
    exact hh
  have ends : ∀ m fr hp nx, loopE mask body m fr hp nx k = true → ∃ e fr' hp' nx', k e fr' hp' nx' = true := by
    intro m
    induction m with
    | zero => intro fr hp nx hh; simp [loopE] at hh
    | succ m ihm =>
      intro fr hp nx hh
      obtain ⟨⟨e, fr', hp', nx', hk⟩, _⟩ := ih _ _ _ _ (next m fr hp nx hh)
      rw [hK] at hk
      cases e with
      | nrm => exact ihm _ _ _ hk
      | ex j => exact ⟨_, _, _, _, hk⟩
      | ret => exact ⟨_, _, _, _, hk⟩
  refine ⟨ends n fr hp nx h, fun B ρ w a hrel => ?_⟩
  obtain ⟨J, hJ⟩ : ∃ J : Act → World → Nat → Prop, J = fun a1 w1 m => ∃ fr1 hp1 nx1 ρ1, loopE mask body m fr1 hp1 nx1 k = true ∧ Go1 B η ρ ρ1 hp1 nx1 w w1 ∧ RelA D B ρ1 η fr1 hp1 nx1 w1 a1 := ⟨_, rfl⟩
  classical
  obtain ⟨M, hM⟩ : ∃ M : Act → World → Nat, M = fun a' w' => if q : ∃ n, J a' w' n then Classical.choose (least _ q) else 0 := ⟨_, rfl⟩
  refine wp_loop (fun a' w' => ∃ n, J a' w' n) M ⟨n, by rw [hJ]; exact ⟨fr, hp, nx, ρ, h, Go1.refl hrel.hr, hrel⟩⟩ ?_
  rintro a1 w1 q
  have hs1 := (Classical.choose_spec (least _ q)).1
  have hM1 : M a1 w1 = Classical.choose (least _ q) := by rw [hM]; simp only; rw [dif_pos q]
  rw [← hM1] at hs1
  obtain ⟨m1, hm1⟩ : ∃ m1, M a1 w1 = m1 := ⟨_, rfl⟩
  rw [hm1] at hs1 ⊢
  rw [hJ] at hs1
  obtain ⟨fr1, hp1, nx1, ρ1, hR, hg1, hr1⟩ := hs1
  cases m1 with
  | zero => simp [loopE] at hR
  | succ m2 =>
    refine wp_mono ((ih _ _ _ _ (next m2 _ _ _ hR)).2 B ρ1 w1 a1 hr1) ?_
    rintro e' a2 w2 ⟨e2, fr2, hp2, nx2, ρ2, k2, rfl, hg2, hr2⟩
    rw [hK] at k2
    cases e2 with
    | nrm =>
      have hs2 : J a2 w2 m2 := by rw [hJ]; exact ⟨_, hp2, nx2, ρ2, k2, hg1.trans hg2, hr2.keep mask⟩
      refine ⟨⟨m2, hs2⟩, ?_⟩
      have q2 : ∃ n, J a2 w2 n := ⟨m2, hs2⟩
      have : M a2 w2 ≤ m2 := by rw [hM]; simp only; rw [dif_pos q2]; exact (Classical.choose_spec (least _ q2)).2 _ hs2
      omega
    | ex id => exact ⟨.ex id, fr2, hp2, nx2, ρ2, k2, rfl, hg1.trans hg2, hr2⟩
    | ret => exact ⟨.ret, fr2, hp2, nx2, ρ2, k2, rfl, hg1.trans hg2, hr2⟩

theorem evC_sound (hη : Ones η) {pl : Nat → Option Plan} (hm : P.follows .mixedOrders = true) {call : CallK} (hcall : CallS P η call) (lf : Nat) : ∀ (c : Code) (an : Ann) (fr : List EV) (hp : Hp) (nx : Nat) (k : KX),
    codeOk pl c = true → evC P O call lf pl c an fr hp nx k = true → (∃ e fr' hp' nx', k e fr' hp' nx' = true) ∧ Tr P D η c fr hp nx k := by
  intro c
  induction c with
  | skip =>
    intro an fr hp nx k _ h
    exact ⟨⟨_, _, _, _, h⟩, fun B ρ w a hr => wp_skip ⟨.nrm, fr, hp, nx, ρ, h, rfl, Go1.refl hr.hr, hr⟩⟩
  | label l =>
    intro an fr hp nx k _ h
    exact ⟨⟨_, _, _, _, h⟩, fun B ρ w a hr => wp_label ⟨.nrm, fr, hp, nx, ρ, h, rfl, Go1.refl hr.hr, hr⟩⟩
  | exit id =>
    intro an fr hp nx k _ h
    exact ⟨⟨_, _, _, _, h⟩, fun B ρ w a hr => wp_exit ⟨.ex id, fr, hp, nx, ρ, h, rfl, Go1.refl hr.hr, hr⟩⟩
  | ret =>
    intro an fr hp nx k _ h
    exact ⟨⟨_, _, _, _, h⟩, fun B ρ w a hr => wp_ret ⟨.ret, fr, hp, nx, ρ, h, rfl, Go1.refl hr.hr, hr⟩⟩
  | seq x y ihx ihy =>
    intro an fr hp nx k hok h
    simp only [codeOk, Bool.and_eq_true] at hok
    simp only [evC] at h
    obtain ⟨⟨e0, fr0, hp0, nx0, hk0⟩, t1⟩ := ihx an.l fr hp nx _ hok.1 h
    refine ⟨?_, fun B ρ w a hr => ?_⟩
    · cases e0 with
      | nrm => exact (ihy an.r _ hp0 nx0 _ hok.2 hk0).1
      | ex id => exact ⟨_, _, _, _, hk0⟩
      | ret => exact ⟨_, _, _, _, hk0⟩
    · refine wp_seq (wp_mono (t1 B ρ w a hr) ?_)
      rintro e' a1 w1 ⟨e1, fr1, hp1, nx1, ρ1, k1, rfl, hg, hr1⟩
      cases e1 with
      | nrm =>
        refine wp_mono ((ihy an.r _ hp1 nx1 _ hok.2 k1).2 B ρ1 w1 a1 (hr1.keep an.m1)) ?_
        rintro e' a2 w2 ⟨e2, fr2, hp2, nx2, ρ2, k2, rfl, hg2, hr2⟩
        exact ⟨e2, fr2, hp2, nx2, ρ2, k2, rfl, hg.trans hg2, hr2⟩
      | ex id => exact ⟨.ex id, fr1, hp1, nx1, ρ1, k1, rfl, hg, hr1⟩
      | ret => exact ⟨.ret, fr1, hp1, nx1, ρ1, k1, rfl, hg, hr1⟩
  | cond c x y ihx ihy =>
    intro an fr hp nx k hok h
    simp only [codeOk, Bool.and_eq_true] at hok
    simp only [evC] at h
    split at h
    · rename_i t he
      cases t with
      | true =>
        obtain ⟨hex, t1⟩ := ihx an.l _ hp nx _ hok.1 h
        refine ⟨hex, fun B ρ w a hr => ?_⟩
        have hc := evO_sound hr.vl c
        rw [he] at hc
        exact wp_cond_true hc (t1 B ρ w a (hr.keep an.m1))
      | false =>
        obtain ⟨hex, t1⟩ := ihy an.r _ hp nx _ hok.2 h
        refine ⟨hex, fun B ρ w a hr => ?_⟩
        have hc := evO_sound hr.vl c
        rw [he] at hc
        exact wp_cond_false hc (t1 B ρ w a (hr.keep an.m2))
    · cases h
  | block id c ih =>
    intro an fr hp nx k hok h
    simp only [codeOk] at hok
    simp only [evC] at h
    obtain ⟨⟨e0, fr0, hp0, nx0, hk0⟩, t1⟩ := ih an.l fr hp nx _ hok h
    refine ⟨?_, fun B ρ w a hr => wp_block (wp_mono (t1 B ρ w a hr) ?_)⟩
    · cases e0 with
      | nrm => exact ⟨_, _, _, _, hk0⟩
      | ex j =>
        simp only [kBlock] at hk0
        split at hk0 <;> exact ⟨_, _, _, _, hk0⟩
      | ret => exact ⟨_, _, _, _, hk0⟩
    · rintro e' a1 w1 ⟨e1, fr1, hp1, nx1, ρ1, k1, rfl, hg, hr1⟩
      cases e1 with
      | nrm => exact ⟨.nrm, fr1, hp1, nx1, ρ1, k1, rfl, hg, hr1⟩
      | ex j =>
        simp only [kBlock] at k1
        simp only [EX.out, Exit.inBlock]
        split at k1
        · rename_i hj
          rw [Nat.beq_eq] at hj
          rw [if_pos hj]
          exact ⟨.nrm, fr1, hp1, nx1, ρ1, k1, rfl, hg, hr1⟩
        · rename_i hj
          rw [Nat.beq_eq] at hj
          rw [if_neg hj]
          exact ⟨.ex j, fr1, hp1, nx1, ρ1, k1, rfl, hg, hr1⟩
      | ret => exact ⟨.ret, fr1, hp1, nx1, ρ1, k1, rfl, hg, hr1⟩
  | loop c ih =>
    intro an fr hp nx k hok h
    simp only [codeOk] at hok
    simp only [evC] at h
    have := loopE_sound an.m1 (fun fr hp nx k h => ih an.l fr hp nx k hok h) h
    exact ⟨this.1, this.2.keep an.m1⟩
  | region id ops draw =>
    intro an fr hp nx k hok h
    simp only [evC] at h
    cases draw with
    | true =>
      simp only at h
      split at h
      · rename_i p hp0
        simp only [codeOk, hp0, Bool.and_eq_true] at hok
        obtain ⟨⟨fr0, hp1, nx0, pts0, q1⟩, h3⟩ := evD_sound an.m1 hη hcall hok.1 hok.2 h
        refine ⟨⟨_, _, _, _, q1⟩, fun B ρ w a hr => ?_⟩
        have hr' : RelA D B ρ η fr hp nx w.drew a := ⟨hr.hr.drew, hr.vl, hr.defers⟩
        refine wp_mono (Q := fun e' a' w' => e' = .normal ∧ Post D B η ρ w k e' a' w') ?_ (fun _ _ _ h => h.2)
        exact wp_region_any hm (wpAny_of_L _ _ _ _ (h3 B ρ w.drew a _ (fun c a w hq => by cases hq.1) hr' fun fr1 hp1 nx1 pts ρ1 a1 w1 hk1 hg1 hr1 => ⟨rfl, .nrm, fr1, hp1, nx1, ρ1, hk1, rfl, (Go1.drew hr.hr).trans hg1, hr1⟩))
      · cases h
    | false =>
      simp only at h
      obtain ⟨⟨fr0, hp0, nx0, q1⟩, h3⟩ := evL_sound hη hcall h
      exact ⟨⟨_, _, _, _, q1⟩, fun B ρ w a hr => wp_region_list (h3 B ρ w a _ hr fun fr1 hp1 nx1 ρ1 a1 w1 hk1 hg1 hr1 => ⟨.nrm, _, hp1, nx1, ρ1, hk1, rfl, hg1, hr1.keep an.m1⟩)⟩
  | rangeFunc _ _ _ _ _ _ => intro an fr hp nx k _ h; simp [evC] at h
  | scope _ _ => intro an fr hp nx k _ h; simp [evC] at h
  | goto _ => intro an fr hp nx k _ h; simp [evC] at h
  | refuse _ => intro an fr hp nx k _ h; simp [evC] at h

theorem bodyE_sound (hη : Ones η) {pl : Pls} {an : Nat → Ann} (hm : P.follows .mixedOrders = true) (hpl : PlOk P pl) {call : CallK} (hcall : CallS P η call) (lf : Nat) : CallS P η (bodyE P O call lf pl an) := by
  intro f args hp nx k h
  unfold bodyE at h
  split at h
  · rename_i hpl1
    refine ⟨hpl1, ?_⟩
    split at h
    · rename_i fn hfn
      split at h
      · rename_i c hb
        obtain ⟨⟨e0, fr0, hp0, nx0, hk0⟩, ht⟩ := evC_sound hη hm hcall lf c (an f) _ hp nx _ (hpl f fn c hfn hb) h
        have key : ∀ {e : EX} {fr' : List EV} {hp' : Hp} {nx' : Nat}, endE P fn k e fr' hp' nx' = true → (∀ id, e ≠ .ex id) ∧ ∃ vs, resE P hp' fr' fn.results.toList = some vs ∧ k (oneOf vs) hp' nx' = true := by
          intro e fr' hp' nx' hk
          unfold endE at hk
          split at hk
          · cases hk
          · rename_i hne
            split at hk
            · rename_i vs hvs
              exact ⟨hne, vs, hvs, hk⟩
            · cases hk
        obtain ⟨_, vs0, _, hkv⟩ := key hk0
        refine ⟨⟨_, _, _, hkv⟩, fun B ρ w us hhr hv => ?_⟩
        have hl := VL.length hv
        have hrel : RelA [] B ρ η (args ++ List.replicate (fn.ntmps - args.length) (.val undef)) hp nx w { tmps := us.toArray ++ Array.replicate (fn.ntmps - us.toArray.size) undef, defers := [] } := by
          refine ⟨hhr, ?_, rfl⟩
          simp only [Array.toList_append, Array.toList_replicate, List.size_toArray, hl, List.toList_toArray]
          exact hv.append (vl_undef _ _)
        refine calls_of_wp hfn hb (wp_mono (ht B ρ w _ hrel) ?_)
        rintro e2 a2 w2 ⟨e, fr', hp', nx', ρ2, hk, rfl, hg2, hr2⟩
        obtain ⟨hne, vs, hvs, hkv⟩ := key hk
        obtain ⟨v, k1, k2⟩ := results_sound hr2 hvs
        cases e with
        | nrm => exact ⟨hr2.defers, v, k1, _, hp', nx', v, ρ2, hkv, rfl, hg2, k2⟩
        | ex id => exact absurd rfl (hne id)
        | ret => exact ⟨hr2.defers, v, k1, _, hp', nx', v, ρ2, hkv, rfl, hg2, k2⟩
      · cases h
    · cases h
  · cases h

theorem evF_sound (hη : Ones η) {pl : Pls} {an : Nat → Ann} (hm : P.follows .mixedOrders = true) (hpl : PlOk P pl) (lf : Nat) : ∀ n, CallS P η (evF P O lf pl an n)
  | 0 => fun _ _ _ _ _ h => by cases h
  | n + 1 => bodyE_sound hη hm hpl (evF_sound hη hm hpl lf n) lf
end

end Go.Proofs.YtnfdkmnmniiokaaGreatDoor
