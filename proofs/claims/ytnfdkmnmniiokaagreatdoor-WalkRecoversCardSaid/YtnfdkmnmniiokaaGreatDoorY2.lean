import Derived.Test.YtnfdkmnmniiokaaGreatDoorY1
set_option linter.unusedVariables false
set_option linter.unusedSimpArgs false
namespace Go.Proofs.YtnfdkmnmniiokaaGreatDoor
open Go.RowKit

/-- Along the code: where several ways come together, what lives there. -/
inductive An2 where
  | leaf
  | seq (a b : An2)
  | cut (m : List Nat) (a b : An2)
  | loop (m : List Nat) (a : An2)
def An2.l : An2 → An2 | .seq a _ => a | .cut _ a _ => a | .loop _ a => a | .leaf => .leaf
def An2.r : An2 → An2 | .seq _ b => b | .cut _ _ b => b | _ => .leaf
def cutOf : Code → An2 → Option (List Nat)
  | .loop _, _ => none
  | _, .cut m _ _ => some m
  | _, _ => none
def An2.m : An2 → List Nat | .cut m _ _ => m | .loop m _ => m | _ => []

def nthE : Nat → List EV → EV
  | 0, vs => vs.headD .any
  | n + 1, vs => nthE n vs.tail
def slot : List Nat → Nat → List EV → Nat → EV
  | [], _, _, _ => .any
  | i :: l, j, vs, s => match Nat.beq i s with
    | true => nthE j vs
    | false => slot l (j + 1) vs s
def expF (live : List Nat) (vs : List EV) : Nat → Nat → List EV
  | 0, _ => []
  | c + 1, s => slot live 0 vs s :: expF live vs c (s + 1)
def cutK (n : Nat) (live : List Nat) (fr : List EV) (k : List EV → Bool) : Bool :=
  match Nat.beq fr.length n with
  | true => k (live.map fun i => fr.getD i .any)
  | false => false

abbrev JT := List Bool → List EV → Hp → Nat → Bool
def kNext (n : Nat) (m : Option (List Nat)) (J : List EV → Hp → Nat → Bool) (again : KF) (k : KX) : KX := fun e fr hp nx =>
  match e with
  | .nrm => (match m with
    | some live => cutK n live fr fun vs => J vs hp nx
    | none => again fr hp nx)
  | .ex j => k (.ex j) fr hp nx
  | .ret => k .ret fr hp nx

noncomputable section
variable (P : Program) {η : Nat → Value} (O : Orc P η) (call : CallK) (pl : Nat → Option Plan) (n : Nat) (J : JT)
def evM : List Bool → Code → An2 → List EV → Hp → Nat → KX → Bool
  | _, .skip, _, fr, hp, nx, k => k .nrm fr hp nx
  | _, .label _, _, fr, hp, nx, k => k .nrm fr hp nx
  | _, .exit id, _, fr, hp, nx, k => k (.ex id) fr hp nx
  | _, .ret, _, fr, hp, nx, k => k .ret fr hp nx
  | p, .seq x y, an, fr, hp, nx, k => evM (false :: p) x an.l fr hp nx (kNext n (cutOf y an) (J (true :: p)) (fun fr hp nx => evM (true :: p) y an.r fr hp nx k) k)
  | p, .cond c x y, an, fr, hp, nx, k => condS (evO fr c) (evM (false :: p) x an.l fr hp nx k) (evM (true :: p) y an.r fr hp nx k)
  | p, .block id c, an, fr, hp, nx, k => evM (false :: p) c an.l fr hp nx (kBlock id k)
  | p, .loop _, an, fr, hp, nx, _ => cutK n an.m fr fun vs => J p vs hp nx
  | _, .region id ops draw, _, fr, hp, nx, k =>
    match draw with
    | true => match pl id with
      | some q => evD2 P O call ops q fr hp nx fun fr hp nx _ => k .nrm fr hp nx
      | none => false
    | false => evL2 P O call ops ops.toList fr hp nx fun fr hp nx => k .nrm fr hp nx
  | _, _, _, _, _, _, _ => false

def downA : Bool → Code × An2 → Code × An2
  | b, (.seq x y, an) => (match b with | true => (y, an.r) | false => (x, an.l))
  | b, (.cond _ x y, an) => (match b with | true => (y, an.r) | false => (x, an.l))
  | _, (.block _ c, an) => (c, an.l)
  | _, (.loop c, an) => (c, an.l)
  | _, _ => (.skip, .leaf)
def posA (root : Code × An2) : List Bool → Code × An2
  | [] => root
  | b :: p => downA b (posA root p)
def contB (root : Code × An2) (k0 : KX) : List Bool → KX
  | [] => k0
  | b :: p => match (posA root p).1 with
    | .seq _ y => (match b with
      | false => kNext n (cutOf y (posA root p).2) (J (true :: p)) (fun fr hp nx => evM P O call pl n J (true :: p) y (posA root p).2.r fr hp nx (contB root k0 p)) (contB root k0 p)
      | true => contB root k0 p)
    | .cond _ _ _ => contB root k0 p
    | .block id _ => kBlock id (contB root k0 p)
    | .loop _ => kNext n (some (posA root p).2.m) (J p) (fun _ _ _ => false) (contB root k0 p)
    | _ => fun _ _ _ _ => false
def liveAt (root : Code × An2) (p : List Bool) : List Nat :=
  match (posA root p).1 with
  | .loop _ => (posA root p).2.m
  | _ => match p with
    | _ :: q => (posA root q).2.m
    | [] => []
/-- What is done at a place that is jumped to. -/
def evU (root : Code × An2) (k0 : KX) (p : List Bool) (vs : List EV) (hp : Hp) (nx : Nat) : Bool :=
  match (posA root p).1 with
  | .loop c => evM P O call pl n J (false :: p) c (posA root p).2.l (expF (liveAt root p) vs n 0) hp nx (contB P O call pl n J root k0 (false :: p))
  | c => evM P O call pl n J p c (posA root p).2 (expF (liveAt root p) vs n 0) hp nx (contB P O call pl n J root k0 p)
end

/-! It is right. -/
theorem slot_any : ∀ (live : List Nat) (pre rest : List EV) (g : Nat → EV) (s : Nat), rest = live.map g → slot live pre.length (pre ++ rest) s = .any ∨ slot live pre.length (pre ++ rest) s = g s
  | [], pre, rest, g, s, h => .inl rfl
  | i :: l, pre, rest, g, s, h => by
    subst h
    have hn : ∀ (pre : List EV) x xs, nthE pre.length (pre ++ x :: xs) = x := by
      intro pre x xs
      induction pre with
      | nil => rfl
      | cons a pre ih => simpa [nthE] using ih
    unfold slot
    split
    · rename_i hb
      rw [Nat.beq_eq] at hb
      subst hb
      right
      simp only [List.map_cons]
      exact hn pre _ _
    · have := slot_any l (pre ++ [g i]) (l.map g) g s rfl
      simpa using this

section
variable {P : Program} {D : List Deferred} {η : Nat → Value} {O : Orc P η}
abbrev KP := EX → List EV → Hp → Nat → Prop

theorem expF_vl {ρ : Pl} {live : List Nat} {fr : List EV} {us : List Value} (h : VL ρ η fr us) {n : Nat} (hn : fr.length = n) : VL ρ η (expF live (live.map fun i => fr.getD i .any) n 0) us := by
  have hlen := VL.length h
  have key : ∀ (c s : Nat) (ws : List Value), (∀ i u, ws[i]? = some u → us[s + i]? = some u) → ws.length = c → VL ρ η (expF live (live.map fun i => fr.getD i .any) c s) ws := by
    intro c
    induction c with
    | zero =>
      intro s ws _ hl
      rw [List.length_eq_zero_iff] at hl
      subst hl
      trivial
    | succ c ih =>
      intro s ws hw hl
      cases ws with
      | nil => simp at hl
      | cons u ws =>
        refine ⟨?_, ih (s + 1) ws (fun i v hv => by have := hw (i + 1) v (by simpa using hv); rw [← this]; congr 1; omega) (by simpa using hl)⟩
        have hu : us[s]? = some u := hw 0 u rfl
        rcases slot_any live [] (live.map fun i => fr.getD i .any) (fun i => fr.getD i .any) s rfl with h1 | h1
        · simp only [List.length_nil, List.nil_append] at h1
          rw [h1]
          trivial
        · simp only [List.length_nil, List.nil_append] at h1
          rw [h1]
          have hs : s < fr.length := by
            obtain ⟨h2, _⟩ := List.getElem?_eq_some_iff.1 hu
            omega
          have hx : fr[s]? = some fr[s] := List.getElem?_eq_getElem hs
          obtain ⟨u', h3, h4⟩ := VL.get s h hx
          rw [hu] at h3
          injection h3 with h3
          subst h3
          rw [List.getD_eq_getElem?_getD, hx]
          exact h4
  exact key n 0 us (fun i u hu => by simpa using hu) (by omega)

def PostP (D : List Deferred) (B : Nat) (η : Nat → Value) (ρ : Pl) (w : World) (k : KP) : Exit → Act → World → Prop := fun e' a' w' =>
  ∃ e fr' hp' nx' ρ', k e fr' hp' nx' ∧ e' = e.out ∧ Go1 B η ρ ρ' hp' nx' w w' ∧ RelA D B ρ' η fr' hp' nx' w' a'
def TrX (P : Program) (D : List Deferred) (η : Nat → Value) (c : Code) (fr : List EV) (hp : Hp) (nx : Nat) (k : KP) : Prop :=
  (∃ e fr' hp' nx', k e fr' hp' nx') ∧ ∀ (B : Nat) (ρ : Pl) (w : World) (a : Act), RelA D B ρ η fr hp nx w a → c.wp P (PostP D B η ρ w k) a w
theorem TrX.mono {c : Code} {fr : List EV} {hp : Hp} {nx : Nat} {k k' : KP} (h : TrX P D η c fr hp nx k) (hk : ∀ e fr hp nx, k e fr hp nx → k' e fr hp nx) : TrX P D η c fr hp nx k' := by
  obtain ⟨⟨e, fr', hp', nx', h1⟩, h2⟩ := h
  refine ⟨⟨e, fr', hp', nx', hk _ _ _ _ h1⟩, fun B ρ w a hr => wp_mono (h2 B ρ w a hr) ?_⟩
  rintro e' a' w' ⟨e, fr', hp', nx', ρ', h1, h3⟩
  exact ⟨e, fr', hp', nx', ρ', hk _ _ _ _ h1, h3⟩
theorem cutK_iff {n : Nat} {live : List Nat} {fr : List EV} {k : List EV → Bool} (h : cutK n live fr k = true) : fr.length = n ∧ k (live.map fun i => fr.getD i .any) = true := by
  unfold cutK at h
  split at h
  · rename_i hb
    rw [Nat.beq_eq] at hb
    exact ⟨hb, h⟩
  · cases h
theorem TrX.expand {c : Code} {fr : List EV} {hp : Hp} {nx n : Nat} {live : List Nat} {k : KP} (hn : fr.length = n) (h : TrX P D η c (expF live (live.map fun i => fr.getD i .any) n 0) hp nx k) : TrX P D η c fr hp nx k :=
  ⟨h.1, fun B ρ w a hr => h.2 B ρ w a ⟨hr.hr, expF_vl hr.vl hn, hr.defers⟩⟩

def kNextP (P : Program) (D : List Deferred) (η : Nat → Value) (y : Code) (K : KP) : KP := fun e fr hp nx =>
  match e with
  | .nrm => TrX P D η y fr hp nx K
  | e => K e fr hp nx
def kBlockP (id : Nat) (K : KP) : KP := fun e fr hp nx =>
  match e with
  | .nrm => K .nrm fr hp nx
  | .ex j => if Nat.beq j id then K .nrm fr hp nx else K (.ex j) fr hp nx
  | .ret => K .ret fr hp nx

theorem TrX.seq {x y : Code} {fr : List EV} {hp : Hp} {nx : Nat} {K : KP} (h : TrX P D η x fr hp nx (kNextP P D η y K)) : TrX P D η (.seq x y) fr hp nx K := by
  obtain ⟨⟨e0, fr0, hp0, nx0, hk0⟩, t1⟩ := h
  refine ⟨?_, fun B ρ w a hr => ?_⟩
  · cases e0 with
    | nrm => exact hk0.1
    | ex id => exact ⟨_, _, _, _, hk0⟩
    | ret => exact ⟨_, _, _, _, hk0⟩
  · refine wp_seq (wp_mono (t1 B ρ w a hr) ?_)
    rintro e' a1 w1 ⟨e1, fr1, hp1, nx1, ρ1, k1, rfl, hg, hr1⟩
    cases e1 with
    | nrm =>
      refine wp_mono (k1.2 B ρ1 w1 a1 hr1) ?_
      rintro e' a2 w2 ⟨e2, fr2, hp2, nx2, ρ2, k2, rfl, hg2, hr2⟩
      exact ⟨e2, fr2, hp2, nx2, ρ2, k2, rfl, hg.trans hg2, hr2⟩
    | ex id => exact ⟨.ex id, fr1, hp1, nx1, ρ1, k1, rfl, hg, hr1⟩
    | ret => exact ⟨.ret, fr1, hp1, nx1, ρ1, k1, rfl, hg, hr1⟩

section
variable (P D η)
def Link (n : Nat) (J : JT) : Code → List Bool → An2 → KP → Prop
  | .seq x y, p, an, K => Link n J x (false :: p) an.l (kNextP P D η y K) ∧
    (match cutOf y an with
    | some live => ∀ vs hp nx, J (true :: p) vs hp nx = true → TrX P D η y (expF live vs n 0) hp nx K
    | none => Link n J y (true :: p) an.r K)
  | .cond _ x y, p, an, K => Link n J x (false :: p) an.l K ∧ Link n J y (true :: p) an.r K
  | .block id c, p, an, K => Link n J c (false :: p) an.l (kBlockP id K)
  | .loop c, p, an, K => ∀ vs hp nx, J p vs hp nx = true → TrX P D η (.loop c) (expF an.m vs n 0) hp nx K
  | _, _, _, _ => True
end

theorem evM_sound (hη : Ones η) {pl : Nat → Option Plan} (hm : P.follows .mixedOrders = true) {call : CallK} (hcall : CallS P η call) {n : Nat} {J : JT} : ∀ (c : Code) (p : List Bool) (an : An2) (fr : List EV) (hp : Hp) (nx : Nat) (k : KX) (K : KP),
    codeOk pl c = true → Link P D η n J c p an K → (∀ e fr hp nx, k e fr hp nx = true → K e fr hp nx) → evM P O call pl n J p c an fr hp nx k = true → TrX P D η c fr hp nx K := by
  intro c
  induction c with
  | skip =>
    intro p an fr hp nx k K _ _ hk h
    exact ⟨⟨_, _, _, _, hk _ _ _ _ h⟩, fun B ρ w a hr => wp_skip ⟨.nrm, fr, hp, nx, ρ, hk _ _ _ _ h, rfl, Go1.refl hr.hr, hr⟩⟩
  | label l =>
    intro p an fr hp nx k K _ _ hk h
    exact ⟨⟨_, _, _, _, hk _ _ _ _ h⟩, fun B ρ w a hr => wp_label ⟨.nrm, fr, hp, nx, ρ, hk _ _ _ _ h, rfl, Go1.refl hr.hr, hr⟩⟩
  | exit id =>
    intro p an fr hp nx k K _ _ hk h
    exact ⟨⟨_, _, _, _, hk _ _ _ _ h⟩, fun B ρ w a hr => wp_exit ⟨.ex id, fr, hp, nx, ρ, hk _ _ _ _ h, rfl, Go1.refl hr.hr, hr⟩⟩
  | ret =>
    intro p an fr hp nx k K _ _ hk h
    exact ⟨⟨_, _, _, _, hk _ _ _ _ h⟩, fun B ρ w a hr => wp_ret ⟨.ret, fr, hp, nx, ρ, hk _ _ _ _ h, rfl, Go1.refl hr.hr, hr⟩⟩
  | seq x y ihx ihy =>
    intro p an fr hp nx k K hok hl hk h
    simp only [codeOk, Bool.and_eq_true] at hok
    simp only [evM] at h
    obtain ⟨hl1, hl2⟩ := hl
    refine TrX.seq (ihx _ _ fr hp nx _ _ hok.1 hl1 ?_ h)
    intro e fr1 hp1 nx1 h1
    cases e with
    | nrm =>
      simp only [kNext] at h1
      split at h1
      · rename_i live hcut
        rw [hcut] at hl2
        obtain ⟨h2, h3⟩ := cutK_iff h1
        exact (hl2 _ _ _ h3).expand h2
      · rename_i hcut
        rw [hcut] at hl2
        exact ihy _ _ fr1 hp1 nx1 _ _ hok.2 hl2 hk h1
    | ex j => exact hk _ _ _ _ h1
    | ret => exact hk _ _ _ _ h1
  | cond c x y ihx ihy =>
    intro p an fr hp nx k K hok hl hk h
    simp only [codeOk, Bool.and_eq_true] at hok
    simp only [evM, condS_eq] at h
    split at h
    · rename_i t he
      cases t with
      | true =>
        obtain ⟨hex, t1⟩ := ihx _ _ fr hp nx _ _ hok.1 hl.1 hk h
        refine ⟨hex, fun B ρ w a hr => ?_⟩
        have hc := evO_sound hr.vl c
        rw [he] at hc
        exact wp_cond_true hc (t1 B ρ w a hr)
      | false =>
        obtain ⟨hex, t1⟩ := ihy _ _ fr hp nx _ _ hok.2 hl.2 hk h
        refine ⟨hex, fun B ρ w a hr => ?_⟩
        have hc := evO_sound hr.vl c
        rw [he] at hc
        exact wp_cond_false hc (t1 B ρ w a hr)
    · cases h
  | block id c ih =>
    intro p an fr hp nx k K hok hl hk h
    simp only [codeOk] at hok
    simp only [evM] at h
    obtain ⟨⟨e0, fr0, hp0, nx0, hk0⟩, t1⟩ := ih _ _ fr hp nx (kBlock id k) (kBlockP id K) hok hl (by
      intro e fr1 hp1 nx1 h1
      cases e with
      | nrm => exact hk _ _ _ _ h1
      | ex j =>
        simp only [kBlock] at h1
        simp only [kBlockP]
        by_cases hj : Nat.beq j id = true
        · rw [if_pos hj] at h1 ⊢
          exact hk _ _ _ _ h1
        · rw [if_neg hj] at h1 ⊢
          exact hk _ _ _ _ h1
      | ret => exact hk _ _ _ _ h1) h
    refine ⟨?_, fun B ρ w a hr => wp_block (wp_mono (t1 B ρ w a hr) ?_)⟩
    · cases e0 with
      | nrm => exact ⟨_, _, _, _, hk0⟩
      | ex j =>
        simp only [kBlockP] at hk0
        split at hk0 <;> exact ⟨_, _, _, _, hk0⟩
      | ret => exact ⟨_, _, _, _, hk0⟩
    · rintro e' a1 w1 ⟨e1, fr1, hp1, nx1, ρ1, k1, rfl, hg, hr1⟩
      cases e1 with
      | nrm => exact ⟨.nrm, fr1, hp1, nx1, ρ1, k1, rfl, hg, hr1⟩
      | ex j =>
        simp only [kBlockP] at k1
        simp only [EX.out, Exit.inBlock]
        split at k1
        · rename_i hj
          rw [Nat.beq_eq] at hj
          rw [if_pos hj]
          exact ⟨.nrm, fr1, hp1, nx1, ρ1, k1, rfl, hg, hr1⟩
        · rename_i hj
          rw [Nat.beq_eq] at hj
          rw [if_neg hj]
          exact ⟨.ex j, fr1, hp1, nx1, ρ1, k1, rfl, hg, hr1⟩
      | ret => exact ⟨.ret, fr1, hp1, nx1, ρ1, k1, rfl, hg, hr1⟩
  | loop c ih =>
    intro p an fr hp nx k K hok hl hk h
    simp only [evM] at h
    obtain ⟨h2, h3⟩ := cutK_iff h
    exact (hl _ _ _ h3).expand h2
  | region id ops draw =>
    intro p an fr hp nx k K hok _ hk h
    simp only [evM] at h
    cases draw with
    | true =>
      simp only at h
      split at h
      · rename_i q hp0
        simp only [codeOk, hp0, Bool.and_eq_true] at hok
        rw [evD2_eq] at h
        obtain ⟨⟨fr0, hp1, nx0, pts0, q1⟩, h3⟩ := evD_sound [] hη hcall hok.1 hok.2 h
        refine ⟨⟨_, _, _, _, hk _ _ _ _ q1⟩, fun B ρ w a hr => ?_⟩
        have hr' : RelA D B ρ η fr hp nx w.drew a := ⟨hr.hr.drew, hr.vl, hr.defers⟩
        refine wp_mono (Q := fun e' a' w' => e' = .normal ∧ PostP D B η ρ w K e' a' w') ?_ (fun _ _ _ h => h.2)
        exact wp_region_any hm (wpAny_of_L _ _ _ _ (h3 B ρ w.drew a _ (fun c a w hq => by cases hq.1) hr' fun fr1 hp1 nx1 pts ρ1 a1 w1 hk1 hg1 hr1 => ⟨rfl, .nrm, fr1, hp1, nx1, ρ1, hk _ _ _ _ hk1, rfl, (Go1.drew hr.hr).trans hg1, hr1⟩))
      · cases h
    | false =>
      simp only at h
      rw [evL2_eq] at h
      obtain ⟨⟨fr0, hp0, nx0, q1⟩, h3⟩ := evL_sound hη hcall h
      exact ⟨⟨_, _, _, _, hk _ _ _ _ q1⟩, fun B ρ w a hr => wp_region_list (h3 B ρ w a _ hr fun fr1 hp1 nx1 ρ1 a1 w1 hk1 hg1 hr1 => ⟨.nrm, _, hp1, nx1, ρ1, hk _ _ _ _ hk1, rfl, hg1, hr1⟩)⟩
  | rangeFunc _ _ _ _ _ _ => intro p an fr hp nx k K _ _ _ h; simp [evM] at h
  | scope _ _ => intro p an fr hp nx k K _ _ _ h; simp [evM] at h
  | goto _ => intro p an fr hp nx k K _ _ _ h; simp [evM] at h
  | refuse _ => intro p an fr hp nx k K _ _ _ h; simp [evM] at h
end
end Go.Proofs.YtnfdkmnmniiokaaGreatDoor
