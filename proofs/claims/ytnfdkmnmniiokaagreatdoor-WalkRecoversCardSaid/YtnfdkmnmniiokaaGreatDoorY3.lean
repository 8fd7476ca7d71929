import Derived.Test.YtnfdkmnmniiokaaGreatDoorY2
set_option linter.unusedVariables false
set_option linter.unusedSimpArgs false
namespace Go.Proofs.YtnfdkmnmniiokaaGreatDoor
open Go.RowKit

section
variable {P : Program} {D : List Deferred} {η : Nat → Value} {O : Orc P η}

def contP (P : Program) (D : List Deferred) (η : Nat → Value) (n : Nat) (LP : List Bool → List EV → Hp → Nat → Prop) (root : Code × An2) (K0 : KP) : List Bool → KP
  | [] => K0
  | b :: p => match (posA root p).1 with
    | .seq _ y => (match b with
      | false => kNextP P D η y (contP P D η n LP root K0 p)
      | true => contP P D η n LP root K0 p)
    | .cond _ _ _ => contP P D η n LP root K0 p
    | .block id _ => kBlockP id (contP P D η n LP root K0 p)
    | .loop _ => fun e fr hp nx => match e with
      | .nrm => fr.length = n ∧ LP p ((posA root p).2.m.map fun i => fr.getD i .any) hp nx
      | e => contP P D η n LP root K0 p e fr hp nx
    | _ => fun _ _ _ _ => False

theorem contP_mono {n : Nat} {LP LP' : List Bool → List EV → Hp → Nat → Prop} (h : ∀ p vs hp nx, LP p vs hp nx → LP' p vs hp nx) (root : Code × An2) (K0 : KP) : ∀ p e fr hp nx, contP P D η n LP root K0 p e fr hp nx → contP P D η n LP' root K0 p e fr hp nx
  | [], e, fr, hp, nx, q => q
  | b :: p, e, fr, hp, nx, q => by
    have ih := contP_mono (n := n) h root K0 p
    obtain ⟨c, an, hc⟩ : ∃ c an, posA root p = (c, an) := ⟨_, _, rfl⟩
    simp only [contP, hc] at q ⊢
    cases c <;> simp only at q ⊢ <;> first | (cases q; done) | skip
    · cases b with
      | false =>
        cases e with
        | nrm => exact TrX.mono q ih
        | ex j => exact ih _ _ _ _ q
        | ret => exact ih _ _ _ _ q
      | true => exact ih _ _ _ _ q
    · exact ih _ _ _ _ q
    · cases e with
      | nrm => exact ih _ _ _ _ q
      | ex j =>
        simp only [kBlockP] at q ⊢
        split at q <;> rename_i hj
        · rw [if_pos hj]; exact ih _ _ _ _ q
        · rw [if_neg hj]; exact ih _ _ _ _ q
      | ret => exact ih _ _ _ _ q
    · cases e with
      | nrm => exact ⟨q.1, h _ _ _ _ q.2⟩
      | ex j => exact ih _ _ _ _ q
      | ret => exact ih _ _ _ _ q

/-- What is jumped to comes to what is asked. -/
def Facts (P : Program) (D : List Deferred) (η : Nat → Value) (n : Nat) (J : JT) (root : Code × An2) (C : List Bool → KP) : Prop :=
  ∀ p vs hp nx, J p vs hp nx = true → TrX P D η (posA root p).1 (expF (liveAt root p) vs n 0) hp nx (C p)

theorem link_of_facts {n : Nat} {J : JT} {LP : List Bool → List EV → Hp → Nat → Prop} {root : Code × An2} {K0 : KP} (hF : Facts P D η n J root (contP P D η n LP root K0)) :
    ∀ (c : Code) (p : List Bool) (an : An2), posA root p = (c, an) → Link P D η n J c p an (contP P D η n LP root K0 p) := by
  intro c
  induction c with
  | seq x y ihx ihy =>
    intro p an h
    have hx : posA root (false :: p) = (x, an.l) := by simp [posA, h, downA]
    have hy : posA root (true :: p) = (y, an.r) := by simp [posA, h, downA]
    have kx : contP P D η n LP root K0 (false :: p) = kNextP P D η y (contP P D η n LP root K0 p) := by simp [contP, h]
    have ky : contP P D η n LP root K0 (true :: p) = contP P D η n LP root K0 p := by simp [contP, h]
    refine ⟨by rw [← kx]; exact ihx _ _ hx, ?_⟩
    split
    · rename_i live hcut
      intro vs hp nx hj
      have := hF (true :: p) vs hp nx hj
      rw [hy, ky] at this
      have hl : liveAt root (true :: p) = live := by
        unfold liveAt
        rw [hy]
        unfold cutOf at hcut
        split at hcut
        · cases hcut
        · rename_i m a b hne
          injection hcut with hcut
          subst hcut
          split
          · rename_i c' hc'
            exact absurd hc' (hne c')
          · simp [h, An2.m]
        · cases hcut
      rw [hl] at this
      exact this
    · have := ihy (true :: p) an.r hy
      rw [ky] at this
      exact this
  | cond c x y ihx ihy =>
    intro p an h
    have hx : posA root (false :: p) = (x, an.l) := by simp [posA, h, downA]
    have hy : posA root (true :: p) = (y, an.r) := by simp [posA, h, downA]
    have kx : contP P D η n LP root K0 (false :: p) = contP P D η n LP root K0 p := by simp [contP, h]
    have ky : contP P D η n LP root K0 (true :: p) = contP P D η n LP root K0 p := by simp [contP, h]
    exact ⟨by have := ihx _ _ hx; rwa [kx] at this, by have := ihy _ _ hy; rwa [ky] at this⟩
  | block id c ih =>
    intro p an h
    have hx : posA root (false :: p) = (c, an.l) := by simp [posA, h, downA]
    have kx : contP P D η n LP root K0 (false :: p) = kBlockP id (contP P D η n LP root K0 p) := by simp [contP, h]
    have := ih _ _ hx
    rwa [kx] at this
  | loop c ih =>
    intro p an h vs hp nx hj
    have := hF p vs hp nx hj
    have hl : liveAt root p = an.m := by unfold liveAt; simp [h]
    rw [h, hl] at this
    exact this
  | _ => intro p an h; trivial

theorem codeOk_pos {pl : Nat → Option Plan} {root : Code × An2} (h : codeOk pl root.1 = true) : ∀ p, codeOk pl (posA root p).1 = true
  | [] => h
  | b :: p => by
    have ih := codeOk_pos h p
    simp only [posA]
    generalize posA root p = q at ih ⊢
    obtain ⟨c, an⟩ := q
    cases c <;> simp only [downA, codeOk, Bool.and_eq_true] at ih ⊢
    · cases b
      · exact ih.1
      · exact ih.2
    · cases b
      · exact ih.1
      · exact ih.2
    · exact ih
    · exact ih

theorem contB_sound (hη : Ones η) {pl : Nat → Option Plan} (hm : P.follows .mixedOrders = true) {call : CallK} (hcall : CallS P η call) {n : Nat} {J : JT} {LP : List Bool → List EV → Hp → Nat → Prop} {root : Code × An2} {k0 : KX} {K0 : KP}
    (hok : codeOk pl root.1 = true) (hk : ∀ e fr hp nx, k0 e fr hp nx = true → K0 e fr hp nx) (hJ : ∀ p vs hp nx, J p vs hp nx = true → LP p vs hp nx) (hF : Facts P D η n J root (contP P D η n LP root K0)) :
    ∀ p e fr hp nx, contB P O call pl n J root k0 p e fr hp nx = true → contP P D η n LP root K0 p e fr hp nx
  | [], e, fr, hp, nx, h => hk _ _ _ _ h
  | b :: p, e, fr, hp, nx, h => by
    have ih := contB_sound hη hm hcall hok hk hJ hF p
    obtain ⟨c, an, hc⟩ : ∃ c an, posA root p = (c, an) := ⟨_, _, rfl⟩
    have hokc := codeOk_pos hok p
    have hlk := link_of_facts hF c p an hc
    simp only [contB, contP, hc] at h ⊢
    rw [hc] at hokc
    cases c <;> simp only at h ⊢ <;> first | (cases h; done) | skip
    · rename_i x y
      cases b with
      | false =>
        cases e with
        | nrm =>
          obtain ⟨hl1, hl2⟩ := hlk
          simp only [kNext] at h
          simp only [codeOk, Bool.and_eq_true] at hokc
          split at h
          · rename_i live hcut
            rw [hcut] at hl2
            obtain ⟨h2, h3⟩ := cutK_iff h
            exact (hl2 _ _ _ h3).expand h2
          · rename_i hcut
            rw [hcut] at hl2
            exact evM_sound hη hm hcall _ _ _ _ _ _ _ _ hokc.2 hl2 ih h
        | ex j => exact ih _ _ _ _ h
        | ret => exact ih _ _ _ _ h
      | true => exact ih _ _ _ _ h
    · exact ih _ _ _ _ h
    · cases e with
      | nrm => exact ih _ _ _ _ h
      | ex j =>
        simp only [kBlock] at h
        simp only [kBlockP]
        split at h <;> rename_i hj
        · rw [if_pos hj]; exact ih _ _ _ _ h
        · rw [if_neg hj]; exact ih _ _ _ _ h
      | ret => exact ih _ _ _ _ h
    · cases e with
      | nrm =>
        simp only [kNext] at h
        obtain ⟨h2, h3⟩ := cutK_iff h
        exact ⟨h2, hJ _ _ _ _ h3⟩
      | ex j => exact ih _ _ _ _ h
      | ret => exact ih _ _ _ _ h

theorem jump_sound (hη : Ones η) {pl : Nat → Option Plan} (hm : P.follows .mixedOrders = true) {call : CallK} (hcall : CallS P η call) {n : Nat} {root : Code × An2} {k0 : KX} {K0 : KP}
    (hok : codeOk pl root.1 = true) (hk : ∀ e fr hp nx, k0 e fr hp nx = true → K0 e fr hp nx) {Jn : Nat → JT} (h0 : ∀ p vs hp nx, Jn 0 p vs hp nx = false)
    (hs : ∀ m p vs hp nx, Jn (m + 1) p vs hp nx = true → evU P O call pl n (Jn m) root k0 p vs hp nx = true) :
    ∀ N, Facts P D η n (Jn N) root (contP P D η n (fun p vs hp nx => ∃ m, m < N ∧ Jn m p vs hp nx = true) root K0) := by
  intro N
  induction N using Nat.strongRecOn with
  | _ N ihN =>
    intro p vs hp nx hj
    obtain ⟨LP, hLP⟩ : ∃ LP : Nat → List Bool → List EV → Hp → Nat → Prop, LP = fun N p vs hp nx => ∃ m, m < N ∧ Jn m p vs hp nx = true := ⟨_, rfl⟩
    have hLPm : ∀ {a b : Nat}, a ≤ b → ∀ p vs hp nx, LP a p vs hp nx → LP b p vs hp nx := by
      intro a b hab p vs hp nx
      rw [hLP]
      rintro ⟨m, h1, h2⟩
      exact ⟨m, by omega, h2⟩
    have hgoal : (fun p vs hp nx => ∃ m, m < N ∧ Jn m p vs hp nx = true) = LP N := by rw [hLP]
    rw [hgoal]
    -- what is known of the runs that are shorter
    have facts : ∀ m, m < N → Facts P D η n (Jn m) root (contP P D η n (LP (m + 1)) root K0) := by
      intro m hm1 p vs hp nx hj
      have := ihN m hm1 p vs hp nx hj
      refine this.mono (contP_mono ?_ root K0 p)
      intro p vs hp nx
      rintro ⟨m', h1, h2⟩
      rw [hLP]
      exact ⟨m', by omega, h2⟩
    have hJL : ∀ m p vs hp nx, Jn m p vs hp nx = true → LP (m + 1) p vs hp nx := by
      intro m p vs hp nx h
      rw [hLP]
      exact ⟨m, by omega, h⟩
    -- a place's own run
    have body : ∀ m, m < N → ∀ p vs hp nx, Jn (m + 1) p vs hp nx = true → (match (posA root p).1 with
        | .loop c => TrX P D η c (expF (liveAt root p) vs n 0) hp nx (contP P D η n (LP (m + 1)) root K0 (false :: p))
        | c => TrX P D η c (expF (liveAt root p) vs n 0) hp nx (contP P D η n (LP (m + 1)) root K0 p)) := by
      intro m hm1 p vs hp nx hj
      have hU := hs m p vs hp nx hj
      have hF := facts m hm1
      have hB := contB_sound (O := O) hη hm hcall hok hk (hJL m) hF
      have hokc := codeOk_pos hok p
      obtain ⟨c, an, hc⟩ : ∃ c an, posA root p = (c, an) := ⟨_, _, rfl⟩
      unfold evU at hU
      rw [hc] at hU hokc ⊢
      cases c <;> simp only at hU ⊢
      case loop c =>
        refine evM_sound hη hm hcall c (false :: p) an.l _ hp nx _ _ hokc (link_of_facts hF c (false :: p) an.l ?_) (hB (false :: p)) hU
        simp [posA, hc, downA]
      all_goals exact evM_sound hη hm hcall _ p an _ hp nx _ _ hokc (link_of_facts hF _ p an hc) (hB p) hU
    cases N with
    | zero => rw [h0] at hj; cases hj
    | succ N =>
      have hb := body N (by omega) p vs hp nx hj
      obtain ⟨c, an, hc⟩ : ∃ c an, posA root p = (c, an) := ⟨_, _, rfl⟩
      by_cases hloop : ∃ c', c = .loop c'
      · obtain ⟨c', rfl⟩ := hloop
        have kx : ∀ LP, contP P D η n LP root K0 (false :: p) = fun e fr hp nx => match e with
            | .nrm => fr.length = n ∧ LP p (an.m.map fun i => fr.getD i .any) hp nx
            | e => contP P D η n LP root K0 p e fr hp nx := fun LP => by simp [contP, hc]
        have hla : liveAt root p = an.m := by unfold liveAt; simp [hc]
        rw [hla, hc]
        -- rounds
        have round : ∀ m, m < N + 1 → ∀ vs hp nx, Jn (m + 1) p vs hp nx = true → TrX P D η c' (expF an.m vs n 0) hp nx (fun e fr hp nx => match e with
            | .nrm => fr.length = n ∧ LP (m + 1) p (an.m.map fun i => fr.getD i .any) hp nx
            | e => contP P D η n (LP (N + 1)) root K0 p e fr hp nx) := by
          intro m hm1 vs hp nx hj
          have := body m hm1 p vs hp nx hj
          rw [hc, hla] at this
          simp only [kx] at this
          refine this.mono ?_
          intro e fr hp nx q
          cases e with
          | nrm => exact q
          | ex j => exact contP_mono (hLPm (by omega)) root K0 p _ _ _ _ q
          | ret => exact contP_mono (hLPm (by omega)) root K0 p _ _ _ _ q
        have ends : ∀ m, m ≤ N + 1 → ∀ vs hp nx, Jn m p vs hp nx = true → ∃ e fr' hp' nx', contP P D η n (LP (N + 1)) root K0 p e fr' hp' nx' := by
          intro m
          induction m using Nat.strongRecOn with
          | _ m ihm =>
            intro hle vs hp nx hj
            cases m with
            | zero => rw [h0] at hj; cases hj
            | succ m =>
              obtain ⟨⟨e, fr', hp', nx', q⟩, _⟩ := round m (by omega) vs hp nx hj
              cases e with
              | nrm =>
                rw [hLP] at q
                obtain ⟨_, m', h1, h2⟩ := q
                exact ihm m' h1 (by omega) _ _ _ h2
              | ex j => exact ⟨_, _, _, _, q⟩
              | ret => exact ⟨_, _, _, _, q⟩
        refine ⟨ends (N + 1) (Nat.le_refl _) vs hp nx hj, fun B ρ w a hrel => ?_⟩
        obtain ⟨I, hI⟩ : ∃ I : Act → World → Nat → Prop, I = fun a1 w1 m => m ≤ N + 1 ∧ ∃ vs1 hp1 nx1 ρ1, Jn m p vs1 hp1 nx1 = true ∧ Go1 B η ρ ρ1 hp1 nx1 w w1 ∧ RelA D B ρ1 η (expF an.m vs1 n 0) hp1 nx1 w1 a1 := ⟨_, rfl⟩
        classical
        obtain ⟨M, hM⟩ : ∃ M : Act → World → Nat, M = fun a' w' => if q : ∃ m, I a' w' m then Classical.choose (least _ q) else 0 := ⟨_, rfl⟩
        refine wp_loop (fun a' w' => ∃ m, I a' w' m) M ⟨N + 1, by rw [hI]; exact ⟨Nat.le_refl _, vs, hp, nx, ρ, hj, Go1.refl hrel.hr, hrel⟩⟩ ?_
        rintro a1 w1 q
        have hs1 := (Classical.choose_spec (least _ q)).1
        have hM1 : M a1 w1 = Classical.choose (least _ q) := by rw [hM]; simp only; rw [dif_pos q]
        rw [← hM1] at hs1
        obtain ⟨m1, hm1⟩ : ∃ m1, M a1 w1 = m1 := ⟨_, rfl⟩
        rw [hm1] at hs1 ⊢
        rw [hI] at hs1
        obtain ⟨hle1, vs1, hp1, nx1, ρ1, hR, hg1, hr1⟩ := hs1
        cases m1 with
        | zero => rw [h0] at hR; cases hR
        | succ m2 =>
          refine wp_mono ((round m2 (by omega) vs1 hp1 nx1 hR).2 B ρ1 w1 a1 hr1) ?_
          rintro e' a2 w2 ⟨e2, fr2, hp2, nx2, ρ2, k2, rfl, hg2, hr2⟩
          cases e2 with
          | nrm =>
            rw [hLP] at k2
            obtain ⟨hlen, m3, hlt, hj3⟩ := k2
            have hs2 : I a2 w2 m3 := by rw [hI]; exact ⟨by omega, _, hp2, nx2, ρ2, hj3, hg1.trans hg2, ⟨hr2.hr, expF_vl hr2.vl hlen, hr2.defers⟩⟩
            refine ⟨⟨m3, hs2⟩, ?_⟩
            have q2 : ∃ m, I a2 w2 m := ⟨m3, hs2⟩
            have : M a2 w2 ≤ m3 := by rw [hM]; simp only; rw [dif_pos q2]; exact (Classical.choose_spec (least _ q2)).2 _ hs2
            omega
          | ex id => exact ⟨.ex id, fr2, hp2, nx2, ρ2, k2, rfl, hg1.trans hg2, hr2⟩
          | ret => exact ⟨.ret, fr2, hp2, nx2, ρ2, k2, rfl, hg1.trans hg2, hr2⟩
      · rw [hc] at hb ⊢
        cases c with
        | loop c' => exact absurd ⟨c', rfl⟩ hloop
        | _ => exact hb

/-! A function. -/
noncomputable section
variable (P) (O)
def bodyOf (f : FuncId) : Code := match P.funcs[f]? with
  | some fn => (match fn.body with
    | some c => c
    | none => .skip)
  | none => .skip
def ntOf (f : FuncId) : Nat := match P.funcs[f]? with
  | some fn => fn.ntmps
  | none => 0
def endF (f : FuncId) (k : KV) : KX := match P.funcs[f]? with
  | some fn => endE P fn k
  | none => fun _ _ _ _ => false
def startE (call : CallK) (pl : Nat → Option Plan) (an : An2) (J : JT) (f : FuncId) (args : List EV) (hp : Hp) (nx : Nat) (k : KV) : Bool :=
  evM P O call pl (ntOf P f) J [] (bodyOf P f) an (args ++ List.replicate (ntOf P f - args.length) (.val undef)) hp nx (endF P f k)
def placeE (call : CallK) (pl : Nat → Option Plan) (an : An2) (J : JT) (f : FuncId) (k : KV) (p : List Bool) (vs : List EV) (hp : Hp) (nx : Nat) : Bool :=
  evU P O call pl (ntOf P f) J (bodyOf P f, an) (endF P f k) p vs hp nx
end
/-- A table of places. -/
def jt : List (List Bool × (List EV → Hp → Nat → Bool)) → JT
  | [], _, _, _, _ => false
  | (p, g) :: t, q, vs, hp, nx => match p == q with
    | true => g vs hp nx
    | false => jt t q vs hp nx
def TabOk (U : JT) : List (List Bool × (List EV → Hp → Nat → Bool)) → Prop
  | [] => True
  | (p, g) :: t => (∀ vs hp nx, g vs hp nx = true → U p vs hp nx = true) ∧ TabOk U t
theorem TabOk.jt {U : JT} : ∀ {t} (_ : TabOk U t) {q vs hp nx}, jt t q vs hp nx = true → U q vs hp nx = true
  | [], _, _, _, _, _, h => by cases h
  | (p, g) :: t, hh, q, vs, hp, nx, h => by
    unfold Go.Proofs.YtnfdkmnmniiokaaGreatDoor.jt at h
    split at h
    · rename_i he
      rw [beq_iff_eq] at he
      subst he
      exact hh.1 _ _ _ h
    · exact hh.2.jt h

/-- Of a function with a table that grows: what stands there is what is done at the places. -/
theorem fun_sound (hη : Ones η) (hm : P.follows .mixedOrders = true) {call : CallK} (hcall : CallS P η call) {f : FuncId} {pl : Nat → Option Plan} {an : An2} {k : KV} (hplain : plainF P f = true) (hok : codeOk pl (bodyOf P f) = true)
    (tab : Nat → List (List Bool × (List EV → Hp → Nat → Bool))) (h0 : TabOk (fun _ _ _ _ => false) (tab 0))
    (hs : ∀ m, TabOk (placeE P O call pl an (jt (tab m)) f k) (tab (m + 1))) {N : Nat} {args : List EV} {hp : Hp} {nx : Nat}
    (h : startE P O call pl an (jt (tab N)) f args hp nx k = true) : plainF P f = true ∧ (∃ r hp' nx', k r hp' nx' = true) ∧ CallW P η f args hp nx k := by
  refine ⟨hplain, ?_⟩
  obtain ⟨fn, hfn, c, hb⟩ : ∃ fn, P.funcs[f]? = some fn ∧ ∃ c, fn.body = some c := by
    unfold plainF at hplain
    split at hplain
    · rename_i fn hfn
      simp only [Bool.and_eq_true, Option.isSome_iff_exists] at hplain
      exact ⟨fn, hfn, hplain.1⟩
    · cases hplain
  have e1 : bodyOf P f = c := by unfold bodyOf; simp [hfn, hb]
  have e2 : ntOf P f = fn.ntmps := by unfold ntOf; simp [hfn]
  have e3 : endF P f k = endE P fn k := by unfold endF; simp [hfn]
  have hjs := jump_sound (O := O) (D := []) (K0 := fun e fr hp nx => endE P fn k e fr hp nx = true) (k0 := endF P f k) (n := ntOf P f) (root := (bodyOf P f, an)) (Jn := fun m => jt (tab m)) hη hm hcall hok (by intro e fr hp nx q; rw [e3] at q; exact q)
    (fun p vs hp nx => by
      cases hq : jt (tab 0) p vs hp nx with
      | false => rfl
      | true => exact absurd (h0.jt hq) (by simp))
    (fun m p vs hp nx q => (hs m).jt q) N
  have hlk := link_of_facts hjs (bodyOf P f) [] an rfl
  have hT := evM_sound hη hm hcall _ _ _ _ hp nx _ _ hok hlk (by intro e fr hp nx q; rw [e3] at q; exact q) h
  rw [e1, e2] at hT
  simp only [contP] at hT
  obtain ⟨⟨e0, fr0, hp0, nx0, hk0⟩, ht⟩ := hT
  have key : ∀ {e : EX} {fr' : List EV} {hp' : Hp} {nx' : Nat}, endE P fn k e fr' hp' nx' = true → (∀ id, e ≠ .ex id) ∧ ∃ vs, resE P hp' fr' fn.results.toList = some vs ∧ k (oneOf vs) hp' nx' = true := by
    intro e fr' hp' nx' hk
    unfold endE at hk
    split at hk
    · cases hk
    · rename_i hne
      split at hk
      · rename_i vs hvs
        exact ⟨hne, vs, hvs, hk⟩
      · cases hk
  obtain ⟨_, vs0, _, hkv⟩ := key hk0
  refine ⟨⟨_, _, _, hkv⟩, fun B ρ w us hhr hv => ?_⟩
  have hl := VL.length hv
  have hrel : RelA [] B ρ η (args ++ List.replicate (fn.ntmps - args.length) (.val undef)) hp nx w { tmps := us.toArray ++ Array.replicate (fn.ntmps - us.toArray.size) undef, defers := [] } := by
    refine ⟨hhr, ?_, rfl⟩
    simp only [Array.toList_append, Array.toList_replicate, List.size_toArray, hl, List.toList_toArray]
    exact hv.append (vl_undef _ _)
  refine calls_of_wp hfn hb (wp_mono (ht B ρ w _ hrel) ?_)
  rintro e2 a2 w2 ⟨e, fr', hp', nx', ρ2, hk, rfl, hg2, hr2⟩
  obtain ⟨hne, vs, hvs, hkv⟩ := key hk
  obtain ⟨v, k1, k2⟩ := results_sound hr2 hvs
  cases e with
  | nrm => exact ⟨hr2.defers, v, k1, _, hp', nx', v, ρ2, hkv, rfl, hg2, k2⟩
  | ex id => exact absurd rfl (hne id)
  | ret => exact ⟨hr2.defers, v, k1, _, hp', nx', v, ρ2, hkv, rfl, hg2, k2⟩
end
end Go.Proofs.YtnfdkmnmniiokaaGreatDoor
