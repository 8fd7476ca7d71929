import Derived.Test.YtnfdkmnmniiokaaGreatDoorG0
import Derived.Test.YtnfdkmnmniiokaaGreatDoorY5
set_option linter.unusedVariables false
set_option linter.unusedSimpArgs false
namespace Go.Proofs.YtnfdkmnmniiokaaGreatDoor
open Go.RowKit EV IntKind
open Go.Proofs.Tryz (prog)
variable (R : Rec) (k : KV)
namespace f16
/-! Run: it defers a call that recovers. -/
noncomputable def R0 : Code := (posA (bodyOf prog 16, .leaf) [false]).1
noncomputable def R1 : Code := (posA (bodyOf prog 16, .leaf) [false, true]).1
noncomputable def CC : Code := (posA (bodyOf prog 16, .leaf) [true, true]).1
noncomputable def Q0 : Code := (posA (bodyOf prog 32, .leaf) [false, false]).1
noncomputable def QB : Code := (posA (bodyOf prog 32, .leaf) [true, false]).1
noncomputable def QC : Code := (posA (bodyOf prog 32, .leaf) [true]).1
theorem body16 : bodyOf prog 16 = .seq R0 (.seq R1 CC) := by kernel_rfl
theorem body32 : bodyOf prog 32 = .seq (.seq Q0 QB) QC := by kernel_rfl
noncomputable def pl (_ : Nat) : Option Plan := none
/-- The end: what is deferred, then the result. -/
noncomputable def k32 (fr : List EV) : KX := fun e _ h n => match e with
  | .ex _ => false
  | _ => resK (resE prog h fr [.cell 4 24]) h n k
def fr32 (a b : EV) : List EV := [a, b, .val .nilIface, .bool false, .tup [.val .nilIface, .bool false], .val .nilIface, .tup [.val .nilIface, .bool false], .val .nilIface, .bool false] ++ List.replicate 6 (.val undef)
noncomputable def kQ (fr : List EV) : KX := fun e fr2 h n => match e with
  | .nrm => evM prog O0 (toCall R) pl 15 (jt []) [] QC .leaf fr2 h n (k32 k fr)
  | _ => false
noncomputable def D32 (v2 v4 : EV) (fr : List EV) (h : Hp) (n : Nat) : Bool := evM prog O0 (toCall R) pl 15 (jt []) [] QB .leaf (fr32 v2 v4) h n (kQ R k fr)
noncomputable def kE (v2 v4 : EV) : KX := fun e fr h n => match e with
  | .ret => D32 R k v2 v4 fr h n
  | _ => false
noncomputable def an : An2 := .seq (.seq (.loop [1, 2, 4] .leaf) .leaf) .leaf
noncomputable def E (s4 s2 v2 v4 : EV) (h0 : Hp) (n0 : Nat) : Bool := optK (loadA prog h0 66 s2) fun v19 => R.g1.f34 v19 h0 n0 fun v20 h1 n1 => optW (storeA prog h1 n1 24 s4 v20) fun _ h2 n2 =>
  optK (loadA prog h2 66 v2) fun v13 => R.g1.f34 v13 h2 n2 fun v14 h3 n3 => optW (storeA prog h3 n3 24 v4 v14) fun _ h4 n4 => resK (resE prog h4 [s4] [.cell 0 24]) h4 n4 k
noncomputable def F0 (v2 v4 : EV) (j0 : EV → EV → EV → Hp → Nat → Bool) (s1 s2 s4 : EV) (h0 : Hp) (n0 : Nat) : Bool :=
  optK (abin prog O0 .gtr 3 s1 (int i64 0)) fun v7 => gK (wantG (some v7) true) (fun y => optK (loadA prog h0 66 s2) fun v => y v h0 n0) (fun v9 h1 n1 =>
    gK (wantG (some v7) true) (fun y => optK (nilChk prog v9) fun v => y v h1 n1) (fun v10 h2 n2 => gK (wantG (some v7) true) (fun y => optK (fieldAt prog 125 v10 8) fun v => y v h2 n2) (fun v11 h3 n3 =>
    gK (wantG (some v7) true) (fun y => optK (loadA prog h3 3 v11) fun v => y v h3 n3) (fun v12 h4 n4 => gK (wantG (some v7) true) (fun y => optK (abin prog O0 .eql 3 v12 (int i64 0)) fun v => y v h4 n4) (fun v13 h5 n5 =>
    optK (pickE v7 v13 (bool false)) fun v14 => condS v14 (optK (loadA prog h5 66 s2) fun v17 => R.g1.f35 v17 h5 n5 fun _ h6 n6 => optK (abin prog O0 .sub 3 s1 (int i64 1)) fun v16 => j0 v16 s2 s4 h6 n6) (E R k s4 s2 v2 v4 h5 n5)) h4 n4) h3 n3) h2 n2) h1 n1) h0 n0
noncomputable def L (v2 v4 : EV) (m : Nat) : EV → EV → EV → Hp → Nat → Bool := Nat.rec (motive := fun _ => EV → EV → EV → Hp → Nat → Bool) (fun _ _ _ _ _ => false) (fun _ l => F0 R k v2 v4 l) m
noncomputable def tb (l : EV → EV → EV → Hp → Nat → Bool) : List (List Bool × (List EV → Hp → Nat → Bool)) := [([false, false], fun vs => l (nthE 0 vs) (nthE 1 vs) (nthE 2 vs))]
theorem U0 (v2 v4 : EV) (m : Nat) (vs : List EV) (h : Hp) (n : Nat) : evU prog O0 (toCall R) pl 21 (jt (tb (L R k v2 v4 m))) (CC, an) (kE R k v2 v4) [false, false] vs h n = L R k v2 v4 (m + 1) (nthE 0 vs) (nthE 1 vs) (nthE 2 vs) h n := by kernel_rfl
theorem e (v2 v4 : EV) (l : EV → EV → EV → Hp → Nat → Bool) (vs : List EV) (h : Hp) (n : Nat) : evM prog O0 (toCall R) pl 21 (jt (tb l)) [] CC an (expF [1, 2, 4] vs 21 0) h n (kE R k v2 v4) = l (nthE 0 vs) (nthE 1 vs) (nthE 2 vs) h n := by kernel_rfl
/-- What comes behind the first region. -/
noncomputable def k0 (g : EV → EV → EV → Hp → Nat → Bool) : KX := fun e fr h n => match e with
  | .nrm => cutK 21 [1, 2, 4] fr fun vs => g (nthE 0 vs) (nthE 1 vs) (nthE 2 vs) h n
  | _ => false
noncomputable def S0 (g : EV → EV → EV → Hp → Nat → Bool) (s0 s1 : EV) (h : Hp) (n : Nat) : Bool := optW (boxA h n 66 s0) fun v2 h1 n1 => optW (allocA prog h1 n1 24) fun v4 h2 n2 => g s1 v2 v4 h2 n2
noncomputable def S (R : Rec) (s0 s1 : EV) (h : Hp) (n : Nat) (k : KV) : Bool := S0 (fun s1 v2 v4 => L R k v2 v4 10000000 s1 v2 v4) s0 s1 h n
theorem e0 (g : EV → EV → EV → Hp → Nat → Bool) (s0 s1 : EV) (h : Hp) (n : Nat) : evM prog O0 (toCall R) pl 21 (jt []) [] R0 .leaf ([s0, s1] ++ List.replicate 19 (.val undef)) h n (k0 g) = S0 g s0 s1 h n := by kernel_rfl

/-! The two regions that the engine does not know. -/
def ops1 : Array Oper := #[{ dst := some 5, op := .makeFunc (.func 32) #[] #[.tmp 2, .tmp 4], type := 1, pos := "core.go:184", after := #[], guard := none },
    { dst := none, op := .defer { callee := .value (.tmp 5), args := #[], argTypes := #[] }, type := 0, pos := "core.go:184", after := #[{ on := 0, ground := .data }], guard := none }]
theorem r1 : R1 = .region 1 ops1 false := by kernel_rfl
theorem r1_wp {Q : Exit → Act → World → Prop} {a : Act} {w : World} (hd : a.defers = []) (h5 : 5 < a.tmps.size)
    (hq : Q .normal { tmps := a.tmps.setIfInBounds 5 (.func (.func 32) #[] #[a.eval (.tmp 2), a.eval (.tmp 4)]), defers := [{ target := .fn (.func 32) #[a.eval (.tmp 2), a.eval (.tmp 4)], args := #[] }] } w) : R1.wp prog Q a w := by
  rw [r1]
  refine wp_region ?_
  show wpOps prog ops1 Q [0, 1] a w
  have e5 : (a.put (some 5) (.func (.func 32) #[] #[a.eval (.tmp 2), a.eval (.tmp 4)])).eval (.tmp 5) = .func (.func 32) #[] #[a.eval (.tmp 2), a.eval (.tmp 4)] := by
    simp [Act.put, Act.eval, h5]
  have o0 : ops1[0]? = some { dst := some 5, op := .makeFunc (.func 32) #[] #[.tmp 2, .tmp 4], type := 1, pos := "core.go:184", after := #[], guard := none } := rfl
  have o1 : ops1[1]? = some { dst := none, op := .defer { callee := .value (.tmp 5), args := #[], argTypes := #[] }, type := 0, pos := "core.go:184", after := #[{ on := 0, ground := .data }], guard := none } := rfl
  simp only [wpOps, o0, o1, Region.wanted, if_true]
  unfold Oper.wp
  have x0 : ∀ w, (execOp a.eval { dst := some 5, op := .makeFunc (.func 32) #[] #[.tmp 2, .tmp 4], type := 1, pos := "core.go:184", after := #[], guard := none }).run prog w = .ok (.value (.func (.func 32) #[] #[a.eval (.tmp 2), a.eval (.tmp 4)])) w := fun w => by
    simp [execOp, Instr.makeFunc]
  rw [x0, Oper.upon_value]
  have x1 : (execOp (a.put (some 5) (.func (.func 32) #[] #[a.eval (.tmp 2), a.eval (.tmp 4)])).eval { dst := none, op := .defer { callee := .value (.tmp 5), args := #[], argTypes := #[] }, type := 0, pos := "core.go:184", after := #[{ on := 0, ground := .data }], guard := none }).run prog w = .ok (.defer { target := .fn (.func 32) #[a.eval (.tmp 2), a.eval (.tmp 4)], args := #[] }) w := by
    simp [execOp, resolve, Deferred.ofValue, e5]
  rw [x1, Oper.upon_defer]
  simp only [Act.put, hd]
  exact .inl (.inl hq)
/-! What is deferred, called as the function returns: there is nothing to recover. -/
def ops0 : Array Oper := #[{ dst := some 5, op := .call { callee := .builtin .recover, args := #[], argTypes := #[] }, type := 20, pos := "core.go:185", after := #[], guard := none },
        { dst := some 6, op := .typeAssert (.tmp 5) 20 135 true, type := 136, pos := "core.go:185", after := #[{ on := 0, ground := .data }], guard := none },
        { dst := some 4, op := .move (.tmp 6), type := 136, pos := "core.go:185", after := #[{ on := 1, ground := .data }], guard := none },
        { dst := some 7, op := .extract (.tmp 4) 0, type := 135, pos := "core.go:185", after := #[{ on := 2, ground := .data }], guard := none },
        { dst := some 8, op := .extract (.tmp 4) 1, type := 4, pos := "core.go:185",
          after := #[{ on := 2, ground := .data }, { on := 5, ground := .gcOnly .lateStores }], guard := none },
        { dst := some 2, op := .assign (.tmp 7), type := 135, pos := "core.go:185",
          after :=
            #[{ on := 3, ground := .data }, { on := 0, ground := .chain },
              { on := 0, ground := .phase }, { on := 1, ground := .phase },
              { on := 2, ground := .phase }, { on := 3, ground := .phase },
              { on := 4, ground := .textOnly .lateStores }],
          guard := none },
        { dst := some 3, op := .assign (.tmp 8), type := 4, pos := "core.go:185",
          after :=
            #[{ on := 4, ground := .data }, { on := 5, ground := .chain },
              { on := 0, ground := .phase }, { on := 1, ground := .phase },
              { on := 2, ground := .phase }, { on := 3, ground := .phase },
              { on := 4, ground := .phase }, { on := 5, ground := .phase }],
          guard := none }]
theorem q0 : Q0 = .region 0 ops0 false := by kernel_rfl
def tm32 (a b : Value) : Array Value := #[a, b, .nilIface, .bool false, .tuple #[.nilIface, .bool false], .nilIface, .tuple #[.nilIface, .bool false], .nilIface, .bool false, undef, undef, undef, undef, undef, undef]
theorem ta (w : World) : (Instr.typeAssert .nilIface 20 135 true).run prog w = .ok (.tuple #[.nilIface, .bool false]) w := by kernel_rfl
theorem q0_wp {Q : Exit → Act → List Frame → World → Prop} {a b : Value} {c : Frame} {cs : List Frame} {w : World} (hc : c.mode = .returning)
    (hq : Q .normal { tmps := tm32 a b, defers := [] } (c :: cs) w) : Q0.wpS prog Q { tmps := #[a, b] ++ Array.replicate 13 undef, defers := [] } (c :: cs) w := by
  have hr : recoverD (c :: cs) = none := by simp [recoverD, hc]
  rw [q0]
  refine wpS_region ?_
  show wpOpsS prog ops0 Q [0, 1, 2, 3, 4, 5, 6] _ _ w
  have o0 : (execOp ({ tmps := #[a, b] ++ Array.replicate 13 undef, defers := [] } : Act).eval { dst := some 5, op := .call { callee := .builtin .recover, args := #[], argTypes := #[] }, type := 20, pos := "core.go:185", after := #[], guard := none }).run prog w = .ok .recover w := rfl
  simp [wpOpsS, ops0, Region.wanted, o0, hr, Act.put, execOp, Oper.upon, Act.eval, ta, Instr.extract]
  exact hq

/-! The whole. -/
theorem results16 (fr : List EV) {D : List Deferred} {B : Nat} {ρ : Pl} {h : Hp} {n : Nat} {w : World} {a : Act} {fn : Func} (hfn : prog.funcs[16]? = some fn) (hr : RelA D B ρ η0 fr h n w a) {vs : List EV} (hv : resE prog h fr [.cell 4 24] = some vs) :
    ∃ v, (results fn a.tmps).run prog w = .ok v w ∧ VR ρ η0 (oneOf vs) v := by
  have e : fn.results.toList = [.cell 4 24] := by
    have : (match prog.funcs[16]? with | some fn => fn.results.toList | none => []) = [.cell 4 24] := by kernel_rfl
    rw [hfn] at this
    exact this
  exact results_sound hr (by rw [e]; exact hv)
set_option maxRecDepth 20000 in
theorem ok (R : Rec) (hR : CallS prog η0 (toCall R)) (s0 s1 : EV) (h : Hp) (n : Nat) (k : KV) (q : S R s0 s1 h n k = true) : Good 16 [s0, s1] h n k := by
  have plain : plainF prog 16 = true := by decide +kernel
  have t0 := code_sound0 (O := O0) (pl := pl) (n := 21) [] η0_ones mixed hR (by decide +kernel) ((e0 R (fun s1 v2 v4 => L R k v2 v4 10000000 s1 v2 v4) s0 s1 h n).trans q)
  have tC : ∀ (D : List Deferred) (vs : List EV) (h : Hp) (n : Nat), L R k (nthE 1 vs) (nthE 2 vs) 10000000 (nthE 0 vs) (nthE 1 vs) (nthE 2 vs) h n = true →
      TrX prog D η0 CC (expF [1, 2, 4] vs 21 0) h n (fun e fr h n => kE R k (nthE 1 vs) (nthE 2 vs) e fr h n = true) := fun D vs h n hq =>
    code_sound (O := O0) (pl := pl) (n := 21) (an := an) D η0_ones mixed hR (by decide +kernel) (fun m => tb (L R k (nthE 1 vs) (nthE 2 vs) m)) ⟨fun _ _ _ q => q, trivial⟩
      (fun m => ⟨fun us h n q => (U0 R k (nthE 1 vs) (nthE 2 vs) m us h n).trans q, trivial⟩) (N := 10000000) ((e R k (nthE 1 vs) (nthE 2 vs) (L R k (nthE 1 vs) (nthE 2 vs) 10000000) vs h n).trans hq)
  have tB : ∀ (v2 v4 : EV) (fr : List EV) (h : Hp) (n : Nat), D32 R k v2 v4 fr h n = true → TrX prog [] η0 QB (fr32 v2 v4) h n (fun e fr2 h n => kQ R k fr e fr2 h n = true) := fun v2 v4 fr h n hq =>
    code_sound0 (O := O0) (pl := pl) (n := 15) [] η0_ones mixed hR (by decide +kernel) hq
  have tD : ∀ (fr fr2 : List EV) (h : Hp) (n : Nat), kQ R k fr .nrm fr2 h n = true → TrX prog [] η0 QC fr2 h n (fun e fr2 h n => k32 k fr e fr2 h n = true) := fun fr fr2 h n hq =>
    code_sound0 (O := O0) (pl := pl) (n := 15) [] η0_ones mixed hR (by decide +kernel) hq
  have kQn : ∀ {fr e fr2 h n}, kQ R k fr e fr2 h n = true → e = .nrm := by
    intro fr e fr2 h n hq
    cases e <;> first | rfl | cases hq
  have k32n : ∀ {fr e fr2 h n}, k32 k fr e fr2 h n = true → (∀ id, e ≠ .ex id) ∧ ∃ vs, resE prog h fr [.cell 4 24] = some vs ∧ k (oneOf vs) h n = true := by
    intro fr e fr2 h n hq
    have key : resK (resE prog h fr [.cell 4 24]) h n k = true → ∃ vs, resE prog h fr [.cell 4 24] = some vs ∧ k (oneOf vs) h n = true := by
      intro h1
      unfold resK at h1
      split at h1
      · rename_i vs hvs
        exact ⟨vs, hvs, h1⟩
      · cases h1
    cases e with
    | nrm => exact ⟨(by simp), key hq⟩
    | ret => exact ⟨(by simp), key hq⟩
    | ex id => cases hq
  have k0n : ∀ {e fr h n}, k0 (fun s1 v2 v4 => L R k v2 v4 10000000 s1 v2 v4) e fr h n = true → e = .nrm ∧ fr.length = 21 ∧ ∃ vs, vs = ([1, 2, 4].map fun i => fr.getD i .any) ∧ L R k (nthE 1 vs) (nthE 2 vs) 10000000 (nthE 0 vs) (nthE 1 vs) (nthE 2 vs) h n = true := by
    intro e fr h n hq
    cases e with
    | nrm =>
      simp only [k0] at hq
      obtain ⟨h1, h2⟩ := cutK_iff hq
      exact ⟨rfl, h1, _, rfl, h2⟩
    | ex id => cases hq
    | ret => cases hq
  have kEn : ∀ {v2 v4 e fr h n}, kE R k v2 v4 e fr h n = true → e = .ret ∧ D32 R k v2 v4 fr h n = true := by
    intro v2 v4 e fr h n hq
    cases e with
    | ret => exact ⟨rfl, hq⟩
    | nrm => cases hq
    | ex id => cases hq
  refine ⟨plain, ?_, fun B ρ w us hhr hv => ?_⟩
  · obtain ⟨⟨e, fr, h1, n1, q1⟩, _⟩ := t0
    obtain ⟨_, _, vs, _, q2⟩ := k0n q1
    obtain ⟨⟨e, fr, h1, n1, q3⟩, _⟩ := tC [] vs _ _ q2
    obtain ⟨_, q4⟩ := kEn q3
    obtain ⟨⟨e, fr2, h1, n1, q5⟩, _⟩ := tB _ _ _ _ _ q4
    obtain rfl := kQn q5
    obtain ⟨⟨e, fr2, h1, n1, q6⟩, _⟩ := tD _ _ _ _ q5
    obtain ⟨_, vs, _, q7⟩ := k32n q6
    exact ⟨_, _, _, q7⟩
  · obtain ⟨fn, hfn, c, hb⟩ : ∃ fn, prog.funcs[16]? = some fn ∧ ∃ c, fn.body = some c := by
      have hp := plain
      unfold plainF at hp
      split at hp
      · rename_i fn hfn
        simp only [Bool.and_eq_true, Option.isSome_iff_exists] at hp
        exact ⟨fn, hfn, hp.1⟩
      · cases hp
    have e1 : bodyOf prog 16 = c := by unfold bodyOf; simp [hfn, hb]
    have e2 : fn.ntmps = 21 := by
      have : ntOf prog 16 = 21 := by kernel_rfl
      unfold ntOf at this
      rw [hfn] at this
      exact this
    have hl := VL.length hv
    have hrel : RelA [] B ρ η0 ([s0, s1] ++ List.replicate 19 (.val undef)) h n w { tmps := us.toArray ++ Array.replicate (fn.ntmps - us.toArray.size) undef, defers := [] } := by
      refine ⟨hhr, ?_, rfl⟩
      have hl2 : us.length = 2 := hl
      simp only [Array.toList_append, Array.toList_replicate, List.size_toArray, hl2, List.toList_toArray, e2]
      exact hv.append (vl_undef _ 19)
    refine calls_of_wp_defers hfn hb ?_
    rw [← e1, body16]
    refine wp_seq (wp_mono (t0.2 B ρ w _ hrel) ?_)
    rintro e' a1 w1 ⟨e, fr1, h1, n1, ρ1, q1, rfl, g1, r1⟩
    obtain ⟨rfl, hlen, vs, hvs, q2⟩ := k0n q1
    have hl1 := VL.length r1.vl
    have hsz : a1.tmps.size = 21 := by rw [← Array.length_toList, hl1, hlen]
    have ev : ∀ i, i < 21 → VR ρ1 η0 (fr1.getD i .any) (a1.eval (.tmp i)) := by
      intro i hi
      have hx : fr1[i]? = some fr1[i] := List.getElem?_eq_getElem (by omega)
      obtain ⟨u, e3, e4⟩ := VL.get i r1.vl hx
      rw [Array.getElem?_toList] at e3
      rw [List.getD_eq_getElem?_getD, hx]
      simp only [Act.eval, Array.getD_eq_getD_getElem?, e3]
      exact e4
    show (Code.seq R1 CC).wp prog _ a1 w1
    refine wp_seq (r1_wp r1.defers (by omega) ?_)
    obtain ⟨D, hD⟩ : ∃ D : List Deferred, D = [{ target := .fn (.func 32) #[a1.eval (.tmp 2), a1.eval (.tmp 4)], args := #[] }] := ⟨_, rfl⟩
    rw [← hD]
    have hx2 : nthE 1 vs = fr1.getD 2 .any := by rw [hvs]; rfl
    have hx4 : nthE 2 vs = fr1.getD 4 .any := by rw [hvs]; rfl
    have r2 : RelA D B ρ1 η0 (expF [1, 2, 4] vs 21 0) h1 n1 w1 { tmps := a1.tmps.setIfInBounds 5 (.func (.func 32) #[] #[a1.eval (.tmp 2), a1.eval (.tmp 4)]), defers := D } := by
      refine ⟨r1.hr, ?_, rfl⟩
      have h5 := expF_vl (live := [1, 2, 4]) r1.vl hlen
      rw [← hvs] at h5
      have h6 := VL.set 5 h5 (show VR ρ1 η0 .any (.func (.func 32) #[] #[a1.eval (.tmp 2), a1.eval (.tmp 4)]) from trivial)
      have h7 : (expF [1, 2, 4] vs 21 0).set 5 .any = expF [1, 2, 4] vs 21 0 := rfl
      rw [h7] at h6
      simpa using h6
    show CC.wp prog _ _ w1
    refine wp_mono ((tC D vs h1 n1 q2).2 B ρ1 w1 _ r2) ?_
    rintro e' a2 w2 ⟨e, fr2, h2, n2, ρ2, q3, rfl, g2, r3⟩
    obtain ⟨rfl, q4⟩ := kEn q3
    show Leaves prog fn a2.tmps _ a2.defers .returning w2
    rw [r3.defers, hD]
    refine leaves_cons (f := 32) (args := #[a1.eval (.tmp 2), a1.eval (.tmp 4)]) (by simp) ?_ ?_
    · simp only [invoke]
      have : plainF prog 32 = true := by decide +kernel
      exact plainF_run this #[a1.eval (.tmp 2), a1.eval (.tmp 4)] w2
    · obtain ⟨fn2, hfn2, c2, hb2⟩ : ∃ fn, prog.funcs[32]? = some fn ∧ ∃ c, fn.body = some c := by
        have hp : plainF prog 32 = true := by decide +kernel
        unfold plainF at hp
        split at hp
        · rename_i fn hfn
          simp only [Bool.and_eq_true, Option.isSome_iff_exists] at hp
          exact ⟨fn, hfn, hp.1⟩
        · cases hp
      have f1 : bodyOf prog 32 = c2 := by unfold bodyOf; simp [hfn2, hb2]
      have f2 : fn2.ntmps = 15 := by
        have : ntOf prog 32 = 15 := by kernel_rfl
        unfold ntOf at this
        rw [hfn2] at this
        exact this
      have f3 : fn2.results = #[] := by
        have : (match prog.funcs[32]? with | some fn => fn.results | none => #[.tmp 0]) = #[] := by kernel_rfl
        rw [hfn2] at this
        exact this
      refine callsD_of_wpS hfn2 hb2 fun c0 cs hc0 => ?_
      rw [← f1, body32, f2]
      refine wpS_seq (wpS_seq (q0_wp hc0 ?_))
      have v2 : VR ρ2 η0 (nthE 1 vs) (a1.eval (.tmp 2)) := by rw [hx2]; exact VR.le g2.le _ _ (ev 2 (by omega))
      have v4 : VR ρ2 η0 (nthE 2 vs) (a1.eval (.tmp 4)) := by rw [hx4]; exact VR.le g2.le _ _ (ev 4 (by omega))
      have r4 : RelA [] B ρ2 η0 (fr32 (nthE 1 vs) (nthE 2 vs)) h2 n2 w2 { tmps := tm32 (a1.eval (.tmp 2)) (a1.eval (.tmp 4)), defers := [] } := by
        refine ⟨r3.hr, ?_, rfl⟩
        exact ⟨v2, v4, rfl, rfl, ⟨#[.nilIface, .bool false], rfl, rfl, rfl, trivial⟩, rfl, ⟨#[.nilIface, .bool false], rfl, rfl, rfl, trivial⟩, rfl, rfl, rfl, rfl, rfl, rfl, rfl, rfl, trivial⟩
      show QB.wpS prog _ _ _ w2
      refine wpS_of_wp (wp_mono ((tB _ _ fr2 h2 n2 q4).2 B ρ2 w2 _ r4) ?_)
      rintro e' a3 w3 ⟨e, fr3, h3, n3, ρ3, q5, rfl, g3, r5⟩
      obtain rfl := kQn q5
      show QC.wpS prog _ a3 _ w3
      refine wpS_of_wp (wp_mono ((tD fr2 fr3 h3 n3 q5).2 B ρ3 w3 _ r5) ?_)
      rintro e' a4 w4 ⟨e, fr4, h4, n4, ρ4, q6, rfl, g4, r6⟩
      obtain ⟨hne, vs2, hvs2, hk⟩ := k32n q6
      have r7 : RelA D B ρ4 η0 fr2 h4 n4 w4 a2 := ⟨r6.hr, VL.le g4.le _ _ (VL.le g3.le _ _ r3.vl), r3.defers⟩
      obtain ⟨v, k1, k2⟩ := results16 fr2 hfn r7 hvs2
      have res32 : (results fn2 a4.tmps).run prog w4 = .ok (.tuple #[]) w4 := by
        simp [results, f3]
      have done : Leaves prog fn a2.tmps (fun e w' => ∃ r hp' nx' v ρ', k r hp' nx' = true ∧ e = .returned v ∧ Go1 B η0 ρ ρ' hp' nx' w w' ∧ VR ρ' η0 r v) [] (settle .returning) w4 :=
        ⟨v, k1, _, h4, n4, v, ρ4, hk, rfl, ((g1.trans g2).trans g3).trans g4, k2⟩
      cases e with
      | nrm => exact ⟨r6.defers, .returning, by rw [← hc0], _, res32, done⟩
      | ret => exact ⟨r6.defers, .returning, by rw [← hc0], _, res32, done⟩
      | ex id => exact absurd rfl (hne id)
end f16
end Go.Proofs.YtnfdkmnmniiokaaGreatDoor
