/-
  PROVED: 'Rows.AsmPrintsUptoCardSaid': for every program whose bulk is at most 1048576 the law that its text is the document's, whatever numbers are in it, returns true; the library's tables are as the program's text lays them (tied).
-/
import Derived.Test.YtdbbalcicgllhaaGreatDoorRows
import Derived.Test.YtdbbalcicgllhaaGreatDoorCards
import Derived.Test.YtdbbalcicgllhaaGreatDoorTie
import Derived.Test.YtdbbalcicgllhaaGreatDoorA30
import Derived.Test.YtdbbalcicgllhaaGreatDoorA32
import Derived.WalkKit
import Derived.ProofKit
import Derived.OpenShut
import Derived.ChangeOld
import Derived.Below
import Derived.ChangeSame
import Derived.ChangeVars
import Derived.JoinedOf
import Derived.RowKit
import Derived.RowKitTokens
import Derived.LaidLaws
import Derived.Lay
import Derived.Lib.LaidTab
import Derived.Stop.Joined
import Derived.Stop.LaidErr
import Derived.SevenTiedAt
import Derived.MakeChecks
import Derived.Deep.DeepHandedRow
namespace Go.Proofs.YtdbbalcicgllhaaGreatDoor.asmPrints
open Go.ChangeShapes Go.WideShapes Go.ChangeAt Go.RowKit
set_option linter.unusedVariables false

theorem own : ownKnob Tryz.prog.godebug = none := by kernel_rfl
theorem laidOut : laidOutB Tryz.prog = true := by kernel_rfl
theorem gOType : (Tryz.prog.globals[0]?).map (·.type) = some 108 := by kernel_rfl
theorem cells82 : Tryz.prog.cellsOf 82 = 1 := by kernel_rfl
theorem cells108 : Tryz.prog.cellsOf 108 = 20 := by kernel_rfl
theorem pow_data : (Rows.laid_internal_strconv_uint64pow10 : DataW Unit) = Lib.tabData .u64 Lib.pow10Tab := by kernel_rfl

/-- What the listed tables give: the table of powers stands. -/
theorem tab_of {W : World} (h : laidMetH Tryz.prog Rows.asmPrintsUptoRow.laid W) : Tab W := by
  rw [MakeChecks.laidMetH_plain Tryz.prog Rows.asmPrintsUptoRow.laid W (by kernel_rfl)] at h
  have h2 := laidMet.tail (laidMet.tail h)
  rw [pow_data] at h2
  exact Lib.tabIs_of_head g0 gOType Tryz.underlying108 Tryz.underlying82 cells82 cells108 h2

abbrev args0 : Array Value := #[.agg #[.slice none 0 0, .slice none 0 0, .slice none 0 0, .slice none 0 0, .int .i64 0]]
noncomputable def laidWorld (os : Os) : World := World.laidAll Tryz.prog os Rows.asmPrintsUptoRow.laid
theorem laidWorld_met (os : Os) (args : Array Value) : laidMetH Tryz.prog Rows.asmPrintsUptoRow.laid ((laidWorld os).forCall (fun _ _ => 0) ⟨#[], args, []⟩).memory := by
  rw [MakeChecks.laidMetH_plain Tryz.prog Rows.asmPrintsUptoRow.laid _ (by kernel_rfl)]
  exact laidMet_laidAll args (by kernel_rfl) (by kernel_rfl)
theorem witness_row (os : Os) {H : Type} (enc : TypeId × Value → H) :
    (Rows.OpenSpec.upto Rows.asmPrintsSpec).preRow enc Tryz.prog Tryz.f3 Rows.asmPrintsUptoRow.domain false Rows.asmPrintsUptoRow.laid ((laidWorld os).forCall (fun _ _ => 0) ⟨#[], args0, []⟩).memory args0 := by
  have hw : (DataW.whole enc Tryz.prog ((laidWorld os).forCall (fun _ _ => 0) ⟨#[], args0, []⟩).memory Tryz.f3.params.toList (Rows.OpenSpec.upto Rows.asmPrintsSpec).vars false args0.toList 8).map (fun x => (x.1, x.2.1)) =
      some ([.agg [.nil, .nil, .nil, .nil, .lit (.int .i64 0)]], []) := by kernel_rfl
  obtain ⟨⟨x1, x2, x3⟩, hx, hx1⟩ := Option.map_eq_some_iff.1 hw
  simp only [Prod.mk.injEq] at hx1
  obtain ⟨rfl, rfl⟩ := hx1
  exact OpenSpec.preRow_of_cond 8 hx (by kernel_rfl) (fun k hk => by cases hk; rfl) (by kernel_rfl) (laidWorld_met os _)

set_option maxRecDepth 100000 in
theorem lifted (os : Os) (started : os.Started) (H : Type) (enc : TypeId × Value → H) (F0 : Stop.Interp) :
    ReturnsInHanded {} Tryz.checked os 3 .any ((Rows.OpenSpec.upto Rows.asmPrintsSpec).preRow enc Tryz.prog Tryz.f3 Rows.asmPrintsUptoRow.domain false Rows.asmPrintsUptoRow.laid)
      (((Rows.OpenSpec.upto Rows.asmPrintsSpec).at F0).post enc Tryz.prog Tryz.f3 false true false false) := by
  refine returnsInHanded_of_row (C := Tryz.checked) (s := Rows.OpenSpec.upto Rows.asmPrintsSpec) own started (by kernel_rfl) Tryz.func3
    (witness_row_at (enc := enc) (C := Tryz.checked) false (laidWorld os) args0 (World.laidAll_os _ _ _) (by kernel_rfl) (by kernel_rfl) (by kernel_rfl) (witness_row os enc)) ?_
  intro W base args ds gs before hval0 hW _ hcond0 _ hL _ _
  have hk : Rows.uptoSmall H (ds ++ gs) = true := hcond0 _ rfl
  have hval : ∀ (j : Nat) t v, Tryz.f3.params[j]? = some t → args[j]? = some v → Value.okWide Tryz.prog W .any base t v := hval0
  have hW' := hW
  obtain ⟨p, q, hA0, hV, rfl, hfz, hnd⟩ := hW
  have hA : DataW.TrodAll enc Tryz.prog W 0 (fun _ => true) true Tryz.f3.params.toList args.toList ds p := hA0
  rw [Tryz.params3] at hA hval
  obtain ⟨v0, vs0, d0, ds0, p0, q0, hargs, rfl, rfl, h0, r0⟩ := trodAll_cons hA
  obtain ⟨rfl, rfl, rfl⟩ := trodAll_nil r0
  obtain rfl : args = #[v0] := by cases args; simp_all
  obtain ⟨rfl, rfl⟩ := trodVars_none hV
  have h0k := h0
  have lt0 : ∀ x ∈ p0, x.block < W.heap.size := by obtain ⟨m, hm⟩ := h0k; exact DataW.trod_lt m _ _ _ hm
  obtain ⟨cs, rfl, hcs⟩ := okWide_struct Tryz.underlying27 (hval 0 27 v0 rfl rfl)
  obtain ⟨fuel, hf⟩ := h0
  obtain ⟨P, ta, ga, sa, fa, tc, gl, gc, sl, sc, fc, hcells, hrt, hrf, hcnt, hm, hfn⟩ := rd_pg hf
  have hcs2 : cs = #[.slice ta P.texts.length tc, .slice ga gl gc, .slice sa sl sc, .slice fa P.funcs.length fc, .int .i64 P.main] := by
    have e : cs.toList = [.slice ta P.texts.length tc, .slice ga gl gc, .slice sa sl sc, .slice fa P.funcs.length fc, .int .i64 P.main] := hcells
    rw [← Array.toArray_toList (xs := cs), e]
  subst hcs2
  clear hA0 hval0
  simp only [List.append_nil] at hW'
  have hk2 : Rows.uptoBulkAll ([d0] ++ []) ≤ 1048576 := of_decide_eq_true hk
  simp only [List.append_nil, Rows.uptoBulkAll] at hk2
  have hc : cntP P ≤ 100000000 := by
    have h1 : cntP P ≤ Rows.uptoBulk d0 := hcnt
    omega
  refine (asmPrints_any P ta ga sa fa tc gl gc sl sc fc (Old W) W (pg_ok hc hm hfn) hc (tab_of hL) hrt hrf (fun k hk => hk)).mono fun e W' ⟨he, hu⟩ => ?_
  subst he
  have bel : Below W.heap.size W W' := hu.toBelow (Nat.le_refl _) (fun _ h => h.elim)
  exact ⟨_, rfl, _, _, _, [], _, [], hW', trodAll_mk1 (shut_bool Tryz.underlying4 _), (trodAll_cons_mk (Below.trod laidOut (by kernel_rfl) (of_decide_eq_true (by kernel_rfl)) h0k bel lt0) trodAll_mk0), rfl, bel.frame _, fun h => by cases h⟩

theorem over : Rows.AsmPrintsUptoSaid :=
  OpenClaim.holds_of_cond 3 Tryz.f3 rfl rfl rfl rfl rfl rfl rfl ⟨rfl, rfl, rfl, rfl, rfl⟩ rfl rfl rfl rfl rfl (by kernel_rfl) Tryz.func3 (by kernel_rfl)
    (of_decide_eq_true (by kernel_rfl)) (by unfold Func.isWrapper; first | (rw [if_pos (by decide +kernel)]; kernel_rfl) | (rw [if_neg (by decide +kernel)]; exact ⟨rfl, rfl⟩))
    (fun os started H enc _ F0 => by rw [OpenClaim.pre_eq_preRow]; exact lifted os started H enc F0)

/-- ████ THE STATEMENT: THE TIED CARD ████ -/
theorem proved : Rows.AsmPrintsUptoCardSaid :=
  Claim7.holds_tied_plain_at .later [] [.data, .data, .data] true (true, "1cc2069d5e2943552414bb6c470d07c994ab85b4f947711792b6a66b5cf41cf9") true
    over (fun _ h => by cases h) (by kernel_rfl) (fun _ h => by cases h) asmPrintsUpto_row_tie rfl ⟨rfl, rfl⟩ (by kernel_rfl) rfl
    (fun f fn hf hfn => by
      obtain rfl : f = 3 := Option.some.inj ((show Tryz.prog.funcNamed "derrick/derricklaw18.AsmPrints" = some 3 by kernel_rfl).symm.trans hf) |>.symm
      obtain rfl : fn = Tryz.f3 := (Option.some.inj (Tryz.func3.symm.trans hfn)).symm
      exact ⟨by kernel_rfl, fun j t ht => by
        rw [Tryz.params3] at ht
        have h3 : t = 27 := by
          rcases j with _ | j
          · simpa using ht.symm
          · simp at ht
        subst h3
        exact (show Tryz.prog.wantsStandIn 27 = false by kernel_rfl)⟩)
    (by kernel_rfl)
#print axioms proved
end Go.Proofs.YtdbbalcicgllhaaGreatDoor.asmPrints
