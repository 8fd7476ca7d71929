/-
  PROVED: 'Rows.CodeReadsCardSaid': for every row of bytes and every number the law that any bytes are some program or none, and that what is told of a register is what stands in Refs, returns true; the package's variable 'short' is as the program's text lays it (tied). No other condition.
-/
import Derived.Test.YtdflfcgdfbihfaaDoorRows
import Derived.Test.YtdflfcgdfbihfaaDoorCards
import Derived.Test.YtdflfcgdfbihfaaDoorTie
import Derived.Test.YtdflfcgdfbihfaaDoorE6
import Derived.WalkKit
import Derived.ProofKit
import Derived.OpenShut
import Derived.ShutString
import Derived.ChangeOld
import Derived.Below
import Derived.ChangeSame
import Derived.ChangeVars
import Derived.JoinedOf
import Derived.RowKit
import Derived.RowKitTokens
import Derived.LaidLaws
import Derived.Stop.Joined
import Derived.Stop.LaidErr
import Derived.SevenTiedAt
namespace Go.Proofs.YtdflfcgdfbihfaaDoor.codeReads
open Go.ChangeShapes Go.WideShapes Go.ChangeAt Go.RowKit
open Go.ChangeMaps (open_string shut_string)
open CodeText (Bytes)
set_option linter.unusedVariables false

theorem own : ownKnob Tryd.prog.godebug = none := by kernel_rfl
theorem laidOut : laidOutB Tryd.prog = true := by kernel_rfl
theorem gO : Tryd.prog.globalNamed "derrick/code.short" = some 0 := by kernel_rfl
theorem gOType : (Tryd.prog.globals[0]?).map (·.type) = some 41 := by kernel_rfl
theorem cells118 : Tryd.prog.cellsOf 118 = 1 := by kernel_rfl
theorem cells9 : Tryd.prog.cellsOf 9 = 1 := by kernel_rfl
theorem star : "*" ++ "errors.errorString" = "*errors.errorString" := by decide
theorem row94 (u : TypeId) (h : Tryd.prog.typeName? 3 u = some "*errors.errorString") : u = 94 :=
  typeName_ptr_named (nm := "errors.errorString") (by rw [star]; kernel_rfl) (by kernel_rfl) (by decide) u (by rw [star]; exact h)

abbrev endS : ByteArray := { data := #[116, 104, 101, 32, 98, 121, 116, 101, 115, 32, 101, 110, 100] }
noncomputable def low : Nat := (World.holding Tryd.prog default ⟨#[], #[], []⟩).heap.size
/-- A world that meets the condition: the settled one, the variable as its text lays it. -/
noncomputable def laidWorld (os : Os) : World :=
  let w0 := World.holding Tryd.prog os ⟨#[.cells #[.string endS] 118], #[], []⟩
  { w0 with heap := w0.heap.modify 0 fun
      | .cells _ t frozen => .cells #[.iface 94 (.pointer (some ⟨low, 0, none⟩))] t frozen
      | o => o }
theorem laidWorld_met (os : Os) (args : Array Value) : laidMetH Tryd.prog Rows.codeReadsRow.laid ((laidWorld os).forCall (fun _ _ => 0) ⟨#[], args, []⟩).memory :=
  laidMet_of_run (ps := [.cell 0 0, .cell low 0]) 8 (by kernel_rfl) (by kernel_rfl) (by kernel_rfl)

/-- What the walk is told of a slice of bytes that came in. -/
def IsRow (k : IntKind) (w : World) (a : Option Addr) (len cap : Nat) (zs : List Int) : Prop :=
  (a = none ∧ len = 0 ∧ cap = 0 ∧ zs = []) ∨
  ∃ x, a = some x ∧ len ≤ cap ∧ cap ≤ maxLen ∧ zs.length = cap ∧ (∀ i, i < zs.length → w.cell? (x.add i) = some (.int k (zs.getD i 0))) ∧ ∀ n ∈ zs, (Lit.int k n).wf = true

set_option maxRecDepth 100000 in
theorem slice_spot {w : World} {base : Nat} {x : Addr} {len cap : Nat} (h : Value.okWide Tryd.prog w .any base 22 (.slice (some x) len cap)) : x.spot = none ∧ x.block < w.heap.size := by
  simp only [Value.okWide, Tryd.underlying22, Cell.okWide, Cell.ok] at h
  obtain ⟨_, _, _, hs, row, cells, hsh, _⟩ := h
  refine ⟨hs, ?_⟩
  rcases Nat.lt_or_ge x.block w.heap.size with h | h
  · exact h
  · simp [World.shape?, Array.getElem?_eq_none h] at hsh

set_option maxRecDepth 100000 in
theorem isrow_src {w : World} {base : Nat} {a : Option Addr} {len cap : Nat} {zs : List Int} (h : IsRow .u8 w a len cap zs) (hok : Value.okWide Tryd.prog w .any base 22 (.slice a len cap)) (hw : 0 < w.heap.size) :
    ∃ (I : Nat) (b : Bytes), b.length = len ∧ Src w I (.slice a len cap) b ∧ I < w.heap.size := by
  rcases h with ⟨rfl, rfl, rfl, rfl⟩ | ⟨x, rfl, hl, hm, hz, hc, hf⟩
  · exact ⟨0, [], rfl, ⟨none, 0, rfl, Nat.le_refl _, Nat.zero_le _, .inl ⟨rfl, rfl⟩⟩, hw⟩
  · have hb : ((zs.take len).map fun z => UInt8.ofNat z.toNat).length = len := by simp; omega
    obtain ⟨hs, hlt⟩ := slice_spot hok
    obtain ⟨g, o, spot⟩ := x
    simp only at hs hlt
    subst hs
    refine ⟨g, (zs.take len).map fun z => UInt8.ofNat z.toNat, hb, ⟨some ⟨g, o, none⟩, cap, by rw [hb], by rw [hb]; exact hl, by unfold maxLen at hm; omega, .inr ⟨o, rfl, fun i hi => ?_⟩⟩, hlt⟩
    have hi2 : i < zs.length := by rw [hb] at hi; omega
    have h1 := hc i hi2
    rw [Addr.add_lit] at h1
    have hwf := hf (zs[i]) (List.getElem_mem hi2)
    have hr : 0 ≤ zs[i] ∧ zs[i] ≤ 255 := by
      simp [Lit.wf, IntKind.min, IntKind.max, IntKind.bits, IntKind.signed] at hwf
      omega
    rw [h1]
    simp only [List.getD, List.getElem?_eq_getElem hi2, Option.getD_some, List.getElem_map, List.getElem_take, UInt8.toNat_ofNat']
    congr 2
    omega

theorem walk (E : Addr) (a0 : Option Addr) (len0 cap0 : Nat) (I : Nat) (b : Bytes) (a1 : Int) (w : World) (hb : b.length = len0) (hs : Src w I (.slice a0 len0 cap0) b) (hI : I < w.heap.size) (hg : w.cell? ⟨0, 0, none⟩ = some (short E)) :
    Calls Tryd.prog 3 #[.slice a0 len0 cap0, .int .i64 a1] w fun e w' => e = .returned (.bool true) ∧ Below w.heap.size w w' :=
  (reads_any E I b a1 len0 hb a0 cap0 w hg hs hI).mono fun e w' h => ⟨h.1, h.2.toBelow (Nat.le_refl _) (fun _ h => h.elim)⟩

set_option maxRecDepth 100000 in
theorem lifted (os : Os) (started : os.Started) (H : Type) (enc : TypeId × Value → H) :
    ReturnsInHanded {} Tryd.checked os 3 .any (fun w args => (Rows.codeReadsSpec.pre enc Tryd.prog Tryd.f3 [] false w args ∧ laidMetH Tryd.prog Rows.codeReadsRow.laid w) ∧ sizedMet enc Tryd.prog Tryd.f3 (OpenSpec.ofChange Rows.codeReadsSpec) false w args)
      (Rows.codeReadsSpec.post enc Tryd.prog Tryd.f3 false true false false) := by
  refine returnsInHanded_of_change_and (C := Tryd.checked) (X := fun w _ => laidMetH Tryd.prog Rows.codeReadsRow.laid w) (fun _ _ _ hh h => h.of_heap hh) own started (by kernel_rfl) Tryd.func3
    (ChangeSpec.witness_at (enc := enc) (C := Tryd.checked) (os := os) (X := fun w _ => laidMetH Tryd.prog Rows.codeReadsRow.laid w) false (laidWorld os) #[.slice none 0 0, .int .i64 0] 8 rfl (by kernel_rfl) (by kernel_rfl) (by kernel_rfl) (by kernel_rfl) (by kernel_rfl) (laidWorld_met os _)) ?_
  intro W base args ds gs before hval0 hW _ _ hL _
  have hval : ∀ (j : Nat) t v, Tryd.f3.params[j]? = some t → args[j]? = some v → Value.okWide Tryd.prog W .any base t v := hval0
  have hW' := hW
  obtain ⟨p, q, hA0, hV0, rfl, hfz, hnd⟩ := hW
  have hA : DataW.TrodAll enc Tryd.prog W 0 (fun _ => true) true Tryd.f3.params.toList args.toList ds p := hA0
  have hV : DataW.TrodVars enc Tryd.prog W (fun _ => true) [] gs q := hV0
  rw [Tryd.params3] at hA hval
  obtain ⟨a1, s1, hv1, hc1, hs1, hz1⟩ := laid_sentinel hL gO gOType Tryd.underlying41 row94 Tryd.underlying94 Tryd.underlying118 rfl rfl Tryd.underlying9 cells118 cells9
  have hg1 : W.cell? ⟨0, 0, none⟩ = some (short a1) := by simpa [short] using World.var?_cell gO hv1 0
  obtain ⟨v0, vs0, d0, ds0, p0, q0, hargs, rfl, rfl, h0, r0⟩ := trodAll_cons hA
  obtain ⟨v1, vs1, d1, ds1, p1, q1, rfl, rfl, rfl, h1, r1⟩ := trodAll_cons r0
  obtain ⟨rfl, rfl, rfl⟩ := trodAll_nil r1
  obtain rfl : args = #[v0, v1] := by cases args; simp_all
  obtain ⟨rfl, rfl⟩ : gs = [] ∧ q = [] := by
    cases gs with
    | nil => exact ⟨rfl, hV⟩
    | cons g r => exact absurd hV (by intro h; cases h)
  obtain ⟨a0, len0, cap0, rfl⟩ := okWide_slice Tryd.underlying22 (hval 0 22 v0 rfl rfl)
  have k0 := h0
  have lt0 : ∀ x ∈ p0, x.block < W.heap.size := by obtain ⟨m, hm⟩ := k0; exact DataW.trod_lt m _ _ _ hm
  obtain ⟨z0, w0⟩ : ∃ zs, IsRow .u8 W a0 len0 cap0 zs := by
    obtain ⟨fuel, hf⟩ := h0
    rcases open_ints Tryd.underlying22 Tryd.underlying5 (by kernel_rfl) hf with ⟨hcs, _⟩ | ⟨x, l, c, zs, hcs, _, hl, hm, hz, _, hcell, hwz⟩
    · simp [Value.cells] at hcs
      obtain ⟨rfl, rfl, rfl⟩ := hcs
      exact ⟨[], .inl ⟨rfl, rfl, rfl, rfl⟩⟩
    · simp [Value.cells] at hcs
      obtain ⟨rfl, rfl, rfl⟩ := hcs
      exact ⟨zs, .inr ⟨_, rfl, hl, hm, by simpa using hz, hcell, hwz⟩⟩
  obtain ⟨r, rfl, rfl, rfl, w1⟩ := open_int Tryd.underlying3 (hval 1 3 v1 rfl rfl) h1
  have hpos : 0 < W.heap.size := by
    have := World.block_lt_of_cell? _ _ hg1
    simp only at this
    exact this
  have hok0 := hval 0 22 _ rfl rfl
  clear hA0 hval0
  obtain ⟨I, b, hb, hsrc, hI⟩ := isrow_src w0 hok0 hpos
  refine (walk a1 a0 len0 cap0 I b r W hb hsrc hI hg1).mono fun e W' ⟨he, bel⟩ => ?_
  subst he
  exact ⟨_, rfl, _, _, _, [], _, [], hW', trodAll_mk1 (shut_bool Tryd.underlying4 _), (trodAll_cons_mk (Below.trod laidOut (by kernel_rfl) (of_decide_eq_true (by kernel_rfl)) k0 bel lt0) (trodAll_cons_mk (shut_int Tryd.underlying3 w1) trodAll_mk0)), rfl, bel.frame _, fun h => by cases h⟩

theorem over : Rows.CodeReadsSaid :=
  OpenClaim.holds_of_wide 3 Tryd.f3 rfl rfl rfl rfl rfl rfl rfl ⟨rfl, rfl, rfl, rfl, rfl⟩ rfl rfl rfl rfl rfl (by kernel_rfl) Tryd.func3 (by kernel_rfl)
    (of_decide_eq_true (by kernel_rfl)) (by unfold Func.isWrapper; first | (rw [if_pos (by decide +kernel)]; kernel_rfl) | (rw [if_neg (by decide +kernel)]; exact ⟨rfl, rfl⟩))
    (fun os started H enc _ => lifted os started H enc)

/-- ████ THE STATEMENT: THE TIED CARD ████ -/
theorem proved : Rows.CodeReadsCardSaid :=
  Claim7.holds_tied_plain_at .later [] [.sentinel] true (true, "6558a9cfb87a9c26d13db940d1677660226a27ae062d2a0846a067ac68cbc118") true
    over (fun _ h => by cases h) (by kernel_rfl) (fun _ h => by cases h) codeReads_row_tie rfl ⟨rfl, rfl⟩ (by kernel_rfl) rfl
    (fun f fn hf hfn => by
      obtain rfl : f = 3 := Option.some.inj ((show Tryd.prog.funcNamed "derrick/derricklaw08.CodeReads" = some 3 by kernel_rfl).symm.trans hf) |>.symm
      obtain rfl : fn = Tryd.f3 := (Option.some.inj (Tryd.func3.symm.trans hfn)).symm
      exact ⟨by kernel_rfl, fun j t ht => by
        rw [Tryd.params3] at ht
        have h3 : t = 22 ∨ t = 3 := by
          rcases j with _ | _ | j
          · left; simpa using ht.symm
          · right; simpa using ht.symm
          · simp at ht
        rcases h3 with rfl | rfl
        · exact (show Tryd.prog.wantsStandIn 22 = false by kernel_rfl)
        · exact (show Tryd.prog.wantsStandIn 3 = false by kernel_rfl)⟩)
    (by kernel_rfl)
#print axioms proved
end Go.Proofs.YtdflfcgdfbihfaaDoor.codeReads
