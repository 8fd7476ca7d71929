/-
  No cell of these rows narrows 'for every input' (looked for: loops, veiled, ifaces, maps, wideKeys, modest, calm, conditions, laid).
  DERIVED. THE GIVEN ROWS OF THIS SEAT. 5 by the template 'for every input the law returns true; each argument reads behind the call as it read before'; 0 by the template 'total and deterministic' (their statements: YtblkgfkdfldkiaaTotals.lean).
  GIVEN WITH THE SEED: the statements are not yours to turn. If you find one false, say at which input.
  Laid BY PROGRAM, IN A SANDBOX (cutbox-rows.mjs): the forced cells as the released guide's own fill.sh prints them over the translation ad8895752be8bb9b… (all of the seat's roots in one cut). By AI agents, Wed Nov 11 2026. No macro, syntax, notation, axiom, sorry.
-/
import Derived.Test.YtblkgfkdfldkiaaChecked
import GoSem.Claim
import GoSem.ClaimJoined
import GoSem.ClaimMapViews
import Derived.JoinedTies
import Derived.KernelRfl
namespace Go.Proofs.Ytblkgfkdfldkiaa
/- THE CELL 'sum', in the pinned program and in every row, IS THE sha256 OF THE DUMP (.gsa) THAT YtblkgfkdfldkiaaProg.lean LOADS. Nothing in Lean hashes anything: it is a label: what it is worth is what the hold of that sum in a sandbox is worth. -/
noncomputable def Try.pinned : Pinned := { name := "ytblkgfkdfldkiaa", sum := "ad8895752be8bb9b31f4f5fa7652af7c5ec3505c8b35d2a1c63f669877919fd3", checked := Try.checked }
namespace Rows
def none {H : Type} : Left H := { results := [], args := [] }

/-- 'derricklaw04.TypesPairs': WHATEVER THE INPUT: true; the input reads as it did. -/
def typesPairsSpec : ChangeSpec := { name := "typesPairs", fn := fun _ => fun
  | [d1, d2] => { results := [.lit (.bool true)], args := [d1, d2] }
  | _ => none }
def typesPairsRow : OpenClaim := { program := "ytblkgfkdfldkiaa", sum := "ad8895752be8bb9b31f4f5fa7652af7c5ec3505c8b35d2a1c63f669877919fd3", func := "derrick/derricklaw04.TypesPairs", spec := "typesPairs", unfollowed := true, recurses := true, apart := false }
def TypesPairsSaid : Prop := typesPairsRow.holds Try.pinned (OpenSpec.ofChange typesPairsSpec)

/-- ITS FALSE NEIGHBOUR: 'it returns false'. Refute it at one input. -/
def typesPairsWrong : ChangeSpec := { name := "typesPairs", fn := fun _ => fun
  | [d1, d2] => { results := [.lit (.bool false)], args := [d1, d2] }
  | _ => none }
def TypesPairsWrongFalsely : Prop := typesPairsRow.holds Try.pinned (OpenSpec.ofChange typesPairsWrong)

/-- 'derricklaw04.TypesMakes': WHATEVER THE INPUT: true; the input reads as it did. -/
def typesMakesSpec : ChangeSpec := { name := "typesMakes", fn := fun _ => fun
  | [d1, d2, d3] => { results := [.lit (.bool true)], args := [d1, d2, d3] }
  | _ => none }
def typesMakesRow : OpenClaim := { program := "ytblkgfkdfldkiaa", sum := "ad8895752be8bb9b31f4f5fa7652af7c5ec3505c8b35d2a1c63f669877919fd3", func := "derrick/derricklaw04.TypesMakes", spec := "typesMakes", unfollowed := true, recurses := true, apart := false }
def TypesMakesSaid : Prop := typesMakesRow.holds Try.pinned (OpenSpec.ofChange typesMakesSpec)

/-- ITS FALSE NEIGHBOUR: 'it returns false'. Refute it at one input. -/
def typesMakesWrong : ChangeSpec := { name := "typesMakes", fn := fun _ => fun
  | [d1, d2, d3] => { results := [.lit (.bool false)], args := [d1, d2, d3] }
  | _ => none }
def TypesMakesWrongFalsely : Prop := typesMakesRow.holds Try.pinned (OpenSpec.ofChange typesMakesWrong)

/-- 'derricklaw04.TypesLong': WHATEVER THE INPUT: true; the input reads as it did. -/
def typesLongSpec : ChangeSpec := { name := "typesLong", fn := fun _ => fun
  | [d1, d2] => { results := [.lit (.bool true)], args := [d1, d2] }
  | _ => none }
def typesLongRow : OpenClaim := { program := "ytblkgfkdfldkiaa", sum := "ad8895752be8bb9b31f4f5fa7652af7c5ec3505c8b35d2a1c63f669877919fd3", func := "derrick/derricklaw04.TypesLong", spec := "typesLong", unfollowed := true, recurses := true, apart := false }
def TypesLongSaid : Prop := typesLongRow.holds Try.pinned (OpenSpec.ofChange typesLongSpec)

/-- ITS FALSE NEIGHBOUR: 'it returns false'. Refute it at one input. -/
def typesLongWrong : ChangeSpec := { name := "typesLong", fn := fun _ => fun
  | [d1, d2] => { results := [.lit (.bool false)], args := [d1, d2] }
  | _ => none }
def TypesLongWrongFalsely : Prop := typesLongRow.holds Try.pinned (OpenSpec.ofChange typesLongWrong)

/-- 'derricklaw04.TypesReads': WHATEVER THE INPUT: true; the input reads as it did. -/
def typesReadsSpec : ChangeSpec := { name := "typesReads", fn := fun _ => fun
  | [d] => { results := [.lit (.bool true)], args := [d] }
  | _ => none }
def typesReadsRow : OpenClaim := { program := "ytblkgfkdfldkiaa", sum := "ad8895752be8bb9b31f4f5fa7652af7c5ec3505c8b35d2a1c63f669877919fd3", func := "derrick/derricklaw04.TypesReads", spec := "typesReads", unfollowed := true, recurses := true, apart := false }
def TypesReadsSaid : Prop := typesReadsRow.holds Try.pinned (OpenSpec.ofChange typesReadsSpec)

/-- ITS FALSE NEIGHBOUR: 'it returns false'. Refute it at one input. -/
def typesReadsWrong : ChangeSpec := { name := "typesReads", fn := fun _ => fun
  | [d] => { results := [.lit (.bool false)], args := [d] }
  | _ => none }
def TypesReadsWrongFalsely : Prop := typesReadsRow.holds Try.pinned (OpenSpec.ofChange typesReadsWrong)

/-- 'derricklaw04.TypesWritten': WHATEVER THE INPUT: true; the input reads as it did. -/
def typesWrittenSpec : ChangeSpec := { name := "typesWritten", fn := fun _ => fun
  | [d] => { results := [.lit (.bool true)], args := [d] }
  | _ => none }
def typesWrittenRow : OpenClaim := { program := "ytblkgfkdfldkiaa", sum := "ad8895752be8bb9b31f4f5fa7652af7c5ec3505c8b35d2a1c63f669877919fd3", func := "derrick/derricklaw04.TypesWritten", spec := "typesWritten", inPlace := ["internal/abi.NoEscape", "internal/bytealg.MakeNoZero"], unfollowed := true, recurses := true, apart := false }
def TypesWrittenSaid : Prop := typesWrittenRow.holds Try.pinned (OpenSpec.ofChange typesWrittenSpec)

/-- ITS FALSE NEIGHBOUR: 'it returns false'. Refute it at one input. -/
def typesWrittenWrong : ChangeSpec := { name := "typesWritten", fn := fun _ => fun
  | [d] => { results := [.lit (.bool false)], args := [d] }
  | _ => none }
def TypesWrittenWrongFalsely : Prop := typesWrittenRow.holds Try.pinned (OpenSpec.ofChange typesWrittenWrong)

/- THE SECOND FORM. 'bulk': how many values and letters a reading holds, each counted each time it is reached (what is shared counts as often as it is met; a slice's spare places count too). A statement '..UptoSaid' is the law's where the arguments, and the package variables that the reading takes, are together of bulk at most 1048576: NARROWER than '..Said'. Prove '..Said' where nothing that the law and all that it calls make is longer than what came in: it says more and counts as full. Else prove '..UptoSaid'. A law counts once. -/
mutual
def uptoBulk {H : Type} : DataW H → Nat
  | .lit (.string bytes) => bytes.length + 1
  | .lit _ => 1
  | .nil => 1
  | .ptr d => uptoBulk d + 1
  | .slice elems spare => uptoBulkAll elems + uptoBulkAll spare + 1
  | .agg parts => uptoBulkAll parts + 1
  | .iface _ d => uptoBulk d + 1
  | .map entries => uptoBulkEntries entries + 1
  | .held _ => 1
def uptoBulkAll {H : Type} : List (DataW H) → Nat
  | [] => 0
  | d :: r => uptoBulk d + uptoBulkAll r
def uptoBulkEntries {H : Type} : List (Lit × DataW H) → Nat
  | [] => 0
  | x :: r => uptoBulkEntry x + uptoBulkEntries r
def uptoBulkEntry {H : Type} : Lit × DataW H → Nat
  | (.string bytes, d) => bytes.length + uptoBulk d + 1
  | (_, d) => uptoBulk d + 1
 end
def uptoSmall : (H : Type) → List (DataW H) → Bool := fun _ ds => decide (uptoBulkAll ds ≤ 1048576)
def OpenSpec.upto (s : _root_.Go.ChangeSpec) : _root_.Go.OpenSpec := { _root_.Go.OpenSpec.ofChange s with cond := some uptoSmall }

/-- 'derricklaw04.TypesPairs', WHERE WHAT IT READS IS OF BULK AT MOST 1048576: true; the input reads as it did. -/
def typesPairsUptoRow : OpenClaim := { program := "ytblkgfkdfldkiaa", sum := "ad8895752be8bb9b31f4f5fa7652af7c5ec3505c8b35d2a1c63f669877919fd3", func := "derrick/derricklaw04.TypesPairs", spec := "typesPairs", unfollowed := true, recurses := true, apart := false, narrowed := true }
def TypesPairsUptoSaid : Prop := typesPairsUptoRow.holds Try.pinned (OpenSpec.upto typesPairsSpec)

/-- 'derricklaw04.TypesMakes', WHERE WHAT IT READS IS OF BULK AT MOST 1048576: true; the input reads as it did. -/
def typesMakesUptoRow : OpenClaim := { program := "ytblkgfkdfldkiaa", sum := "ad8895752be8bb9b31f4f5fa7652af7c5ec3505c8b35d2a1c63f669877919fd3", func := "derrick/derricklaw04.TypesMakes", spec := "typesMakes", unfollowed := true, recurses := true, apart := false, narrowed := true }
def TypesMakesUptoSaid : Prop := typesMakesUptoRow.holds Try.pinned (OpenSpec.upto typesMakesSpec)

/-- 'derricklaw04.TypesLong', WHERE WHAT IT READS IS OF BULK AT MOST 1048576: true; the input reads as it did. -/
def typesLongUptoRow : OpenClaim := { program := "ytblkgfkdfldkiaa", sum := "ad8895752be8bb9b31f4f5fa7652af7c5ec3505c8b35d2a1c63f669877919fd3", func := "derrick/derricklaw04.TypesLong", spec := "typesLong", unfollowed := true, recurses := true, apart := false, narrowed := true }
def TypesLongUptoSaid : Prop := typesLongUptoRow.holds Try.pinned (OpenSpec.upto typesLongSpec)

/-- 'derricklaw04.TypesReads', WHERE WHAT IT READS IS OF BULK AT MOST 1048576: true; the input reads as it did. -/
def typesReadsUptoRow : OpenClaim := { program := "ytblkgfkdfldkiaa", sum := "ad8895752be8bb9b31f4f5fa7652af7c5ec3505c8b35d2a1c63f669877919fd3", func := "derrick/derricklaw04.TypesReads", spec := "typesReads", unfollowed := true, recurses := true, apart := false, narrowed := true }
def TypesReadsUptoSaid : Prop := typesReadsUptoRow.holds Try.pinned (OpenSpec.upto typesReadsSpec)

/-- 'derricklaw04.TypesWritten', WHERE WHAT IT READS IS OF BULK AT MOST 1048576: true; the input reads as it did. -/
def typesWrittenUptoRow : OpenClaim := { program := "ytblkgfkdfldkiaa", sum := "ad8895752be8bb9b31f4f5fa7652af7c5ec3505c8b35d2a1c63f669877919fd3", func := "derrick/derricklaw04.TypesWritten", spec := "typesWritten", inPlace := ["internal/abi.NoEscape", "internal/bytealg.MakeNoZero"], unfollowed := true, recurses := true, apart := false, narrowed := true }
def TypesWrittenUptoSaid : Prop := typesWrittenUptoRow.holds Try.pinned (OpenSpec.upto typesWrittenSpec)

end Rows
end Go.Proofs.Ytblkgfkdfldkiaa
