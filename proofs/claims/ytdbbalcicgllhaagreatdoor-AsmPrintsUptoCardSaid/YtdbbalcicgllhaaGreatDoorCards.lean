/-
  DERIVED. GIVEN WITH THE SEED: THE CARDS: each row of YtdbbalcicgllhaaGreatDoorRows.lean that lists a variable, with what it lists TIED to the program's text (the seventh form; the later family's looks); each row that meets fmt, with fmt's text TOLD by the authors' own Lean function (tested against real Go, not proved from fmt's source: count such statements apart). THE CARD IS WHAT COUNTS. Prove the row's statement (the work); the ties are given (YtdbbalcicgllhaaGreatDoorTie.lean); close each card by the builder's one call (the guide's Derived/Test/ToyasCard.lean, 'card_holds'). Laid BY PROGRAM, IN A SANDBOX (cutbox-door.mjs). By AI agents, Wed Nov 11 2026. No macro, syntax, notation, axiom, sorry.
-/
import Derived.Test.YtdbbalcicgllhaaGreatDoorRows
import GoSem.ClaimSeven
namespace Go.Proofs.YtdbbalcicgllhaaGreatDoor
namespace Rows

/-- THE TIED CARD OF 'derricklaw18.AsmPrints'. -/
def asmPrintsCard : Claim7 := { stood := { row := asmPrintsRow, standIns := [], harness := (true, "1cc2069d5e2943552414bb6c470d07c994ab85b4f947711792b6a66b5cf41cf9"), looks := true }, kinds := [], alts := [], laidByText := true, laidKinds := [.data, .data, .data], laidTests := true, laidLooks := .later }
def AsmPrintsCardSaid : Prop := Claim7.holds Tryz.pinned (.plain (OpenSpec.ofChange asmPrintsSpec)) asmPrintsCard

/-- THE TIED CARD OF 'derricklaw18.AsmNames'. -/
def asmNamesCard : Claim7 := { stood := { row := asmNamesRow, standIns := [], harness := (true, "1cc2069d5e2943552414bb6c470d07c994ab85b4f947711792b6a66b5cf41cf9"), looks := true }, kinds := [], alts := [], laidByText := true, laidKinds := [.data, .data, .data], laidTests := true, laidLooks := .later }
def AsmNamesCardSaid : Prop := Claim7.holds Tryz.pinned (.plain (OpenSpec.ofChange asmNamesSpec)) asmNamesCard

/-- THE SECOND FORM's CARD OF 'derricklaw18.AsmPrints'. -/
def asmPrintsUptoCard : Claim7 := { stood := { row := asmPrintsUptoRow, standIns := [], harness := (true, "1cc2069d5e2943552414bb6c470d07c994ab85b4f947711792b6a66b5cf41cf9"), looks := true }, kinds := [], alts := [], laidByText := true, laidKinds := [.data, .data, .data], laidTests := true, laidLooks := .later }
def AsmPrintsUptoCardSaid : Prop := Claim7.holds Tryz.pinned (.plain (OpenSpec.upto asmPrintsSpec)) asmPrintsUptoCard

/-- THE SECOND FORM's CARD OF 'derricklaw18.AsmNames'. -/
def asmNamesUptoCard : Claim7 := { stood := { row := asmNamesUptoRow, standIns := [], harness := (true, "1cc2069d5e2943552414bb6c470d07c994ab85b4f947711792b6a66b5cf41cf9"), looks := true }, kinds := [], alts := [], laidByText := true, laidKinds := [.data, .data, .data], laidTests := true, laidLooks := .later }
def AsmNamesUptoCardSaid : Prop := Claim7.holds Tryz.pinned (.plain (OpenSpec.upto asmNamesSpec)) asmNamesUptoCard
end Rows
end Go.Proofs.YtdbbalcicgllhaaGreatDoor
