/-
  DERIVED. GIVEN WITH THE SEED: THE CARDS: each row of YtdflfcgdfbihfaaDoorRows.lean that lists a variable, with what it lists TIED to the program's text (the seventh form; the later family's looks); each row that meets fmt, with fmt's text TOLD by the authors' own Lean function (tested against real Go, not proved from fmt's source: count such statements apart). THE CARD IS WHAT COUNTS. Prove the row's statement (the work); the ties are given (YtdflfcgdfbihfaaDoorTie.lean); close each card by the builder's one call (the guide's Derived/Test/ToyasCard.lean, 'card_holds'). Laid BY PROGRAM, IN A SANDBOX (cutbox-door.mjs). By AI agents, Wed Nov 11 2026. No macro, syntax, notation, axiom, sorry.
-/
import Derived.Test.YtdflfcgdfbihfaaDoorRows
import GoSem.ClaimSeven
namespace Go.Proofs.YtdflfcgdfbihfaaDoor
namespace Rows

/-- THE TIED CARD OF 'derricklaw08.CodeReads'. -/
def codeReadsCard : Claim7 := { stood := { row := codeReadsRow, standIns := [], harness := (true, "6558a9cfb87a9c26d13db940d1677660226a27ae062d2a0846a067ac68cbc118"), looks := true }, kinds := [], alts := [], laidByText := true, laidKinds := [.sentinel], laidTests := true, laidLooks := .later }
def CodeReadsCardSaid : Prop := Claim7.holds Tryd.pinned (.plain (OpenSpec.ofChange codeReadsSpec)) codeReadsCard

/-- THE SECOND FORM's CARD OF 'derricklaw08.CodeReads'. -/
def codeReadsUptoCard : Claim7 := { stood := { row := codeReadsUptoRow, standIns := [], harness := (true, "6558a9cfb87a9c26d13db940d1677660226a27ae062d2a0846a067ac68cbc118"), looks := true }, kinds := [], alts := [], laidByText := true, laidKinds := [.sentinel], laidTests := true, laidLooks := .later }
def CodeReadsUptoCardSaid : Prop := Claim7.holds Tryd.pinned (.plain (OpenSpec.upto codeReadsSpec)) codeReadsUptoCard
end Rows
end Go.Proofs.YtdflfcgdfbihfaaDoor
