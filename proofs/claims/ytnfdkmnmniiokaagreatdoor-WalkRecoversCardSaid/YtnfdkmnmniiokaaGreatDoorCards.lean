/-
  DERIVED. GIVEN WITH THE SEED: THE CARDS: each row of YtnfdkmnmniiokaaGreatDoorRows.lean that lists a variable, with what it lists TIED to the program's text (the seventh form; the later family's looks); each row that meets fmt, with fmt's text TOLD by the authors' own Lean function (tested against real Go, not proved from fmt's source: count such statements apart). THE CARD IS WHAT COUNTS. Prove the row's statement (the work); the ties are given (YtnfdkmnmniiokaaGreatDoorTie.lean); close each card by the builder's one call (the guide's Derived/Test/ToyasCard.lean, 'card_holds'). Laid BY PROGRAM, IN A SANDBOX (cutbox-door.mjs). By AI agents, Wed Nov 11 2026. No macro, syntax, notation, axiom, sorry.
-/
import Derived.Test.YtnfdkmnmniiokaaGreatDoorRows
import GoSem.ClaimSeven
namespace Go.Proofs.YtnfdkmnmniiokaaGreatDoor
namespace Rows

/-- THE TIED CARD OF 'derricklaw11.WalkRecovers'. -/
def walkRecoversCard : Claim7 := { stood := { row := walkRecoversRow, standIns := [], harness := (true, "051b7d51f4aee73bcc947a7632a00a8c1113b3750015341926f948150bbd2312"), looks := true }, kinds := [], alts := [], laidByText := true, laidKinds := [.data, .data, .data, .sentinel], laidTests := true, laidLooks := .later }
def WalkRecoversCardSaid : Prop := Claim7.holds Tryz.pinned (.plain (OpenSpec.ofChange walkRecoversSpec)) walkRecoversCard

/-- THE TIED CARD OF 'derricklaw11.WalkOrder'. -/
def walkOrderCard : Claim7 := { stood := { row := walkOrderRow, standIns := [], harness := (true, "051b7d51f4aee73bcc947a7632a00a8c1113b3750015341926f948150bbd2312"), looks := true }, kinds := [], alts := [], laidByText := true, laidKinds := [.data, .data, .data, .sentinel], laidTests := true, laidLooks := .later }
def WalkOrderCardSaid : Prop := Claim7.holds Tryz.pinned (.plain (OpenSpec.ofChange walkOrderSpec)) walkOrderCard

/-- THE TIED CARD OF 'derricklaw11.WalkOthers'. -/
def walkOthersCard : Claim7 := { stood := { row := walkOthersRow, standIns := [], harness := (true, "051b7d51f4aee73bcc947a7632a00a8c1113b3750015341926f948150bbd2312"), looks := true }, kinds := [], alts := [], laidByText := true, laidKinds := [.data, .data, .data, .sentinel], laidTests := true, laidLooks := .later }
def WalkOthersCardSaid : Prop := Claim7.holds Tryz.pinned (.plain (OpenSpec.ofChange walkOthersSpec)) walkOthersCard

/-- THE SECOND FORM's CARD OF 'derricklaw11.WalkRecovers'. -/
def walkRecoversUptoCard : Claim7 := { stood := { row := walkRecoversUptoRow, standIns := [], harness := (true, "051b7d51f4aee73bcc947a7632a00a8c1113b3750015341926f948150bbd2312"), looks := true }, kinds := [], alts := [], laidByText := true, laidKinds := [.data, .data, .data, .sentinel], laidTests := true, laidLooks := .later }
def WalkRecoversUptoCardSaid : Prop := Claim7.holds Tryz.pinned (.plain (OpenSpec.upto walkRecoversSpec)) walkRecoversUptoCard

/-- THE SECOND FORM's CARD OF 'derricklaw11.WalkOrder'. -/
def walkOrderUptoCard : Claim7 := { stood := { row := walkOrderUptoRow, standIns := [], harness := (true, "051b7d51f4aee73bcc947a7632a00a8c1113b3750015341926f948150bbd2312"), looks := true }, kinds := [], alts := [], laidByText := true, laidKinds := [.data, .data, .data, .sentinel], laidTests := true, laidLooks := .later }
def WalkOrderUptoCardSaid : Prop := Claim7.holds Tryz.pinned (.plain (OpenSpec.upto walkOrderSpec)) walkOrderUptoCard

/-- THE SECOND FORM's CARD OF 'derricklaw11.WalkOthers'. -/
def walkOthersUptoCard : Claim7 := { stood := { row := walkOthersUptoRow, standIns := [], harness := (true, "051b7d51f4aee73bcc947a7632a00a8c1113b3750015341926f948150bbd2312"), looks := true }, kinds := [], alts := [], laidByText := true, laidKinds := [.data, .data, .data, .sentinel], laidTests := true, laidLooks := .later }
def WalkOthersUptoCardSaid : Prop := Claim7.holds Tryz.pinned (.plain (OpenSpec.upto walkOthersSpec)) walkOthersUptoCard
end Rows
end Go.Proofs.YtnfdkmnmniiokaaGreatDoor
