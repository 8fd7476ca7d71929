import Derived.Test.YtnfdkmnmniiokaaGreatDoorRn
set_option linter.unusedVariables false
set_option linter.unusedSimpArgs false
namespace Go.Proofs.YtnfdkmnmniiokaaGreatDoor
open Go.RowKit
open Go.Proofs.Tryz (prog)
set_option maxRecDepth 100000 in
theorem run1 : f3.S (Rn 200) (.bool true) (.bool true) (.bool false) .nil 0 tk = true := by decide +kernel
end Go.Proofs.YtnfdkmnmniiokaaGreatDoor
