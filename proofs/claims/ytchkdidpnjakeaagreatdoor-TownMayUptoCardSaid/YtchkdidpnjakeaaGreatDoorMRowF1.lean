/- The row's own facts of TownMay, each by itself. -/
import Derived.Test.YtchkdidpnjakeaaGreatDoorMFacts
namespace Go.Proofs.YtchkdidpnjakeaaGreatDoor.townMay
open Go.ChangeShapes Go.WideShapes Go.ChangeAt Go.RowKit
set_option linter.unusedVariables false
set_option maxRecDepth 100000

theorem jf_hfn : Tryz.pinned.checked.prog.funcNamed Rows.townMayUptoRow.func = some 3 := by kernel_rfl
theorem jf_place : (Rows.townMayUptoRow.inPlace == Tryz.pinned.checked.prog.inPlace 3) = true := by kernel_rfl
end Go.Proofs.YtchkdidpnjakeaaGreatDoor.townMay
