/- The row's own facts of TownMay, each by itself. -/
import Derived.Test.YtchkdidpnjakeaaGreatDoorMFacts
namespace Go.Proofs.YtchkdidpnjakeaaGreatDoor.townMay
open Go.ChangeShapes Go.WideShapes Go.ChangeAt Go.RowKit
set_option linter.unusedVariables false
set_option maxRecDepth 100000

theorem jf_m5 : (Rows.townMayUptoRow.wideKeys == (Tryz.f3.params.toList ++ (Rows.OpenSpec.upto Rows.townMaySpec).bare.plain.varTypes Tryz.pinned.checked.prog ++ Tryz.f3.resultTypes.toList).any (Tryz.pinned.checked.prog.wideKeysFrom ·)) = true := by kernel_rfl
theorem jf_lift : (Rows.townMayUptoRow.lifted == Tryz.pinned.checked.prog.liftsFinal) = true := by kernel_rfl
theorem jf_make : (Tryz.pinned.checked.prog.make == some Rows.townMayUptoRow.make) = true := by kernel_rfl
end Go.Proofs.YtchkdidpnjakeaaGreatDoor.townMay
