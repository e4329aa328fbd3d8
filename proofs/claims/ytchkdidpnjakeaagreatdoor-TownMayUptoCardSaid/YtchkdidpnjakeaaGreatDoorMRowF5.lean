/- The row's own facts of TownMay, each by itself. -/
import Derived.Test.YtchkdidpnjakeaaGreatDoorMFacts
namespace Go.Proofs.YtchkdidpnjakeaaGreatDoor.townMay
open Go.ChangeShapes Go.WideShapes Go.ChangeAt Go.RowKit
set_option linter.unusedVariables false
set_option maxRecDepth 100000

theorem jf_veil : (Rows.townMayUptoRow.veiled == (Tryz.f3.params.toList ++ (Rows.OpenSpec.upto Rows.townMaySpec).bare.plain.varTypes Tryz.pinned.checked.prog ++ Tryz.f3.resultTypes.toList).any (Tryz.pinned.checked.prog.veiledRec ·)) = true := by kernel_rfl
theorem jf_vfit : Rows.townMayUptoRow.veiledFits Tryz.pinned.checked.prog Tryz.f3.params.toList (Tryz.f3.params.toList ++ (Rows.OpenSpec.upto Rows.townMaySpec).bare.plain.varTypes Tryz.pinned.checked.prog ++ Tryz.f3.resultTypes.toList) = true := by kernel_rfl
end Go.Proofs.YtchkdidpnjakeaaGreatDoor.townMay
