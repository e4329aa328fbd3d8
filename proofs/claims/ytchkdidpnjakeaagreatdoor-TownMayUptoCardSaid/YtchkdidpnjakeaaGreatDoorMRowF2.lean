/- The row's own facts of TownMay, each by itself. -/
import Derived.Test.YtchkdidpnjakeaaGreatDoorMFacts
namespace Go.Proofs.YtchkdidpnjakeaaGreatDoor.townMay
open Go.ChangeShapes Go.WideShapes Go.ChangeAt Go.RowKit
set_option linter.unusedVariables false
set_option maxRecDepth 100000

theorem jf_unf : (Rows.townMayUptoRow.unfollowed == Tryz.pinned.checked.prog.unfollowed 3) = true := by kernel_rfl
theorem jf_rec : (Rows.townMayUptoRow.recurses == Tryz.pinned.checked.prog.recurses 3) = true := by kernel_rfl
theorem jf_named : (Rows.townMayUptoRow.named == Tryz.pinned.checked.prog.varsNamed 3) = true := by kernel_rfl
end Go.Proofs.YtchkdidpnjakeaaGreatDoor.townMay
