/- The row's tie, one more fact, in a text of its own for its memory. -/
import Derived.Test.YtchkdidpnjakeaaGreatDoorMTie
namespace Go.Proofs.YtchkdidpnjakeaaGreatDoor
open Go
theorem t8 : ∀ os tape, (DataW.laidRun Tryz.prog (varsWorld Tryz.prog 400 (varsId Tryz.prog) os tape).memory 8 (tLaid.map (·.1))).map (·.1) = some tLaid := fun _ _ => by kernel_rfl
end Go.Proofs.YtchkdidpnjakeaaGreatDoor
