/- The row's tie, one more fact, in a text of its own for its memory. -/
import Derived.Test.YtchkdidpnjakeaaGreatDoorMTie
namespace Go.Proofs.YtchkdidpnjakeaaGreatDoor
open Go
theorem t9 : ∀ os tape, (DataW.laidRun Tryz.prog (varsWorld Tryz.prog 400 (varsId Tryz.prog) os tape).memory 8 (tLaid.map (·.1))).map (fun x => decide x.2.Nodup && laidRowsB Tryz.prog (varsWorld Tryz.prog 400 (varsId Tryz.prog) os tape).memory x.2) = some true := fun _ _ => by kernel_rfl
end Go.Proofs.YtchkdidpnjakeaaGreatDoor
