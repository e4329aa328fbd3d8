/- The row's own facts of TownMay, each by itself. -/
import Derived.Test.YtchkdidpnjakeaaGreatDoorMRowF1
import Derived.Test.YtchkdidpnjakeaaGreatDoorMRowF2
import Derived.Test.YtchkdidpnjakeaaGreatDoorMRowF3
import Derived.Test.YtchkdidpnjakeaaGreatDoorMRowF4
import Derived.Test.YtchkdidpnjakeaaGreatDoorMRowF5
import Derived.Test.YtchkdidpnjakeaaGreatDoorMGoes
namespace Go.Proofs.YtchkdidpnjakeaaGreatDoor.townMay
open Go.ChangeShapes Go.WideShapes Go.ChangeAt Go.RowKit
set_option linter.unusedVariables false
set_option maxRecDepth 100000

theorem facts : joinedFacts Tryz.pinned.checked.prog 3 Tryz.f3 (Rows.OpenSpec.upto Rows.townMaySpec).bare Rows.townMayUptoRow = true := by
  unfold joinedFacts
  refine and_t (and_t (and_t (and_t (and_t (and_t (and_t (and_t (and_t (and_t (and_t (and_t (and_t (and_t (and_t (and_t (and_t (and_t (and_t (and_t (and_t (and_t (and_t (and_t (and_t (and_t (and_t (and_t (and_t (and_t (and_t ?_ ?_) ?_) ?_) ?_) ?_) ?_) ?_) ?_) ?_) ?_) ?_) ?_) ?_) ?_) ?_) ?_) ?_) ?_) ?_) ?_) ?_) ?_) ?_) ?_) ?_) ?_) ?_) ?_) ?_) ?_) ?_
  · kernel_rfl
  · exact jf_laidOut
  · exact jf_maps
  · kernel_rfl
  · kernel_rfl
  · kernel_rfl
  · exact jf_stops
  · kernel_rfl
  · exact jf_knobs
  · exact jf_place
  · exact jf_unf
  · exact jf_rec
  · exact jf_named
  · exact jf_m1
  · exact jf_m2
  · exact jf_m3
  · exact jf_m4
  · exact jf_m5
  · kernel_rfl
  · kernel_rfl
  · kernel_rfl
  · kernel_rfl
  · kernel_rfl
  · kernel_rfl
  · exact jf_heard
  · exact jf_enter
  · exact jf_lift
  · exact jf_make
  · kernel_rfl
  · kernel_rfl
  · exact jf_veil
  · exact jf_vfit
end Go.Proofs.YtchkdidpnjakeaaGreatDoor.townMay
