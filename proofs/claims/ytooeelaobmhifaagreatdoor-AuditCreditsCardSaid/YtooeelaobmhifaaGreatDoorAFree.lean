/- account.free. -/
import Derived.Test.YtooeelaobmhifaaGreatDoorANext
import Derived.Test.YtooeelaobmhifaaGreatDoorClass
namespace Go.Proofs.YtooeelaobmhifaaGreatDoor
open Go.RowKit Go.Maps Go.Lib
set_option linter.unusedVariables false
set_option maxHeartbeats 400000 in
theorem free_any (x y z : Int) (w : World) (hx : -2199023255552 ≤ x ∧ x ≤ 2199023255552) (hy : -2199023255552 ≤ y ∧ y ≤ 2199023255552) (hz : -2199023255552 ≤ z ∧ z ≤ 2199023255552) :
    Calls Tryz.prog 21 #[.agg #[.int .i64 x, .int .i64 y, .int .i64 z]] w fun e w' => e = .returned (.int .i64 (y - z - x)) ∧ Below w.heap.size w w' := by
  have q1 : IntKind.i64.wrap (y - z) = y - z := IntWalk.i64_in _ (by omega)
  have q2 : IntKind.i64.wrap (y - z - x) = y - z - x := IntWalk.i64_in _ (by omega)
  go_enter Tryz.func21, Tryz.ntmps21
  go_wp2
  go_ret
  exact ⟨rfl, (Below.refl _ _).alloc (Nat.le_refl _) _⟩
end Go.Proofs.YtooeelaobmhifaaGreatDoor
