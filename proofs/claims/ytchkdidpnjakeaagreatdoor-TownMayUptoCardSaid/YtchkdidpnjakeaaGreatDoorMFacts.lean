/- Facts of the program that the row asks, each by itself: together they are too much for one proof. -/
import Derived.Test.YtchkdidpnjakeaaGreatDoorCards
import Derived.Test.YtchkdidpnjakeaaGreatDoorGAKey
import Derived.JoinedCond
import Derived.SevenTiedAt
import Derived.ProofKit
namespace Go.Proofs.YtchkdidpnjakeaaGreatDoor
open Go.ChangeShapes Go.WideShapes Go.ChangeAt Go.RowKit
set_option linter.unusedVariables false
set_option maxRecDepth 100000

theorem and_t {a b : Bool} (h : a = true) (k : b = true) : (a && b) = true := by rw [h, k]; rfl
theorem jf_laidOut : laidOutB Tryz.pinned.checked.prog = true := Led.laidOut
theorem jf_maps : mapsRowed Tryz.pinned.checked.prog = true := by kernel_rfl
theorem jf_stops : (Tryz.pinned.checked.prog.stops == []) = true := by kernel_rfl
theorem jf_knobs : (Tryz.pinned.checked.prog.stopKnobs == []) = true := by kernel_rfl
theorem jf_heard : Tryz.pinned.checked.prog.stopsHeard = true := by kernel_rfl
theorem jf_enter : Tryz.pinned.checked.prog.mayEnter = true := by kernel_rfl
theorem jf_main : Tryz.pinned.checked.prog.mainIs = some (true, "8f2d2f2c36f723b8e9c19c29c38b460f13fac52a1b656a3127356916838a0bd9".toList) := by kernel_rfl
theorem jf_looks : true = Tryz.pinned.checked.prog.looks [] := by kernel_rfl
theorem noOwn : Tryz.pinned.checked.prog.headLifts.contains "ownunsafe" = false := by kernel_rfl
end Go.Proofs.YtchkdidpnjakeaaGreatDoor
