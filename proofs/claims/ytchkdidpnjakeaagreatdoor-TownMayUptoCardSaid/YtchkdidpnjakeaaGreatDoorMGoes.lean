/- No function of the program starts another goroutine: jf_goes. -/
import Derived.Test.YtchkdidpnjakeaaGreatDoorMFacts
namespace Go.Proofs.YtchkdidpnjakeaaGreatDoor.townMay
open Go.ChangeShapes Go.WideShapes Go.ChangeAt Go.RowKit
set_option linter.unusedVariables false
set_option maxRecDepth 100000

noncomputable def still (f : FuncId) : Bool := !((Tryz.prog.funcs[f]?).any Func.goes)
theorem gs0 : ((List.range' 0 60).all still) = true := by kernel_rfl
theorem gs1 : ((List.range' 60 60).all still) = true := by kernel_rfl
theorem gs2 : ((List.range' 120 60).all still) = true := by kernel_rfl
theorem gs3 : ((List.range' 180 60).all still) = true := by kernel_rfl
theorem gs4 : ((List.range' 240 60).all still) = true := by kernel_rfl
theorem gs5 : ((List.range' 300 60).all still) = true := by kernel_rfl
theorem gs6 : ((List.range' 360 60).all still) = true := by kernel_rfl
theorem gs7 : ((List.range' 420 60).all still) = true := by kernel_rfl
theorem gs8 : ((List.range' 480 60).all still) = true := by kernel_rfl
theorem gs9 : ((List.range' 540 60).all still) = true := by kernel_rfl
theorem gs10 : ((List.range' 600 60).all still) = true := by kernel_rfl
theorem gs11 : ((List.range' 660 54).all still) = true := by kernel_rfl
theorem gsN : Tryz.prog.funcs.size = 714 := by kernel_rfl
theorem allStill : ((List.range' 0 714).all still) = true := by
  rw [show List.range' 0 714 = List.range' 0 60 ++ (List.range' 60 60 ++ (List.range' 120 60 ++ (List.range' 180 60 ++ (List.range' 240 60 ++ (List.range' 300 60 ++ (List.range' 360 60 ++ (List.range' 420 60 ++ (List.range' 480 60 ++ (List.range' 540 60 ++ (List.range' 600 60 ++ (List.range' 660 54))))))))))) from by decide]
  simp only [List.all_append, gs0, gs1, gs2, gs3, gs4, gs5, gs6, gs7, gs8, gs9, gs10, gs11, Bool.and_true]
theorem stillAt (f : FuncId) : (Tryz.prog.funcs[f]?).any Func.goes = false := by
  by_cases h : f < 714
  · have := List.all_eq_true.1 allStill f (by rw [List.mem_range'_1]; exact ⟨Nat.zero_le _, by rw [Nat.zero_add]; exact h⟩)
    simpa [still] using this
  · rw [Array.getElem?_eq_none (by rw [gsN]; exact Nat.le_of_not_lt h)]; rfl
theorem noneGoes (f : FuncId) : Tryz.prog.goes f = false := by
  unfold Program.goes
  have h1 : ((Tryz.prog.closure f).any fun g => (Tryz.prog.funcs[g]?).any Func.goes) = false := by simp [stillAt]
  have h2 : Tryz.prog.funcs.any Func.goes = false := by
    rw [Array.any_eq_false]
    intro i hi
    have := stillAt i
    rw [Array.getElem?_eq_getElem hi] at this
    simpa using this
  rw [h1, h2]; simp
theorem jf_goes : false = Rows.townMayUptoRow.goesBy Tryz.pinned.checked.prog := by
  show false = Tryz.prog.goesAt _ _
  unfold Program.goesAt Program.goesFrom
  have h : Tryz.prog.goes = fun _ => false := funext noneGoes
  rw [h]
  cases Tryz.prog.funcNamed Rows.townMayUptoRow.func <;> cases Rows.townMayUptoRow.start <;> simp
end Go.Proofs.YtchkdidpnjakeaaGreatDoor.townMay
