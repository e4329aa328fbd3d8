/- A number's digits. -/
import Derived.Test.YtooeelaobmhifaaGreatDoorAName
import Derived.Lib.ItoaNum
namespace Go.Proofs.YtooeelaobmhifaaGreatDoor
open Go.RowKit Go.Lib
set_option linter.unusedVariables false

def dg (m : Nat) : UInt8 := UInt8.ofNat (48 + m % 10)
theorem dg_nat (m : Nat) : (dg m).toNat = 48 + m % 10 := by
  unfold dg
  rw [UInt8.toNat_ofNat']
  omega
theorem dec_small {m : Nat} (h : m < 10) : decDigits m = [dg m] := by
  rw [decDigits]; simp [h, dg, Nat.mod_eq_of_lt h]
theorem dec_big {m : Nat} (h : ¬ m < 10) : decDigits m = decDigits (m / 10) ++ [dg m] := by
  rw [decDigits]; simp [h, dg]
end Go.Proofs.YtooeelaobmhifaaGreatDoor
