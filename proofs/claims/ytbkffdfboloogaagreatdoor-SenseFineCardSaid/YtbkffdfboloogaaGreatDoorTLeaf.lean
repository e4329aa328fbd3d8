/- The small functions on bytes. -/
import Derived.Test.YtbkffdfboloogaaGreatDoorMA
import Derived.Test.YtbkffdfboloogaaGreatDoorRows
import Derived.WalkKit
import Derived.WalkSpells
import Derived.WalkLawsBesides
import Derived.Lib.Hide
import Derived.Deep.QuietTactic
import Derived.BigQuiet
namespace Go.Proofs.YtbkffdfboloogaaGreatDoor
open Go.RowKit
set_option linter.unusedVariables false

theorem u8le (a b : UInt8) : (a ≤ b) ↔ a.toNat ≤ b.toNat := UInt8.le_iff_toNat_le
theorem blank_nat (c : UInt8) : blank c = (decide (c.toNat = 32) || decide (c.toNat = 10)) := by
  rw [Bool.eq_iff_iff]; simp [blank, ← UInt8.toNat_inj]
theorem digit_nat (c : UInt8) : digit c = (decide (48 ≤ c.toNat) && decide (c.toNat ≤ 57)) := by
  rw [Bool.eq_iff_iff]; simp [digit, u8le]
theorem large_nat (c : UInt8) : large c = (decide (65 ≤ c.toNat) && decide (c.toNat ≤ 90)) := by
  rw [Bool.eq_iff_iff]; simp [large, u8le]
theorem small_nat (c : UInt8) : small c = ((decide (97 ≤ c.toNat) && decide (c.toNat ≤ 122)) || (decide (48 ≤ c.toNat) && decide (c.toNat ≤ 57)) || decide (c.toNat = 45)) := by
  rw [Bool.eq_iff_iff]; simp [small, digit_nat, u8le, ← UInt8.toNat_inj]
theorem quotd_nat (c : UInt8) : quotd c = (decide (c.toNat ≠ 34) && decide (32 ≤ c.toNat) && decide (c.toNat ≤ 126)) := by
  rw [Bool.eq_iff_iff]; simp [quotd, u8le, ← UInt8.toNat_inj]
set_option maxHeartbeats 800000 in
theorem isBlank_any (c : UInt8) (w : World) : Calls Tryz.prog 143 #[.int .u8 (c.toNat : Int)] w fun e w' => e = .returned (.bool (blank c)) ∧ w = w' := by
  rw [blank_nat]
  have hn := UInt8.toNat_lt c
  generalize c.toNat = n at *
  rcases (show n < 10 ∨ n = 10 ∨ (10 < n ∧ n < 32) ∨ n = 32 ∨ 32 < n by omega) with h | h | h | h | h
  all_goals
    first | have d0 : ((n : Int) == 32) = true := by simp; omega
          | have d0 : ((n : Int) == 32) = false := by simp; omega
    first | have d1 : ((n : Int) == 10) = true := by simp; omega
          | have d1 : ((n : Int) == 10) = false := by simp; omega
    go_enter Tryz.func143, Tryz.ntmps143
    go_wp2
    go_ret
    exact ⟨by simp; omega, rfl⟩
set_option maxHeartbeats 800000 in
theorem isDigit_any (c : UInt8) (w : World) : Calls Tryz.prog 184 #[.int .u8 (c.toNat : Int)] w fun e w' => e = .returned (.bool (digit c)) ∧ w = w' := by
  rw [digit_nat]
  have hn := UInt8.toNat_lt c
  generalize c.toNat = n at *
  rcases (show n < 48 ∨ n = 48 ∨ (48 < n ∧ n < 57) ∨ n = 57 ∨ 57 < n by omega) with h | h | h | h | h
  all_goals
    first | have d0 : (decide (48 ≤ (n : Int))) = true := by simp; omega
          | have d0 : (decide (48 ≤ (n : Int))) = false := by simp; omega
    first | have d1 : (decide ((n : Int) ≤ 57)) = true := by simp; omega
          | have d1 : (decide ((n : Int) ≤ 57)) = false := by simp; omega
    go_enter Tryz.func184, Tryz.ntmps184
    go_wp2
    go_ret
    exact ⟨by simp; omega, rfl⟩
set_option maxHeartbeats 800000 in
theorem isLarge_any (c : UInt8) (w : World) : Calls Tryz.prog 171 #[.int .u8 (c.toNat : Int)] w fun e w' => e = .returned (.bool (large c)) ∧ w = w' := by
  rw [large_nat]
  have hn := UInt8.toNat_lt c
  generalize c.toNat = n at *
  rcases (show n < 65 ∨ n = 65 ∨ (65 < n ∧ n < 90) ∨ n = 90 ∨ 90 < n by omega) with h | h | h | h | h
  all_goals
    first | have d0 : (decide (65 ≤ (n : Int))) = true := by simp; omega
          | have d0 : (decide (65 ≤ (n : Int))) = false := by simp; omega
    first | have d1 : (decide ((n : Int) ≤ 90)) = true := by simp; omega
          | have d1 : (decide ((n : Int) ≤ 90)) = false := by simp; omega
    go_enter Tryz.func171, Tryz.ntmps171
    go_wp2
    go_ret
    exact ⟨by simp; omega, rfl⟩
set_option maxHeartbeats 800000 in
theorem isSmall_any (c : UInt8) (w : World) : Calls Tryz.prog 169 #[.int .u8 (c.toNat : Int)] w fun e w' => e = .returned (.bool (small c)) ∧ w = w' := by
  rw [small_nat]
  have hn := UInt8.toNat_lt c
  generalize c.toNat = n at *
  rcases (show n < 45 ∨ n = 45 ∨ (45 < n ∧ n < 48) ∨ n = 48 ∨ (48 < n ∧ n < 57) ∨ n = 57 ∨ (57 < n ∧ n < 97) ∨ n = 97 ∨ (97 < n ∧ n < 122) ∨ n = 122 ∨ 122 < n by omega) with h | h | h | h | h | h | h | h | h | h | h
  all_goals
    first | have d0 : (decide (48 ≤ (n : Int))) = true := by simp; omega
          | have d0 : (decide (48 ≤ (n : Int))) = false := by simp; omega
    first | have d1 : (decide ((n : Int) ≤ 57)) = true := by simp; omega
          | have d1 : (decide ((n : Int) ≤ 57)) = false := by simp; omega
    first | have d2 : (decide (97 ≤ (n : Int))) = true := by simp; omega
          | have d2 : (decide (97 ≤ (n : Int))) = false := by simp; omega
    first | have d3 : (decide ((n : Int) ≤ 122)) = true := by simp; omega
          | have d3 : (decide ((n : Int) ≤ 122)) = false := by simp; omega
    first | have d4 : ((n : Int) == 45) = true := by simp; omega
          | have d4 : ((n : Int) == 45) = false := by simp; omega
    go_enter Tryz.func169, Tryz.ntmps169
    go_wp2
    go_ret
    exact ⟨by simp; omega, rfl⟩
set_option maxHeartbeats 800000 in
theorem isQuot_any (c : UInt8) (w : World) : Calls Tryz.prog 189 #[.int .u8 (c.toNat : Int)] w fun e w' => e = .returned (.bool (quotd c)) ∧ w = w' := by
  rw [quotd_nat]
  have hn := UInt8.toNat_lt c
  generalize c.toNat = n at *
  rcases (show n < 32 ∨ n = 32 ∨ (32 < n ∧ n < 34) ∨ n = 34 ∨ (34 < n ∧ n < 126) ∨ n = 126 ∨ 126 < n by omega) with h | h | h | h | h | h | h
  all_goals
    first | have d0 : ((n : Int) != 34) = true := by simp; omega
          | have d0 : ((n : Int) != 34) = false := by simp; omega
    first | have d1 : (decide (32 ≤ (n : Int))) = true := by simp; omega
          | have d1 : (decide (32 ≤ (n : Int))) = false := by simp; omega
    first | have d2 : (decide ((n : Int) ≤ 126)) = true := by simp; omega
          | have d2 : (decide ((n : Int) ≤ 126)) = false := by simp; omega
    go_enter Tryz.func189, Tryz.ntmps189
    go_wp2
    go_ret
    exact ⟨by simp; omega, rfl⟩
set_option maxHeartbeats 800000 in
theorem refRun_any (c : UInt8) (w : World) : Calls Tryz.prog 161 #[.int .u8 (c.toNat : Int)] w fun e w' => e = .returned (.bool (small c)) ∧ w = w' := by
  rw [small_nat]
  have hn := UInt8.toNat_lt c
  generalize c.toNat = n at *
  rcases (show n < 45 ∨ n = 45 ∨ (45 < n ∧ n < 48) ∨ n = 48 ∨ (48 < n ∧ n < 57) ∨ n = 57 ∨ (57 < n ∧ n < 97) ∨ n = 97 ∨ (97 < n ∧ n < 122) ∨ n = 122 ∨ 122 < n by omega) with h | h | h | h | h | h | h | h | h | h | h
  all_goals
    first | have d0 : (decide (48 ≤ (n : Int))) = true := by simp; omega
          | have d0 : (decide (48 ≤ (n : Int))) = false := by simp; omega
    first | have d1 : (decide ((n : Int) ≤ 57)) = true := by simp; omega
          | have d1 : (decide ((n : Int) ≤ 57)) = false := by simp; omega
    first | have d2 : (decide (97 ≤ (n : Int))) = true := by simp; omega
          | have d2 : (decide (97 ≤ (n : Int))) = false := by simp; omega
    first | have d3 : (decide ((n : Int) ≤ 122)) = true := by simp; omega
          | have d3 : (decide ((n : Int) ≤ 122)) = false := by simp; omega
    first | have d4 : ((n : Int) == 45) = true := by simp; omega
          | have d4 : ((n : Int) == 45) = false := by simp; omega
    go_enter Tryz.func161, Tryz.ntmps161
    go_wp2
    go_ret
    exact ⟨by simp; omega, rfl⟩
set_option maxHeartbeats 800000 in
theorem refDigit_any (c : UInt8) (w : World) : Calls Tryz.prog 135 #[.int .u8 (c.toNat : Int)] w fun e w' => e = .returned (.bool (digit c)) ∧ w = w' := by
  rw [digit_nat]
  have hn := UInt8.toNat_lt c
  generalize c.toNat = n at *
  rcases (show n < 48 ∨ n = 48 ∨ (48 < n ∧ n < 57) ∨ n = 57 ∨ 57 < n by omega) with h | h | h | h | h
  all_goals
    first | have d0 : (decide (48 ≤ (n : Int))) = true := by simp; omega
          | have d0 : (decide (48 ≤ (n : Int))) = false := by simp; omega
    first | have d1 : (decide ((n : Int) ≤ 57)) = true := by simp; omega
          | have d1 : (decide ((n : Int) ≤ 57)) = false := by simp; omega
    go_enter Tryz.func135, Tryz.ntmps135
    go_wp2
    go_ret
    exact ⟨by simp; omega, rfl⟩
end Go.Proofs.YtbkffdfboloogaaGreatDoor
