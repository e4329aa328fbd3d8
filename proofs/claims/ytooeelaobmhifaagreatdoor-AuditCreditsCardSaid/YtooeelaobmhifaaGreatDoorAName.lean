/- The ledger's names and currencies: what they answer where all bytes are right. -/
import Derived.Test.YtooeelaobmhifaaGreatDoorRows
import Derived.Test.YtooeelaobmhifaaGreatDoorMG
import Derived.WalkKit
import Derived.WalkSpells
import Derived.WalkLawsBesides
import Derived.Lib.Hide
namespace Go.Proofs.YtooeelaobmhifaaGreatDoor
open Go.RowKit Go.Lib
set_option linter.unusedVariables false

def goodC (c : UInt8) : Prop := (97 ≤ c.toNat ∧ c.toNat ≤ 122) ∨ (48 ≤ c.toNat ∧ c.toNat ≤ 57) ∨ c.toNat = 45 ∨ c.toNat = 58
instance (c : UInt8) : Decidable (goodC c) := by unfold goodC; infer_instance
structure GoodName (s : ByteArray) : Prop where
  pos : 1 ≤ s.size
  le : s.size ≤ 32
  all : ∀ k (h : k < s.size), goodC s[k]
structure GoodCur (s : ByteArray) : Prop where
  len : s.size = 3
  all : ∀ k (h : k < s.size), 65 ≤ s[k].toNat ∧ s[k].toNat ≤ 90

set_option maxHeartbeats 800000 in
theorem isName_good (s : ByteArray) (w : World) (hG : GoodName s) :
    Calls Tryz.prog 17 #[.string s] w fun e w' => e = .returned (.bool true) ∧ w = w' := by
  have h1 := hG.pos
  have h2 := hG.le
  have Ha := Lib.hid hG.all
  clear hG
  go_enter Tryz.func17, Tryz.ntmps17
  go_wp2
  go_loop [15] (fun i => ∃ k : Nat, k ≤ s.size ∧ i = .int .i64 k) (fun i => s.size - (intOf i).toNat)
  case atStart => exact ⟨0, Nat.zero_le _, rfl⟩
  case round =>
    obtain ⟨k, hk, rfl⟩ := hrel
    by_cases hlt : k < s.size
    · have hc := Ha.out k hlt
      unfold goodC at hc
      rcases hc with h | h | h | h
      all_goals
        first
          | have e45 : ((s[k].toNat : Int) != 45) = true := by simp; omega
          | have e45 : ((s[k].toNat : Int) != 45) = false := by simp; omega
        first
          | have e58 : ((s[k].toNat : Int) != 58) = true := by simp; omega
          | have e58 : ((s[k].toNat : Int) != 58) = false := by simp; omega
        go_wp2
        go_round
        case rel => exact ⟨k + 1, by omega, by go_num⟩
        case measure => simp [intOf]; omega
    · go_wp2
      go_ret
      exact ⟨rfl, rfl⟩

set_option maxHeartbeats 800000 in
theorem isCurrency_good (s : ByteArray) (w : World) (hG : GoodCur s) :
    Calls Tryz.prog 18 #[.string s] w fun e w' => e = .returned (.bool true) ∧ w = w' := by
  have h1 := hG.len
  have Ha := Lib.hid hG.all
  clear hG
  go_enter Tryz.func18, Tryz.ntmps18
  go_wp2
  go_loop [9] (fun i => ∃ k : Nat, k ≤ s.size ∧ i = .int .i64 k) (fun i => s.size - (intOf i).toNat)
  case atStart => exact ⟨0, Nat.zero_le _, rfl⟩
  case round =>
    obtain ⟨k, hk, rfl⟩ := hrel
    by_cases hlt : k < s.size
    · have hc := Ha.out k hlt
      go_wp2
      go_round
      case rel => exact ⟨k + 1, by omega, by go_num⟩
      case measure => simp [intOf]; omega
    · go_wp2
      go_ret
      exact ⟨rfl, rfl⟩
end Go.Proofs.YtooeelaobmhifaaGreatDoor
