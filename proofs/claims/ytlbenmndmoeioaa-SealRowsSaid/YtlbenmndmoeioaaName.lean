/- The program's mark.Name and the document's Name are one function of a text's bytes. -/
import Derived.Test.YtlbenmndmoeioaaHash
namespace Go.Proofs.Ytlbenmndmoeioaa
open Go.RowKit

def nmc (c : UInt8) : Bool := (97 ≤ c.toNat && c.toNat ≤ 122) || (48 ≤ c.toNat && c.toNat ≤ 57) || c.toNat == 45
def nameB (l : List UInt8) : Bool := decide (1 ≤ l.length ∧ l.length ≤ 16) && l.all nmc

theorem all_snoc (s : ByteArray) (k : Nat) (h : k < s.size) : (s.data.toList.take (k + 1)).all nmc = ((s.data.toList.take k).all nmc && nmc s[k]) := by
  rw [take_snoc s k h]; simp
theorem all_bad (s : ByteArray) (k : Nat) (h : k < s.size) (hn : nmc s[k] = false) : s.data.toList.all nmc = false := by
  rw [List.all_eq_false]
  exact ⟨s[k], by show s.data[k] ∈ s.data.toList; simp, by simp [hn]⟩
theorem all_whole (s : ByteArray) (k : Nat) (h : s.size ≤ k) : (s.data.toList.take k).all nmc = s.data.toList.all nmc := by
  rw [List.take_of_length_le (by simpa using h)]
theorem byte_ways (n : Nat) : n < 45 ∨ (45 ≤ n ∧ n ≤ 45) ∨ (45 < n ∧ n < 48) ∨ (48 ≤ n ∧ n ≤ 57) ∨ (57 < n ∧ n < 97) ∨ (97 ≤ n ∧ n ≤ 122) ∨ 122 < n := by omega

set_option maxHeartbeats 800000 in
theorem markName_any (s : ByteArray) (w : World) (hs : s.size ≤ maxLen) :
    Calls Try.prog 25 #[.string s] w fun e w' => e = .returned (.bool (nameB s.data.toList)) ∧ w = w' := by
  unfold maxLen at hs
  have hlen : s.data.toList.length = s.size := by simp
  by_cases h1 : s.size < 1
  · go_enter Try.func25, Try.ntmps25
    go_wp2
    go_ret
    exact ⟨by simp [nameB]; omega, rfl⟩
  by_cases h2 : 16 < s.size
  · go_enter Try.func25, Try.ntmps25
    go_wp2
    go_ret
    exact ⟨by simp [nameB]; omega, rfl⟩
  have Hl := Lib.hid hlen
  clear hlen
  go_enter Try.func25, Try.ntmps25
  go_wp2
  go_loop [14] (fun i => ∃ k : Nat, k ≤ s.size ∧ i = .int .i64 k ∧ Hid ((s.data.toList.take k).all nmc = true)) (fun i => s.size - (intOf i).toNat)
  case atStart => exact ⟨0, Nat.zero_le _, rfl, Lib.hid (by simp)⟩
  case round =>
    obtain ⟨k, hk, rfl, Hk⟩ := hrel
    by_cases hlt : k < s.size
    · have HS := Lib.hid (all_snoc s k hlt)
      have HB := Lib.hid (all_bad s k hlt)
      have Hc := Lib.hid (show nmc s[k] = ((97 ≤ s[k].toNat && s[k].toNat ≤ 122) || (48 ≤ s[k].toNat && s[k].toNat ≤ 57) || s[k].toNat == 45) from rfl)
      rcases byte_ways s[k].toNat with h | h | h | h | h | h | h
      all_goals
        first
          | have e45 : ((s[k].toNat : Int) != 45) = true := by simp; omega
          | have e45 : ((s[k].toNat : Int) != 45) = false := by simp; omega
        first
          | have d57 : decide ((s[k].toNat : Int) ≤ 57) = true := by simp; omega
          | have d57 : decide ((s[k].toNat : Int) ≤ 57) = false := by simp; omega
        first
          | have d122 : decide ((s[k].toNat : Int) ≤ 122) = true := by simp; omega
          | have d122 : decide ((s[k].toNat : Int) ≤ 122) = false := by simp; omega
        go_wp2
        first
          | (go_round
             case rel => exact ⟨k + 1, by omega, by go_num, Lib.hid (by rw [HS.out, Hk.out, Hc.out]; simp; omega)⟩
             case measure => simp [intOf]; omega)
          | (go_ret
             exact ⟨by rw [nameB, HB.out (by rw [Hc.out]; simp; omega)]; simp, rfl⟩)
    · go_wp2
      go_ret
      exact ⟨by rw [nameB, ← all_whole s k (by omega), Hk.out, Hl.out]; simp; omega, rfl⟩

set_option maxHeartbeats 800000 in
theorem refName_any (s : ByteArray) (w : World) (hs : s.size ≤ maxLen) :
    Calls Try.prog 19 #[.string s] w fun e w' => e = .returned (.bool (nameB s.data.toList)) ∧ w = w' := by
  unfold maxLen at hs
  have Hl := Lib.hid (show s.data.toList.length = s.size by simp)
  go_enter Try.func19, Try.ntmps19
  go_wp2
  go_loop [3] (fun i => ∃ k : Nat, k ≤ s.size ∧ i = .int .i64 k ∧ Hid ((s.data.toList.take k).all nmc = true)) (fun i => s.size - (intOf i).toNat)
  case atStart => exact ⟨0, Nat.zero_le _, rfl, Lib.hid (by simp)⟩
  case round =>
    obtain ⟨k, hk, rfl, Hk⟩ := hrel
    by_cases hlt : k < s.size
    · have HS := Lib.hid (all_snoc s k hlt)
      have HB := Lib.hid (all_bad s k hlt)
      have Hc := Lib.hid (show nmc s[k] = ((97 ≤ s[k].toNat && s[k].toNat ≤ 122) || (48 ≤ s[k].toNat && s[k].toNat ≤ 57) || s[k].toNat == 45) from rfl)
      rcases byte_ways s[k].toNat with h | h | h | h | h | h | h
      all_goals
        first
          | have e45 : ((s[k].toNat : Int) == 45) = true := by simp; omega
          | have e45 : ((s[k].toNat : Int) == 45) = false := by simp; omega
        first
          | have d57 : decide ((s[k].toNat : Int) ≤ 57) = true := by simp; omega
          | have d57 : decide ((s[k].toNat : Int) ≤ 57) = false := by simp; omega
        first
          | have d122 : decide ((s[k].toNat : Int) ≤ 122) = true := by simp; omega
          | have d122 : decide ((s[k].toNat : Int) ≤ 122) = false := by simp; omega
        go_wp2
        first
          | (go_round
             case rel => exact ⟨k + 1, by omega, by go_num, Lib.hid (by rw [HS.out, Hk.out, Hc.out]; simp; omega)⟩
             case measure => simp [intOf]; omega)
          | (go_ret
             exact ⟨by rw [nameB, HB.out (by rw [Hc.out]; simp; omega)]; simp, rfl⟩)
    · have Hw := Lib.hid (all_whole s k (by omega))
      rcases (show s.size < 1 ∨ (1 ≤ s.size ∧ s.size ≤ 16) ∨ 16 < s.size by omega) with h1 | h1 | h1
      all_goals
        first
          | have d1 : decide ((s.size : Int) ≤ 16) = true := by simp; omega
          | have d1 : decide ((s.size : Int) ≤ 16) = false := by simp; omega
        go_wp2
        go_ret
        exact ⟨by rw [nameB, ← Hw.out, Hk.out, Hl.out]; simp; omega, rfl⟩
end Go.Proofs.Ytlbenmndmoeioaa
