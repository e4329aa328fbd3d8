/- The document's Name. -/
import Derived.Test.YtadhncdcpdabkaaDoorTWordsW
namespace Go.Proofs.YtadhncdcpdabkaaDoor
open Go.RowKit Go.Lib
set_option linter.unusedVariables false

def nameB (l : Bs) : Bool := decide (1 ≤ l.length ∧ l.length ≤ 16) && l.all small
theorem all_bad (s : ByteArray) (k : Nat) (h : k < s.size) (hn : small s[k] = false) : s.data.toList.all small = false := by
  rw [List.all_eq_false]
  exact ⟨s[k], by show s.data[k] ∈ s.data.toList; simp, by simp [hn]⟩
theorem all_whole (s : ByteArray) (k : Nat) (h : s.size ≤ k) : (s.data.toList.take k).all small = s.data.toList.all small := by
  rw [List.take_of_length_le (by simpa using h)]

set_option maxHeartbeats 800000 in
theorem refName_any (s : ByteArray) (w : World) (hs : s.size ≤ maxLen) :
    Calls Tryd.prog 17 #[.string s] w fun e w' => e = .returned (.bool (nameB s.data.toList)) ∧ w = w' := by
  unfold maxLen at hs
  have Hl := Lib.hid (show s.data.toList.length = s.size by simp)
  go_enter Tryd.func17, Tryd.ntmps17
  go_wp2
  go_loop [3] (fun i => ∃ k : Nat, k ≤ s.size ∧ i = .int .i64 k ∧ Hid ((s.data.toList.take k).all small = true)) (fun i => s.size - (intOf i).toNat)
  case atStart => exact ⟨0, Nat.zero_le _, rfl, Lib.hid (by simp)⟩
  case round =>
    obtain ⟨k, hk, rfl, Hk⟩ := hrel
    by_cases hlt : k < s.size
    · have HS := Lib.hid (all_snoc s k hlt)
      have HB := Lib.hid (all_bad s k hlt)
      have Hc := Lib.hid (small_nat s[k])
      rcases byte_ways s[k].toNat with h | h | h | h | h | h | h
      all_goals
        first
          | have e45 : ((s[k].toNat : Int) != 45) = true := by simp; omega
          | have e45 : ((s[k].toNat : Int) != 45) = false := by simp; omega
        first
          | have d57 : decide ((s[k].toNat : Int) ≤ 57) = true := by simp; omega
          | have d57 : decide ((s[k].toNat : Int) ≤ 57) = false := by simp; omega
        first
          | have d122 : decide ((s[k].toNat : Int) ≤ 122) = true := by simp; omega
          | have d122 : decide ((s[k].toNat : Int) ≤ 122) = false := by simp; omega
        go_wp2
        first
          | (go_round
             case rel => exact ⟨k + 1, by omega, by go_num, Lib.hid (by rw [HS.out, Hk.out, Hc.out]; simp; omega)⟩
             case measure => simp [intOf]; omega)
          | (go_ret
             exact ⟨by rw [nameB, HB.out (by rw [Hc.out]; simp; omega)]; simp, rfl⟩)
    · have Hw := Lib.hid (all_whole s k (by omega))
      rcases (show s.size < 1 ∨ (1 ≤ s.size ∧ s.size ≤ 16) ∨ 16 < s.size by omega) with h1 | h1 | h1
      all_goals
        first
          | have d1 : decide ((s.size : Int) ≤ 16) = true := by simp; omega
          | have d1 : decide ((s.size : Int) ≤ 16) = false := by simp; omega
        go_wp2
        go_ret
        exact ⟨by rw [nameB, ← Hw.out, Hk.out, Hl.out]; simp; omega, rfl⟩
theorem word_digits {S : Bs} (h : isWord S = true) : S.all digit = false := by
  have hall : ∀ x ∈ words, x.all digit = false := by decide +kernel
  exact hall S (by simpa [isWord] using h)
theorem word_kinds {S : Bs} : (∀ e, ranked S = .bad e → isWord S = false) ∧ (∀ k t m, ranked S = .tok k t m → t = S ∧ ((k = 0 ∧ isWord S = true) ∨ ((k = 1 ∨ k = 2) ∧ isWord S = false))) := by
  have hd : S.all digit = true → isWord S = false := fun h => by
    cases hw : isWord S
    · rfl
    · rw [word_digits hw] at h; cases h
  unfold ranked
  rw [show words.contains S = isWord S from rfl]
  constructor
  · intro e h
    split at h
    · exact hd (by assumption)
    · split at h
      · cases h
      · rename_i h2; simpa using h2
  · intro k t m h
    split at h
    · rename_i h1
      split at h
      · cases h
      · split at h
        · cases h
        · injection h with a b c; subst a b c; exact ⟨rfl, .inr ⟨.inr rfl, hd h1⟩⟩
    · split at h
      · rename_i h2; injection h with a b c; subst a b c; exact ⟨rfl, .inl ⟨rfl, h2⟩⟩
      · rename_i h2
        split at h
        · cases h
        · injection h with a b c; subst a b c; exact ⟨rfl, .inr ⟨.inl rfl, by simpa using h2⟩⟩
end Go.Proofs.YtadhncdcpdabkaaDoor
