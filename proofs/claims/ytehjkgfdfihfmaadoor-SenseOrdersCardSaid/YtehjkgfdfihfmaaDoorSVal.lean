/- sense.Value, sense.Type, sense.Kind and the document's. -/
import Derived.Test.YtehjkgfdfihfmaaDoorSRefNum
import Derived.Test.YtehjkgfdfihfmaaDoorSField
namespace Go.Proofs.YtehjkgfdfihfmaaDoor
open Go.RowKit Go.Maps Go.Lib
set_option linter.unusedVariables false
set_option maxRecDepth 100000

def valB (s : ByteArray) (k : Int) : Int × Bool := if k ≠ 1 ∧ k ≠ 2 then (0, false) else if (numB s).2 = false ∨ (numB s).1 < 0 ∨ (k = 2 ∧ 1048576 < (numB s).1) then (0, false) else numB s
theorem valB_ok (s : ByteArray) (k : Int) (hk : ¬ (k ≠ 1 ∧ k ≠ 2)) (h2 : (numB s).2 = true) (h3 : ¬ (numB s).1 < 0) (h4 : ¬ (k = 2 ∧ 1048576 < (numB s).1)) : valB s k = ((numB s).1, true) := by
  unfold valB
  rw [if_neg hk, if_neg (by rw [h2]; intro h; rcases h with h | h | h <;> first | (cases h; done) | exact h3 h | exact h4 h)]
  rw [← h2]
theorem valB_no (s : ByteArray) (k : Int) (hk : ¬ (k ≠ 1 ∧ k ≠ 2)) (h : (numB s).2 = false ∨ (numB s).1 < 0 ∨ (k = 2 ∧ 1048576 < (numB s).1)) : valB s k = (0, false) := by
  unfold valB
  rw [if_neg hk, if_pos h]
set_option maxHeartbeats 1000000 in
theorem value_any (s : ByteArray) (k : Int) (w : World) (hG : Gl w) (hs : s.size ≤ 1000) : Calls Tryd.prog 10 #[.string s, .int .i64 k] w fun e w' => e = .returned (.tuple #[.int .i64 (valB s k).1, .bool (valB s k).2]) ∧ Below w.heap.size w w' := by
  by_cases hk : k ≠ 1 ∧ k ≠ 2
  · have HE : Hid (valB s k = (0, false)) := Lib.hid (by unfold valB; rw [if_pos hk])
    have b1 : (k != 1) = true := by simp [hk.1]
    have b2 : (k != 2) = true := by simp [hk.2]
    have b1' : (k == 1) = false := by simp [hk.1]
    have b2' : (k == 2) = false := by simp [hk.2]
    go_enter Tryd.func10, Tryd.ntmps10
    go_wp2
    go_ret2
    exact ⟨by rw [HE.out]; rfl, Below.refl _ _⟩
  · have HP := Lib.hid (number_any s w hG hs)
    have hk12 : k = 1 ∨ k = 2 := by omega
    by_cases h2 : (numB s).2 = true
    · by_cases h3 : (numB s).1 < 0
      · have HE := Lib.hid (valB_no s k hk (.inr (.inl h3)))
        rw [h2] at HP
        generalize (numB s).1 = v at *
        rcases hk12 with rfl | rfl
        all_goals
          go_enter Tryd.func10, Tryd.ntmps10
          go_wp2_with (first
            | (go_at_call 24; refine HP.out.mono ?_; rintro e w1 ⟨rfl, hb1⟩; have HB1 := Lib.hid hb1; clear hb1)
            | fail)
          go_ret2
          exact ⟨by rw [HE.out]; rfl, HB1.out⟩
      · by_cases h4 : k = 2 ∧ 1048576 < (numB s).1
        · have HE := Lib.hid (valB_no s k hk (.inr (.inr h4)))
          obtain ⟨rfl, h5⟩ := h4
          rw [h2] at HP
          generalize (numB s).1 = v at *
          go_enter Tryd.func10, Tryd.ntmps10
          go_wp2_with (first
            | (go_at_call 24; refine HP.out.mono ?_; rintro e w1 ⟨rfl, hb1⟩; have HB1 := Lib.hid hb1; clear hb1)
            | fail)
          go_ret2
          exact ⟨by rw [HE.out]; rfl, HB1.out⟩
        · have HE := Lib.hid (valB_ok s k hk h2 h3 h4)
          rw [h2] at HP
          generalize (numB s).1 = v at *
          rcases hk12 with rfl | rfl
          · have h5 : True := trivial
            go_enter Tryd.func10, Tryd.ntmps10
            go_wp2_with (first
              | (go_at_call 24; refine HP.out.mono ?_; rintro e w1 ⟨rfl, hb1⟩; have HB1 := Lib.hid hb1; clear hb1)
              | fail)
            go_ret2
            exact ⟨by rw [HE.out]; rfl, HB1.out⟩
          · have h5 : ¬ 1048576 < v := fun h => h4 ⟨rfl, h⟩
            go_enter Tryd.func10, Tryd.ntmps10
            go_wp2_with (first
              | (go_at_call 24; refine HP.out.mono ?_; rintro e w1 ⟨rfl, hb1⟩; have HB1 := Lib.hid hb1; clear hb1)
              | fail)
            go_ret2
            exact ⟨by rw [HE.out]; rfl, HB1.out⟩
    · have h2' : (numB s).2 = false := by simpa using h2
      have HE := Lib.hid (valB_no s k hk (.inl h2'))
      rw [h2'] at HP
      generalize (numB s).1 = v at *
      rcases hk12 with rfl | rfl
      all_goals
        go_enter Tryd.func10, Tryd.ntmps10
        go_wp2_with (first
          | (go_at_call 24; refine HP.out.mono ?_; rintro e w1 ⟨rfl, hb1⟩; have HB1 := Lib.hid hb1; clear hb1)
          | fail)
        go_ret2
        exact ⟨by rw [HE.out]; rfl, HB1.out⟩

set_option maxHeartbeats 1000000 in
theorem refValue_any (s : ByteArray) (k : Int) (w : World) : Calls Tryd.prog 11 #[.string s, .int .i64 k] w fun e w' => e = .returned (.tuple #[.int .i64 (valB s k).1, .bool (valB s k).2]) ∧ Below w.heap.size w w' := by
  by_cases hk : k ≠ 1 ∧ k ≠ 2
  · have HE : Hid (valB s k = (0, false)) := Lib.hid (by unfold valB; rw [if_pos hk])
    have b1 : (k != 1) = true := by simp [hk.1]
    have b2 : (k != 2) = true := by simp [hk.2]
    have b1' : (k == 1) = false := by simp [hk.1]
    have b2' : (k == 2) = false := by simp [hk.2]
    go_enter Tryd.func11, Tryd.ntmps11
    go_wp2
    go_ret2
    exact ⟨by rw [HE.out]; rfl, Below.refl _ _⟩
  · have HP := Lib.hid (refNumber_any s w)
    have hk12 : k = 1 ∨ k = 2 := by omega
    by_cases h2 : (numB s).2 = true
    · by_cases h3 : (numB s).1 < 0
      · have HE := Lib.hid (valB_no s k hk (.inr (.inl h3)))
        rw [h2] at HP
        generalize (numB s).1 = v at *
        rcases hk12 with rfl | rfl
        all_goals
          go_enter Tryd.func11, Tryd.ntmps11
          go_wp2_with (first
            | (go_at_call 25; refine HP.out.mono ?_; rintro e w1 ⟨rfl, hb1⟩; have HB1 := Lib.hid hb1; clear hb1)
            | fail)
          go_ret2
          exact ⟨by rw [HE.out]; rfl, HB1.out⟩
      · by_cases h4 : k = 2 ∧ 1048576 < (numB s).1
        · have HE := Lib.hid (valB_no s k hk (.inr (.inr h4)))
          obtain ⟨rfl, h5⟩ := h4
          rw [h2] at HP
          generalize (numB s).1 = v at *
          go_enter Tryd.func11, Tryd.ntmps11
          go_wp2_with (first
            | (go_at_call 25; refine HP.out.mono ?_; rintro e w1 ⟨rfl, hb1⟩; have HB1 := Lib.hid hb1; clear hb1)
            | fail)
          go_ret2
          exact ⟨by rw [HE.out]; rfl, HB1.out⟩
        · have HE := Lib.hid (valB_ok s k hk h2 h3 h4)
          rw [h2] at HP
          generalize (numB s).1 = v at *
          rcases hk12 with rfl | rfl
          · have h5 : True := trivial
            go_enter Tryd.func11, Tryd.ntmps11
            go_wp2_with (first
              | (go_at_call 25; refine HP.out.mono ?_; rintro e w1 ⟨rfl, hb1⟩; have HB1 := Lib.hid hb1; clear hb1)
              | fail)
            go_ret2
            exact ⟨by rw [HE.out]; rfl, HB1.out⟩
          · have h5 : ¬ 1048576 < v := fun h => h4 ⟨rfl, h⟩
            go_enter Tryd.func11, Tryd.ntmps11
            go_wp2_with (first
              | (go_at_call 25; refine HP.out.mono ?_; rintro e w1 ⟨rfl, hb1⟩; have HB1 := Lib.hid hb1; clear hb1)
              | fail)
            go_ret2
            exact ⟨by rw [HE.out]; rfl, HB1.out⟩
    · have h2' : (numB s).2 = false := by simpa using h2
      have HE := Lib.hid (valB_no s k hk (.inl h2'))
      rw [h2'] at HP
      generalize (numB s).1 = v at *
      rcases hk12 with rfl | rfl
      all_goals
        go_enter Tryd.func11, Tryd.ntmps11
        go_wp2_with (first
          | (go_at_call 25; refine HP.out.mono ?_; rintro e w1 ⟨rfl, hb1⟩; have HB1 := Lib.hid hb1; clear hb1)
          | fail)
        go_ret2
        exact ⟨by rw [HE.out]; rfl, HB1.out⟩
end Go.Proofs.YtehjkgfdfihfmaaDoor
