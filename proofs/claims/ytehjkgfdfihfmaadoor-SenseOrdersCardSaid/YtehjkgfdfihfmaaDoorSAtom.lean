/- sense.isAtom. -/
import Derived.Test.YtehjkgfdfihfmaaDoorSTree
namespace Go.Proofs.YtehjkgfdfihfmaaDoor
open Go.RowKit Go.Maps Go.Lib
set_option linter.unusedVariables false
set_option maxRecDepth 100000

/-- is a rule an atom? -/
def atomB (k : Int) : Bool := k == 3 || k == 4 || k == 5 || k == 6 || k == 7
set_option maxHeartbeats 2000000 in
theorem isAtom_any (k p n : Int) (f t : ByteArray) (A : Option Addr) (l c : Nat) (w : World) :
    Calls Tryd.prog 29 #[.agg #[.int .i64 k, .int .i64 p, .string f, .string t, .int .i64 n, .slice A l c]] w fun e w' => e = .returned (.bool (atomB k)) ∧ Below w.heap.size w w' := by
  have hb1 : Hid (Below w.heap.size w (w.alloc (.cells #[.int .i64 k, .int .i64 p, .string f, .string t, .int .i64 n, .slice A l c] 24))) := Lib.hid ((Below.refl _ _).alloc (Nat.le_refl _) _)
  by_cases h3 : k = 3
  · subst h3
    go_enter Tryd.func29, Tryd.ntmps29
    go_wp2
    go_ret
    exact ⟨rfl, hb1.out⟩
  by_cases h4 : k = 4
  · subst h4
    go_enter Tryd.func29, Tryd.ntmps29
    go_wp2
    go_ret
    exact ⟨rfl, hb1.out⟩
  by_cases h5 : k = 5
  · subst h5
    go_enter Tryd.func29, Tryd.ntmps29
    go_wp2
    go_ret
    exact ⟨rfl, hb1.out⟩
  by_cases h6 : k = 6
  · subst h6
    go_enter Tryd.func29, Tryd.ntmps29
    go_wp2
    go_ret
    exact ⟨rfl, hb1.out⟩
  by_cases h7 : k = 7
  · subst h7
    go_enter Tryd.func29, Tryd.ntmps29
    go_wp2
    go_ret
    exact ⟨rfl, hb1.out⟩
  have b3 : (k == 3) = false := by simpa using h3
  have b4 : (k == 4) = false := by simpa using h4
  have b5 : (k == 5) = false := by simpa using h5
  have b6 : (k == 6) = false := by simpa using h6
  have b7 : (k == 7) = false := by simpa using h7
  have HA : Hid (atomB k = false) := Lib.hid (by simp [atomB, b3, b4, b5, b6, b7])
  go_enter Tryd.func29, Tryd.ntmps29
  go_wp2
  go_ret
  exact ⟨by first | rfl | (rw [HA.out]; rfl) | simp [HA.out], hb1.out⟩
end Go.Proofs.YtehjkgfdfihfmaaDoor
