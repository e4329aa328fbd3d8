/- seal.New, seal.sign, the document's Sign, Notary.Sign: what they do. -/
import Derived.Test.YtlbenmndmoeioaaMap
import Derived.Test.YtlbenmndmoeioaaHashRef
import Derived.Deep.QuietTactic
import Derived.BigQuiet
import Derived.StillTailTactics
namespace Go.Proofs.Ytlbenmndmoeioaa
open Go.RowKit Go.Maps

def signB (a b : ByteArray) : ByteArray := digB (a.data.toList ++ (10 :: b.data.toList))
theorem signB_eq (a b : ByteArray) : digB (a ++ ByteArray.mk #[10] ++ b).data.toList = signB a b := by
  unfold signB
  congr 1
  simp [ByteArray.data_append]
theorem sz10 : (ByteArray.mk #[10]).size = 1 := rfl

set_option maxHeartbeats 400000 in
theorem sign_any (a b : ByteArray) (w : World) (ha : a.size ≤ 5000) (hb : b.size ≤ 5000) :
    Calls Try.prog 26 #[.agg #[.string a, .string b]] w fun e w' => e = .returned (.string (signB a b)) ∧ Below w.heap.size w w' := by
  go_enter Try.func26, Try.ntmps26
  go_wp2_with fail
  refine (digest_any _ _ (by simp [maxLen, sz10]; omega)).mono ?_
  rintro e w1 ⟨rfl, hb1⟩
  rw [signB_eq]
  go_wp2
  go_ret
  exact ⟨rfl, ((Below.refl _ _).alloc (Nat.le_refl _) _).trans (hb1.mono (by simp))⟩

set_option maxHeartbeats 400000 in
theorem refSign_any (a b : ByteArray) (w : World) (ha : a.size ≤ 5000) (hb : b.size ≤ 5000) :
    Calls Try.prog 16 #[.string a, .string b] w fun e w' => e = .returned (.string (signB a b)) ∧ Below w.heap.size w w' := by
  go_enter Try.func16, Try.ntmps16
  go_wp2_with fail
  refine (refDigest_any _ _ (by simp [maxLen, sz10]; omega)).mono ?_
  rintro e w1 ⟨rfl, hb1⟩
  rw [signB_eq]
  go_wp2
  go_ret
  exact ⟨rfl, hb1⟩

theorem Ny.made (w : World) : Ny ((w.alloc (.map #[] 0)).alloc (.cells #[.map (some w.heap.size)] 53)) (w.heap.size + 1) w.heap.size [] := by
  refine ⟨?_, ?_, by simp, by simp⟩
  · have := heap_alloc_new (w.alloc (.map #[] 0)) (.cells #[.map (some w.heap.size)] 53)
    simpa using this
  · exact (World.ownsMap_made w _ _ _).alloc _

set_option maxHeartbeats 400000 in
theorem new_any (w : World) :
    Calls Try.prog 13 #[] w fun e w' => e = .returned (.pointer (some ⟨w.heap.size + 1, 0, none⟩)) ∧ Ny w' (w.heap.size + 1) w.heap.size [] ∧ Below w.heap.size w w' ∧ w'.heap.size = w.heap.size + 2 := by
  have hmm := @run_makeMap Try.prog
  go_enter Try.func13, Try.ntmps13
  go_wp2
  go_ret
  exact ⟨rfl, Ny.made w, ((Below.refl _ _).alloc (Nat.le_refl _) _).alloc (by simp) _, by simp⟩

end Go.Proofs.Ytlbenmndmoeioaa
