/- The two digests of a text (the program's, the document's) are one function of its bytes. -/
import Derived.Test.YtlbenmndmoeioaaRows
import Derived.Test.YtlbenmndmoeioaaPlain
import Derived.Lib.Hide
namespace Go.Proofs.Ytlbenmndmoeioaa
open Go.RowKit

set_option maxHeartbeats 400000 in
theorem rot_any (x : Int) (w : World) :
    Calls Try.prog 22 #[.int .u64 x, .int .i64 5] w fun e w' => e = .returned (.int .u64 (rotI x)) ∧ w = w' := by
  have h5 : bits BinOp.and IntKind.u64 5 63 = 5 := by decide
  go_enter Try.func22, Try.ntmps22
  go_wp2
  go_ret
  exact ⟨rfl, rfl⟩

set_option maxHeartbeats 400000 in
theorem turn_any (x : Int) (w : World) :
    Calls Try.prog 23 #[.int .u64 x, .int .u64 5] w fun e w' => e = .returned (.int .u64 (rotI x)) ∧ w = w' := by
  go_enter Try.func23, Try.ntmps23
  go_wp2
  go_ret
  exact ⟨rfl, rfl⟩

theorem conv_digits (W : World) (g : Nat) (l : List UInt8) (hc : ∀ j u, (rowL (hash l) 16)[j]? = some u → W.cell? ⟨g, j, none⟩ = some u) :
    (convert 49 9 (.slice (some ⟨g, 0, none⟩) 16 16)).run Try.prog W = .ok (.string (digB l)) W := by
  rw [run_convert_runes_string W _ _ 21 _ 16 16 Try.underlying49 Try.underlying21 Try.underlying9]
  rw [run_runesToString W ⟨g, 0, none⟩ 16 16 ((digL (hash l)).map fun c => (c.toNat : Int)) ?_, runes_digits]
  have h := run_loadCells_list (P := Try.prog) (w := W) ⟨g, 0, none⟩ (rowL (hash l) 16) (fun j u hu => by
    have := hc j u hu
    by_cases e : j = 0
    · subst e; simpa [Addr.add] using this
    · simpa [Addr.add, e] using this)
  rw [rowL_end] at h
  have e : (((digL (hash l)).map fun c => (c.toNat : Int)).map (Value.int .i32)).length = 16 := by simp [digL]
  rw [e] at h
  exact h

set_option maxHeartbeats 400000 in
theorem digest_any (s : ByteArray) (w : World) (hs : s.size ≤ maxLen) :
    Calls Try.prog 10 #[.string s] w fun e w' => e = .returned (.string (digB s.data.toList)) ∧ Below w.heap.size w w' := by
  unfold maxLen at hs
  go_enter Try.func10, Try.ntmps10
  go_wp2
  go_loop [3, 9] (fun h i => ∃ k : Nat, k ≤ s.size ∧ i = .int .i64 k ∧ h = .int .u64 (hfold (s.data.toList.take k))) (fun _ i => s.size - (intOf i).toNat)
  case atStart => exact ⟨0, Nat.zero_le _, rfl, by rw [List.take_zero, hfold_nil]⟩
  case round =>
    obtain ⟨k, hk, rfl, rfl⟩ := hrel
    by_cases hlt : k < s.size
    · have HS := Lib.hid (hfold_snoc s k hlt)
      go_wp2_with (go_at_call 22; refine (rot_any _ _).mono ?_; rintro e w' ⟨rfl, rfl⟩)
      go_round
      case rel => exact ⟨k + 1, by omega, by go_num, by rw [HS.out, hstep]⟩
      case measure => simp [intOf]; omega
    · obtain rfl : k = s.size := by omega
      go_wp2
      have hh := hash_eq (List.take s.size s.data.toList)
      rw [hh]
      clear hh
      have ht : List.take s.size s.data.toList = s.data.toList := List.take_of_length_le (by simp)
      rw [ht]
      clear ht
      have hcv := fun W => conv_digits W w.heap.size s.data.toList
      obtain ⟨b0, b1⟩ := hash_bd s.data.toList
      have Hnib := Lib.hid (fun j => nib_and (hash s.data.toList) j b0 b1)
      clear b0 b1
      have Hcv := Lib.hid hcv
      clear hcv
      generalize hash s.data.toList = h at *
      go_loopw [30] (fun i wr => ∃ j : Nat, j ≤ 16 ∧ i = .int .i64 j ∧ wr = w.alloc (.cells (rowD h j) 48)) (fun i _ => 16 - (intOf i).toNat)
      case atStart =>
        exact ⟨0, by omega, rfl, by rw [rowD_zero]⟩
      case round =>
        obtain ⟨j, hj, rfl, rfl⟩ := hrel
        by_cases hlt : j < 16
        · have hr := rowD_at h j hlt
          have b0 : 0 ≤ bits BinOp.and IntKind.u64 (h / 2 ^ (60 - 4 * j)) 15 := by rw [Hnib.out j]; omega
          have b1 : bits BinOp.and IntKind.u64 (h / 2 ^ (60 - 4 * j)) 15 < 16 := by rw [Hnib.out j]; have := nib_lt h j; omega
          have Hst := Lib.hid (rowD_set h j hlt)
          have Hc := Lib.hid (hexc_ind h j (Hnib.out j))
          go_wp2
          go_roundw
          case rel => exact ⟨j + 1, by omega, by go_num, by rw [Hc.out, Hst.out]⟩
          case measure => simp [intOf]; omega
        · obtain rfl : j = 16 := by omega
          have hcv := Hcv.out (w.alloc (.cells (rowD h 16) 48)) (fun j u hu => by
            rw [World.cell?_alloc_new]
            simpa [rowD] using hu)
          go_wp2
          go_ret
          exact ⟨rfl, (Below.refl _ _).alloc (Nat.le_refl _) _⟩
end Go.Proofs.Ytlbenmndmoeioaa
