/- The document's digest of a text is the same function of its bytes. -/
import Derived.Test.YtlbenmndmoeioaaHash
namespace Go.Proofs.Ytlbenmndmoeioaa
open Go.RowKit

theorem str_cons (c : UInt8) (o : List UInt8) : Value.string (ByteArray.mk #[c] ++ ByteArray.mk o.toArray) = Value.string ⟨(c :: o).toArray⟩ := by
  have e : ByteArray.mk #[c] ++ ByteArray.mk o.toArray = ⟨(c :: o).toArray⟩ := by
    apply ByteArray.ext
    simp [ByteArray.data_append]
  rw [e]

theorem conv_byte (W : World) (x : Int) (c : UInt8) (hx : x = (c.toNat : Int)) :
    (convert 39 9 (.slice (some ⟨W.heap.size, 0, none⟩) 1 1)).run Try.prog (W.alloc (.cells #[.int .u8 x] 5)) = .ok (.string ⟨#[c]⟩) (W.alloc (.cells #[.int .u8 x] 5)) := by
  subst hx
  exact run_convert_bytes_back (P := Try.prog) _ _ _ 5 ⟨W.heap.size, 0, none⟩ 1 [c] Try.underlying39 Try.underlying5 Try.underlying9 (fun j hj => by
    have hj0 : j = 0 := by simpa using hj
    subst hj0
    simp [Addr.add])

set_option maxHeartbeats 400000 in
theorem refDigest_any (s : ByteArray) (w : World) (hs : s.size ≤ maxLen) :
    Calls Try.prog 11 #[.string s] w fun e w' => e = .returned (.string (digB s.data.toList)) ∧ Below w.heap.size w w' := by
  unfold maxLen at hs
  go_enter Try.func11, Try.ntmps11
  go_wp2
  go_loop [3, 4] (fun h i => ∃ k : Nat, k ≤ s.size ∧ i = .int .i64 k ∧ h = .int .u64 (hfold (s.data.toList.take k))) (fun _ i => s.size - (intOf i).toNat)
  case atStart => exact ⟨0, Nat.zero_le _, rfl, by rw [List.take_zero, hfold_nil]⟩
  case round =>
    obtain ⟨k, hk, rfl, rfl⟩ := hrel
    by_cases hlt : k < s.size
    · have HS := Lib.hid (hfold_snoc s k hlt)
      go_wp2_with (go_at_call 23; refine (turn_any _ _).mono ?_; rintro e w' ⟨rfl, rfl⟩)
      go_round
      case rel => exact ⟨k + 1, by omega, by go_num, by rw [HS.out, hstep]⟩
      case measure => simp [intOf]; omega
    · obtain rfl : k = s.size := by omega
      go_wp2
      have hh := hash_eq (List.take s.size s.data.toList)
      rw [hh]
      clear hh
      have ht : List.take s.size s.data.toList = s.data.toList := List.take_of_length_le (by simp)
      rw [ht]
      clear ht
      obtain ⟨b0, b1⟩ := hash_bd s.data.toList
      have Hd := Lib.hid (show digB s.data.toList = ⟨(digL (hash s.data.toList)).toArray⟩ from rfl)
      generalize hash s.data.toList = h at *
      go_loopw [3, 5, 6] (fun q o i wr => ∃ (j : Nat) (a : Int), j ≤ 16 ∧ i = .int .i64 j ∧ q = .int .u64 a ∧ Hid (a = h / 16 ^ j) ∧ 0 ≤ a ∧ a < 18446744073709551616 ∧ o = .string ⟨((digL h).drop (16 - j)).toArray⟩ ∧ Below w.heap.size w wr) (fun _ _ i _ => 16 - (intOf i).toNat)
      case atStart =>
        exact ⟨0, h, by omega, rfl, rfl, Lib.hid (by simp), b0, b1, by simp [digL], Below.refl _ _⟩
      case round =>
        obtain ⟨j, a, hj, rfl, rfl, Ha, a0, a1, rfl, hb⟩ := hrel
        have ho : ((digL h).drop (16 - j)).length ≤ 16 := by simp [digL]
        have Hst := Lib.hid (fun hlt => digL_step h j hlt)
        generalize hod : (digL h).drop (16 - j) = o at *
        have Hod := Lib.hid hod
        clear hod
        by_cases hlt : j < 16
        · have Hdv := Lib.hid (div_step h j)
          have Hsz := Lib.hid hb.size
          by_cases hd : 9 < a % 16
          all_goals
            first
              | have hcv := conv_byte wr _ _ (hexc_hi a hd)
              | have hcv := conv_byte wr _ _ (hexc_lo a hd)
            go_wp2
            go_roundw
            case rel =>
              refine ⟨j + 1, _, by omega, by go_num, rfl, Lib.hid (by rw [Ha.out, Hdv.out]), by omega, by omega, ?_, hb.alloc Hsz.out _⟩
              rw [Hst.out hlt, ← Ha.out]
              exact str_cons _ _
            case measure => simp [intOf]; omega
        · obtain rfl : j = 16 := by omega
          go_wp2
          go_ret
          exact ⟨by rw [Hd.out, ← Hod.out]; rfl, hb⟩
end Go.Proofs.Ytlbenmndmoeioaa
