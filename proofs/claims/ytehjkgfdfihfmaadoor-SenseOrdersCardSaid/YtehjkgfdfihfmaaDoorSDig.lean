/- supercargoref05.Digits: a number's text. -/
import Derived.Test.YtehjkgfdfihfmaaDoorSNum
import Derived.Lib.ConvBytes
import Derived.Deep.RegionWith
namespace Go.Proofs.YtehjkgfdfihfmaaDoor
open Go.RowKit Go.Maps Go.Lib
set_option linter.unusedVariables false
set_option maxRecDepth 100000

def dg (m : Nat) : UInt8 := UInt8.ofNat (48 + m % 10)
theorem dg_nat (m : Nat) : (dg m).toNat = 48 + m % 10 := by
  unfold dg
  rw [UInt8.toNat_ofNat']
  omega
theorem dec_small {m : Nat} (h : m < 10) : decDigits m = [dg m] := by
  rw [decDigits]; simp [h, dg, Nat.mod_eq_of_lt h]
theorem dec_big {m : Nat} (h : ¬ m < 10) : decDigits m = decDigits (m / 10) ++ [dg m] := by
  rw [decDigits]; simp [h, dg]
theorem conv_byte (W : World) (x : Int) (c : UInt8) (hx : x = (c.toNat : Int)) :
    (convert 66 9 (.slice (some ⟨W.heap.size, 0, none⟩) 1 1)).run Tryd.prog (W.alloc (.cells #[.int .u8 x] 5)) = .ok (.string ⟨#[c]⟩) (W.alloc (.cells #[.int .u8 x] 5)) := by
  subst hx
  exact run_convert_bytes_back (P := Tryd.prog) _ _ _ 5 ⟨W.heap.size, 0, none⟩ 1 [c] Tryd.underlying66 Tryd.underlying5 Tryd.underlying9 (fun j hj => by
    have hj0 : j = 0 := by simpa using hj
    subst hj0
    simp [Addr.add])
/-- a byte as a text, wherever it lies -/
theorem conv_at (W : World) (n : Nat) (x : Int) (c : UInt8) (hx : x = (c.toNat : Int)) (hc : W.cell? ⟨n, 0, none⟩ = some (.int .u8 x)) :
    (convert 66 9 (.slice (some ⟨n, 0, none⟩) 1 1)).run Tryd.prog W = .ok (.string ⟨#[c]⟩) W := by
  subst hx
  exact run_convert_bytes_back (P := Tryd.prog) _ _ _ 5 ⟨n, 0, none⟩ 1 [c] Tryd.underlying66 Tryd.underlying5 Tryd.underlying9 (fun j hj => by
    have hj0 : j = 0 := by simpa using hj
    subst hj0
    simpa [Addr.add] using hc)
theorem wrap_i64 {a : Int} (h0 : -9223372036854775808 ≤ a) (h1 : a ≤ 9223372036854775807) : IntKind.i64.wrap a = a := by
  simp [IntKind.wrap, IntKind.signed, IntKind.bits]
  omega
theorem wrap_u8 {a : Int} (h0 : 0 ≤ a) (h1 : a ≤ 255) : IntKind.u8.wrap a = a := by
  simp [IntKind.wrap, IntKind.signed, IntKind.bits]
  omega
theorem dec_size (u : Nat) : (⟨(decDigits u).toArray⟩ : ByteArray).size ≤ u + 1 := by
  show (decDigits u).toArray.size ≤ u + 1
  rw [List.size_toArray]
  induction u using Nat.strongRecOn with
  | _ u ih =>
    by_cases h : u < 10
    · rw [dec_small h]; simp
    · rw [dec_big h, List.length_append]
      have := ih (u / 10) (by omega)
      simp
      omega
theorem str_snoc (l : List UInt8) (c : UInt8) : (⟨l.toArray⟩ : ByteArray) ++ ⟨#[c]⟩ = ⟨(l ++ [c]).toArray⟩ := by
  apply ByteArray.ext
  simp [ByteArray.data_append]
theorem drewB {w w1 : World} (h : Below w.drew.heap.size w.drew w1) : Below w.heap.size w w1 := ⟨h.os, h.tape, h.output, h.size, h.block⟩
theorem allocB {w w1 : World} {o : Obj} (h : Below (w.alloc o).drew.heap.size (w.alloc o).drew w1) : Below w.heap.size w w1 :=
  (((Below.refl _ w).alloc (Nat.le_refl _) o)).trans ((drewB h).mono (by simp))
theorem allocC {w w1 : World} {v : Value} {t : TypeId} (h : Below (w.alloc (.cells #[v] t)).drew.heap.size (w.alloc (.cells #[v] t)).drew w1) : w1.cell? ⟨w.heap.size, 0, none⟩ = some v :=
  ((drewB h).cell (p := ⟨w.heap.size, 0, none⟩) (by simp)).trans (by simp)
theorem decT_nat {m : Nat} : decT (m : Int) = ⟨(decDigits m).toArray⟩ := by
  unfold decT Lib.itoa
  rw [if_neg (by omega), Int.toNat_natCast]
theorem decT_neg {m : Nat} (h : 0 < m) : decT (-(m : Int)) = ⟨(45 :: decDigits m).toArray⟩ := by
  unfold decT Lib.itoa
  rw [if_pos (by omega), Int.natAbs_neg, Int.natAbs_natCast]

set_option maxHeartbeats 1000000 in
theorem digits_nat (m : Nat) (w : World) (hm : m ≤ 4611686018427387904) : Calls Tryd.prog 36 #[.int .i64 (m : Nat)] w fun e w' => e = .returned (.string ⟨(decDigits m).toArray⟩) ∧ Below w.heap.size w w' := by
  induction m using Nat.strongRecOn generalizing w with
  | _ m ih =>
    by_cases h9 : m < 10
    · have hc := conv_byte w (48 + (m : Int)) (dg m) (by rw [dg_nat, Nat.mod_eq_of_lt h9]; omega)
      have hd : decide ((m : Int) < 10) = true := by simp; omega
      have HE := Lib.hid (dec_small h9)
      go_enter Tryd.func36, Tryd.ntmps36
      go_wp2
      go_ret
      exact ⟨by rw [HE.out]; rfl, (Below.refl _ _).alloc (Nat.le_refl _) _⟩
    · have hd : decide ((m : Int) < 10) = false := by simp; omega
      have HE := Lib.hid (dec_big h9)
      have hdg : (dg m).toNat = 48 + m % 10 := dg_nat m
      have HI := Lib.hid (fun W => ih (m / 10) (by omega) W (by omega))
      have a1 : IntKind.i64.wrap ((m : Int) / 10) = ((m / 10 : Nat) : Int) := by
        rw [show (m : Int) / 10 = ((m / 10 : Nat) : Int) from by omega]
        exact wrap_i64 (by omega) (by omega)
      have a2 : Int.tmod (m : Int) 10 = ((m % 10 : Nat) : Int) := rfl
      have a3 : IntKind.i64.wrap (48 + ((m % 10 : Nat) : Int)) = 48 + ((m % 10 : Nat) : Int) := wrap_i64 (by omega) (by omega)
      have a4 : IntKind.u8.wrap (48 + ((m % 10 : Nat) : Int)) = 48 + ((m % 10 : Nat) : Int) := wrap_u8 (by omega) (by omega)
      clear ih
      have hqm : m / 10 ≤ 4611686018427387904 := by omega
      have hsz := dec_size (m / 10)
      have HJ := Lib.hid (str_snoc (decDigits (m / 10)) (dg m))
      generalize m / 10 = q at *
      generalize m % 10 = r at *
      have u0 : (⟨#[dg m]⟩ : ByteArray).size = 1 := rfl
      have u1 : ¬ (9223372036854775807 < (⟨(decDigits q).toArray⟩ : ByteArray).size + (⟨#[dg m]⟩ : ByteArray).size) := by omega
      have u2 : ¬ (9223372036854775807 < (⟨(decDigits q).toArray⟩ : ByteArray).size + 1) := by omega
      have u3 : (⟨(decDigits q).toArray⟩ : ByteArray).size + 1 ≤ 9223372036854775807 := by omega
      have hcv : ∀ W : World, (convert 66 9 (.slice (some ⟨W.heap.size, 0, none⟩) 1 1)).run Tryd.prog (W.alloc (.cells #[.int .u8 (48 + (r : Int))] 5)) = .ok (.string ⟨#[dg m]⟩) (W.alloc (.cells #[.int .u8 (48 + (r : Int))] 5)) := fun W => conv_byte W _ (dg m) (by rw [hdg]; omega)
      have hcvd := conv_at (w.alloc (.cells #[.int .u8 (48 + (r : Int))] 5)).drew w.heap.size (48 + (r : Int)) (dg m) (by rw [hdg]; omega) (allocC (Below.refl _ _))
      go_enter Tryd.func36, Tryd.ntmps36
      go_wp2_with fail
      go_region_with (first
        | (go_at_call 36; with_reducible (refine (HI.out _).mono ?_); rintro e w1 ⟨rfl, hb1⟩; have hB1 : Below w.heap.size w w1 := drewB hb1; clear hb1)
        | (go_at_call 36; with_reducible (refine (HI.out _).mono ?_); rintro e w1 ⟨rfl, hb1⟩; have hB1 : Below w.heap.size w w1 := allocB hb1; have hcv1 := conv_at w1 w.heap.size (48 + (r : Int)) (dg m) (by rw [hdg]; omega) (allocC hb1); clear hb1)
        | fail)
      all_goals
        go_wp2
        go_ret
        rw [HE.out, ← HJ.out]
        first
          | exact ⟨rfl, hB1⟩
          | exact ⟨rfl, hB1.alloc hB1.size _⟩
          | exact ⟨rfl, (hB1.alloc hB1.size _).drew⟩
          | exact ⟨rfl, hB1.drew⟩

set_option maxHeartbeats 1000000 in
theorem digits_neg (m : Nat) (w : World) (h0 : 0 < m) (hm : m ≤ 4611686018427387904) : Calls Tryd.prog 36 #[.int .i64 (-(m : Int))] w fun e w' => e = .returned (.string ⟨(45 :: decDigits m).toArray⟩) ∧ Below w.heap.size w w' := by
  induction m using Nat.strongRecOn generalizing w with
  | _ m ih =>
    have hd0 : decide (-(m : Int) < 0) = true := by simp; omega
    by_cases h9 : m < 10
    · have hc := conv_byte w (48 + (m : Int)) (dg m) (by rw [dg_nat, Nat.mod_eq_of_lt h9]; omega)
      have hd : decide (-10 < -(m : Int)) = true := by simp; omega
      have HE := Lib.hid (dec_small h9)
      have u4 : IntKind.i64.wrap (48 - -(m : Int)) = 48 + (m : Int) := by rw [Int.sub_neg]; exact wrap_i64 (by omega) (by omega)
      have u5 : (48 : Int) - -(m : Int) = 48 + (m : Int) := by omega
      go_enter Tryd.func36, Tryd.ntmps36
      go_wp2
      go_ret
      exact ⟨by rw [HE.out]; rfl, (Below.refl _ _).alloc (Nat.le_refl _) _⟩
    · have hd : decide (-10 < -(m : Int)) = false := by simp; omega
      have HE := Lib.hid (dec_big h9)
      have hdg : (dg m).toNat = 48 + m % 10 := dg_nat m
      have HI := Lib.hid (fun W => ih (m / 10) (by omega) W (by omega) (by omega))
      have a0 : Int.tdiv (-(m : Int)) 10 = -((m / 10 : Nat) : Int) := by
        rw [Int.neg_tdiv]
        rfl
      have a1 : IntKind.i64.wrap (-((m / 10 : Nat) : Int)) = -((m / 10 : Nat) : Int) := wrap_i64 (by omega) (by omega)
      have a2 : Int.tmod (-(m : Int)) 10 = -((m % 10 : Nat) : Int) := by
        rw [Int.neg_tmod]
        rfl
      have a3 : IntKind.i64.wrap (48 - -((m % 10 : Nat) : Int)) = 48 + ((m % 10 : Nat) : Int) := by rw [Int.sub_neg]; exact wrap_i64 (by omega) (by omega)
      have a3' : IntKind.i64.wrap (48 + ((m % 10 : Nat) : Int)) = 48 + ((m % 10 : Nat) : Int) := wrap_i64 (by omega) (by omega)
      have a4 : IntKind.u8.wrap (48 + ((m % 10 : Nat) : Int)) = 48 + ((m % 10 : Nat) : Int) := wrap_u8 (by omega) (by omega)
      clear ih
      have hqm : m / 10 ≤ 4611686018427387904 := by omega
      have hsz : (⟨(45 :: decDigits (m / 10)).toArray⟩ : ByteArray).size ≤ m / 10 + 2 := by
        have := dec_size (m / 10)
        change (decDigits (m / 10)).toArray.size ≤ _ at this
        show (45 :: decDigits (m / 10)).toArray.size ≤ _
        simp at this ⊢
        omega
      have HJ := Lib.hid (str_snoc (45 :: decDigits (m / 10)) (dg m))
      generalize m / 10 = q at *
      generalize m % 10 = r at *
      have u0 : (⟨#[dg m]⟩ : ByteArray).size = 1 := rfl
      have u1 : ¬ (9223372036854775807 < (⟨(45 :: decDigits q).toArray⟩ : ByteArray).size + (⟨#[dg m]⟩ : ByteArray).size) := by omega
      have u2 : ¬ (9223372036854775807 < (⟨(45 :: decDigits q).toArray⟩ : ByteArray).size + 1) := by omega
      have u3 : (⟨(45 :: decDigits q).toArray⟩ : ByteArray).size + 1 ≤ 9223372036854775807 := by omega
      have hcv : ∀ W : World, (convert 66 9 (.slice (some ⟨W.heap.size, 0, none⟩) 1 1)).run Tryd.prog (W.alloc (.cells #[.int .u8 (48 + (r : Int))] 5)) = .ok (.string ⟨#[dg m]⟩) (W.alloc (.cells #[.int .u8 (48 + (r : Int))] 5)) := fun W => conv_byte W _ (dg m) (by rw [hdg]; omega)
      have hcvd := conv_at (w.alloc (.cells #[.int .u8 (48 + (r : Int))] 5)).drew w.heap.size (48 + (r : Int)) (dg m) (by rw [hdg]; omega) (allocC (Below.refl _ _))
      go_enter Tryd.func36, Tryd.ntmps36
      go_wp2_with fail
      go_region_with (first
        | (go_at_call 36; with_reducible (refine (HI.out _).mono ?_); rintro e w1 ⟨rfl, hb1⟩; have hB1 : Below w.heap.size w w1 := drewB hb1; clear hb1)
        | (go_at_call 36; with_reducible (refine (HI.out _).mono ?_); rintro e w1 ⟨rfl, hb1⟩; have hB1 : Below w.heap.size w w1 := allocB hb1; have hcv1 := conv_at w1 w.heap.size (48 + (r : Int)) (dg m) (by rw [hdg]; omega) (allocC hb1); clear hb1)
        | fail)
      all_goals
        go_wp2
        go_ret
        rw [HE.out, show (45 :: (decDigits q ++ [dg m])) = 45 :: decDigits q ++ [dg m] from rfl, ← HJ.out]
        first
          | exact ⟨rfl, hB1⟩
          | exact ⟨rfl, hB1.alloc hB1.size _⟩
          | exact ⟨rfl, (hB1.alloc hB1.size _).drew⟩
          | exact ⟨rfl, hB1.drew⟩
theorem digits_any (n : Int) (w : World) (h0 : -4611686018427387904 ≤ n) (h1 : n ≤ 4611686018427387904) : Calls Tryd.prog 36 #[.int .i64 n] w fun e w' => e = .returned (.string (decT n)) ∧ Below w.heap.size w w' := by
  by_cases hn : n < 0
  · obtain ⟨m, hm⟩ := Int.eq_ofNat_of_zero_le (show 0 ≤ -n by omega)
    obtain rfl : n = -(m : Int) := by omega
    rw [decT_neg (by omega)]
    exact digits_neg m w (by omega) (by omega)
  · obtain ⟨m, rfl⟩ := Int.eq_ofNat_of_zero_le (show 0 ≤ n by omega)
    rw [decT_nat]
    exact digits_nat m w (by omega)
end Go.Proofs.YtehjkgfdfihfmaaDoor
