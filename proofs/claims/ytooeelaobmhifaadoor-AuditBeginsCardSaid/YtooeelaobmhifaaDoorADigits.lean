/- ref28.Digits writes a number's digits. -/
import Derived.Test.YtooeelaobmhifaaDoorAName
import Derived.Lib.ItoaNum
import Derived.Lib.ConvBytes
namespace Go.Proofs.YtooeelaobmhifaaDoor
open Go.RowKit Go.Lib
set_option linter.unusedVariables false
set_option maxRecDepth 100000

def dg (m : Nat) : UInt8 := UInt8.ofNat (48 + m % 10)
theorem dg_nat (m : Nat) : (dg m).toNat = 48 + m % 10 := by
  unfold dg
  rw [UInt8.toNat_ofNat']
  omega
theorem dec_small {m : Nat} (h : m < 10) : decDigits m = [dg m] := by
  rw [decDigits]; simp [h, dg, Nat.mod_eq_of_lt h]
theorem dec_big {m : Nat} (h : ¬ m < 10) : decDigits m = decDigits (m / 10) ++ [dg m] := by
  rw [decDigits]; simp [h, dg]
theorem conv_byte (W : World) (x : Int) (c : UInt8) (hx : x = (c.toNat : Int)) :
    (convert 76 9 (.slice (some ⟨W.heap.size, 0, none⟩) 1 1)).run Tryd.prog (W.alloc (.cells #[.int .u8 x] 5)) = .ok (.string ⟨#[c]⟩) (W.alloc (.cells #[.int .u8 x] 5)) := by
  subst hx
  exact run_convert_bytes_back (P := Tryd.prog) _ _ _ 5 ⟨W.heap.size, 0, none⟩ 1 [c] Tryd.underlying76 Tryd.underlying5 Tryd.underlying9 (fun j hj => by
    have hj0 : j = 0 := by simpa using hj
    subst hj0
    simp [Addr.add])
theorem str_cons (c : UInt8) (l : List UInt8) : (⟨#[c]⟩ : ByteArray) ++ ⟨l.toArray⟩ = ⟨(c :: l).toArray⟩ := by
  apply ByteArray.ext
  simp [ByteArray.data_append]

set_option maxHeartbeats 1000000 in
theorem digits_any (i : Nat) (w : World) (hi : i < 1000000) :
    Calls Tryd.prog 20 #[.int .i64 (i : Nat)] w fun e w' => e = .returned (.string ⟨(decDigits i).toArray⟩) ∧ Below w.heap.size w w' := by
  have hcv := conv_byte w (48 + (i : Int) % 10) (dg i) (by rw [dg_nat]; omega)
  go_enter Tryd.func20, Tryd.ntmps20
  go_wp2
  clear hcv
  go_loopw [0, 3] (fun a s wr => ∃ (m : Nat) (rest : List UInt8), a = .int .i64 (m : Nat) ∧ s = .string ⟨(dg m :: rest).toArray⟩ ∧ Hid (decDigits i = decDigits m ++ rest) ∧ m ≤ i ∧ rest.length + m ≤ i + 1 ∧ Hid (Below w.heap.size w wr)) (fun a _ _ => (intOf a).toNat)
  case atStart => exact ⟨i, [], rfl, rfl, Lib.hid (by simp), Nat.le_refl _, by simp, Lib.hid ((Below.refl _ _).alloc (Nat.le_refl _) _)⟩
  case round =>
    obtain ⟨m, rest, rfl, rfl, Hd, hmi, hr, Hb⟩ := hrel
    by_cases h9 : m < 10
    · have hd : decide ((9 : Int) < (m : Int)) = false := by simp; omega
      have HE := Lib.hid (show decDigits i = dg m :: rest by rw [Hd.out, dec_small h9]; rfl)
      go_wp2
      go_ret
      exact ⟨by rw [HE.out]; rfl, Hb.out⟩
    · have hd : decide ((9 : Int) < (m : Int)) = true := by simp; omega
      have hcv := conv_byte wr (48 + (m : Int) / 10 % 10) (dg (m / 10)) (by rw [dg_nat]; omega)
      have HN := Lib.hid (show decDigits i = decDigits (m / 10) ++ dg m :: rest by rw [Hd.out, dec_big h9]; simp)
      have hsz : (⟨(dg m :: rest).toArray⟩ : ByteArray).size = rest.length + 1 := by simp [ByteArray.size]
      have Hstr := Lib.hid (str_cons (dg (m / 10)) (dg m :: rest))
      go_wp2
      go_roundw
      case rel => exact ⟨m / 10, dg m :: rest, by go_num, by rw [← Hstr.out], HN, by omega, by simp; omega, Lib.hid (Hb.out.alloc Hb.out.size _)⟩
      case measure => simp [intOf]; omega
end Go.Proofs.YtooeelaobmhifaaDoor
