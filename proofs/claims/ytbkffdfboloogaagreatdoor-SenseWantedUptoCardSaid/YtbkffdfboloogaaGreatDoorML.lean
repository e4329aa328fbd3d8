/- supercargoref05.Digits: a number's text. supercargoref05.Number: the document's number of a text. sense.Value, sense.Type, sense.Kind and the document's. sense.has, sense.Type, sense.Kind; supercargoref29.in, Type; supercargoref17.Texts. -/
import Derived.Test.YtbkffdfboloogaaGreatDoorSNum
import Derived.Lib.ConvBytes
import Derived.Deep.RegionWith
import Derived.Test.YtbkffdfboloogaaGreatDoorMB
namespace Go.Proofs.YtbkffdfboloogaaGreatDoor
open Go.RowKit Go.Maps Go.Lib
set_option linter.unusedVariables false
set_option maxRecDepth 100000

def dg (m : Nat) : UInt8 := UInt8.ofNat (48 + m % 10)
theorem dg_nat (m : Nat) : (dg m).toNat = 48 + m % 10 := by
  unfold dg
  rw [UInt8.toNat_ofNat']
  omega
theorem dec_small {m : Nat} (h : m < 10) : decDigits m = [dg m] := by
  rw [decDigits]; simp [h, dg, Nat.mod_eq_of_lt h]
theorem dec_big {m : Nat} (h : ¬ m < 10) : decDigits m = decDigits (m / 10) ++ [dg m] := by
  rw [decDigits]; simp [h, dg]
theorem conv_byte (W : World) (x : Int) (c : UInt8) (hx : x = (c.toNat : Int)) :
    (convert 114 9 (.slice (some ⟨W.heap.size, 0, none⟩) 1 1)).run Tryz.prog (W.alloc (.cells #[.int .u8 x] 5)) = .ok (.string ⟨#[c]⟩) (W.alloc (.cells #[.int .u8 x] 5)) := by
  subst hx
  exact run_convert_bytes_back (P := Tryz.prog) _ _ _ 5 ⟨W.heap.size, 0, none⟩ 1 [c] Tryz.underlying114 Tryz.underlying5 Tryz.underlying9 (fun j hj => by
    have hj0 : j = 0 := by simpa using hj
    subst hj0
    simp [Addr.add])
/-- a byte as a text, wherever it lies -/
theorem conv_at (W : World) (n : Nat) (x : Int) (c : UInt8) (hx : x = (c.toNat : Int)) (hc : W.cell? ⟨n, 0, none⟩ = some (.int .u8 x)) :
    (convert 114 9 (.slice (some ⟨n, 0, none⟩) 1 1)).run Tryz.prog W = .ok (.string ⟨#[c]⟩) W := by
  subst hx
  exact run_convert_bytes_back (P := Tryz.prog) _ _ _ 5 ⟨n, 0, none⟩ 1 [c] Tryz.underlying114 Tryz.underlying5 Tryz.underlying9 (fun j hj => by
    have hj0 : j = 0 := by simpa using hj
    subst hj0
    simpa [Addr.add] using hc)
theorem wrap_i64 {a : Int} (h0 : -9223372036854775808 ≤ a) (h1 : a ≤ 9223372036854775807) : IntKind.i64.wrap a = a := by
  simp [IntKind.wrap, IntKind.signed, IntKind.bits]
  omega
theorem wrap_u8 {a : Int} (h0 : 0 ≤ a) (h1 : a ≤ 255) : IntKind.u8.wrap a = a := by
  simp [IntKind.wrap, IntKind.signed, IntKind.bits]
  omega
theorem dec_size (u : Nat) : (⟨(decDigits u).toArray⟩ : ByteArray).size ≤ u + 1 := by
  show (decDigits u).toArray.size ≤ u + 1
  rw [List.size_toArray]
  induction u using Nat.strongRecOn with
  | _ u ih =>
    by_cases h : u < 10
    · rw [dec_small h]; simp
    · rw [dec_big h, List.length_append]
      have := ih (u / 10) (by omega)
      simp
      omega
theorem str_snoc (l : List UInt8) (c : UInt8) : (⟨l.toArray⟩ : ByteArray) ++ ⟨#[c]⟩ = ⟨(l ++ [c]).toArray⟩ := by
  apply ByteArray.ext
  simp [ByteArray.data_append]
theorem drewB {w w1 : World} (h : Below w.drew.heap.size w.drew w1) : Below w.heap.size w w1 := ⟨h.os, h.tape, h.output, h.size, h.block⟩
theorem allocB {w w1 : World} {o : Obj} (h : Below (w.alloc o).drew.heap.size (w.alloc o).drew w1) : Below w.heap.size w w1 :=
  (((Below.refl _ w).alloc (Nat.le_refl _) o)).trans ((drewB h).mono (by simp))
theorem allocC {w w1 : World} {v : Value} {t : TypeId} (h : Below (w.alloc (.cells #[v] t)).drew.heap.size (w.alloc (.cells #[v] t)).drew w1) : w1.cell? ⟨w.heap.size, 0, none⟩ = some v :=
  ((drewB h).cell (p := ⟨w.heap.size, 0, none⟩) (by simp)).trans (by simp)
theorem decT_nat {m : Nat} : decT (m : Int) = ⟨(decDigits m).toArray⟩ := by
  unfold decT Lib.itoa
  rw [if_neg (by omega), Int.toNat_natCast]
theorem decT_neg {m : Nat} (h : 0 < m) : decT (-(m : Int)) = ⟨(45 :: decDigits m).toArray⟩ := by
  unfold decT Lib.itoa
  rw [if_pos (by omega), Int.natAbs_neg, Int.natAbs_natCast]

set_option maxHeartbeats 1000000 in
theorem digits_nat (m : Nat) (w : World) (hm : m ≤ 4611686018427387904) : Calls Tryz.prog 108 #[.int .i64 (m : Nat)] w fun e w' => e = .returned (.string ⟨(decDigits m).toArray⟩) ∧ Below w.heap.size w w' := by
  induction m using Nat.strongRecOn generalizing w with
  | _ m ih =>
    by_cases h9 : m < 10
    · have hc := conv_byte w (48 + (m : Int)) (dg m) (by rw [dg_nat, Nat.mod_eq_of_lt h9]; omega)
      have hd : decide ((m : Int) < 10) = true := by simp; omega
      have HE := Lib.hid (dec_small h9)
      go_enter Tryz.func108, Tryz.ntmps108
      go_wp2
      go_ret
      exact ⟨by rw [HE.out]; rfl, (Below.refl _ _).alloc (Nat.le_refl _) _⟩
    · have hd : decide ((m : Int) < 10) = false := by simp; omega
      have HE := Lib.hid (dec_big h9)
      have hdg : (dg m).toNat = 48 + m % 10 := dg_nat m
      have HI := Lib.hid (fun W => ih (m / 10) (by omega) W (by omega))
      have a1 : IntKind.i64.wrap ((m : Int) / 10) = ((m / 10 : Nat) : Int) := by
        rw [show (m : Int) / 10 = ((m / 10 : Nat) : Int) from by omega]
        exact wrap_i64 (by omega) (by omega)
      have a2 : Int.tmod (m : Int) 10 = ((m % 10 : Nat) : Int) := rfl
      have a3 : IntKind.i64.wrap (48 + ((m % 10 : Nat) : Int)) = 48 + ((m % 10 : Nat) : Int) := wrap_i64 (by omega) (by omega)
      have a4 : IntKind.u8.wrap (48 + ((m % 10 : Nat) : Int)) = 48 + ((m % 10 : Nat) : Int) := wrap_u8 (by omega) (by omega)
      clear ih
      have hqm : m / 10 ≤ 4611686018427387904 := by omega
      have hsz := dec_size (m / 10)
      have HJ := Lib.hid (str_snoc (decDigits (m / 10)) (dg m))
      generalize m / 10 = q at *
      generalize m % 10 = r at *
      have u0 : (⟨#[dg m]⟩ : ByteArray).size = 1 := rfl
      have u1 : ¬ (9223372036854775807 < (⟨(decDigits q).toArray⟩ : ByteArray).size + (⟨#[dg m]⟩ : ByteArray).size) := by omega
      have u2 : ¬ (9223372036854775807 < (⟨(decDigits q).toArray⟩ : ByteArray).size + 1) := by omega
      have u3 : (⟨(decDigits q).toArray⟩ : ByteArray).size + 1 ≤ 9223372036854775807 := by omega
      have hcv : ∀ W : World, (convert 114 9 (.slice (some ⟨W.heap.size, 0, none⟩) 1 1)).run Tryz.prog (W.alloc (.cells #[.int .u8 (48 + (r : Int))] 5)) = .ok (.string ⟨#[dg m]⟩) (W.alloc (.cells #[.int .u8 (48 + (r : Int))] 5)) := fun W => conv_byte W _ (dg m) (by rw [hdg]; omega)
      have hcvd := conv_at (w.alloc (.cells #[.int .u8 (48 + (r : Int))] 5)).drew w.heap.size (48 + (r : Int)) (dg m) (by rw [hdg]; omega) (allocC (Below.refl _ _))
      go_enter Tryz.func108, Tryz.ntmps108
      go_wp2_with fail
      go_region_with (first
        | (go_at_call 108; with_reducible (refine (HI.out _).mono ?_); rintro e w1 ⟨rfl, hb1⟩; have hB1 : Below w.heap.size w w1 := drewB hb1; clear hb1)
        | (go_at_call 108; with_reducible (refine (HI.out _).mono ?_); rintro e w1 ⟨rfl, hb1⟩; have hB1 : Below w.heap.size w w1 := allocB hb1; have hcv1 := conv_at w1 w.heap.size (48 + (r : Int)) (dg m) (by rw [hdg]; omega) (allocC hb1); clear hb1)
        | fail)
      all_goals
        go_wp2
        go_ret
        rw [HE.out, ← HJ.out]
        first
          | exact ⟨rfl, hB1⟩
          | exact ⟨rfl, hB1.alloc hB1.size _⟩
          | exact ⟨rfl, (hB1.alloc hB1.size _).drew⟩
          | exact ⟨rfl, hB1.drew⟩

set_option maxHeartbeats 1000000 in
theorem digits_neg (m : Nat) (w : World) (h0 : 0 < m) (hm : m ≤ 4611686018427387904) : Calls Tryz.prog 108 #[.int .i64 (-(m : Int))] w fun e w' => e = .returned (.string ⟨(45 :: decDigits m).toArray⟩) ∧ Below w.heap.size w w' := by
  induction m using Nat.strongRecOn generalizing w with
  | _ m ih =>
    have hd0 : decide (-(m : Int) < 0) = true := by simp; omega
    by_cases h9 : m < 10
    · have hc := conv_byte w (48 + (m : Int)) (dg m) (by rw [dg_nat, Nat.mod_eq_of_lt h9]; omega)
      have hd : decide (-10 < -(m : Int)) = true := by simp; omega
      have HE := Lib.hid (dec_small h9)
      have u4 : IntKind.i64.wrap (48 - -(m : Int)) = 48 + (m : Int) := by rw [Int.sub_neg]; exact wrap_i64 (by omega) (by omega)
      have u5 : (48 : Int) - -(m : Int) = 48 + (m : Int) := by omega
      go_enter Tryz.func108, Tryz.ntmps108
      go_wp2
      go_ret
      exact ⟨by rw [HE.out]; rfl, (Below.refl _ _).alloc (Nat.le_refl _) _⟩
    · have hd : decide (-10 < -(m : Int)) = false := by simp; omega
      have HE := Lib.hid (dec_big h9)
      have hdg : (dg m).toNat = 48 + m % 10 := dg_nat m
      have HI := Lib.hid (fun W => ih (m / 10) (by omega) W (by omega) (by omega))
      have a0 : Int.tdiv (-(m : Int)) 10 = -((m / 10 : Nat) : Int) := by
        rw [Int.neg_tdiv]
        rfl
      have a1 : IntKind.i64.wrap (-((m / 10 : Nat) : Int)) = -((m / 10 : Nat) : Int) := wrap_i64 (by omega) (by omega)
      have a2 : Int.tmod (-(m : Int)) 10 = -((m % 10 : Nat) : Int) := by
        rw [Int.neg_tmod]
        rfl
      have a3 : IntKind.i64.wrap (48 - -((m % 10 : Nat) : Int)) = 48 + ((m % 10 : Nat) : Int) := by rw [Int.sub_neg]; exact wrap_i64 (by omega) (by omega)
      have a3' : IntKind.i64.wrap (48 + ((m % 10 : Nat) : Int)) = 48 + ((m % 10 : Nat) : Int) := wrap_i64 (by omega) (by omega)
      have a4 : IntKind.u8.wrap (48 + ((m % 10 : Nat) : Int)) = 48 + ((m % 10 : Nat) : Int) := wrap_u8 (by omega) (by omega)
      clear ih
      have hqm : m / 10 ≤ 4611686018427387904 := by omega
      have hsz : (⟨(45 :: decDigits (m / 10)).toArray⟩ : ByteArray).size ≤ m / 10 + 2 := by
        have := dec_size (m / 10)
        change (decDigits (m / 10)).toArray.size ≤ _ at this
        show (45 :: decDigits (m / 10)).toArray.size ≤ _
        simp at this ⊢
        omega
      have HJ := Lib.hid (str_snoc (45 :: decDigits (m / 10)) (dg m))
      generalize m / 10 = q at *
      generalize m % 10 = r at *
      have u0 : (⟨#[dg m]⟩ : ByteArray).size = 1 := rfl
      have u1 : ¬ (9223372036854775807 < (⟨(45 :: decDigits q).toArray⟩ : ByteArray).size + (⟨#[dg m]⟩ : ByteArray).size) := by omega
      have u2 : ¬ (9223372036854775807 < (⟨(45 :: decDigits q).toArray⟩ : ByteArray).size + 1) := by omega
      have u3 : (⟨(45 :: decDigits q).toArray⟩ : ByteArray).size + 1 ≤ 9223372036854775807 := by omega
      have hcv : ∀ W : World, (convert 114 9 (.slice (some ⟨W.heap.size, 0, none⟩) 1 1)).run Tryz.prog (W.alloc (.cells #[.int .u8 (48 + (r : Int))] 5)) = .ok (.string ⟨#[dg m]⟩) (W.alloc (.cells #[.int .u8 (48 + (r : Int))] 5)) := fun W => conv_byte W _ (dg m) (by rw [hdg]; omega)
      have hcvd := conv_at (w.alloc (.cells #[.int .u8 (48 + (r : Int))] 5)).drew w.heap.size (48 + (r : Int)) (dg m) (by rw [hdg]; omega) (allocC (Below.refl _ _))
      go_enter Tryz.func108, Tryz.ntmps108
      go_wp2_with fail
      go_region_with (first
        | (go_at_call 108; with_reducible (refine (HI.out _).mono ?_); rintro e w1 ⟨rfl, hb1⟩; have hB1 : Below w.heap.size w w1 := drewB hb1; clear hb1)
        | (go_at_call 108; with_reducible (refine (HI.out _).mono ?_); rintro e w1 ⟨rfl, hb1⟩; have hB1 : Below w.heap.size w w1 := allocB hb1; have hcv1 := conv_at w1 w.heap.size (48 + (r : Int)) (dg m) (by rw [hdg]; omega) (allocC hb1); clear hb1)
        | fail)
      all_goals
        go_wp2
        go_ret
        rw [HE.out, show (45 :: (decDigits q ++ [dg m])) = 45 :: decDigits q ++ [dg m] from rfl, ← HJ.out]
        first
          | exact ⟨rfl, hB1⟩
          | exact ⟨rfl, hB1.alloc hB1.size _⟩
          | exact ⟨rfl, (hB1.alloc hB1.size _).drew⟩
          | exact ⟨rfl, hB1.drew⟩
theorem digits_any (n : Int) (w : World) (h0 : -4611686018427387904 ≤ n) (h1 : n ≤ 4611686018427387904) : Calls Tryz.prog 108 #[.int .i64 n] w fun e w' => e = .returned (.string (decT n)) ∧ Below w.heap.size w w' := by
  by_cases hn : n < 0
  · obtain ⟨m, hm⟩ := Int.eq_ofNat_of_zero_le (show 0 ≤ -n by omega)
    obtain rfl : n = -(m : Int) := by omega
    rw [decT_neg (by omega)]
    exact digits_neg m w (by omega) (by omega)
  · obtain ⟨m, rfl⟩ := Int.eq_ofNat_of_zero_le (show 0 ≤ n by omega)
    rw [decT_nat]
    exact digits_nat m w (by omega)
end Go.Proofs.YtbkffdfboloogaaGreatDoor
namespace Go.Proofs.YtbkffdfboloogaaGreatDoor
open Go.RowKit Go.Maps Go.Lib
set_option linter.unusedVariables false
set_option maxRecDepth 100000

def rdig : Nat → List UInt8 → Option Nat
  | acc, [] => some acc
  | acc, c :: r => if c.toNat < 48 ∨ 57 < c.toNat ∨ 461168601842738790 < acc then none else rdig (10 * acc + (c.toNat - 48)) r
theorem rdig_append (l r : List UInt8) : ∀ acc, rdig acc (l ++ r) = (rdig acc l).bind fun a => rdig a r := by
  induction l with
  | nil => intro acc; rfl
  | cons c l ih =>
    intro acc
    rw [List.cons_append, rdig, rdig]
    split
    · rfl
    · exact ih _
theorem rdig_dec (u : Nat) (h : u ≤ 4611686018427387904) : rdig 0 (decDigits u) = some u := by
  induction u using Nat.strongRecOn with
  | _ u ih =>
    by_cases h9 : u < 10
    · rw [dec_small h9, rdig, dg_nat, Nat.mod_eq_of_lt h9, if_neg (by omega), rdig]
      congr 1
      omega
    · rw [dec_big h9, rdig_append, ih (u / 10) (by omega) (by omega)]
      show rdig (u / 10) [dg u] = some u
      rw [rdig, dg_nat, if_neg (by omega), rdig]
      congr 1
      omega
theorem pu_append (M : Nat) (l r : List UInt8) : ∀ acc, Lib.parseUintM M acc (l ++ r) = match Lib.parseUintM M acc l with | .ok a => Lib.parseUintM M a r | e => e := by
  induction l with
  | nil => intro acc; rfl
  | cons c l ih =>
    intro acc
    rw [List.cons_append, Lib.parseUintM, Lib.parseUintM]
    split
    · split
      · rfl
      · split
        · rfl
        · exact ih _
    · rfl
theorem pu_dec (u : Nat) (h : u ≤ 4611686018427387904) : Lib.parseUintM (2 ^ 64 - 1) 0 (decDigits u) = .ok u := by
  induction u using Nat.strongRecOn with
  | _ u ih =>
    by_cases h9 : u < 10
    · rw [dec_small h9, Lib.parseUintM, dg_nat, Nat.mod_eq_of_lt h9, if_pos (by omega), if_neg (by omega), if_neg (by omega), Lib.parseUintM]
      congr 1
      omega
    · rw [dec_big h9, pu_append, ih (u / 10) (by omega) (by omega)]
      show Lib.parseUintM _ (u / 10) [dg u] = _
      rw [Lib.parseUintM, dg_nat, if_pos (by omega), if_neg (by omega), if_neg (by omega), Lib.parseUintM]
      congr 1
      omega
theorem dec_head (u : Nat) : ∃ c r, decDigits u = c :: r ∧ 48 ≤ c.toNat ∧ c.toNat ≤ 57 := by
  induction u using Nat.strongRecOn with
  | _ u ih =>
    by_cases h9 : u < 10
    · exact ⟨dg u, [], dec_small h9, by rw [dg_nat]; omega, by rw [dg_nat]; omega⟩
    · obtain ⟨c, r, e, h1, h2⟩ := ih (u / 10) (by omega)
      exact ⟨c, r ++ [dg u], by rw [dec_big h9, e]; rfl, h1, h2⟩
theorem pi_dec (n : Int) (h0 : -4611686018427387904 ≤ n) (h1 : n ≤ 4611686018427387904) : Lib.parseIntB 64 (Lib.itoa n) = .ok n := by
  unfold Lib.itoa
  split
  · rename_i hn
    rw [Lib.parseIntB]
    have e : ((45 : UInt8).toNat = 43 ∨ (45 : UInt8).toNat = 45) := .inr rfl
    simp only [if_pos e]
    obtain ⟨c, r, ec, _, _⟩ := dec_head n.natAbs
    have hne : decDigits n.natAbs ≠ [] := by rw [ec]; simp
    rw [Lib.parseUintB, if_neg hne, pu_dec _ (by omega)]
    simp only
    rw [if_neg (by intro h; exact h.1 rfl), if_neg (by intro h; have := h.2; omega), if_pos (show (45 : UInt8).toNat = 45 from rfl)]
    congr 1
    omega
  · rename_i hn
    obtain ⟨c, r, ec, e1, e2⟩ := dec_head n.toNat
    rw [ec, Lib.parseIntB]
    have e : ¬ (c.toNat = 43 ∨ c.toNat = 45) := by omega
    simp only [if_neg e]
    rw [Lib.parseUintB, if_neg (by simp), ← ec, pu_dec _ (by omega)]
    simp only
    have hc : ¬ c.toNat = 45 := by omega
    rw [if_neg (by intro h; have := h.2; omega), if_neg (by intro h; exact hc h.1), if_neg hc]
    congr 1
    omega
theorem dec_len (k : Nat) : ∀ u, u < 10 ^ (k + 1) → (decDigits u).length ≤ k + 1 := by
  induction k with
  | zero => intro u h; rw [dec_small (by simpa using h)]; simp
  | succ k ih =>
    intro u h
    by_cases h9 : u < 10
    · rw [dec_small h9]; simp
    · rw [dec_big h9, List.length_append]
      have : u / 10 < 10 ^ (k + 1) := by
        rw [Nat.div_lt_iff_lt_mul (by omega)]
        rw [Nat.pow_succ] at h
        exact h
      have := ih _ this
      simp
      omega
/-- is a text a number's? -/
theorem numB_of (s : ByteArray) (v : Int) (h0 : -4611686018427387904 ≤ v) (h1 : v ≤ 4611686018427387904) (he : s = decT v) : numB s = (v, true) := by
  subst he
  unfold numB
  have : (decT v).data.toList = Lib.itoa v := by simp [decT]
  rw [this, pi_dec v h0 h1]
  simp only
  rw [if_pos ⟨h0, h1, by simp⟩]
theorem numB_cases (s : ByteArray) : numB s = (0, false) ∨ ∃ v, numB s = (v, true) ∧ -4611686018427387904 ≤ v ∧ v ≤ 4611686018427387904 ∧ s = decT v := by
  unfold numB
  split
  · rename_i v hv
    split
    · rename_i h
      refine .inr ⟨v, rfl, h.1, h.2.1, ?_⟩
      have := beq_iff_eq.1 h.2.2
      rw [ByteArray.toList_eq, ByteArray.toList_eq] at this
      exact (ByteArray.ext (Array.ext' this)).symm
    · exact .inl rfl
  · exact .inl rfl
theorem decT_size (v : Int) (h0 : -4611686018427387904 ≤ v) (h1 : v ≤ 4611686018427387904) : 0 < (decT v).size ∧ (decT v).size ≤ 20 := by
  have e : (decT v).size = (Lib.itoa v).length := by show (Lib.itoa v).toArray.size = _; simp
  rw [e]
  unfold Lib.itoa
  split
  · have := dec_len 18 v.natAbs (by omega)
    simp
    omega
  · have := dec_len 18 v.toNat (by omega)
    obtain ⟨c, r, ec, _, _⟩ := dec_head v.toNat
    rw [ec] at this ⊢
    simp at this ⊢
    omega
/-- what the document's Number does with the digits -/
def refTail (s : ByteArray) (n : Int) : Int × Bool := if 4611686018427387904 < n ∨ n < -4611686018427387904 ∨ ((decT n).toList == s.toList) = false then (0, false) else (n, true)
def refNumB (s : ByteArray) : Int × Bool :=
  if s.size = 0 ∨ 20 < s.size then (0, false) else
  if s.data.toList.head? = some 45 then (match rdig 0 (s.data.toList.drop 1) with | none => (0, false) | some a => refTail s (-(a : Int)))
  else (match rdig 0 (s.data.toList.drop 0) with | none => (0, false) | some a => refTail s (a : Int))
theorem refTail_cases (s : ByteArray) (n : Int) : refTail s n = (0, false) ∨ (refTail s n = (n, true) ∧ -4611686018427387904 ≤ n ∧ n ≤ 4611686018427387904 ∧ s = decT n) := by
  unfold refTail
  split
  · exact .inl rfl
  · rename_i h
    refine .inr ⟨rfl, by omega, by omega, ?_⟩
    have h3 : ((decT n).toList == s.toList) = true := by
      cases hb : ((decT n).toList == s.toList) with
      | true => rfl
      | false => exact absurd (.inr (.inr hb)) h
    have := beq_iff_eq.1 h3
    rw [ByteArray.toList_eq, ByteArray.toList_eq] at this
    exact (ByteArray.ext (Array.ext' this)).symm
theorem refTail_of (s : ByteArray) (n : Int) (h0 : -4611686018427387904 ≤ n) (h1 : n ≤ 4611686018427387904) (he : s = decT n) : refTail s n = (n, true) := by
  unfold refTail
  rw [if_neg]
  rintro (h | h | h)
  · omega
  · omega
  · rw [he] at h; simp at h
theorem refNumB_is (s : ByteArray) : refNumB s = numB s := by
  rcases numB_cases s with h | ⟨v, h, h0, h1, he⟩
  · rw [h]
    unfold refNumB
    split
    · rfl
    · split
      · split
        · rfl
        · rename_i a _
          rcases refTail_cases s (-(a : Int)) with e | ⟨_, e0, e1, e2⟩
          · exact e
          · rw [numB_of s _ e0 e1 e2] at h; exact absurd (congrArg Prod.snd h) (by simp)
      · split
        · rfl
        · rename_i a _
          rcases refTail_cases s (a : Int) with e | ⟨_, e0, e1, e2⟩
          · exact e
          · rw [numB_of s _ e0 e1 e2] at h; exact absurd (congrArg Prod.snd h) (by simp)
  · rw [h]
    have hsz := decT_size v h0 h1
    have hl : s.data.toList = Lib.itoa v := by rw [he]; simp [decT]
    rw [← he] at hsz
    unfold refNumB
    rw [if_neg (by omega), hl]
    unfold Lib.itoa
    split
    · rename_i hn
      rw [if_pos (show (45 :: decDigits v.natAbs).head? = some 45 from rfl), show (45 :: decDigits v.natAbs).drop 1 = decDigits v.natAbs from rfl, rdig_dec _ (by omega)]
      simp only
      rw [show -((v.natAbs : Nat) : Int) = v from by omega]
      exact refTail_of s v h0 h1 he
    · rename_i hn
      obtain ⟨c, r, ec, e1, e2⟩ := dec_head v.toNat
      rw [if_neg (by rw [ec]; intro h; simp at h; rw [h] at e1; revert e1; decide), List.drop_zero, rdig_dec _ (by omega)]
      simp only
      rw [show ((v.toNat : Nat) : Int) = v from by omega]
      exact refTail_of s v h0 h1 he
theorem get_list (s : ByteArray) (k : Nat) (h : k < s.size) : s.data.toList.drop k = s[k] :: s.data.toList.drop (k + 1) := by
  rw [List.drop_eq_getElem_cons (by rw [Array.length_toList]; exact h)]
  rfl

set_option maxHeartbeats 2000000 in
theorem refNumber_any (s : ByteArray) (w : World) : Calls Tryz.prog 77 #[.string s] w fun e w' => e = .returned (.tuple #[.int .i64 (numB s).1, .bool (numB s).2]) ∧ Below w.heap.size w w' := by
  rw [← refNumB_is]
  by_cases h0 : s.size = 0
  · have HE : Hid (refNumB s = (0, false)) := Lib.hid (by unfold refNumB; rw [if_pos (.inl h0)])
    have q : (s.toList == ([] : List UInt8)) = true := by
      have : s.toList = [] := by
        rw [ByteArray.toList_eq]
        exact List.length_eq_zero_iff.1 (by rw [Array.length_toList]; exact h0)
      rw [this]; rfl
    have q' : (s.toList == (⟨#[]⟩ : ByteArray).toList) = true := by rw [show (⟨#[]⟩ : ByteArray).toList = [] from by rw [ByteArray.toList_eq]]; exact q
    go_enter Tryz.func77, Tryz.ntmps77
    go_wp2
    go_ret2
    exact ⟨by rw [HE.out]; rfl, Below.refl _ _⟩
  have q : (s.toList == ([] : List UInt8)) = false := by
    rw [beq_eq_false_iff_ne]
    intro e
    have := congrArg List.length e
    rw [ByteArray.toList_eq, Array.length_toList] at this
    exact h0 this
  have q' : (s.toList == (⟨#[]⟩ : ByteArray).toList) = false := by rw [show (⟨#[]⟩ : ByteArray).toList = [] from by rw [ByteArray.toList_eq]]; exact q
  by_cases h20 : 20 < s.size
  · have HE : Hid (refNumB s = (0, false)) := Lib.hid (by unfold refNumB; rw [if_pos (.inr h20)])
    have hd : (20 : Int) < (s.size : Int) := by omega
    go_enter Tryz.func77, Tryz.ntmps77
    go_wp2
    go_ret2
    exact ⟨by rw [HE.out]; rfl, Below.refl _ _⟩
  have hd20 : ¬ (20 : Int) < (s.size : Int) := by omega
  have hp0 : 0 < s.size := by omega
  have hhd : s.data.toList.head? = some s[0] := by
    have := get_list s 0 hp0
    rw [List.drop_zero] at this
    rw [this]
    rfl
  by_cases hneg : s[0].toNat = 45
  · have hh : s.data.toList.head? = some 45 := by rw [hhd]; congr 1; exact UInt8.toNat_inj.1 hneg
    have HN : Hid (refNumB s = match rdig 0 (s.data.toList.drop 1) with | none => (0, false) | some a => refTail s (-(a : Int))) := Lib.hid (by unfold refNumB; rw [if_neg (by omega), if_pos hh])
    have e45 : ((s[0].toNat : Int) == 45) = true := by simp; omega
    clear hh hhd hneg
    go_enter Tryz.func77, Tryz.ntmps77
    go_wp2_with fail
    go_loopw [4, 6] (fun v i wr => ∃ (k a : Nat), i = .int .i64 (k : Int) ∧ v = .int .i64 (a : Int) ∧ k ≤ s.size ∧ a ≤ 4611686018427387909 ∧ wr = w ∧ Hid (rdig 0 (s.data.toList.drop 1) = rdig a (s.data.toList.drop k))) (fun _ i _ => s.size - (RowKit.intOf i).toNat)
    case atStart => exact ⟨1, 0, rfl, rfl, by omega, by omega, rfl, Lib.hid rfl⟩
    case round =>
      obtain ⟨k, a, rfl, rfl, hk, ha, rfl, HR⟩ := hrel
      by_cases hlt : k < s.size
      · have hlt' : (k : Int) < (s.size : Int) := by omega
        have hgl := get_list s k hlt
        by_cases hbad : s[k].toNat < 48 ∨ 57 < s[k].toNat ∨ 461168601842738790 < a
        · have HE : Hid (refNumB s = (0, false)) := Lib.hid (by rw [HN.out, HR.out, hgl, rdig, if_pos hbad])
          clear hgl
          by_cases b1 : s[k].toNat < 48
          · have b1' : (s[k].toNat : Int) < 48 := by omega
            go_wp2
            go_ret2
            exact ⟨by rw [HE.out]; rfl, Below.refl _ _⟩
          · have b1' : ¬ (s[k].toNat : Int) < 48 := by omega
            by_cases b2 : 57 < s[k].toNat
            · have b2' : (57 : Int) < (s[k].toNat : Int) := by omega
              go_wp2
              go_ret2
              exact ⟨by rw [HE.out]; rfl, Below.refl _ _⟩
            · have b2' : ¬ (57 : Int) < (s[k].toNat : Int) := by omega
              have b3 : (461168601842738790 : Int) < (a : Int) := by omega
              go_wp2
              go_ret2
              exact ⟨by rw [HE.out]; rfl, Below.refl _ _⟩
        · have HS : Hid (rdig 0 (s.data.toList.drop 1) = rdig (10 * a + (s[k].toNat - 48)) (s.data.toList.drop (k + 1))) := Lib.hid (by rw [HR.out, hgl, rdig, if_neg hbad])
          have b1' : ¬ (s[k].toNat : Int) < 48 := by omega
          have b2' : ¬ (57 : Int) < (s[k].toNat : Int) := by omega
          have b3' : ¬ (461168601842738790 : Int) < (a : Int) := by omega
          have b4 : 48 ≤ s[k].toNat := by omega
          have b5 : s[k].toNat ≤ 57 := by omega
          clear hgl hbad
          go_wp2
          go_roundw
          case rel => exact ⟨k + 1, 10 * a + (s[k].toNat - 48), by go_num, by congr 1; omega, by omega, by omega, by simp, HS⟩
          case measure => simp [RowKit.intOf]; omega
      · have hlt' : ¬ (k : Int) < (s.size : Int) := by omega
        have HF : Hid (refNumB s = refTail s (-(a : Int))) := Lib.hid (by
          rw [HN.out, HR.out, List.drop_eq_nil_of_le (by rw [Array.length_toList]; show s.size ≤ k; omega), rdig])
        clear HN HR
        by_cases c1 : 4611686018427387904 < (-(a : Int)) ∨ (-(a : Int)) < -4611686018427387904
        · have HE : Hid (refNumB s = (0, false)) := Lib.hid (by rw [HF.out]; unfold refTail; rw [if_pos (by omega)])
          by_cases c2 : 4611686018427387904 < (-(a : Int))
          · go_wp2
            go_ret2
            exact ⟨by rw [HE.out]; rfl, Below.refl _ _⟩
          · have c3 : (-(a : Int)) < -4611686018427387904 := by omega
            go_wp2
            go_ret2
            exact ⟨by rw [HE.out]; rfl, Below.refl _ _⟩
        · have c2 : ¬ 4611686018427387904 < (-(a : Int)) := by omega
          have c3 : ¬ (-(a : Int)) < -4611686018427387904 := by omega
          have HD := Lib.hid (digits_any (-(a : Int)) wr (by omega) (by omega))
          cases hE : ((decT (-(a : Int))).toList == s.toList) with
          | true =>
            have HE : Hid (refNumB s = ((-(a : Int)), true)) := Lib.hid (by rw [HF.out]; unfold refTail; rw [if_neg (by intro h; rcases h with h | h | h <;> first | omega | (rw [hE] at h; cases h))])
            go_wp2_with (first
              | (go_at_call 108; refine HD.out.mono ?_; rintro e w2 ⟨rfl, hb2⟩; have HB2 := Lib.hid hb2; clear hb2)
              | fail)
            go_ret2
            exact ⟨by rw [HE.out]; rfl, HB2.out⟩
          | false =>
            have HE : Hid (refNumB s = (0, false)) := Lib.hid (by rw [HF.out]; unfold refTail; rw [if_pos (.inr (.inr hE))])
            go_wp2_with (first
              | (go_at_call 108; refine HD.out.mono ?_; rintro e w2 ⟨rfl, hb2⟩; have HB2 := Lib.hid hb2; clear hb2)
              | fail)
            go_ret2
            exact ⟨by rw [HE.out]; rfl, HB2.out⟩
  · have hh : s.data.toList.head? ≠ some 45 := by rw [hhd]; intro h; injection h with h; exact hneg (by rw [h]; rfl)
    have HN : Hid (refNumB s = match rdig 0 (s.data.toList.drop 0) with | none => (0, false) | some a => refTail s (a : Int)) := Lib.hid (by unfold refNumB; rw [if_neg (by omega), if_neg hh])
    have e45 : ((s[0].toNat : Int) == 45) = false := by rw [beq_eq_false_iff_ne]; omega
    clear hh hhd hneg
    go_enter Tryz.func77, Tryz.ntmps77
    go_wp2_with fail
    go_loopw [4, 6] (fun v i wr => ∃ (k a : Nat), i = .int .i64 (k : Int) ∧ v = .int .i64 (a : Int) ∧ k ≤ s.size ∧ a ≤ 4611686018427387909 ∧ wr = w ∧ Hid (rdig 0 (s.data.toList.drop 0) = rdig a (s.data.toList.drop k))) (fun _ i _ => s.size - (RowKit.intOf i).toNat)
    case atStart => exact ⟨0, 0, rfl, rfl, by omega, by omega, rfl, Lib.hid rfl⟩
    case round =>
      obtain ⟨k, a, rfl, rfl, hk, ha, rfl, HR⟩ := hrel
      by_cases hlt : k < s.size
      · have hlt' : (k : Int) < (s.size : Int) := by omega
        have hgl := get_list s k hlt
        by_cases hbad : s[k].toNat < 48 ∨ 57 < s[k].toNat ∨ 461168601842738790 < a
        · have HE : Hid (refNumB s = (0, false)) := Lib.hid (by rw [HN.out, HR.out, hgl, rdig, if_pos hbad])
          clear hgl
          by_cases b1 : s[k].toNat < 48
          · have b1' : (s[k].toNat : Int) < 48 := by omega
            go_wp2
            go_ret2
            exact ⟨by rw [HE.out]; rfl, Below.refl _ _⟩
          · have b1' : ¬ (s[k].toNat : Int) < 48 := by omega
            by_cases b2 : 57 < s[k].toNat
            · have b2' : (57 : Int) < (s[k].toNat : Int) := by omega
              go_wp2
              go_ret2
              exact ⟨by rw [HE.out]; rfl, Below.refl _ _⟩
            · have b2' : ¬ (57 : Int) < (s[k].toNat : Int) := by omega
              have b3 : (461168601842738790 : Int) < (a : Int) := by omega
              go_wp2
              go_ret2
              exact ⟨by rw [HE.out]; rfl, Below.refl _ _⟩
        · have HS : Hid (rdig 0 (s.data.toList.drop 0) = rdig (10 * a + (s[k].toNat - 48)) (s.data.toList.drop (k + 1))) := Lib.hid (by rw [HR.out, hgl, rdig, if_neg hbad])
          have b1' : ¬ (s[k].toNat : Int) < 48 := by omega
          have b2' : ¬ (57 : Int) < (s[k].toNat : Int) := by omega
          have b3' : ¬ (461168601842738790 : Int) < (a : Int) := by omega
          have b4 : 48 ≤ s[k].toNat := by omega
          have b5 : s[k].toNat ≤ 57 := by omega
          clear hgl hbad
          go_wp2
          go_roundw
          case rel => exact ⟨k + 1, 10 * a + (s[k].toNat - 48), by go_num, by congr 1; omega, by omega, by omega, by simp, HS⟩
          case measure => simp [RowKit.intOf]; omega
      · have hlt' : ¬ (k : Int) < (s.size : Int) := by omega
        have HF : Hid (refNumB s = refTail s (a : Int)) := Lib.hid (by
          rw [HN.out, HR.out, List.drop_eq_nil_of_le (by rw [Array.length_toList]; show s.size ≤ k; omega), rdig])
        clear HN HR
        by_cases c1 : 4611686018427387904 < (a : Int) ∨ (a : Int) < -4611686018427387904
        · have HE : Hid (refNumB s = (0, false)) := Lib.hid (by rw [HF.out]; unfold refTail; rw [if_pos (by omega)])
          by_cases c2 : 4611686018427387904 < (a : Int)
          · go_wp2
            go_ret2
            exact ⟨by rw [HE.out]; rfl, Below.refl _ _⟩
          · have c3 : (a : Int) < -4611686018427387904 := by omega
            go_wp2
            go_ret2
            exact ⟨by rw [HE.out]; rfl, Below.refl _ _⟩
        · have c2 : ¬ 4611686018427387904 < (a : Int) := by omega
          have c3 : ¬ (a : Int) < -4611686018427387904 := by omega
          have HD := Lib.hid (digits_any (a : Int) wr (by omega) (by omega))
          cases hE : ((decT (a : Int)).toList == s.toList) with
          | true =>
            have HE : Hid (refNumB s = ((a : Int), true)) := Lib.hid (by rw [HF.out]; unfold refTail; rw [if_neg (by intro h; rcases h with h | h | h <;> first | omega | (rw [hE] at h; cases h))])
            go_wp2_with (first
              | (go_at_call 108; refine HD.out.mono ?_; rintro e w2 ⟨rfl, hb2⟩; have HB2 := Lib.hid hb2; clear hb2)
              | fail)
            go_ret2
            exact ⟨by rw [HE.out]; rfl, HB2.out⟩
          | false =>
            have HE : Hid (refNumB s = (0, false)) := Lib.hid (by rw [HF.out]; unfold refTail; rw [if_pos (.inr (.inr hE))])
            go_wp2_with (first
              | (go_at_call 108; refine HD.out.mono ?_; rintro e w2 ⟨rfl, hb2⟩; have HB2 := Lib.hid hb2; clear hb2)
              | fail)
            go_ret2
            exact ⟨by rw [HE.out]; rfl, HB2.out⟩
end Go.Proofs.YtbkffdfboloogaaGreatDoor
namespace Go.Proofs.YtbkffdfboloogaaGreatDoor
open Go.RowKit Go.Maps Go.Lib
set_option linter.unusedVariables false
set_option maxRecDepth 100000

def valB (s : ByteArray) (k : Int) : Int × Bool := if k ≠ 1 ∧ k ≠ 2 then (0, false) else if (numB s).2 = false ∨ (numB s).1 < 0 ∨ (k = 2 ∧ 1048576 < (numB s).1) then (0, false) else numB s
theorem valB_ok (s : ByteArray) (k : Int) (hk : ¬ (k ≠ 1 ∧ k ≠ 2)) (h2 : (numB s).2 = true) (h3 : ¬ (numB s).1 < 0) (h4 : ¬ (k = 2 ∧ 1048576 < (numB s).1)) : valB s k = ((numB s).1, true) := by
  unfold valB
  rw [if_neg hk, if_neg (by rw [h2]; intro h; rcases h with h | h | h <;> first | (cases h; done) | exact h3 h | exact h4 h)]
  rw [← h2]
theorem valB_no (s : ByteArray) (k : Int) (hk : ¬ (k ≠ 1 ∧ k ≠ 2)) (h : (numB s).2 = false ∨ (numB s).1 < 0 ∨ (k = 2 ∧ 1048576 < (numB s).1)) : valB s k = (0, false) := by
  unfold valB
  rw [if_neg hk, if_pos h]
set_option maxHeartbeats 1000000 in
theorem value_any (s : ByteArray) (k : Int) (w : World) (hG : Gl w) (hs : s.size ≤ 4000000) : Calls Tryz.prog 13 #[.string s, .int .i64 k] w fun e w' => e = .returned (.tuple #[.int .i64 (valB s k).1, .bool (valB s k).2]) ∧ Below w.heap.size w w' := by
  by_cases hk : k ≠ 1 ∧ k ≠ 2
  · have HE : Hid (valB s k = (0, false)) := Lib.hid (by unfold valB; rw [if_pos hk])
    have b1 : (k != 1) = true := by simp [hk.1]
    have b2 : (k != 2) = true := by simp [hk.2]
    have b1' : (k == 1) = false := by simp [hk.1]
    have b2' : (k == 2) = false := by simp [hk.2]
    go_enter Tryz.func13, Tryz.ntmps13
    go_wp2
    go_ret2
    exact ⟨by rw [HE.out]; rfl, Below.refl _ _⟩
  · have HP := Lib.hid (number_any s w hG hs)
    have hk12 : k = 1 ∨ k = 2 := by omega
    by_cases h2 : (numB s).2 = true
    · by_cases h3 : (numB s).1 < 0
      · have HE := Lib.hid (valB_no s k hk (.inr (.inl h3)))
        rw [h2] at HP
        generalize (numB s).1 = v at *
        rcases hk12 with rfl | rfl
        all_goals
          go_enter Tryz.func13, Tryz.ntmps13
          go_wp2_with (first
            | (go_at_call 32; refine HP.out.mono ?_; rintro e w1 ⟨rfl, hb1⟩; have HB1 := Lib.hid hb1; clear hb1)
            | fail)
          go_ret2
          exact ⟨by rw [HE.out]; rfl, HB1.out⟩
      · by_cases h4 : k = 2 ∧ 1048576 < (numB s).1
        · have HE := Lib.hid (valB_no s k hk (.inr (.inr h4)))
          obtain ⟨rfl, h5⟩ := h4
          rw [h2] at HP
          generalize (numB s).1 = v at *
          go_enter Tryz.func13, Tryz.ntmps13
          go_wp2_with (first
            | (go_at_call 32; refine HP.out.mono ?_; rintro e w1 ⟨rfl, hb1⟩; have HB1 := Lib.hid hb1; clear hb1)
            | fail)
          go_ret2
          exact ⟨by rw [HE.out]; rfl, HB1.out⟩
        · have HE := Lib.hid (valB_ok s k hk h2 h3 h4)
          rw [h2] at HP
          generalize (numB s).1 = v at *
          rcases hk12 with rfl | rfl
          · have h5 : True := trivial
            go_enter Tryz.func13, Tryz.ntmps13
            go_wp2_with (first
              | (go_at_call 32; refine HP.out.mono ?_; rintro e w1 ⟨rfl, hb1⟩; have HB1 := Lib.hid hb1; clear hb1)
              | fail)
            go_ret2
            exact ⟨by rw [HE.out]; rfl, HB1.out⟩
          · have h5 : ¬ 1048576 < v := fun h => h4 ⟨rfl, h⟩
            go_enter Tryz.func13, Tryz.ntmps13
            go_wp2_with (first
              | (go_at_call 32; refine HP.out.mono ?_; rintro e w1 ⟨rfl, hb1⟩; have HB1 := Lib.hid hb1; clear hb1)
              | fail)
            go_ret2
            exact ⟨by rw [HE.out]; rfl, HB1.out⟩
    · have h2' : (numB s).2 = false := by simpa using h2
      have HE := Lib.hid (valB_no s k hk (.inl h2'))
      rw [h2'] at HP
      generalize (numB s).1 = v at *
      rcases hk12 with rfl | rfl
      all_goals
        go_enter Tryz.func13, Tryz.ntmps13
        go_wp2_with (first
          | (go_at_call 32; refine HP.out.mono ?_; rintro e w1 ⟨rfl, hb1⟩; have HB1 := Lib.hid hb1; clear hb1)
          | fail)
        go_ret2
        exact ⟨by rw [HE.out]; rfl, HB1.out⟩

set_option maxHeartbeats 1000000 in
theorem refValue_any (s : ByteArray) (k : Int) (w : World) : Calls Tryz.prog 51 #[.string s, .int .i64 k] w fun e w' => e = .returned (.tuple #[.int .i64 (valB s k).1, .bool (valB s k).2]) ∧ Below w.heap.size w w' := by
  by_cases hk : k ≠ 1 ∧ k ≠ 2
  · have HE : Hid (valB s k = (0, false)) := Lib.hid (by unfold valB; rw [if_pos hk])
    have b1 : (k != 1) = true := by simp [hk.1]
    have b2 : (k != 2) = true := by simp [hk.2]
    have b1' : (k == 1) = false := by simp [hk.1]
    have b2' : (k == 2) = false := by simp [hk.2]
    go_enter Tryz.func51, Tryz.ntmps51
    go_wp2
    go_ret2
    exact ⟨by rw [HE.out]; rfl, Below.refl _ _⟩
  · have HP := Lib.hid (refNumber_any s w)
    have hk12 : k = 1 ∨ k = 2 := by omega
    by_cases h2 : (numB s).2 = true
    · by_cases h3 : (numB s).1 < 0
      · have HE := Lib.hid (valB_no s k hk (.inr (.inl h3)))
        rw [h2] at HP
        generalize (numB s).1 = v at *
        rcases hk12 with rfl | rfl
        all_goals
          go_enter Tryz.func51, Tryz.ntmps51
          go_wp2_with (first
            | (go_at_call 77; refine HP.out.mono ?_; rintro e w1 ⟨rfl, hb1⟩; have HB1 := Lib.hid hb1; clear hb1)
            | fail)
          go_ret2
          exact ⟨by rw [HE.out]; rfl, HB1.out⟩
      · by_cases h4 : k = 2 ∧ 1048576 < (numB s).1
        · have HE := Lib.hid (valB_no s k hk (.inr (.inr h4)))
          obtain ⟨rfl, h5⟩ := h4
          rw [h2] at HP
          generalize (numB s).1 = v at *
          go_enter Tryz.func51, Tryz.ntmps51
          go_wp2_with (first
            | (go_at_call 77; refine HP.out.mono ?_; rintro e w1 ⟨rfl, hb1⟩; have HB1 := Lib.hid hb1; clear hb1)
            | fail)
          go_ret2
          exact ⟨by rw [HE.out]; rfl, HB1.out⟩
        · have HE := Lib.hid (valB_ok s k hk h2 h3 h4)
          rw [h2] at HP
          generalize (numB s).1 = v at *
          rcases hk12 with rfl | rfl
          · have h5 : True := trivial
            go_enter Tryz.func51, Tryz.ntmps51
            go_wp2_with (first
              | (go_at_call 77; refine HP.out.mono ?_; rintro e w1 ⟨rfl, hb1⟩; have HB1 := Lib.hid hb1; clear hb1)
              | fail)
            go_ret2
            exact ⟨by rw [HE.out]; rfl, HB1.out⟩
          · have h5 : ¬ 1048576 < v := fun h => h4 ⟨rfl, h⟩
            go_enter Tryz.func51, Tryz.ntmps51
            go_wp2_with (first
              | (go_at_call 77; refine HP.out.mono ?_; rintro e w1 ⟨rfl, hb1⟩; have HB1 := Lib.hid hb1; clear hb1)
              | fail)
            go_ret2
            exact ⟨by rw [HE.out]; rfl, HB1.out⟩
    · have h2' : (numB s).2 = false := by simpa using h2
      have HE := Lib.hid (valB_no s k hk (.inl h2'))
      rw [h2'] at HP
      generalize (numB s).1 = v at *
      rcases hk12 with rfl | rfl
      all_goals
        go_enter Tryz.func51, Tryz.ntmps51
        go_wp2_with (first
          | (go_at_call 77; refine HP.out.mono ?_; rintro e w1 ⟨rfl, hb1⟩; have HB1 := Lib.hid hb1; clear hb1)
          | fail)
        go_ret2
        exact ⟨by rw [HE.out]; rfl, HB1.out⟩
end Go.Proofs.YtbkffdfboloogaaGreatDoor
namespace Go.Proofs.YtbkffdfboloogaaGreatDoor
open Go.RowKit Go.Maps Go.Lib
set_option linter.unusedVariables false
set_option maxRecDepth 100000

def inL (L : List ByteArray) (s : ByteArray) : Bool := L.any fun x => x.toList == s.toList
theorem ba_tl {x y : ByteArray} (h : x.toList = y.toList) : x = y := by
  rw [ByteArray.toList_eq, ByteArray.toList_eq] at h
  exact ByteArray.ext (Array.ext' h)
theorem inL_iff (L : List ByteArray) (s : ByteArray) : inL L s = true ↔ s ∈ L := by
  unfold inL
  rw [List.any_eq_true]
  constructor
  · rintro ⟨x, hx, e⟩
    rw [← ba_tl (beq_iff_eq.1 e)]; exact hx
  · intro h
    exact ⟨s, h, by simp⟩
theorem inL_contains (L : List ByteArray) (s : ByteArray) : Lib.containsS L s = inL L s := by
  rw [Bool.eq_iff_iff, inL_iff, Lib.containsS_iff]
theorem contains_any (A : Option Addr) (c : Nat) (L : List ByteArray) (s : ByteArray) (w : World) (hR : Rs w w.heap.size A L) (hl : L.length ≤ 1000) : Calls Tryz.prog 70 #[.slice A L.length c, .string s] w fun e w' => e = .returned (.bool (inL L s)) ∧ w' = w := by
  rcases Nat.eq_zero_or_pos L.length with h0 | h0
  · obtain rfl := List.length_eq_zero_iff.1 h0
    exact Tryz.slices_Contains_string_empty A c s w
  · obtain ⟨g, off, rfl, hg, hc⟩ := hR h0
    have := Tryz.slices_Contains_string g off L.length c L s w (Nat.le_refl _) (by omega) (fun j hj => by
      rw [hc j _ (List.getElem?_eq_getElem hj)]
      simp [hj])
    rw [List.take_length, inL_contains] at this
    exact this
theorem fieldsL_len (k : Int) : (fieldsL k).length ≤ 9 := by
  unfold fieldsL
  repeat' split
  all_goals first | (simp [fl0]; done) | (simp [fl1]; done) | (simp [fl2]; done) | (simp [fl3]; done) | (simp [fl4]; done) | (simp [fl5]; done) | simp

set_option maxHeartbeats 1000000 in
theorem has_any (k : Int) (s : ByteArray) (w : World) : Calls Tryz.prog 37 #[.int .i64 k, .string s] w fun e w' => e = .returned (.bool (inL (fieldsL k) s)) ∧ Below w.heap.size w w' := by
  have hl := fieldsL_len k
  have HF := Lib.hid (fields_any k w)
  go_enter Tryz.func37, Tryz.ntmps37
  go_wp2_with fail
  refine HF.out.mono ?_
  rintro e w1 ⟨A, c, rfl, hR, hb⟩
  have HC := Lib.hid (contains_any A c (fieldsL k) s w1 hR (by omega))
  have HB := Lib.hid hb
  clear hR hb HF
  go_wp2_with fail
  refine HC.out.mono ?_
  rintro e w2 ⟨rfl, rfl⟩
  go_wp2
  go_ret
  exact ⟨rfl, HB.out⟩
set_option maxHeartbeats 1000000 in
theorem in_any (A : Option Addr) (c : Nat) (L : List ByteArray) (s : ByteArray) (w : World) (hR : Rs w w.heap.size A L) (hl : L.length ≤ 1000) : Calls Tryz.prog 48 #[.slice A L.length c, .string s] w fun e w' => e = .returned (.bool (inL L s)) ∧ w' = w := by
  have HR := Lib.hid hR
  clear hR
  go_enter Tryz.func48, Tryz.ntmps48
  go_wp2_with fail
  go_loopw [5] (fun i wr => ∃ k : Nat, i = .int .i64 (k : Int) ∧ k ≤ L.length ∧ wr = w ∧ Hid (inL L s = inL (L.drop k) s)) (fun i _ => L.length - (RowKit.intOf i).toNat)
  case atStart => exact ⟨0, rfl, Nat.zero_le _, rfl, Lib.hid rfl⟩
  case round =>
    obtain ⟨k, rfl, hk, rfl, HI⟩ := hrel
    by_cases hlt : k < L.length
    · have hlt' : (k : Int) < (L.length : Int) := by omega
      obtain ⟨g, off, rfl, hg, hc⟩ := HR.out.at_ hlt
      have hst : inL (L.drop k) s = ((L[k].toList == s.toList) || inL (L.drop (k + 1)) s) := by
        rw [List.drop_eq_getElem_cons hlt]
        rfl
      have Hst := Lib.hid hst
      clear hst
      generalize L[k] = x at *
      cases hq : (x.toList == s.toList) with
      | true =>
        have HE : Hid (inL L s = true) := Lib.hid (by rw [HI.out, Hst.out, hq]; rfl)
        go_wp2
        go_ret
        exact ⟨by rw [HE.out]; rfl, rfl⟩
      | false =>
        have HN : Hid (inL L s = inL (L.drop (k + 1)) s) := Lib.hid (by rw [HI.out, Hst.out, hq]; rfl)
        go_wp2
        go_roundw
        case rel => exact ⟨k + 1, by go_num, by omega, by simp, HN⟩
        case measure => simp [RowKit.intOf]; omega
    · have hlt' : ¬ (k : Int) < (L.length : Int) := by omega
      have HE : Hid (inL L s = false) := Lib.hid (by rw [HI.out, List.drop_eq_nil_of_le (by omega)]; rfl)
      go_wp2
      go_ret
      exact ⟨by rw [HE.out]; rfl, rfl⟩

abbrev sumT : List UInt8 := [115, 117, 109]
abbrev boxesT : List UInt8 := [98, 111, 120, 101, 115]
abbrev termT : List UInt8 := [116, 101, 114, 109]
abbrev issuedT : List UInt8 := [105, 115, 115, 117, 101, 100]
def is1 (s : ByteArray) : Bool := (s.toList == sumT) || (s.toList == boxesT) || (s.toList == termT)
/-- is there a kind, from k on, that has the field? -/
def someK (s : ByteArray) : Nat → Nat → Bool
  | 0, _ => false
  | n + 1, k => inL (fieldsL (k : Nat)) s || someK s n (k + 1)
def typeB (s : ByteArray) : Int := if is1 s then 1 else if s.toList == issuedT then 2 else if someK s 6 0 then 0 else -1

set_option maxHeartbeats 1000000 in
theorem type_any (s : ByteArray) (w : World) : Calls Tryz.prog 15 #[.string s] w fun e w' => e = .returned (.int .i64 (typeB s)) ∧ Below w.heap.size w w' := by
  cases q1 : (s.toList == sumT) with
  | true =>
    have HE : Hid (typeB s = 1) := Lib.hid (by unfold typeB is1; rw [q1]; rfl)
    change (s.toList == [115, 117, 109]) = _ at q1
    go_enter Tryz.func15, Tryz.ntmps15
    go_wp2
    go_ret
    exact ⟨by rw [HE.out]; rfl, Below.refl _ _⟩
  | false =>
    cases q2 : (s.toList == boxesT) with
    | true =>
      have HE : Hid (typeB s = 1) := Lib.hid (by unfold typeB is1; rw [q1, q2]; rfl)
      change (s.toList == [115, 117, 109]) = _ at q1
      change (s.toList == [98, 111, 120, 101, 115]) = _ at q2
      go_enter Tryz.func15, Tryz.ntmps15
      go_wp2
      go_ret
      exact ⟨by rw [HE.out]; rfl, Below.refl _ _⟩
    | false =>
      cases q3 : (s.toList == termT) with
      | true =>
        have HE : Hid (typeB s = 1) := Lib.hid (by unfold typeB is1; rw [q1, q2, q3]; rfl)
        change (s.toList == [115, 117, 109]) = _ at q1
        change (s.toList == [98, 111, 120, 101, 115]) = _ at q2
        change (s.toList == [116, 101, 114, 109]) = _ at q3
        go_enter Tryz.func15, Tryz.ntmps15
        go_wp2
        go_ret
        exact ⟨by rw [HE.out]; rfl, Below.refl _ _⟩
      | false =>
        have h1 : is1 s = false := by unfold is1; rw [q1, q2, q3]; rfl
        cases q4 : (s.toList == issuedT) with
        | true =>
          have HE : Hid (typeB s = 2) := Lib.hid (by unfold typeB; rw [h1, q4]; rfl)
          change (s.toList == [115, 117, 109]) = _ at q1
          change (s.toList == [98, 111, 120, 101, 115]) = _ at q2
          change (s.toList == [116, 101, 114, 109]) = _ at q3
          change (s.toList == [105, 115, 115, 117, 101, 100]) = _ at q4
          go_enter Tryz.func15, Tryz.ntmps15
          go_wp2
          go_ret
          exact ⟨by rw [HE.out]; rfl, Below.refl _ _⟩
        | false =>
          have HT : Hid (typeB s = if someK s 6 0 then 0 else -1) := Lib.hid (by unfold typeB; rw [h1, q4]; rfl)
          change (s.toList == [115, 117, 109]) = _ at q1
          change (s.toList == [98, 111, 120, 101, 115]) = _ at q2
          change (s.toList == [116, 101, 114, 109]) = _ at q3
          change (s.toList == [105, 115, 115, 117, 101, 100]) = _ at q4
          go_enter Tryz.func15, Tryz.ntmps15
          go_wp2_with fail
          go_loopw [11] (fun i wr => ∃ k : Nat, i = .int .i64 (k : Int) ∧ k ≤ 6 ∧ Hid (someK s 6 0 = someK s (6 - k) k) ∧ Hid (Below w.heap.size w wr)) (fun i _ => 6 - (RowKit.intOf i).toNat)
          case atStart => exact ⟨0, rfl, by omega, Lib.hid rfl, Lib.hid (Below.refl _ _)⟩
          case round =>
            obtain ⟨k, rfl, hk, HI, HB⟩ := hrel
            by_cases hlt : k < 6
            · have hlt' : (k : Int) < 6 := by omega
              obtain ⟨j, hj⟩ : ∃ j, 6 - k = j + 1 := ⟨5 - k, by omega⟩
              have hst : someK s (6 - k) k = (inL (fieldsL (k : Nat)) s || someK s (6 - (k + 1)) (k + 1)) := by
                rw [hj, show 6 - (k + 1) = j by omega, someK]
              have Hst := Lib.hid hst
              clear hst hj

              have HH := Lib.hid (has_any (k : Int) s wr)
              cases hin : inL (fieldsL (k : Nat)) s with
              | true =>
                have HE : Hid (typeB s = 0) := Lib.hid (by rw [HT.out, HI.out, Hst.out, hin]; rfl)
                rw [hin] at HH
                go_wp2_with (first
                  | (go_at_call 37; refine HH.out.mono ?_; rintro e w1 ⟨rfl, hb1⟩; have HB1 := Lib.hid hb1; clear hb1)
                  | fail)
                go_ret
                exact ⟨by rw [HE.out]; rfl, HB.out.trans (HB1.out.mono HB.out.size)⟩
              | false =>
                have HN : Hid (someK s 6 0 = someK s (6 - (k + 1)) (k + 1)) := Lib.hid (by rw [HI.out, Hst.out, hin]; rfl)
                rw [hin] at HH
                go_wp2_with (first
                  | (go_at_call 37; refine HH.out.mono ?_; rintro e w1 ⟨rfl, hb1⟩; have HB1 := Lib.hid hb1; clear hb1)
                  | fail)
                go_roundw
                case rel => exact ⟨k + 1, by go_num, by omega, HN, Lib.hid (HB.out.trans (HB1.out.mono HB.out.size))⟩
                case measure => simp [RowKit.intOf]; omega
            · have hlt' : ¬ (k : Int) < 6 := by omega
              have HE : Hid (typeB s = -1) := Lib.hid (by rw [HT.out, HI.out, show 6 - k = 0 by omega]; rfl)
              go_wp2
              go_ret
              exact ⟨by rw [HE.out]; rfl, HB.out⟩
set_option maxHeartbeats 1000000 in
theorem refType_any (s : ByteArray) (w : World) : Calls Tryz.prog 50 #[.string s] w fun e w' => e = .returned (.int .i64 (typeB s)) ∧ Below w.heap.size w w' := by
  cases q1 : (s.toList == sumT) with
  | true =>
    have HE : Hid (typeB s = 1) := Lib.hid (by unfold typeB is1; rw [q1]; rfl)
    change (s.toList == [115, 117, 109]) = _ at q1
    go_enter Tryz.func50, Tryz.ntmps50
    go_wp2
    go_ret
    exact ⟨by rw [HE.out]; rfl, Below.refl _ _⟩
  | false =>
    cases q2 : (s.toList == boxesT) with
    | true =>
      have HE : Hid (typeB s = 1) := Lib.hid (by unfold typeB is1; rw [q1, q2]; rfl)
      change (s.toList == [115, 117, 109]) = _ at q1
      change (s.toList == [98, 111, 120, 101, 115]) = _ at q2
      go_enter Tryz.func50, Tryz.ntmps50
      go_wp2
      go_ret
      exact ⟨by rw [HE.out]; rfl, Below.refl _ _⟩
    | false =>
      cases q3 : (s.toList == termT) with
      | true =>
        have HE : Hid (typeB s = 1) := Lib.hid (by unfold typeB is1; rw [q1, q2, q3]; rfl)
        change (s.toList == [115, 117, 109]) = _ at q1
        change (s.toList == [98, 111, 120, 101, 115]) = _ at q2
        change (s.toList == [116, 101, 114, 109]) = _ at q3
        go_enter Tryz.func50, Tryz.ntmps50
        go_wp2
        go_ret
        exact ⟨by rw [HE.out]; rfl, Below.refl _ _⟩
      | false =>
        have h1 : is1 s = false := by unfold is1; rw [q1, q2, q3]; rfl
        cases q4 : (s.toList == issuedT) with
        | true =>
          have HE : Hid (typeB s = 2) := Lib.hid (by unfold typeB; rw [h1, q4]; rfl)
          change (s.toList == [115, 117, 109]) = _ at q1
          change (s.toList == [98, 111, 120, 101, 115]) = _ at q2
          change (s.toList == [116, 101, 114, 109]) = _ at q3
          change (s.toList == [105, 115, 115, 117, 101, 100]) = _ at q4
          go_enter Tryz.func50, Tryz.ntmps50
          go_wp2
          go_ret
          exact ⟨by rw [HE.out]; rfl, Below.refl _ _⟩
        | false =>
          have HT : Hid (typeB s = if someK s 6 0 then 0 else -1) := Lib.hid (by unfold typeB; rw [h1, q4]; rfl)
          change (s.toList == [115, 117, 109]) = _ at q1
          change (s.toList == [98, 111, 120, 101, 115]) = _ at q2
          change (s.toList == [116, 101, 114, 109]) = _ at q3
          change (s.toList == [105, 115, 115, 117, 101, 100]) = _ at q4
          go_enter Tryz.func50, Tryz.ntmps50
          go_wp2_with fail
          go_loopw [3] (fun i wr => ∃ k : Nat, i = .int .i64 (k : Int) ∧ k ≤ 6 ∧ Hid (someK s 6 0 = someK s (6 - k) k) ∧ Hid (Below w.heap.size w wr)) (fun i _ => 6 - (RowKit.intOf i).toNat)
          case atStart => exact ⟨0, rfl, by omega, Lib.hid rfl, Lib.hid (Below.refl _ _)⟩
          case round =>
            obtain ⟨k, rfl, hk, HI, HB⟩ := hrel
            by_cases hlt : k < 6
            · have hlt' : (k : Int) < 6 := by omega
              obtain ⟨j, hj⟩ : ∃ j, 6 - k = j + 1 := ⟨5 - k, by omega⟩
              have hst : someK s (6 - k) k = (inL (fieldsL (k : Nat)) s || someK s (6 - (k + 1)) (k + 1)) := by
                rw [hj, show 6 - (k + 1) = j by omega, someK]
              have Hst := Lib.hid hst
              clear hst hj

              have hl9 := fieldsL_len (k : Int)
              have HF := Lib.hid (refFields_any (k : Int) wr)
              cases hin : inL (fieldsL (k : Nat)) s with
              | true =>
                have HE : Hid (typeB s = 0) := Lib.hid (by rw [HT.out, HI.out, Hst.out, hin]; rfl)
                clear Hst HI HT
                go_wp2_with fail
                refine HF.out.mono ?_
                rintro e w1 ⟨A, c, rfl, hR, hb1⟩
                have HC := Lib.hid (in_any A c (fieldsL (k : Int)) s w1 hR (by omega))
                rw [hin] at HC
                have HB1 := Lib.hid hb1
                clear hR hb1 hin
                generalize fieldsL (k : Int) = L at *
                go_wp2_with fail
                refine HC.out.mono ?_
                rintro e w2 ⟨rfl, rfl⟩
                go_wp2
                go_ret
                exact ⟨by rw [HE.out]; rfl, HB.out.trans (HB1.out.mono HB.out.size)⟩
              | false =>
                have HN : Hid (someK s 6 0 = someK s (6 - (k + 1)) (k + 1)) := Lib.hid (by rw [HI.out, Hst.out, hin]; rfl)
                clear Hst HI
                go_wp2_with fail
                refine HF.out.mono ?_
                rintro e w1 ⟨A, c, rfl, hR, hb1⟩
                have HC := Lib.hid (in_any A c (fieldsL (k : Int)) s w1 hR (by omega))
                rw [hin] at HC
                have HB1 := Lib.hid hb1
                clear hR hb1 hin
                generalize fieldsL (k : Int) = L at *
                go_wp2_with fail
                refine HC.out.mono ?_
                rintro e w2 ⟨rfl, rfl⟩
                go_wp2
                go_roundw
                case rel => exact ⟨k + 1, by go_num, by omega, HN, Lib.hid (HB.out.trans (HB1.out.mono HB.out.size))⟩
                case measure => simp [RowKit.intOf]; omega
            · have hlt' : ¬ (k : Int) < 6 := by omega
              have HE : Hid (typeB s = -1) := Lib.hid (by rw [HT.out, HI.out, show 6 - k = 0 by omega]; rfl)
              go_wp2
              go_ret
              exact ⟨by rw [HE.out]; rfl, HB.out⟩

end Go.Proofs.YtbkffdfboloogaaGreatDoor
