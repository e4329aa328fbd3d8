/- Names, days, marks: what they answer is a truth value; what it bounds. mark.Name, of any text. slices.ContainsFunc over texts, of any function value: some truth value. A number's digits. mark.Right: a mark has twelve bytes. -/
import Derived.Test.YtdinloecgaapaaaGreatDoorMRShelf
import Derived.Test.YtdinloecgaapaaaGreatDoorMGMap
import Derived.Deep.QuietTactic
import Derived.Test.YtdinloecgaapaaaGreatDoorMRNum
import Derived.Lib.ItoaNum
import Derived.BigQuiet
namespace Go.Proofs.YtdinloecgaapaaaGreatDoor
open Go.RowKit Go.Lib
set_option linter.unusedVariables false
set_option maxRecDepth 100000

/-- a truth value comes back; true tells T -/
def BoolP (T : Prop) (w : World) (e : Ending) (w' : World) : Prop := ∃ r : Bool, e = .returned (.bool r) ∧ (r = true → T) ∧ Below w.heap.size w w'
theorem BoolP.no {T : Prop} {w W : World} (hb : Below w.heap.size w W) : BoolP T w (.returned (.bool false)) W := ⟨false, rfl, fun h => (by cases h), hb⟩
theorem BoolP.yes {T : Prop} {w W : World} (hT : T) (hb : Below w.heap.size w W) : BoolP T w (.returned (.bool true)) W := ⟨true, rfl, fun _ => hT, hb⟩
theorem BoolP.any {w W : World} (r : Bool) (hb : Below w.heap.size w W) : BoolP True w (.returned (.bool r)) W := ⟨r, rfl, fun _ => trivial, hb⟩
set_option maxHeartbeats 1000000 in
theorem name_r (s : ByteArray) (w : World) (hs : s.size ≤ maxLen) :
    Calls Tryz.prog 79 #[.string s] w fun e w' => BoolP (s.size ≤ 16) w e w' := by
  unfold maxLen at hs
  have HN : Hid (∀ W, Below w.heap.size w W → BoolP (s.size ≤ 16) w (.returned (.bool false)) W) := Lib.hid (fun W hb => BoolP.no hb)
  have HY : Hid (s.size ≤ 16 → ∀ W, Below w.heap.size w W → BoolP (s.size ≤ 16) w (.returned (.bool true)) W) := Lib.hid (fun h W hb => BoolP.yes h hb)
  generalize BoolP (s.size ≤ 16) w = CP at *
  by_cases h1 : s.size < 1
  · go_enter Tryz.func79, Tryz.ntmps79
    go_wp2
    first
      | exact HN.out _ (Below.refl _ _)
      | (go_ret; exact HN.out _ (Below.refl _ _))
  by_cases h2 : 16 < s.size
  · go_enter Tryz.func79, Tryz.ntmps79
    go_wp2
    first
      | exact HN.out _ (Below.refl _ _)
      | (go_ret; exact HN.out _ (Below.refl _ _))
  have HY' := Lib.hid (HY.out (by omega))
  clear HY
  go_enter Tryz.func79, Tryz.ntmps79
  go_wp2
  go_loop [14] (fun i => ∃ k : Nat, k ≤ s.size ∧ i = .int .i64 k) (fun i => s.size - (intOf i).toNat)
  case atStart => exact ⟨0, Nat.zero_le _, rfl⟩
  case round =>
    obtain ⟨k, hk, rfl⟩ := hrel
    by_cases hlt : k < s.size
    · go_wp2
      all_goals
        first
          | (go_round
             case rel => exact ⟨k + 1, by omega, by go_num⟩
             case measure => simp [intOf]; omega)
          | exact HN.out _ (Below.refl _ _)
          | (go_ret; exact HN.out _ (Below.refl _ _))
    · go_wp2
      first
        | exact HY'.out _ (Below.refl _ _)
        | (go_ret; exact HY'.out _ (Below.refl _ _))
theorem isDay_r (n : Int) (w : World) : Calls Tryz.prog 102 #[.int .i64 n] w fun e w' => BoolP True w e w' := by
  have HA : Hid (∀ (r : Bool) W, Below w.heap.size w W → BoolP True w (.returned (.bool r)) W) := Lib.hid (fun r W hb => BoolP.any r hb)
  generalize BoolP True w = CP at *
  go_enter Tryz.func102, Tryz.ntmps102
  go_wp2
  all_goals
    first
      | exact HA.out _ _ (Below.refl _ _)
      | (go_ret; exact HA.out _ _ (Below.refl _ _))
end Go.Proofs.YtdinloecgaapaaaGreatDoor
namespace Go.Proofs.YtdinloecgaapaaaGreatDoor
open Go.RowKit Go.Maps Go.Lib
set_option linter.unusedVariables false
set_option maxRecDepth 100000

set_option maxHeartbeats 1000000 in
theorem name_r' (s : ByteArray) (w : World) :
    Calls Tryz.prog 79 #[.string s] w fun e w' => BoolP (s.size ≤ 16) w e w' := by
  have HN : Hid (∀ W, Below w.heap.size w W → BoolP (s.size ≤ 16) w (.returned (.bool false)) W) := Lib.hid (fun W hb => BoolP.no hb)
  have HY : Hid (s.size ≤ 16 → ∀ W, Below w.heap.size w W → BoolP (s.size ≤ 16) w (.returned (.bool true)) W) := Lib.hid (fun h W hb => BoolP.yes h hb)
  generalize BoolP (s.size ≤ 16) w = CP at *
  by_cases h1 : s.size < 1
  · go_enter Tryz.func79, Tryz.ntmps79
    go_wp2
    first
      | exact HN.out _ (Below.refl _ _)
      | (go_ret; exact HN.out _ (Below.refl _ _))
  by_cases h2 : 16 < s.size
  · go_enter Tryz.func79, Tryz.ntmps79
    go_wp2
    first
      | exact HN.out _ (Below.refl _ _)
      | (go_ret; exact HN.out _ (Below.refl _ _))
  have hs : s.size ≤ 16 := by omega
  have HY' := Lib.hid (HY.out (by omega))
  clear HY
  go_enter Tryz.func79, Tryz.ntmps79
  go_wp2
  go_loop [14] (fun i => ∃ k : Nat, k ≤ s.size ∧ i = .int .i64 k) (fun i => s.size - (intOf i).toNat)
  case atStart => exact ⟨0, Nat.zero_le _, rfl⟩
  case round =>
    obtain ⟨k, hk, rfl⟩ := hrel
    by_cases hlt : k < s.size
    · go_wp2
      all_goals
        first
          | (go_round
             case rel => exact ⟨k + 1, by omega, by go_num⟩
             case measure => simp [intOf]; omega)
          | exact HN.out _ (Below.refl _ _)
          | (go_ret; exact HN.out _ (Below.refl _ _))
    · go_wp2
      first
        | exact HY'.out _ (Below.refl _ _)
        | (go_ret; exact HY'.out _ (Below.refl _ _))
end Go.Proofs.YtdinloecgaapaaaGreatDoor
namespace Go.Proofs.YtdinloecgaapaaaGreatDoor
open Go.RowKit Go.Maps Go.Lib
set_option linter.unusedVariables false
set_option maxRecDepth 100000

def IdxP (w : World) (e : Ending) (w' : World) : Prop := ∃ i : Int, e = .returned (.int .i64 i) ∧ Below w.heap.size w w'
set_option maxHeartbeats 4000000 in
theorem indexF_r (A : Option Addr) (c : Nat) (L : List ByteArray) (f : FuncId) (cap : Array Value) (w : World) (hR : Rs w w.heap.size A L) (hl : L.length ≤ 100000000) (eg : ∀ args w, (callFunc f args).run Tryz.prog w = .ok (.enter f args) w)
    (hT : ∀ (i : Nat) x, L[i]? = some x → ∀ W, Below w.heap.size w W → Calls Tryz.prog f (#[.string x] ++ cap) W fun e w' => CkP (fun _ => True) W e w') :
    Calls Tryz.prog 107 #[.slice A L.length c, .func (.func f) #[] cap] w fun e w' => IdxP w e w' := by
  have HT := Lib.hid hT
  have HR := Lib.hid hR
  have HF : Hid (∀ (i : Int) W, Below w.heap.size w W → IdxP w (.returned (.int .i64 i)) W) := Lib.hid (fun i W hb => ⟨i, rfl, hb⟩)
  generalize IdxP w = CP at *
  clear hT hR
  go_enter Tryz.func107, Tryz.ntmps107
  go_wp2_with fail
  go_loopw [8] (fun i wr => ∃ k : Nat, k ≤ L.length ∧ i = .int .i64 (k : Int) ∧ Hid (Below w.heap.size w wr)) (fun i _ => L.length - (RowKit.intOf i).toNat)
  case atStart => exact ⟨0, Nat.zero_le _, rfl, Lib.hid (Below.refl _ _)⟩
  case round =>
    obtain ⟨k, hk, rfl, HB⟩ := hrel
    by_cases hlt : k < L.length
    · have b1 : (k : Int) < (L.length : Int) := by omega
      have b0 : (0 : Int) ≤ (k : Int) := by omega
      obtain ⟨g, off, hA, hg, hc⟩ := HR.out (by omega)
      have hx := List.getElem?_eq_getElem hlt
      have c0 := (HB.out.cell (p := ⟨g, off + k, none⟩) hg).trans (hc k _ hx)
      have HTk := Lib.hid (HT.out k _ hx wr HB.out)
      clear HT hx hc HR hg
      subst hA
      generalize L[k] = x at *
      go_wp2_with (first
        | (go_at_fn f; refine HTk.out.mono ?_; rintro en w3 ⟨rb, rfl, _, hb3⟩; have HB3 := Lib.hid (HB.out.trans (hb3.mono HB.out.size)); clear hb3; cases rb)
        | fail)
      all_goals
        first
          | exact ⟨⟨k + 1, by omega, by go_num, HB3⟩, by simp [RowKit.intOf]; omega⟩
          | exact HF.out _ _ HB3.out
          | (go_ret; exact HF.out _ _ HB3.out)
    · have b1 : ¬ (k : Int) < (L.length : Int) := by omega
      go_wp2_with fail
      first
        | exact HF.out _ _ HB.out
        | (go_ret; exact HF.out _ _ HB.out)
theorem containsF_r (A : Option Addr) (c : Nat) (L : List ByteArray) (f : FuncId) (cap : Array Value) (w : World) (hR : Rs w w.heap.size A L) (hl : L.length ≤ 100000000) (eg : ∀ args w, (callFunc f args).run Tryz.prog w = .ok (.enter f args) w)
    (hT : ∀ (i : Nat) x, L[i]? = some x → ∀ W, Below w.heap.size w W → Calls Tryz.prog f (#[.string x] ++ cap) W fun e w' => CkP (fun _ => True) W e w') :
    Calls Tryz.prog 82 #[.slice A L.length c, .func (.func f) #[] cap] w fun e w' => CkP (fun _ => True) w e w' := by
  have HI := Lib.hid (indexF_r A c L f cap w hR hl eg hT)
  have HF : Hid (∀ (r : Bool) W, Below w.heap.size w W → CkP (fun _ => True) w (.returned (.bool r)) W) := Lib.hid (fun r W hb => ⟨r, rfl, trivial, hb⟩)
  generalize CkP (fun _ => True) w = CP at *
  clear hT hR
  go_enter Tryz.func82, Tryz.ntmps82
  go_wp2_with (first
    | (go_at_call 107; refine HI.out.mono ?_; rintro en w2 ⟨i, rfl, hb2⟩; have HB2 := Lib.hid hb2; clear hb2)
    | fail)
  first
    | exact HF.out _ _ HB2.out
    | (go_ret; exact HF.out _ _ HB2.out)
/-- may$1: is a text no name? -/
theorem may1_r (s : ByteArray) (w : World) : Calls Tryz.prog 104 #[.string s] w fun e w' => CkP (fun _ => True) w e w' := by
  have HN := Lib.hid (name_r' s w)
  have HF : Hid (∀ (r : Bool) W, Below w.heap.size w W → CkP (fun _ => True) w (.returned (.bool r)) W) := Lib.hid (fun r W hb => ⟨r, rfl, trivial, hb⟩)
  generalize CkP (fun _ => True) w = CP at *
  go_enter Tryz.func104, Tryz.ntmps104
  go_wp2_with (first
    | (go_at_call 79; refine HN.out.mono ?_; rintro en w2 ⟨rb, rfl, _, hb2⟩; have HB2 := Lib.hid hb2; clear hb2)
    | fail)
  first
    | exact HF.out _ _ HB2.out
    | (go_ret; exact HF.out _ _ HB2.out)
end Go.Proofs.YtdinloecgaapaaaGreatDoor
namespace Go.Proofs.YtdinloecgaapaaaGreatDoor
open Go.RowKit Go.Lib
set_option linter.unusedVariables false

def dg (m : Nat) : UInt8 := UInt8.ofNat (48 + m % 10)
theorem dg_nat (m : Nat) : (dg m).toNat = 48 + m % 10 := by
  unfold dg
  rw [UInt8.toNat_ofNat']
  omega
theorem dec_small {m : Nat} (h : m < 10) : decDigits m = [dg m] := by
  rw [decDigits]; simp [h, dg, Nat.mod_eq_of_lt h]
theorem dec_big {m : Nat} (h : ¬ m < 10) : decDigits m = decDigits (m / 10) ++ [dg m] := by
  rw [decDigits]; simp [h, dg]
end Go.Proofs.YtdinloecgaapaaaGreatDoor
namespace Go.Proofs.YtdinloecgaapaaaGreatDoor
open Go.RowKit Go.Lib
set_option linter.unusedVariables false
set_option maxRecDepth 100000

theorem wr64 (x : Int) (h0 : -9223372036854775808 ≤ x) (h1 : x ≤ 9223372036854775807) : wrap64 x = x := by
  unfold wrap64
  omega
/-- a number comes back, of a few -/
def SumP (w : World) (e : Ending) (w' : World) : Prop := ∃ n : Int, e = .returned (.int .i64 n) ∧ -1 ≤ n ∧ n < 97 ∧ Below w.heap.size w w'
set_option maxHeartbeats 4000000 in
theorem sum_r (s : ByteArray) (w : World) (hs : s.size = 12) : Calls Tryz.prog 138 #[.string s] w fun e w' => SumP w e w' := by
  have HN : Hid (SumP w (.returned (.int .i64 (-1))) w) := Lib.hid ⟨-1, rfl, by omega, by omega, Below.refl _ _⟩
  have HY : Hid (∀ n : Nat, SumP w (.returned (.int .i64 ((n : Int) % 97))) w) := Lib.hid (fun n => ⟨_, rfl, by omega, by omega, Below.refl _ _⟩)
  generalize SumP w = CP at *
  go_enter Tryz.func138, Tryz.ntmps138
  go_wp2
  go_loop [3, 9] (fun v i => ∃ k n : Nat, k ≤ 10 ∧ n ≤ 3000 * k ∧ i = .int .i64 (k : Int) ∧ v = .int .i64 (n : Int)) (fun _ i => 10 - (intOf i).toNat)
  case atStart => exact ⟨0, 0, by omega, by omega, rfl, rfl⟩
  case round =>
    obtain ⟨k, n, hk, hn, rfl, rfl⟩ := hrel
    by_cases hlt : k < 10
    · have hks : k < s.size := by omega
      have b1 : (k : Int) < 10 := by omega
      have b2 : (k : Int) < (s.size : Int) := by omega
      have b0 : (0 : Int) ≤ (k : Int) := by omega
      have hc : s[k].toNat < 256 := s[k].toNat_lt
      by_cases h4 : k < 4
      · have b4 : (k : Int) < 4 := by omega
        have b4' : ¬ (4 : Int) ≤ (k : Int) := by omega
        by_cases hl : 97 ≤ s[k].toNat ∧ s[k].toNat ≤ 122
        · have l1 : (97 : Int) ≤ (s[k].toNat : Int) := by omega
          have l2 : (s[k].toNat : Int) ≤ 122 := by omega
          go_wp2
          have m1 : (s[k].toNat - 97 + 1) * (k + 1) ≤ 26 * 10 := Nat.mul_le_mul (by omega) (by omega)
          have e1 : ((s[k].toNat : Int) - 97 + 1) * ((k : Int) + 1) = (((s[k].toNat - 97 + 1) * (k + 1) : Nat) : Int) := by
            rw [Int.natCast_mul]
            congr 1
            omega
          refine ⟨⟨k + 1, n + (s[k].toNat - 97 + 1) * (k + 1), by omega, by omega, by simp, ?_⟩, by simp [intOf]; omega⟩
          generalize (s[k].toNat - 97 + 1) * (k + 1) = m at *
          rw [e1, wr64 (m : Int) (by omega) (by omega), wr64 ((n : Int) + (m : Int)) (by omega) (by omega)]
          rfl
        · go_wp2
          all_goals exact HN.out
      · have b4 : ¬ (k : Int) < 4 := by omega
        have b4' : (4 : Int) ≤ (k : Int) := by omega
        by_cases hl : 48 ≤ s[k].toNat ∧ s[k].toNat ≤ 57
        · have l1 : (48 : Int) ≤ (s[k].toNat : Int) := by omega
          have l2 : (s[k].toNat : Int) ≤ 57 := by omega
          go_wp2
          have m1 : (s[k].toNat - 48) * (k + 1) ≤ 9 * 10 := Nat.mul_le_mul (by omega) (by omega)
          have e1 : ((s[k].toNat : Int) - 48) * ((k : Int) + 1) = (((s[k].toNat - 48) * (k + 1) : Nat) : Int) := by
            rw [Int.natCast_mul]
            congr 1
            omega
          refine ⟨⟨k + 1, n + (s[k].toNat - 48) * (k + 1), by omega, by omega, by simp, ?_⟩, by simp [intOf]; omega⟩
          generalize (s[k].toNat - 48) * (k + 1) = m at *
          rw [e1, wr64 (m : Int) (by omega) (by omega), wr64 ((n : Int) + (m : Int)) (by omega) (by omega)]
          rfl
        · go_wp2
          all_goals exact HN.out
    · have b1 : ¬ (k : Int) < 10 := by omega
      go_wp2
      exact HY.out n
theorem two_digits (i : Nat) (hi : i < 100) : 1 ≤ (Lib.decDigits i).length ∧ (Lib.decDigits i).length ≤ 2 := by
  by_cases h : i < 10
  · rw [dec_small h]; simp
  · rw [dec_big h, dec_small (by omega)]; simp
def lenOf : Value → Nat
  | .string t => t.size
  | _ => 0
set_option maxHeartbeats 4000000 in
theorem digits_r (n : Nat) (hn : n < 97) : ∃ t : ByteArray, ∀ w : World, Calls Tryz.prog 139 #[.int .i64 (n : Int), .int .i64 2] w fun e w' => e = .returned (.string t) ∧ w' = w := by
  have hl := two_digits n (by omega)
  have hz : 1 ≤ (⟨(Lib.decDigits n).toArray⟩ : ByteArray).size ∧ (⟨(Lib.decDigits n).toArray⟩ : ByteArray).size ≤ 2 := by
    show 1 ≤ (Lib.decDigits n).toArray.size ∧ (Lib.decDigits n).toArray.size ≤ 2
    rw [List.size_toArray]
    exact hl
  clear hl
  have HI := Lib.hid (fun w : World => Tryz.strconv_Itoa_small n (by omega) w)
  generalize (⟨(Lib.decDigits n).toArray⟩ : ByteArray) = t0 at *
  refine ⟨if t0.size < 2 then (⟨#[48]⟩ : ByteArray) ++ t0 else t0, fun w => ?_⟩
  have u2 : ((⟨#[48]⟩ : ByteArray) ++ t0).size = 1 + t0.size := by rw [ByteArray.size_append]; rfl
  have U2 := Lib.hid u2
  clear u2
  generalize htf : (if t0.size < 2 then (⟨#[48]⟩ : ByteArray) ++ t0 else t0) = tf
  have HT := Lib.hid htf
  clear htf
  go_enter Tryz.func139, Tryz.ntmps139
  go_wp2_with (first
    | (go_at_call 49; (with_reducible refine (HI.out _).mono ?_); rintro e w' ⟨rfl, rfl⟩)
    | fail)
  go_loop [5] (fun v => v = .string t0 ∨ (v = .string tf ∧ 2 ≤ tf.size)) (fun v => 2 - lenOf v)
  case atStart => exact .inl rfl
  case round =>
    rcases hrel with rfl | ⟨rfl, h2⟩
    · by_cases h2 : t0.size < 2
      · have b2 : (t0.size : Int) < 2 := by omega
        have u0 : (⟨#[48]⟩ : ByteArray).size = 1 := rfl
        have u1 : ¬ (9223372036854775807 < 1 + t0.size) := by omega
        have e := HT.out
        rw [if_pos h2] at e
        have E2 := Lib.hid e
        clear e
        go_wp2
        exact ⟨.inr ⟨by rw [E2.out], by rw [← E2.out, U2.out]; omega⟩, by simp only [lenOf]; rw [U2.out]; omega⟩
      · have b2 : ¬ (t0.size : Int) < 2 := by omega
        have e := HT.out
        rw [if_neg h2] at e
        subst e
        go_wp2
        first
          | (go_ret; exact ⟨rfl, rfl⟩)
          | trivial
    · have b2 : ¬ (tf.size : Int) < 2 := by omega
      go_wp2
      first
        | (go_ret; exact ⟨rfl, rfl⟩)
        | trivial
theorem quiet_sameR {P : Program} {f : FuncId} {args : Array Value} {w : World} {n : Nat} {v : Value} (h : Calls P f args (w.drewN n) fun e w' => e = .returned v ∧ w' = w.drewN n) : Calls P f args (w.drewN n) fun e w'' => e = .returned v ∧ ∃ m, w'' = w.drewN m :=
  h.mono fun _ _ ⟨he, hm⟩ => ⟨he, n, hm⟩
theorem below_drewR {B : Nat} {a w : World} (h : Below B a w) (n : Nat) : Below B a (w.drewN n) := h.trans ⟨rfl, rfl, rfl, Nat.le_refl _, fun _ _ => rfl⟩
set_option maxHeartbeats 4000000 in
theorem right_r (s : ByteArray) (w : World) (hs : s.size ≤ maxLen) : Calls Tryz.prog 103 #[.string s] w fun e w' => BoolP (s.size = 12) w e w' := by
  unfold maxLen at hs
  have HN : Hid (∀ W, Below w.heap.size w W → BoolP (s.size = 12) w (.returned (.bool false)) W) := Lib.hid (fun W hb => BoolP.no hb)
  by_cases h12 : s.size = 12
  · have HY : Hid (∀ (r : Bool) W, Below w.heap.size w W → BoolP (s.size = 12) w (.returned (.bool r)) W) := Lib.hid (fun r W hb => ⟨r, rfl, fun _ => h12, hb⟩)
    have HS := Lib.hid (sum_r s w h12)
    have b1 : (s.size : Int) = 12 := by omega
    generalize BoolP (s.size = 12) w = CP at *
    go_enter Tryz.func103, Tryz.ntmps103
    go_wp2_with fail
    refine HS.out.mono ?_
    rintro e w1 ⟨n, rfl, h0, h97, hb1⟩
    have HB := Lib.hid hb1
    clear hb1
    by_cases hn : n < 0
    · have b2 : decide ((0 : Int) ≤ n) = false := by simp; omega
      have b3 : ¬ (0 : Int) ≤ n := by omega
      go_wp2_with fail
      go_quiet (fail)
      go_wp2_with fail
      first
        | exact HN.out _ (below_drewR HB.out nq)
        | (go_ret; exact HN.out _ (below_drewR HB.out nq))
    · obtain ⟨m, rfl⟩ : ∃ m : Nat, n = (m : Int) := ⟨n.toNat, by omega⟩
      have hm : m < 97 := by omega
      obtain ⟨t, hD⟩ := digits_r m hm
      have HD := Lib.hid hD
      clear hD
      have b2 : decide ((0 : Int) ≤ (m : Int)) = true := by simp
      have b3 : (0 : Int) ≤ (m : Int) := by omega
      have u1 : ¬ (s.size < 10) := by omega
      go_wp2_with fail
      go_quiet ((exact quiet_sameR (HD.out _)))
      go_wp2_with fail
      first
        | exact HY.out _ _ (below_drewR HB.out nq)
        | (go_ret; exact HY.out _ _ (below_drewR HB.out nq))
  · have b1 : ¬ (s.size : Int) = 12 := by omega
    generalize BoolP (s.size = 12) w = CP at *
    go_enter Tryz.func103, Tryz.ntmps103
    go_wp2
    first
      | exact HN.out _ (Below.refl _ _)
      | (go_ret; exact HN.out _ (Below.refl _ _))
end Go.Proofs.YtdinloecgaapaaaGreatDoor
