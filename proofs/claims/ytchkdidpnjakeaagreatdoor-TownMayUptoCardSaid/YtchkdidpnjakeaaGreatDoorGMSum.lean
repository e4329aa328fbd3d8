/- The sum of a mark's first ten signs: mark.Sum, the document's head and Sum. strconv.Itoa below 100, slices.Sort of texts at this program: the shelf's contracts, laid by the kit's tools (lay-shelf, lay-plain). mark.Right and the document's Right. -/
import Derived.Test.YtchkdidpnjakeaaGreatDoorGBNew3
import Derived.Shelf.Small.Bits
import Derived.Shelf.Small.Wraps
import Derived.Shelf.Strconv.Itoa0
import Derived.Shelf.Strconv.Itoa1
import Derived.Shelf.LaysM
import Derived.Shelf.Strconv.Itoa2
import Derived.Shelf.Strconv.Itoa3
import Derived.Test.YtchkdidpnjakeaaGreatDoorProg
import Derived.BigQuiet
namespace Go.Proofs.YtchkdidpnjakeaaGreatDoor
open Go.RowKit Go.Lib
set_option linter.unusedVariables false
set_option maxRecDepth 100000

theorem wr64M (x : Int) (h0 : -9223372036854775808 ≤ x) (h1 : x ≤ 9223372036854775807) : wrap64 x = x := by
  unfold wrap64
  omega
/-- the sum comes back, or -1 -/
def SumQ (s : ByteArray) (w : World) (e : Ending) (w' : World) : Prop := w' = w ∧ ((headOk s 10 ∧ e = .returned (.int .i64 ((sumTo s 10 % 97 : Nat) : Int))) ∨ (¬ headOk s 10 ∧ e = .returned (.int .i64 (-1))))
theorem headOk.step {s : ByteArray} {k : Nat} (h : headOk s k) (hk : mkH k (bt s k)) : headOk s (k + 1) := fun i hi => by
  by_cases e : i = k
  · subst e; exact hk
  · exact h i (by omega)
set_option maxHeartbeats 4000000 in
theorem sum_m (s : ByteArray) (w : World) (hs : s.size = 12) : Calls Tryz.prog 112 #[.string s] w fun e w' => SumQ s w e w' := by
  have HN : Hid (¬ headOk s 10 → SumQ s w (.returned (.int .i64 (-1))) w) := Lib.hid fun h => ⟨rfl, .inr ⟨h, rfl⟩⟩
  have HY : Hid (headOk s 10 → SumQ s w (.returned (.int .i64 (((sumTo s 10 : Nat) : Int) % 97))) w) := Lib.hid fun h => ⟨rfl, .inl ⟨h, by rw [Int.natCast_emod]; rfl⟩⟩
  have HL := Lib.hid (fun k (h : k ≤ 10) => sumTo_le (s := s) h)
  have HS : Hid (∀ k, sumTo s (k + 1) = sumTo s k + mkV k (bt s k) * (k + 1)) := Lib.hid fun _ => rfl
  generalize SumQ s w = CP at *
  go_enter Tryz.func112, Tryz.ntmps112
  go_wp2
  go_loop [3, 9] (fun v i => ∃ k n : Nat, k ≤ 10 ∧ Hid (n = sumTo s k ∧ headOk s k) ∧ i = .int .i64 (k : Int) ∧ v = .int .i64 (n : Int)) (fun _ i => 10 - (RowKit.intOf i).toNat)
  case atStart => exact ⟨0, 0, by omega, Lib.hid ⟨rfl, fun i hi => by omega⟩, rfl, rfl⟩
  case round =>
    obtain ⟨k, n, hk, HK, rfl, rfl⟩ := hrel
    have hn : n ≤ 3000 * k := by rw [HK.out.1]; exact HL.out k hk
    by_cases hlt : k < 10
    · have hks : k < s.size := by omega
      have b1 : (k : Int) < 10 := by omega
      have b2 : (k : Int) < (s.size : Int) := by omega
      have b0 : (0 : Int) ≤ (k : Int) := by omega
      have hc : s[k].toNat < 256 := s[k].toNat_lt
      have HB := Lib.hid (bt_eq hks)
      by_cases h4 : k < 4
      · have b4 : (k : Int) < 4 := by omega
        have b4' : ¬ (4 : Int) ≤ (k : Int) := by omega
        by_cases hl : 97 ≤ s[k].toNat ∧ s[k].toNat ≤ 122
        · have l1 : (97 : Int) ≤ (s[k].toNat : Int) := by omega
          have l2 : (s[k].toNat : Int) ≤ 122 := by omega
          have HM : Hid (mkH k (bt s k) ∧ mkV k (bt s k) = s[k].toNat - 97 + 1) := Lib.hid (by rw [HB.out]; unfold mkH mkV; rw [if_pos h4, if_pos h4]; exact ⟨hl, by omega⟩)
          go_wp2
          have m1 : (s[k].toNat - 97 + 1) * (k + 1) ≤ 26 * 10 := Nat.mul_le_mul (by omega) (by omega)
          have e1 : ((s[k].toNat : Int) - 97 + 1) * ((k : Int) + 1) = (((s[k].toNat - 97 + 1) * (k + 1) : Nat) : Int) := by
            rw [Int.natCast_mul]
            congr 1
            omega
          refine ⟨⟨k + 1, n + (s[k].toNat - 97 + 1) * (k + 1), by omega, Lib.hid ⟨by rw [HS.out, ← HK.out.1, HM.out.2], HK.out.2.step HM.out.1⟩, by simp, ?_⟩, by simp [RowKit.intOf]; omega⟩
          generalize (s[k].toNat - 97 + 1) * (k + 1) = m at *
          rw [e1, wr64M (m : Int) (by omega) (by omega), wr64M ((n : Int) + (m : Int)) (by omega) (by omega)]
          rfl
        · have HX := Lib.hid (HN.out fun h => by
            have := h k hlt
            rw [HB.out] at this
            unfold mkH at this
            rw [if_pos h4] at this
            exact hl this)
          go_wp2
          all_goals exact HX.out
      · have b4 : ¬ (k : Int) < 4 := by omega
        have b4' : (4 : Int) ≤ (k : Int) := by omega
        by_cases hl : 48 ≤ s[k].toNat ∧ s[k].toNat ≤ 57
        · have l1 : (48 : Int) ≤ (s[k].toNat : Int) := by omega
          have l2 : (s[k].toNat : Int) ≤ 57 := by omega
          have HM : Hid (mkH k (bt s k) ∧ mkV k (bt s k) = s[k].toNat - 48) := Lib.hid (by rw [HB.out]; unfold mkH mkV; rw [if_neg h4, if_neg h4]; exact ⟨hl, rfl⟩)
          go_wp2
          have m1 : (s[k].toNat - 48) * (k + 1) ≤ 9 * 10 := Nat.mul_le_mul (by omega) (by omega)
          have e1 : ((s[k].toNat : Int) - 48) * ((k : Int) + 1) = (((s[k].toNat - 48) * (k + 1) : Nat) : Int) := by
            rw [Int.natCast_mul]
            congr 1
            omega
          refine ⟨⟨k + 1, n + (s[k].toNat - 48) * (k + 1), by omega, Lib.hid ⟨by rw [HS.out, ← HK.out.1, HM.out.2], HK.out.2.step HM.out.1⟩, by simp, ?_⟩, by simp [RowKit.intOf]; omega⟩
          generalize (s[k].toNat - 48) * (k + 1) = m at *
          rw [e1, wr64M (m : Int) (by omega) (by omega), wr64M ((n : Int) + (m : Int)) (by omega) (by omega)]
          rfl
        · have HX := Lib.hid (HN.out fun h => by
            have := h k hlt
            rw [HB.out] at this
            unfold mkH at this
            rw [if_neg h4] at this
            exact hl this)
          go_wp2
          all_goals exact HX.out
    · have b1 : ¬ (k : Int) < 10 := by omega
      obtain rfl : k = 10 := by omega
      have HX := Lib.hid (HY.out HK.out.2)
      rw [← HK.out.1] at HX
      go_wp2
      exact HX.out
/-- the document's head -/
theorem head_m (s : ByteArray) (w : World) (hs : s.size = 12) : Calls Tryz.prog 124 #[.string s] w fun e w' => w' = w ∧ ((headOk s 10 ∧ e = .returned (.bool true)) ∨ (¬ headOk s 10 ∧ e = .returned (.bool false))) := by
  obtain ⟨CP, hCP⟩ : ∃ CP : Ending → World → Prop, CP = fun e w' => w' = w ∧ ((headOk s 10 ∧ e = .returned (.bool true)) ∨ (¬ headOk s 10 ∧ e = .returned (.bool false))) := ⟨_, rfl⟩
  have HN : Hid (¬ headOk s 10 → CP (.returned (.bool false)) w) := Lib.hid fun h => by rw [hCP]; exact ⟨rfl, .inr ⟨h, rfl⟩⟩
  have HY : Hid (headOk s 10 → CP (.returned (.bool true)) w) := Lib.hid fun h => by rw [hCP]; exact ⟨rfl, .inl ⟨h, rfl⟩⟩
  rw [← hCP]
  clear hCP
  go_enter Tryz.func124, Tryz.ntmps124
  go_wp2
  go_loop [3] (fun i => ∃ k : Nat, k ≤ 10 ∧ Hid (headOk s k) ∧ i = .int .i64 (k : Int)) (fun i => 10 - (RowKit.intOf i).toNat)
  case atStart => exact ⟨0, by omega, Lib.hid fun i hi => by omega, rfl⟩
  case round =>
    obtain ⟨k, hk, HK, rfl⟩ := hrel
    by_cases hlt : k < 10
    · have hks : k < s.size := by omega
      have b1 : (k : Int) < 10 := by omega
      have b2 : (k : Int) < (s.size : Int) := by omega
      have b0 : (0 : Int) ≤ (k : Int) := by omega
      have hc : s[k].toNat < 256 := s[k].toNat_lt
      have HB := Lib.hid (bt_eq hks)
      by_cases hm : mkH k (bt s k)
      · have HM := Lib.hid (HK.out.step hm)
        rw [HB.out] at hm
        unfold mkH at hm
        by_cases h4 : k < 4
        · rw [if_pos h4] at hm
          have b4 : decide ((k : Int) < 4) = true := by simp; omega
          have b4' : decide ((4 : Int) ≤ (k : Int)) = false := by simp; omega
          have l1 : (97 : Int) ≤ (s[k].toNat : Int) := by omega
          have l2 : (s[k].toNat : Int) ≤ 122 := by omega
          go_wp2
          exact ⟨⟨k + 1, by omega, HM, by go_num⟩, by simp [RowKit.intOf]; omega⟩
        · rw [if_neg h4] at hm
          have b4 : decide ((k : Int) < 4) = false := by simp; omega
          have b4' : decide ((4 : Int) ≤ (k : Int)) = true := by simp; omega
          have l1 : (48 : Int) ≤ (s[k].toNat : Int) := by omega
          have l2 : (s[k].toNat : Int) ≤ 57 := by omega
          go_wp2
          exact ⟨⟨k + 1, by omega, HM, by go_num⟩, by simp [RowKit.intOf]; omega⟩
      · have HX := Lib.hid (HN.out fun h => hm (h k hlt))
        rw [HB.out] at hm
        unfold mkH at hm
        by_cases h4 : k < 4
        · rw [if_pos h4] at hm
          have b4 : decide ((k : Int) < 4) = true := by simp; omega
          have b4' : decide ((4 : Int) ≤ (k : Int)) = false := by simp; omega
          by_cases q : 97 ≤ s[k].toNat
          · have l1 : (97 : Int) ≤ (s[k].toNat : Int) := by omega
            have l2 : decide ((s[k].toNat : Int) ≤ 122) = false := by simp; omega
            go_wp2
            first
              | exact HX.out
              | (go_ret; exact HX.out)
          · have l1 : ¬ (97 : Int) ≤ (s[k].toNat : Int) := by omega
            go_wp2
            first
              | exact HX.out
              | (go_ret; exact HX.out)
        · rw [if_neg h4] at hm
          have b4 : decide ((k : Int) < 4) = false := by simp; omega
          have b4' : decide ((4 : Int) ≤ (k : Int)) = true := by simp; omega
          by_cases q : 48 ≤ s[k].toNat
          · have l1 : (48 : Int) ≤ (s[k].toNat : Int) := by omega
            have l2 : decide ((s[k].toNat : Int) ≤ 57) = false := by simp; omega
            go_wp2
            first
              | exact HX.out
              | (go_ret; exact HX.out)
          · have l1 : ¬ (48 : Int) ≤ (s[k].toNat : Int) := by omega
            go_wp2
            first
              | exact HX.out
              | (go_ret; exact HX.out)
    · have b1 : ¬ (k : Int) < 10 := by omega
      obtain rfl : k = 10 := by omega
      have HX := Lib.hid (HY.out HK.out)
      go_wp2
      first
        | exact HX.out
        | (go_ret; exact HX.out)
end Go.Proofs.YtchkdidpnjakeaaGreatDoor
namespace Go.Proofs
open Go.Shelf
def Tryz.lays171_ren : Go.Shelf.Ren := ⟨fun | 171 => 148 | 243 => 187 | 246 => 213 | 283 => 246 | 284 => 247 | 285 => 248 | 286 => 249 | 129 => 97 | 317 => 266 | 318 => 267 | 319 => 268 | 320 => 269 | 337 => 280 | 338 => 281 | n => n, fun | 3 => 3 | 9 => 9 | 2 => 2 | 4 => 4 | 171 => 344 | 0 => 0 | 53 => 148 | 37 => 321 | 5 => 5 | 173 => 346 | 212 => 358 | 51 => 146 | 20 => 20 | 213 => 359 | 46 => 107 | 232 => 377 | 233 => 378 | n => n, fun | 17 => 2 | 18 => 6 | 19 => 7 | n => n⟩
theorem Tryz.lays171 : Go.Proofs.Lays.n171 Tryz.prog Tryz.lays171_ren := {
  mixed := by kernel_rfl
  f129 := Tryz.func97.trans (congrArg some (by kernel_rfl))
  f171 := Tryz.func148.trans (congrArg some (by kernel_rfl))
  f243 := Tryz.func187.trans (congrArg some (by kernel_rfl))
  f246 := Tryz.func213.trans (congrArg some (by kernel_rfl))
  f283 := Tryz.func246.trans (congrArg some (by kernel_rfl))
  f284 := Tryz.func247.trans (congrArg some (by kernel_rfl))
  f285 := Tryz.func248.trans (congrArg some (by kernel_rfl))
  f286 := Tryz.func249.trans (congrArg some (by kernel_rfl))
  f317 := Tryz.func266.trans (congrArg some (by kernel_rfl))
  f318 := Tryz.func267.trans (congrArg some (by kernel_rfl))
  f319 := Tryz.func268.trans (congrArg some (by kernel_rfl))
  f320 := Tryz.func269.trans (congrArg some (by kernel_rfl))
  f337 := Tryz.func280.trans (congrArg some (by kernel_rfl))
  f338 := Tryz.func281.trans (congrArg some (by kernel_rfl))
  t0 := Tryz.underlying0
  a0 := Tryz.isAgg0
  z0 := Tryz.sizeOf0
  v0 := Tryz.zeroValue0
  t2 := Tryz.underlying2
  a2 := Tryz.isAgg2
  z2 := Tryz.sizeOf2
  v2 := Tryz.zeroValue2
  t3 := Tryz.underlying3
  a3 := Tryz.isAgg3
  z3 := Tryz.sizeOf3
  v3 := Tryz.zeroValue3
  t4 := Tryz.underlying4
  a4 := Tryz.isAgg4
  z4 := Tryz.sizeOf4
  v4 := Tryz.zeroValue4
  t5 := Tryz.underlying5
  a5 := Tryz.isAgg5
  z5 := Tryz.sizeOf5
  v5 := Tryz.zeroValue5
  t9 := Tryz.underlying9
  a9 := Tryz.isAgg9
  z9 := Tryz.sizeOf9
  v9 := Tryz.zeroValue9
  t20 := Tryz.underlying20
  a20 := Tryz.isAgg20
  z20 := Tryz.sizeOf20
  v20 := Tryz.zeroValue20
  t37 := Tryz.underlying321
  a37 := Tryz.isAgg321
  z37 := Tryz.sizeOf321
  v37 := Tryz.zeroValue321
  t46 := Tryz.underlying107
  a46 := Tryz.isAgg107
  z46 := Tryz.sizeOf107
  v46 := Tryz.zeroValue107
  t51 := Tryz.underlying146
  a51 := Tryz.isAgg146
  z51 := Tryz.sizeOf146
  v51 := Tryz.zeroValue146
  t53 := Tryz.underlying148
  a53 := Tryz.isAgg148
  z53 := Tryz.sizeOf148
  v53 := Tryz.zeroValue148
  t171 := Tryz.underlying344
  a171 := Tryz.isAgg344
  z171 := Tryz.sizeOf344
  v171 := Tryz.zeroValue344
  t173 := Tryz.underlying346
  a173 := Tryz.isAgg346
  z173 := Tryz.sizeOf346
  v173 := Tryz.zeroValue346
  t212 := Tryz.underlying358
  a212 := Tryz.isAgg358
  z212 := Tryz.sizeOf358
  v212 := Tryz.zeroValue358
  t213 := Tryz.underlying359
  a213 := Tryz.isAgg359
  z213 := Tryz.sizeOf359
  t232 := Tryz.underlying377
  a232 := Tryz.isAgg377
  z232 := Tryz.sizeOf377
  v232 := Tryz.zeroValue377
  t233 := Tryz.underlying378
  a233 := Tryz.isAgg378
  z233 := Tryz.sizeOf378
  v233 := Tryz.zeroValue378
  g17 := by kernel_rfl
  g18 := by kernel_rfl
  g19 := by kernel_rfl }
open Go.RowKit Go.Sort Go.Lib in
theorem Tryz.strconv_Itoa_small (i : Nat) (hi : i < 100) (w : World) :
    Calls Tryz.prog 148 #[.int .i64 i] w fun e w' => e = .returned (.string ⟨(Lib.decDigits i).toArray⟩) ∧ w' = w := Any.strconv_Itoa_small Tryz.lays171 i hi w
end Go.Proofs
namespace Go.Proofs.YtchkdidpnjakeaaGreatDoor
open Go.RowKit Go.Lib
set_option linter.unusedVariables false
set_option maxRecDepth 100000

def dgM (n : Nat) : UInt8 := UInt8.ofNat (48 + n % 10)
theorem decM_small {m : Nat} (h : m < 10) : decDigits m = [dgM m] := by
  rw [decDigits]; simp [h, dgM, Nat.mod_eq_of_lt h]
theorem decM_big {m : Nat} (h : ¬ m < 10) : decDigits m = decDigits (m / 10) ++ [dgM m] := by
  rw [decDigits]; simp [h, dgM]
/-- a number's two digits -/
def dg2 (n : Nat) : ByteArray := ⟨#[dgM (n / 10), dgM n]⟩
theorem dg2_of {n : Nat} (hn : n < 97) : (if (⟨(decDigits n).toArray⟩ : ByteArray).size < 2 then (⟨#[48]⟩ : ByteArray) ++ ⟨(decDigits n).toArray⟩ else ⟨(decDigits n).toArray⟩) = dg2 n := by
  by_cases h : n < 10
  · rw [decM_small h, if_pos (by show (1 : Nat) < 2; omega)]
    have e : n / 10 = 0 := by omega
    unfold dg2
    rw [e]
    rfl
  · rw [decM_big h, decM_small (by omega), if_neg (by show ¬ (2 : Nat) < 2; omega)]
    rfl
def lenM : Value → Nat
  | .string t => t.size
  | _ => 0
set_option maxHeartbeats 4000000 in
theorem digits_m (n : Nat) (hn : n < 97) (w : World) : Calls Tryz.prog 113 #[.int .i64 (n : Int), .int .i64 2] w fun e w' => e = .returned (.string (dg2 n)) ∧ w' = w := by
  have hd := dg2_of hn
  have hz : 1 ≤ (⟨(Lib.decDigits n).toArray⟩ : ByteArray).size ∧ (⟨(Lib.decDigits n).toArray⟩ : ByteArray).size ≤ 2 := by
    by_cases h : n < 10
    · rw [decM_small h]; exact ⟨Nat.le_refl 1, by show (1 : Nat) ≤ 2; omega⟩
    · rw [decM_big h, decM_small (by omega)]; exact ⟨by show (1 : Nat) ≤ 2; omega, Nat.le_refl 2⟩
  have HI := Lib.hid (fun w : World => Tryz.strconv_Itoa_small n (by omega) w)
  generalize (⟨(Lib.decDigits n).toArray⟩ : ByteArray) = t0 at *
  have u2 : ((⟨#[48]⟩ : ByteArray) ++ t0).size = 1 + t0.size := by rw [ByteArray.size_append]; rfl
  have U2 := Lib.hid u2
  clear u2
  generalize dg2 n = tf at *
  have HT := Lib.hid hd
  clear hd
  go_enter Tryz.func113, Tryz.ntmps113
  go_wp2_with (first
    | (go_at_call 148; (with_reducible refine (HI.out _).mono ?_); rintro e w' ⟨rfl, rfl⟩)
    | fail)
  go_loop [5] (fun v => v = .string t0 ∨ (v = .string tf ∧ 2 ≤ tf.size)) (fun v => 2 - lenM v)
  case atStart => exact .inl rfl
  case round =>
    rcases hrel with rfl | ⟨rfl, h2⟩
    · by_cases h2 : t0.size < 2
      · have b2 : (t0.size : Int) < 2 := by omega
        have u0 : (⟨#[48]⟩ : ByteArray).size = 1 := rfl
        have u1 : ¬ (9223372036854775807 < 1 + t0.size) := by omega
        have e := HT.out
        rw [if_pos h2] at e
        have E2 := Lib.hid e
        clear e
        go_wp2
        exact ⟨.inr ⟨by rw [E2.out], by rw [← E2.out, U2.out]; omega⟩, by simp only [lenM]; rw [U2.out]; omega⟩
      · have b2 : ¬ (t0.size : Int) < 2 := by omega
        have e := HT.out
        rw [if_neg h2] at e
        subst e
        go_wp2
        first
          | (go_ret; exact ⟨rfl, rfl⟩)
          | trivial
    · have b2 : ¬ (tf.size : Int) < 2 := by omega
      go_wp2
      first
        | (go_ret; exact ⟨rfl, rfl⟩)
        | trivial
theorem ext2 {s : ByteArray} (h : s.size = 12) : s.extract 10 12 = ⟨#[bt s 10, bt s 11]⟩ := by
  have hs : s.data.size = 12 := h
  refine ByteArray.ext (Array.ext (by simp [ByteArray.data_extract, hs]) fun i h1 h2 => ?_)
  have h3 : i < 2 := by simpa using h2
  rcases (show i = 0 ∨ i = 1 by omega) with rfl | rfl
  · rw [bt_eq (s := s) (k := 10) (by omega)]
    simp [ByteArray.data_extract]
    rfl
  · rw [bt_eq (s := s) (k := 11) (by omega)]
    simp [ByteArray.data_extract]
    rfl
theorem dgM_nat (n : Nat) : (dgM n).toNat = 48 + n % 10 := by
  unfold dgM
  rw [UInt8.toNat_ofNat']
  omega
theorem mk_iff {s : ByteArray} (h : s.size = 12) (hh : headOk s 10) {m : Nat} (hq : sumTo s 10 % 97 = m) (hm : m < 97) : ((s.extract 10 12).toList == (dg2 m).toList) = true ↔ MkOk s := by
  rw [ba_beq, decide_eq_true_eq, ext2 h]
  have e1 : (⟨#[bt s 10, bt s 11]⟩ : ByteArray) = dg2 m ↔ bt s 10 = dgM (m / 10) ∧ bt s 11 = dgM m := by
    unfold dg2
    constructor
    · intro e
      injection e with e
      injection e with e
      injection e with e1 e
      injection e with e2 e
      exact ⟨e1, e2⟩
    · rintro ⟨e1, e2⟩
      rw [e1, e2]
  rw [e1, ← UInt8.toNat_inj, ← UInt8.toNat_inj, dgM_nat, dgM_nat]
  constructor
  · rintro ⟨a1, a2⟩
    exact ⟨h, hh, ⟨by omega, by omega⟩, ⟨by omega, by omega⟩, by omega⟩
  · rintro ⟨_, _, ⟨a1, a2⟩, ⟨a3, a4⟩, a5⟩
    omega
theorem quiet_sameM {P : Program} {f : FuncId} {args : Array Value} {w : World} {n : Nat} {v : Value} (h : Calls P f args (w.drewN n) fun e w' => e = .returned v ∧ w' = w.drewN n) : Calls P f args (w.drewN n) fun e w'' => e = .returned v ∧ ∃ m, w'' = w.drewN m :=
  h.mono fun _ _ ⟨he, hm⟩ => ⟨he, n, hm⟩
set_option maxHeartbeats 4000000 in
theorem right_m (s : ByteArray) (w : World) (hs : s.size ≤ maxLen) : Calls Tryz.prog 66 #[.string s] w fun e w' => BoolQ (MkOk s) w e w' := by
  unfold maxLen at hs
  have HN : Hid (¬ MkOk s → ∀ W, Below w.heap.size w W → BoolQ (MkOk s) w (.returned (.bool false)) W) := Lib.hid (fun h W hb => BoolQ.no h hb)
  by_cases h12 : s.size = 12
  · have HY : Hid (∀ (r : Bool) W, (r = true ↔ MkOk s) → Below w.heap.size w W → BoolQ (MkOk s) w (.returned (.bool r)) W) := Lib.hid (fun r W h hb => ⟨r, rfl, h, hb⟩)
    have HS := Lib.hid (sum_m s w h12)
    have b1 : (s.size : Int) = 12 := by omega
    generalize BoolQ (MkOk s) w = CP at *
    go_enter Tryz.func66, Tryz.ntmps66
    go_wp2_with fail
    refine HS.out.mono ?_
    rintro e w1 ⟨rfl, ⟨hh, rfl⟩ | ⟨hh, rfl⟩⟩
    · have HH := Lib.hid hh
      have hm : sumTo s 10 % 97 < 97 := Nat.mod_lt _ (by omega)
      generalize hq : sumTo s 10 % 97 = m at *
      have HQ := Lib.hid hq
      clear hq
      have HD := Lib.hid (digits_m m hm)
      have b2 : decide ((0 : Int) ≤ (m : Int)) = true := by simp
      have b3 : (0 : Int) ≤ (m : Int) := by omega
      have u1 : ¬ (s.size < 10) := by omega
      clear HS HN hh
      go_wp2_with fail
      go_quiet ((exact quiet_sameM (HD.out _)))
      go_wp2_with fail
      have HX := Lib.hid (HY.out _ (w1.drewN nq) (mk_iff h12 HH.out HQ.out hm) (below_drewM (Below.refl _ _) nq))
      first
        | exact HX.out
        | (go_ret; exact HX.out)
    · have HX := Lib.hid (HN.out (fun h => hh h.head))
      have b2 : decide ((0 : Int) ≤ (-1 : Int)) = false := by simp
      have b3 : ¬ (0 : Int) ≤ (-1 : Int) := by omega
      clear HS HN HY hh
      go_wp2_with fail
      go_quiet (fail)
      go_wp2_with fail
      first
        | exact HX.out _ (below_drewM (Below.refl _ _) nq)
        | (go_ret; exact HX.out _ (below_drewM (Below.refl _ _) nq))
  · have b1 : ¬ (s.size : Int) = 12 := by omega
    have HX := Lib.hid (HN.out (fun h => h12 h.size) w (Below.refl _ _))
    generalize BoolQ (MkOk s) w = CP at *
    go_enter Tryz.func66, Tryz.ntmps66
    go_wp2_with fail
    first
      | exact HX.out
      | (go_ret; exact HX.out)
end Go.Proofs.YtchkdidpnjakeaaGreatDoor
