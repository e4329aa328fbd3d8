/- A region that draws its order and whose callees make memory: one walk of the lexical order serves, over the class of the worlds that have turned nothing below a block. The document's Digits. -/
import Derived.WalkKit
import Derived.Deep.QuietTactic
import Derived.BigQuiet
import Derived.Test.YtbkffdfboloogaaGreatDoorMC
import Derived.Test.YtbkffdfboloogaaGreatDoorML
import Derived.Deep.RegionWith
namespace Go.Proofs.YtbkffdfboloogaaGreatDoor
open Go.RowKit

/-- a world in which nothing below block B has turned since w0 -/
structure WC (B : Nat) (w0 : World) where
  w : World
  h : Below B w0 w

instance WC.some (B : Nat) (w0 : World) : Nonempty (WC B w0) := ⟨⟨w0, Below.refl _ _⟩⟩

theorem below_transC {B : Nat} {a b c : World} (hB : B ≤ a.heap.size) (h : Below B a b) (k : Below b.heap.size b c) : Below B a c := h.trans (k.mono (Nat.le_trans hB h.size))

theorem wp_region_class {P : Program} {id : Nat} {Q : Exit → Act → World → Prop} {a : Act} {w : World} {l : List Oper} (hm : P.follows .mixedOrders = true) (hB : Region.lexB .any l.toArray = true)
    (h : wpQuiet P l.toArray (fun w' => ∃ n : WC w.heap.size w, w' = n.w) (fun a' => ∀ w', (∃ n : WC w.heap.size w, w' = n.w) → Q .normal a' w') l a) : (Code.region id l.toArray true).wp P Q a w :=
  wp_region_quiet (C := fun w' => ∃ n : WC w.heap.size w, w' = n.w) hm hB ⟨⟨w.drew, (Below.refl _ _).drew⟩, rfl⟩ (by simpa using h)

/-- a callee's contract, in a world of the class -/
theorem Calls.class_of {P : Program} {f : FuncId} {args : Array Value} {w : World} {B : Nat} (hB : B ≤ w.heap.size) {n : WC B w} {v : Value}
    (h : Calls P f args n.w fun e w' => e = .returned v ∧ Below n.w.heap.size n.w w') : Calls P f args n.w fun e w'' => e = .returned v ∧ ∃ m : WC B w, w'' = m.w :=
  h.mono fun _ w' ⟨he, hb⟩ => ⟨he, ⟨w', below_transC hB n.h hb⟩, rfl⟩
theorem Calls.class_same {P : Program} {f : FuncId} {args : Array Value} {w : World} {B : Nat} {n : WC B w} {v : Value}
    (h : Calls P f args n.w fun e w' => e = .returned v ∧ n.w = w') : Calls P f args n.w fun e w'' => e = .returned v ∧ ∃ m : WC B w, w'' = m.w :=
  h.mono fun _ _ ⟨he, hb⟩ => ⟨he, n, hb.symm⟩
end Go.Proofs.YtbkffdfboloogaaGreatDoor
namespace Go.Proofs.YtbkffdfboloogaaGreatDoor
open Go.RowKit Go.Lib
set_option linter.unusedVariables false
set_option maxRecDepth 100000

/-- what is left ahead of a tail of digits -/
def headD (q : Nat) : Bs := if q < 10 then [] else decDigits (q / 10)
theorem head_step (q : Nat) : decDigits q = headD q ++ [dg q] := by
  unfold headD
  split
  · rename_i h; rw [dec_small h]; rfl
  · rename_i h; rw [dec_big h]
theorem head_more {q : Nat} (h : ¬ q < 10) : headD q = headD (q / 10) ++ [dg (q / 10)] := by
  rw [← head_step]
  unfold headD
  rw [if_neg h]
theorem itL_nat (m : Nat) : itL (m : Int) = decDigits m := by
  unfold itL itoa
  rw [if_neg (by omega), Int.toNat_natCast]
theorem ba_cons (c : UInt8) (t : Bs) : (⟨#[c]⟩ ++ ⟨t.toArray⟩ : ByteArray) = ⟨(c :: t).toArray⟩ := by
  apply ByteArray.ext
  simp [ByteArray.data_append]
set_option maxHeartbeats 2000000 in
theorem refDig_any (n : Int) (h0 : 0 ≤ n) (h1 : n ≤ 1099511627776) (w : World) : Calls Tryz.prog 43 #[.int .i64 n] w fun e w' => e = .returned (.string ⟨(itL n).toArray⟩) ∧ Below w.heap.size w w' := by
  obtain ⟨m, rfl⟩ := Int.eq_ofNat_of_zero_le h0
  rw [itL_nat]
  have hm : m ≤ 1099511627776 := by omega
  clear h0 h1
  have HH := Lib.hid (head_step m)
  have hdg : (dg m).toNat = 48 + m % 10 := dg_nat m
  have a2 : Int.tmod (m : Int) 10 = ((m % 10 : Nat) : Int) := rfl
  have a3 : IntKind.i64.wrap (48 + ((m % 10 : Nat) : Int)) = 48 + ((m % 10 : Nat) : Int) := wrap_i64 (by omega) (by omega)
  have a4 : IntKind.u8.wrap (48 + ((m % 10 : Nat) : Int)) = 48 + ((m % 10 : Nat) : Int) := wrap_u8 (by omega) (by omega)
  have hcv := conv_byte w (48 + ((m % 10 : Nat) : Int)) (dg m) (by rw [hdg]; omega)
  have HB0 : Hid (Below w.heap.size w (w.alloc (.cells #[.int .u8 (48 + ((m % 10 : Nat) : Int))] 5))) := Lib.hid ((Below.refl _ _).alloc (Nat.le_refl _) _)
  generalize hr : m % 10 = r at *
  go_enter Tryz.func43, Tryz.ntmps43
  go_wp2
  clear a2 a3 a4 hcv hdg hr
  go_loopw [0, 3] (fun x s wr => ∃ (q : Nat) (t : Bs), q ≤ 1099511627776 ∧ x = .int .i64 (q : Int) ∧ s = .string ⟨t.toArray⟩ ∧ t.length + q ≤ 1099511627777 ∧ Hid (decDigits m = headD q ++ t) ∧ Hid (Below w.heap.size w wr)) (fun x _ _ => (RowKit.intOf x).toNat)
  case atStart => exact ⟨m, [dg m], hm, rfl, rfl, by simp; omega, HH, HB0⟩
  case round =>
    obtain ⟨q, t, hq, rfl, rfl, htl, HT, HB⟩ := hrel
    by_cases h9 : q < 10
    · have b1 : ¬ (9 : Int) < (q : Int) := by omega
      have HE : Hid (decDigits m = t) := Lib.hid (by rw [HT.out]; unfold headD; rw [if_pos h9]; rfl)
      go_wp2
      go_ret
      exact ⟨by rw [HE.out]; rfl, HB.out⟩
    · have b1 : (9 : Int) < (q : Int) := by omega
      obtain ⟨p, hp⟩ : ∃ p, p = q / 10 := ⟨_, rfl⟩
      have HE : Hid (decDigits m = headD p ++ (dg p :: t)) := Lib.hid (by rw [HT.out, head_more h9, ← hp]; simp)
      have hdg : (dg p).toNat = 48 + p % 10 := dg_nat p
      have hcv := conv_byte wr (48 + (q : Int) / 10 % 10) (dg p) (by rw [hdg]; omega)
      have HB2 : Hid (Below w.heap.size w (wr.alloc (.cells #[.int .u8 (48 + (q : Int) / 10 % 10)] 5))) := Lib.hid (HB.out.alloc HB.out.size _)
      have HC := Lib.hid (ba_cons (dg p) t)
      have hts : (⟨t.toArray⟩ : ByteArray).size = t.length := by show t.toArray.size = _; simp
      have u0 : (⟨#[dg p]⟩ : ByteArray).size = 1 := rfl
      have u1 : ¬ (9223372036854775807 < (⟨#[dg p]⟩ : ByteArray).size + (⟨t.toArray⟩ : ByteArray).size) := by rw [u0, hts]; omega
      have u2 : ¬ (9223372036854775807 < 1 + (⟨t.toArray⟩ : ByteArray).size) := by omega
      have u3 : 1 + (⟨t.toArray⟩ : ByteArray).size ≤ 9223372036854775807 := by omega
      have hpq : p < q := by omega
      clear hdg
      go_wp2
      go_roundw
      case rel => exact ⟨p, dg p :: t, by omega, by congr 1; omega, by first | rw [HC.out] | rw [← hp, HC.out], by simp; omega, HE, HB2⟩
      case measure => simp [RowKit.intOf]; omega
end Go.Proofs.YtbkffdfboloogaaGreatDoor
