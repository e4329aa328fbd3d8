/- The document's examples. -/
import Derived.Test.YtadhncdcpdabkaaDoorTScanW
namespace Go.Proofs.YtadhncdcpdabkaaDoor
open Go.RowKit Go.Lib
set_option linter.unusedVariables false

theorem hSTok : Tryd.prog.underlying 31 = some (.struct (Tryd.prog.fieldsOf 31)) := by kernel_rfl
theorem hPTok : Tryd.prog.stoodInHeld 31 = false := by kernel_rfl
theorem hGTok : Tryd.prog.eqGuardType Tryd.prog.depth 31 = false := by kernel_rfl
instance decBA : DecidableEq ByteArray := fun a b => decidable_of_iff (a.data = b.data) ⟨fun h => ByteArray.ext h, fun h => by rw [h]⟩
/-- two tokens, compared as the program does -/
theorem eq_tok (a b a' b' : Int) (c c' : ByteArray) (w : World) : (binOp .eql 31 (.agg #[.int .i64 a, .int .i64 b, .string c]) (.agg #[.int .i64 a', .int .i64 b', .string c'])).run Tryd.prog w = .ok (.bool (decide (a = a' ∧ b = b' ∧ c = c'))) w := by
  rw [run_eql_struct, run_equalIn_agg w 9999 31 _ _ hSTok hPTok]
  simp only [Program.fieldsOf, Tryd.underlying31]
  have hc : (c.toList == c'.toList) = decide (c = c') := by
    rw [Bool.eq_iff_iff, decide_eq_true_iff]; exact eqB_iff c c'
  by_cases h1 : a = a' <;> by_cases h2 : b = b' <;> by_cases h3 : c = c'
  all_goals go_simp
theorem ex1 : scan 0 0 [115, 117, 109, 32, 60, 61, 32, 49, 50] = .ok [⟨0, 0, [115, 117, 109]⟩, ⟨5, 4, [60, 61]⟩, ⟨2, 7, [49, 50]⟩] := by rfl
theorem ex2 : scan 0 0 [97, 32, 34, 98, 32, 99, 34] = .ok [⟨1, 0, [97]⟩, ⟨3, 2, [98, 32, 99]⟩] := by rfl

theorem below_trans' {B : Nat} {a b c : World} (hB : B ≤ a.heap.size) (h : Below B a b) (k : Below b.heap.size b c) : Below B a c := h.trans (k.mono (Nat.le_trans hB h.size))
/-- Scan of a text that is scanned well -/
theorem scan_ok (s : ByteArray) (T : List Tok) (w : World) (hW : Wd w) (hs : s.size ≤ 1000000000) (h : scan 0 0 s.data.toList = .ok T) (n : Nat) (hn : s.size = n) :
    Calls Tryd.prog 11 #[.string s] w fun e w' => ∃ A c, e = .returned (.tuple #[.slice A T.length c, .int .i64 (n : Int), .int .i64 0]) ∧ Rt w' w'.heap.size A T ∧ Below w.heap.size w w' := by
  subst hn
  refine (scan_any s w hW hs).mono fun e w' ⟨hb, hp⟩ => ?_
  rcases hp with ⟨T', A, c, h', he, hr⟩ | ⟨a, er, h', _⟩
  · rw [h] at h'
    injection h' with h'
    subst h'
    exact ⟨A, c, he, hr, hb⟩
  · rw [h] at h'
    cases h'

set_option maxHeartbeats 1000000 in
set_option maxRecDepth 100000 in
theorem awake_any (w : World) (hW : Wd w) : Calls Tryd.prog 10 #[] w fun e w' => e = .returned (.bool true) ∧ Below w.heap.size w w' := by
  have q1 := eq_tok 0 0 0 0 ⟨#[115, 117, 109]⟩ ⟨#[115, 117, 109]⟩
  have q2 := eq_tok 5 4 5 4 ⟨#[60, 61]⟩ ⟨#[60, 61]⟩
  have q3 := eq_tok 2 7 2 7 ⟨#[49, 50]⟩ ⟨#[49, 50]⟩
  have q4 := eq_tok 3 2 3 2 ⟨#[98, 32, 99]⟩ ⟨#[98, 32, 99]⟩
  simp only [and_self, decide_true] at q1 q2 q3 q4
  have hG := hGTok
  go_enter Tryd.func10, Tryd.ntmps10
  go_wp2_with fail
  refine (scan_ok ⟨#[115, 117, 109, 32, 60, 61, 32, 49, 50]⟩ _ _ hW (by decide) ex1 9 rfl).mono ?_
  rintro e w1 ⟨A, c, rfl, hR1, hb1⟩
  go_wp2_with fail
  refine (scan_ok ⟨#[97, 32, 34, 98, 32, 99, 34]⟩ _ _ (hW.all hb1) (by decide) ex2 7 rfl).mono ?_
  rintro e w2 ⟨A', c', rfl, hR2, hb2⟩
  have hR3 := hR1.below hb2
  obtain ⟨g, off, rfl, hg, hc⟩ := hR3 (by simp)
  obtain ⟨g', off', rfl, hg', hc'⟩ := hR2 (by simp)
  obtain ⟨a0, a1, a2⟩ := hc 0 _ rfl
  obtain ⟨b0, b1, b2⟩ := hc 1 _ rfl
  obtain ⟨d0, d1, d2⟩ := hc 2 _ rfl
  obtain ⟨f0, f1, f2⟩ := hc' 1 _ rfl
  clear hc hc'
  simp only [Nat.zero_mul, Nat.one_mul, Nat.add_zero, Nat.reduceMul] at a0 a1 a2 b0 b1 b2 d0 d1 d2 f0 f1 f2
  have H := Lib.hid (below_trans' (Nat.le_refl _) hb1 hb2)
  clear hb1 hb2 hR1 hR2 hR3
  go_wp2_with fail
  go_ret
  exact ⟨rfl, H.out⟩
end Go.Proofs.YtadhncdcpdabkaaDoor
