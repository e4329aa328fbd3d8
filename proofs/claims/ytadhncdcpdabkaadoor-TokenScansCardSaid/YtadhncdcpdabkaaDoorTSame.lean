/- The same tokens; the same kinds and texts. -/
import Derived.Test.YtadhncdcpdabkaaDoorTJoin
namespace Go.Proofs.YtadhncdcpdabkaaDoor
open Go.RowKit Go.Lib
set_option linter.unusedVariables false

theorem neq_tok (a b a' b' : Int) (c c' : ByteArray) (w : World) : (binOp .neq 31 (.agg #[.int .i64 a, .int .i64 b, .string c]) (.agg #[.int .i64 a', .int .i64 b', .string c'])).run Tryd.prog w = .ok (.bool (!decide (a = a' ∧ b = b' ∧ c = c'))) w := by
  have h := eq_tok a b a' b' c c' w
  rw [run_eql_struct] at h
  rw [run_neq_struct]
  cases hr : (Op.equalIn 10000 31 (.agg #[.int .i64 a, .int .i64 b, .string c]) (.agg #[.int .i64 a', .int .i64 b', .string c'])).run Tryd.prog w with
  | ok v w1 =>
    rw [hr] at h
    simp only [Result.andThen] at h ⊢
    injection h with h1 h2
    injection h1 with h1
    subst h2
    rw [← h1]
  | _ => rw [hr] at h; simp [Result.andThen] at h

set_option maxHeartbeats 1000000 in
set_option maxRecDepth 100000 in
theorem alike_any (T U : List Tok) (A A' : Option Addr) (c c' B B' : Nat) (w : World) (hT : Rt w B A T) (hU : Rt w B' A' U) (hl : T.length ≤ 1000000) (ha : alike T U) :
    Calls Tryd.prog 14 #[.slice A T.length c, .slice A' U.length c'] w fun e w' => e = .returned (.bool true) ∧ Below w.heap.size w w' := by
  have HL := Lib.hid (alike_len ha)
  have n0 : ((T.length : Int) != (U.length : Int)) = false := by have := HL.out; simp; omega
  have Ha := Lib.hid ha
  clear ha
  go_enter Tryd.func14, Tryd.ntmps14
  go_wp2_with fail
  go_loopw [5] (fun i wr => ∃ k : Nat, k ≤ T.length ∧ i = .int .i64 k ∧ Rt wr B A T ∧ Rt wr B' A' U ∧ Hid (Below w.heap.size w wr)) (fun i _ => T.length - (intOf i).toNat)
  case atStart => exact ⟨0, Nat.zero_le _, rfl, hT, hU, Lib.hid (Below.refl _ _)⟩
  case round =>
    clear hT hU
    obtain ⟨k, hk, rfl, hT, hU, Hb⟩ := hrel
    by_cases hlt : k < T.length
    · have hlt' : k < U.length := by have := HL.out; omega
      obtain ⟨g, off, rfl, hg, a0, a1, a2⟩ := hT.at_ hlt
      obtain ⟨g', off', rfl, hg', b0, b1, b2⟩ := hU.at_ hlt'
      have hk0 : (0 : Int) ≤ (k : Int) := by omega
      have hk1 : (k : Int) < (T.length : Int) := by omega
      have hk2 : (k : Int) < (U.length : Int) := by omega
      have he : T[k].kind = U[k].kind ∧ T[k].text = U[k].text := by
        have h := congrArg (fun l => l[k]?) Ha.out
        simp only [List.getElem?_map, List.getElem?_eq_getElem hlt, List.getElem?_eq_getElem hlt', Option.map_some, Option.some.injEq, Prod.mk.injEq] at h
        exact h
      rw [← he.1] at b0
      rw [← he.2] at b2
      clear he a1 b1
      have n1 : ((T[k].kind : Int) != (T[k].kind : Int)) = false := by simp
      generalize (⟨T[k].text.toArray⟩ : ByteArray) = x at *
      generalize T[k].kind = kd at *
      have hT' := hT
      have hU' := hU
      have HT := Lib.hid hT'
      have HU := Lib.hid hU'
      clear hT hU hT' hU'
      go_wp2_with fail
      go_quiet (fail)
      go_wp2_with fail
      go_roundw
      case rel => exact ⟨k + 1, by omega, by go_num, HT.out.keep (fun _ _ => rfl), HU.out.keep (fun _ _ => rfl), Lib.hid (below_drewN Hb.out _)⟩
      case measure => simp [intOf]; omega
    · go_wp2_with fail
      go_ret
      exact ⟨rfl, Hb.out⟩

set_option maxHeartbeats 1000000 in
set_option maxRecDepth 100000 in
theorem same_any (T : List Tok) (A A' : Option Addr) (c c' B B' : Nat) (w : World) (hT : Rt w B A T) (hU : Rt w B' A' T) (hl : T.length ≤ 1000000) :
    Calls Tryd.prog 13 #[.slice A T.length c, .slice A' T.length c'] w fun e w' => e = .returned (.bool true) ∧ Below w.heap.size w w' := by
  have n0 : ((T.length : Int) != (T.length : Int)) = false := by simp
  go_enter Tryd.func13, Tryd.ntmps13
  go_wp2_with fail
  go_loopw [5] (fun i wr => ∃ k : Nat, k ≤ T.length ∧ i = .int .i64 k ∧ Rt wr B A T ∧ Rt wr B' A' T ∧ Hid (Below w.heap.size w wr)) (fun i _ => T.length - (intOf i).toNat)
  case atStart => exact ⟨0, Nat.zero_le _, rfl, hT, hU, Lib.hid (Below.refl _ _)⟩
  case round =>
    clear hT hU
    obtain ⟨k, hk, rfl, hT, hU, Hb⟩ := hrel
    by_cases hlt : k < T.length
    · obtain ⟨g, off, rfl, hg, a0, a1, a2⟩ := hT.at_ hlt
      obtain ⟨g', off', rfl, hg', b0, b1, b2⟩ := hU.at_ hlt
      have hk0 : (0 : Int) ≤ (k : Int) := by omega
      have hk1 : (k : Int) < (T.length : Int) := by omega
      generalize (⟨T[k].text.toArray⟩ : ByteArray) = x at *
      generalize T[k].kind = kd at *
      generalize T[k].place = pl at *
      have hq := neq_tok kd pl kd pl x x
      simp only [and_self, decide_true, Bool.not_true] at hq
      have hG := hGTok
      have HT := Lib.hid hT
      have HU := Lib.hid hU
      clear hT hU
      go_wp2_with fail
      go_quiet (fail)
      go_wp2_with fail
      go_roundw
      case rel => exact ⟨k + 1, by omega, by go_num, HT.out.keep (fun _ _ => rfl), HU.out.keep (fun _ _ => rfl), Lib.hid (below_drewN Hb.out _)⟩
      case measure => simp [intOf]; omega
    · go_wp2_with fail
      go_ret
      exact ⟨rfl, Hb.out⟩
end Go.Proofs.YtadhncdcpdabkaaDoor
