/- Ledger.Open, of an account that is not there yet. -/
import Derived.Test.YtooeelaobmhifaaGreatDoorALedger
import Derived.Deep.QuietTactic
import Derived.BigQuiet
namespace Go.Proofs.YtooeelaobmhifaaGreatDoor
open Go.RowKit Go.Maps Go.Lib
set_option linter.unusedVariables false
set_option maxRecDepth 100000

theorem below_drewN {B : Nat} {a w : World} (h : Below B a w) (n : Nat) : Below B a (w.drewN n) := ⟨h.os, h.tape, h.output, h.size, h.block⟩
theorem small_of {a c : ByteArray} (hN : GoodName a) (hC : GoodCur c) : Small (a, c) := ⟨by have := hN.le; unfold maxLen; simp; omega, by have := hC.len; unfold maxLen; simp; omega⟩
def keyObj (a c : ByteArray) : Obj := .cells #[.string a, .string c] 51
def acObj (x y z : Int) : Obj := .cells #[.int .i64 x, .int .i64 y, .int .i64 z] 53

set_option maxHeartbeats 1000000 in
theorem open_new (a c : ByteArray) (f : Int) (w : World) (p b n : Nat) (G : Nt → Option Ac) (pv hv : Value) (hL : Lg w p b n G pv hv) (hN : GoodName a) (hC : GoodCur c) (hf0 : -1099511627776 ≤ f) (hf1 : f ≤ 0) (hG : G (a, c) = none) (hn : n < 4096) :
    Calls Tryz.prog 6 #[.pointer (some ⟨p, 0, none⟩), .string a, .string c, .int .i64 f] w fun e w' =>
      e = .returned (.int .i64 0) ∧ Lg w' p b (n + 1) (putG G (a, c) ⟨f, 0, 0⟩) pv hv ∧ w.grownBy w' (some b) := by
  have hx := small_of hN hC
  have hpl := hL.plt
  have hbl := hL.blt
  have hpb := hL.ne
  have hc0 := hL.c0
  go_enter Tryz.func6, Tryz.ntmps6
  go_wp2_with (first
    | (go_at_call 17; refine (isName_good _ _ hN).mono ?_; rintro e w' ⟨rfl, rfl⟩)
    | (go_at_call 18; refine (isCurrency_good _ _ hC).mono ?_; rintro e w' ⟨rfl, rfl⟩))
  have hL1 := hL.alloc (.cells #[.string a, .string c] 51)
  have hs1 : (w.alloc (.cells #[.string a, .string c] 51)).heap.size = w.heap.size + 1 := by simp
  have k0 : (w.alloc (.cells #[.string a, .string c] 51)).cell? ⟨w.heap.size, 0, none⟩ = some (.string a) := by simp
  have k1 : (w.alloc (.cells #[.string a, .string c] 51)).cell? ⟨w.heap.size, 1, none⟩ = some (.string c) := by simp
  have HB1 := Lib.hid ((Below.refl w.heap.size w).alloc (Nat.le_refl _) (.cells #[.string a, .string c] 51))
  generalize w.alloc (.cells #[.string a, .string c] 51) = W at *
  have cp := hL1.c0
  have hlk : (Instr.lookup 45 (.map (some b)) (.agg #[.string a, .string c]) true).run Tryz.prog W.drew = .ok (.tuple #[.agg #[.int .i64 0, .int .i64 0, .int .i64 0], .bool false]) W.drew := by
    have := (hL1.drewN 1).acc.look_ok Tryz.underlying45 (zeroAc _) trivial (x := (a, c)) hx
    rw [hG] at this
    exact this
  have hlk2 : (Instr.lookup 45 (.map (some b)) (.agg #[.string a, .string c]) true).run Tryz.prog (W.alloc (.cells #[.int .i64 0, .int .i64 0, .int .i64 0] 53)).drew = .ok (.tuple #[.agg #[.int .i64 0, .int .i64 0, .int .i64 0], .bool false]) (W.alloc (.cells #[.int .i64 0, .int .i64 0, .int .i64 0] 53)).drew := by
    have := ((hL1.alloc (.cells #[.int .i64 0, .int .i64 0, .int .i64 0] 53)).drewN 1).acc.look_ok Tryz.underlying45 (zeroAc _) trivial (x := (a, c)) hx
    rw [hG] at this
    exact this
  have HL := Lib.hid hL1
  clear hc0 hL1 hL
  have Hs1 := Lib.hid hs1
  have Hne : Hid (w.heap.size ≠ b) := Lib.hid (by omega)
  go_region
  all_goals
    clear hlk hlk2
    have hL2 := (HL.out.alloc (.cells #[.int .i64 0, .int .i64 0, .int .i64 0] 53)).drewN 1
    have HB2 := Lib.hid (below_drewN (HB1.out.alloc (B := w.heap.size) (by have := Hs1.out; omega) (.cells #[.int .i64 0, .int .i64 0, .int .i64 0] 53)) 1)
    have j0 : (W.alloc (.cells #[.int .i64 0, .int .i64 0, .int .i64 0] 53)).drew.cell? ⟨w.heap.size, 0, none⟩ = some (.string a) := Lib.cell?_alloc_some _ k0
    have j1 : (W.alloc (.cells #[.int .i64 0, .int .i64 0, .int .i64 0] 53)).drew.cell? ⟨w.heap.size, 1, none⟩ = some (.string c) := Lib.cell?_alloc_some _ k1
    have hsz : w.heap.size < (W.alloc (.cells #[.int .i64 0, .int .i64 0, .int .i64 0] 53)).drew.heap.size := by have := Hs1.out; simp; omega
    clear k0 k1 hs1 cp
    change Hid (Below w.heap.size w (W.alloc (.cells #[.int .i64 0, .int .i64 0, .int .i64 0] 53)).drew) at HB2
    change Lg (W.alloc (.cells #[.int .i64 0, .int .i64 0, .int .i64 0] 53)).drew p b n G pv hv at hL2
    generalize (W.alloc (.cells #[.int .i64 0, .int .i64 0, .int .i64 0] 53)).drew = V at *
    have Hsz := Lib.hid hsz
    clear hsz
    have cp := hL2.c0
    obtain ⟨m, hm, hln⟩ := hL2.acc.len Tryz.underlying45
    have hln' := hln 3
    have hnl := run_eql_map_nil (P := Tryz.prog) V 45 51 53 (some b) Tryz.underlying45
    obtain ⟨w2, hrun, hM2, ht2⟩ := (hL2.drewN 1).acc.store Tryz.underlying45 (by unfold maxLen; omega) (x := (a, c)) hx (v := ⟨f, 0, 0⟩) trivial
    have hrun' : (Instr.mapUpdate 45 (.map (some b)) (.agg #[.string a, .string c]) (.agg #[.int .i64 f, .int .i64 0, .int .i64 0])).run Tryz.prog V.drew = .ok () w2 := hrun
    have hg2 := ht2.grown
    have HL2 := Lib.hid (show Lg w2 p b (n + 1) (putG G (a, c) ⟨f, 0, 0⟩) pv hv from ⟨(hg2.block p hL2.plt (fun e => hpb (by injection e))).trans hL2.cell, hM2⟩)
    have HG2 := Lib.hid (show V.grownBy w2 (some b) from ⟨hg2.os, hg2.tape, hg2.output, hg2.size, hg2.block⟩)
    clear hrun hM2 ht2 hg2 hL2 hln
    go_wp2_with fail
    go_region
    all_goals
      go_wp2
      go_ret
      refine ⟨rfl, HL2.out, ?_⟩
      have h1 := HB2.out
      have h2 := HG2.out
      exact ⟨h2.os.trans h1.os, h2.tape.trans h1.tape, h2.output.trans h1.output, Nat.le_trans h1.size h2.size, fun i hi hne => (h2.block i (Nat.lt_of_lt_of_le hi h1.size) hne).trans (h1.block i hi)⟩
end Go.Proofs.YtooeelaobmhifaaGreatDoor
