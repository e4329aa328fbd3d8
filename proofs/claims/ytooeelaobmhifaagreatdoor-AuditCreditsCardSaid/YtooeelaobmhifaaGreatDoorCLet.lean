/- Ledger.Let. -/
import Derived.Test.YtooeelaobmhifaaGreatDoorCState
namespace Go.Proofs.YtooeelaobmhifaaGreatDoor
open Go.RowKit Go.Maps Go.Lib
set_option linter.unusedVariables false
set_option maxRecDepth 100000

section
variable {w : World} {p b h n m : Nat} {G : Nt → Option Ac} {pv : Value} {f : ByteArray → Option Int}
theorem Lh.find (x : Lh w p b h n m G pv (holdsF f)) {id : ByteArray} (hi : id.size ≤ maxLen) {a : Int} (hf : f id = some a) :
    (Instr.lookup 46 (.map (some h)) (.string id) true).run Tryz.prog w = .ok (.tuple #[.agg #[.string id, .string aaT, .string eurT, .int .i64 a], .bool true]) w := by
  have := x.hs.look_ok Tryz.underlying46 (zeroHd _) trivial (x := id) hi
  rw [show holdsF f id = some ⟨id, aaT, eurT, a⟩ from by simp [holdsF, hf]] at this
  exact this
theorem Lh.findNo (x : Lh w p b h n m G pv (holdsF f)) {id : ByteArray} (hi : id.size ≤ maxLen) (hf : f id = none) :
    (Instr.lookup 46 (.map (some h)) (.string id) true).run Tryz.prog w = .ok (.tuple #[.agg #[.string ⟨#[]⟩, .string ⟨#[]⟩, .string ⟨#[]⟩, .int .i64 0], .bool false]) w := by
  have := x.hs.look_ok Tryz.underlying46 (zeroHd _) trivial (x := id) hi
  rw [show holdsF f id = none from by simp [holdsF, hf]] at this
  exact this
end
theorem delG_none {f : ByteArray → Option Int} {i : ByteArray} (h : f i = none) : delG f i = f := by
  funext y
  unfold delG
  by_cases e : y = i
  · subst e; simp [h]
  · simp [e]
theorem Cs.same {w w' : World} {base p k : Nat} {f : ByteArray → Option Int} {txt : List ByteArray} (x : Cs w base p f txt k) (hb : Below w.heap.size w w') : Cs w' base p f txt (k + 1) := by
  obtain ⟨b, h, n, m, G, pv, L, hc, ht, hn, hm, ⟨T, H, h1, h2, h3, h4, h5⟩, T', g1, g2, g3⟩ := x.cr
  exact ⟨⟨b, h, n, m, G, pv, L, hc.below hb, ht, by omega, by omega, ⟨T, H, h1, by push_cast; omega, by push_cast; omega, by push_cast; omega, by push_cast; omega⟩, T', g1, g2, by push_cast; omega⟩, x.amt, by have := x.len; omega⟩
theorem Cs.base_le {w : World} {base p k : Nat} {f : ByteArray → Option Int} {txt : List ByteArray} (x : Cs w base p f txt k) : base ≤ w.heap.size := by
  obtain ⟨b, h, n, m, G, pv, L, hc, _⟩ := x.cr
  have := hc.led.pb
  have := hc.led.lg.plt
  omega
theorem smallA : Small (aaT, eurT) := ⟨by decide, by decide⟩
theorem Cs.below {w w' : World} {base p k : Nat} {f : ByteArray → Option Int} {txt : List ByteArray} (x : Cs w base p f txt k) (hb : Below w.heap.size w w') : Cs w' base p f txt k := by
  obtain ⟨b, h, n, m, G, pv, L, hc, r⟩ := x.cr
  exact ⟨⟨b, h, n, m, G, pv, L, hc.below hb, r⟩, x.amt, x.len⟩
/-- so much is taken off a hold -/
theorem Cs.lessen {w : World} {base p k : Nat} {f : ByteArray → Option Int} {txt : List ByteArray} (x : Cs w base p f txt k) (hk : k ≤ 100) {id : ByteArray} (hi : id.size ≤ 100) {a sum : Int} (hf : f id = some a) (s0 : 0 ≤ sum) (s1 : sum ≤ a) :
    Calls Tryz.prog 19 #[.pointer (some ⟨p, 0, none⟩), .agg #[.string id, .string aaT, .string eurT, .int .i64 a], .int .i64 sum] w fun e w' =>
      e = .returned (.tuple #[]) ∧ Cs w' base p (if a - sum = 0 then delG f id else putG f id (a - sum)) txt (k + 1) ∧ Below base w w' ∧ ∀ (j : Nat) (cs : Array Value) (t : TypeId) (fr : Nat × Nat), w.heap[j]? = some (Obj.cells cs t fr) → w'.heap[j]? = some (Obj.cells cs t fr) := by
  obtain ⟨b, h, n, m, G, pv, L, hc, ht, hn, hm, ⟨T, H, h1, h2, h3, h4, h5⟩, T', g1, g2, g3⟩ := x.cr
  obtain ⟨a0, a1⟩ := x.amt id a hf
  have m100 : 100 ≤ maxLen := by decide
  have hne : ((bbT, eurT) : Nt) ≠ (aaT, eurT) := fun e => aa_bb (by injection e with e _; exact e.symm)
  refine (lessen_any ⟨id, aaT, eurT, a⟩ sum w p b h n m G pv (holdsF f) _ hc.lh h1 smallA (Nat.le_trans hi m100) s0 (by omega) (by simp only; omega) (by simp only; omega) (by simp only; omega) (by simp only; omega) (by omega) (by omega)).mono ?_
  rintro e w' ⟨he, hL, hk'⟩
  have hF : lessF (holdsF f) ⟨id, aaT, eurT, a⟩ sum = holdsF (if a - sum = 0 then delG f id else putG f id (a - sum)) := by
    unfold lessF
    simp only
    split
    · exact holdsF_del f id
    · exact holdsF_put f id _
  rw [hF] at hL
  refine ⟨he, ⟨⟨b, h, _, _, _, pv, L, hc.turn hL hk', ht, by omega, by omega, ⟨T, H - sum, by rw [putG_same], by push_cast; omega, by push_cast; omega, by push_cast; omega, by push_cast; omega⟩, T', by rw [putG_other _ _ hne]; exact g1, g2, by push_cast; omega⟩, ?_, by have := x.len; omega⟩, hc.kp_base hk' ?_, ?_⟩
  · intro i v hv
    split at hv
    · unfold delG at hv
      split at hv
      · cases hv
      · exact x.amt i v hv
    · by_cases e : i = id
      · subst e
        rw [putG_same] at hv
        injection hv with hv
        omega
      · rw [putG_other _ _ e] at hv
        exact x.amt i v hv
  · rintro j (e | e)
    · rw [e]; exact hc.led.bb
    · rw [e]; exact hc.hb
  · intro j cs t fr hj
    refine (hk'.block j (Array.getElem?_eq_some_iff.1 hj).1 ?_).trans hj
    obtain ⟨es, cl, hm1⟩ := hc.led.lg.acc.blk
    obtain ⟨es2, cl2, hm2⟩ := hc.hs.blk
    rintro (e | e)
    · subst e; rw [hj] at hm1; cases hm1
    · subst e; rw [hj] at hm2; cases hm2

set_option maxHeartbeats 2000000 in
theorem let_cs (id : ByteArray) (w : World) (base p k : Nat) (f : ByteArray → Option Int) (txt : List ByteArray) (hC : Cs w base p f txt k) (hk : k ≤ 100) (hi : id.size ≤ 100) :
    Calls Tryz.prog 8 #[.pointer (some ⟨p, 0, none⟩), .string id] w fun e w' => (∃ v, e = .returned (.int .i64 v)) ∧ Cs w' base p (delG f id) txt (k + 1) ∧ Below base w w' := by
  have m100 : 100 ≤ maxLen := by decide
  obtain ⟨b, h, n, m, G, pv, L, hc, _⟩ := hC.cr
  have c2 := hc.led.lg.c2
  have HC := Lib.hid hC
  cases hf : f id with
  | none =>
    have hl := hc.lh.findNo (Nat.le_trans hi m100) hf
    clear hc hC
    go_enter Tryz.func8, Tryz.ntmps8
    go_wp2
    go_ret
    have hb := (Below.refl w.heap.size w).alloc (Nat.le_refl _) (.cells #[.string ⟨#[]⟩, .string ⟨#[]⟩, .string ⟨#[]⟩, .int .i64 0] 56)
    exact ⟨⟨_, rfl⟩, by rw [delG_none hf]; exact HC.out.same hb, hb.mono HC.out.base_le⟩
  | some a =>
    have hl := hc.lh.find (Nat.le_trans hi m100) hf
    have hb := (Below.refl w.heap.size w).alloc (Nat.le_refl _) (.cells #[.string id, .string aaT, .string eurT, .int .i64 a] 56)
    clear hc hC
    have HCV := Lib.hid (HC.out.below hb)
    have HB := Lib.hid (hb.mono HC.out.base_le)
    obtain ⟨a0, a1⟩ := HC.out.amt id a hf
    have HP := Lib.hid (HCV.out.lessen hk hi hf (by omega) (Int.le_refl a))
    clear hb
    go_enter Tryz.func8, Tryz.ntmps8
    go_wp2_with (first
      | (go_at_call 19; refine HP.out.mono ?_; rintro e w2 ⟨rfl, hC2, hb2, _⟩)
      | go_in)
    have HC2 := Lib.hid hC2
    have HB2 := Lib.hid hb2
    clear hC2 hb2 HP
    go_wp2
    go_ret
    have e : (if a - a = 0 then delG f id else putG f id (a - a)) = delG f id := if_pos (by omega)
    exact ⟨⟨_, rfl⟩, by rw [← e]; exact HC2.out, HB.out.trans HB2.out⟩
end Go.Proofs.YtooeelaobmhifaaGreatDoor
