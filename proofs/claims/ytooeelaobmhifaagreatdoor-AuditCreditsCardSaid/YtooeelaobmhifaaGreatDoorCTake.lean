/- Ledger.Take. -/
import Derived.Test.YtooeelaobmhifaaGreatDoorCLet
import Derived.Test.YtooeelaobmhifaaGreatDoorAEnter
namespace Go.Proofs.YtooeelaobmhifaaGreatDoor
open Go.RowKit Go.Maps Go.Lib
set_option linter.unusedVariables false
set_option maxRecDepth 100000

def takeT (id : ByteArray) : ByteArray := (⟨#[116, 97, 107, 101, 32]⟩ : ByteArray) ++ id
theorem smallB : Small (bbT, eurT) := ⟨by decide, by decide⟩
/-- a post of a take -/
theorem Cs.enter {w : World} {base p k : Nat} {f : ByteArray → Option Int} {txt : List ByteArray} (x : Cs w base p f txt k) (hk : k ≤ 100) (t : ByteArray) {A : Option Addr} {sum : Int} (s0 : 1 ≤ sum) (s1 : sum ≤ 65535) (hR : Re w w.heap.size A (two aaT bbT eurT (-sum) sum)) :
    Calls Tryz.prog 20 #[.pointer (some ⟨p, 0, none⟩), .string t, .slice A 2 2] w fun e w' =>
      (∃ v, e = .returned (.int .i64 v)) ∧ Cs w' base p f (txt ++ [t]) (k + 1) ∧ Below base w w' := by
  obtain ⟨b, h, n, m, G, pv, L, hc, ht, hn, hm, ⟨T, H, h1, h2, h3, h4, h5⟩, T', g1, g2, g3⟩ := x.cr
  have hl : L.length ≤ k := by have := x.len; rw [← ht] at this; simpa using this
  have c100 : eurT.size ≤ 100 := by decide
  have m100 : 100 ≤ maxLen := by decide
  have hF : ∀ e ∈ two aaT bbT eurT (-sum) sum, e.Fine := by
    intro e he
    simp [two] at he
    rcases he with rfl | rfl
    · exact ⟨smallA.1, smallA.2, by simp only; omega, by simp only; omega⟩
    · exact ⟨smallB.1, smallB.2, by simp only; omega, by simp only; omega⟩
  refine (enter_ok t A 2 (two aaT bbT eurT (-sum) sum) w base p b n G pv _ L hc.led hR (by simp [two]) (by simp [two]) hF (by omega) (by omega) ?_).mono ?_
  · intro y v hv
    rcases eachG_two_val aa_bb hv with ⟨rfl, rfl⟩ | ⟨rfl, rfl⟩
    · exact ⟨_, h1, ⟨⟨by simp only; omega, by simp only; omega, by simp only; omega, by simp only; omega, by simp only; omega, by simp only; omega⟩, by simp only; omega, by omega, by simp only; omega⟩⟩
    · exact ⟨_, g1, ⟨⟨by simp only; omega, by simp only; omega, by simp only; omega, by simp only; omega, by simp only; omega, by simp only; omega⟩, by simp only; omega, by omega, by simp only; omega⟩⟩
  · rintro e w' ⟨he, pv', A', c', n', hn', hD, hk'⟩
    have e2 : (two aaT bbT eurT (-sum) sum).length = 2 := rfl
    refine ⟨⟨_, he⟩, ⟨⟨b, h, n', m, _, pv', _, hc.post hk' hD, by simp [ht], by omega, by omega, ⟨T + -sum, H, by rw [bump_first aa_bb, h1]; rfl, by push_cast; omega, by push_cast; omega, by push_cast; omega, by push_cast; omega⟩, T' + sum, by rw [bump_second aa_bb, g1]; rfl, by omega, by push_cast; omega⟩, x.amt, by have := x.len; simp; omega⟩, hc.kp_base hk' (fun j ho => hc.led.own_base j ho)⟩
/-- what a take does -/
def takeF (f : ByteArray → Option Int) (id : ByteArray) (sum : Int) : ByteArray → Option Int := match f id with
  | none => f
  | some a => if 1 ≤ sum ∧ sum ≤ a then (if a - sum = 0 then delG f id else putG f id (a - sum)) else f
def takeX (f : ByteArray → Option Int) (txt : List ByteArray) (id : ByteArray) (sum : Int) : List ByteArray := match f id with
  | none => txt
  | some a => if 1 ≤ sum ∧ sum ≤ a then txt ++ [takeT id] else txt
theorem Lg.look3 {w3 : World} {p b n : Nat} {G : Nt → Option Ac} {pv hv : Value} (hL : Lg w3 p b n G pv hv) {s t : ByteArray} (hx : Small (s, t)) {ac : Ac} (hG : G (s, t) = some ac) :
    w3.cell? ⟨p, 0, none⟩ = some (.map (some b)) ∧
    (Instr.lookup 45 (.map (some b)) (.agg #[.string s, .string t]) true).run Tryz.prog w3.drew = .ok (.tuple #[.agg #[.int .i64 ac.floor, .int .i64 ac.bal, .int .i64 ac.held], .bool true]) w3.drew ∧
    (Instr.lookup 45 (.map (some b)) (.agg #[.string s, .string t]) true).run Tryz.prog (w3.alloc (.cells #[.int .i64 0, .int .i64 0, .int .i64 0] 53)).drew = .ok (.tuple #[.agg #[.int .i64 ac.floor, .int .i64 ac.bal, .int .i64 ac.held], .bool true]) (w3.alloc (.cells #[.int .i64 0, .int .i64 0, .int .i64 0] 53)).drew := by
  refine ⟨hL.c0, ?_, ?_⟩
  · have := (hL.drewN 1).acc.look_ok Tryz.underlying45 (zeroAc _) trivial (x := (s, t)) hx
    rw [hG] at this
    exact this
  · have := ((hL.alloc (.cells #[.int .i64 0, .int .i64 0, .int .i64 0] 53)).drewN 1).acc.look_ok Tryz.underlying45 (zeroAc _) trivial (x := (s, t)) hx
    rw [hG] at this
    exact this
theorem bb_aa_no : ((⟨#[98]⟩ : ByteArray).toList == aaT.toList) = false := by
  rw [ByteArray.toList_eq, ByteArray.toList_eq]
  decide

set_option maxHeartbeats 4000000 in
theorem take_cs (id : ByteArray) (sum : Int) (w : World) (base p k : Nat) (f : ByteArray → Option Int) (txt : List ByteArray) (hC : Cs w base p f txt k) (hk : k ≤ 90) (hi : id.size ≤ 50) (s0 : 0 ≤ sum) (s1 : sum ≤ 65535) :
    Calls Tryz.prog 7 #[.pointer (some ⟨p, 0, none⟩), .string id, .string ⟨#[98]⟩, .int .i64 sum] w fun e w' => (∃ v, e = .returned (.int .i64 v)) ∧ Cs w' base p (takeF f id sum) (takeX f txt id sum) (k + 2) ∧ Below base w w' := by
  have m100 : 100 ≤ maxLen := by decide
  obtain ⟨b, h, n, m, G, pv, L, hc, ht, hn, hm, hA, T', g1, g2, g3⟩ := hC.cr
  obtain ⟨Ap, cpp, rfl⟩ := hc.led.form
  have hLl : L.length ≤ k := by have := hC.len; rw [← ht] at this; simpa using this
  have c2 := hc.led.lg.c2
  have HC := Lib.hid hC
  cases hf : f id with
  | none =>
    have hl := hc.lh.findNo (Nat.le_trans hi (by omega)) hf
    clear hc hC
    go_enter Tryz.func7, Tryz.ntmps7
    go_wp2
    go_ret
    have hb := (Below.refl w.heap.size w).alloc (Nat.le_refl _) (.cells #[.string ⟨#[]⟩, .string ⟨#[]⟩, .string ⟨#[]⟩, .int .i64 0] 56)
    refine ⟨⟨_, rfl⟩, ?_, hb.mono HC.out.base_le⟩
    unfold takeF takeX
    rw [hf]
    exact (HC.out.same hb).same (Below.refl _ _)
  | some a =>
    have hl := hc.lh.find (Nat.le_trans hi (by omega)) hf
    have hb := (Below.refl w.heap.size w).alloc (Nat.le_refl _) (.cells #[.string id, .string aaT, .string eurT, .int .i64 a] 56)
    have HcV := Lib.hid (hc.below hb)
    have HCV := Lib.hid (HC.out.below hb)
    have HB := Lib.hid (hb.mono HC.out.base_le)
    obtain ⟨a0, a1⟩ := HC.out.amt id a hf
    have i0 : (w.alloc (.cells #[.string id, .string aaT, .string eurT, .int .i64 a] 56)).cell? ⟨w.heap.size, 0, none⟩ = some (.string id) := by simp
    have i1 : (w.alloc (.cells #[.string id, .string aaT, .string eurT, .int .i64 a] 56)).cell? ⟨w.heap.size, 1, none⟩ = some (.string aaT) := by simp
    have i2 : (w.alloc (.cells #[.string id, .string aaT, .string eurT, .int .i64 a] 56)).cell? ⟨w.heap.size, 2, none⟩ = some (.string eurT) := by simp
    have i3 : (w.alloc (.cells #[.string id, .string aaT, .string eurT, .int .i64 a] 56)).cell? ⟨w.heap.size, 3, none⟩ = some (.int .i64 a) := by simp
    have Hb0 := Lib.hid (heap_alloc_new w (.cells #[.string id, .string aaT, .string eurT, .int .i64 a] 56))
    have hVs : (w.alloc (.cells #[.string id, .string aaT, .string eurT, .int .i64 a] 56)).heap.size = w.heap.size + 1 := by simp
    have hpl := hc.led.lg.plt
    clear hb hc hC
    go_enter Tryz.func7, Tryz.ntmps7
    go_wp2_with fail
    clear hl c2
    generalize w.alloc (.cells #[.string id, .string aaT, .string eurT, .int .i64 a] 56) = V at *
    obtain ⟨cp, l1, l2⟩ := HcV.out.led.lg.look3 smallB g1
    have l1' : (Instr.lookup 45 (.map (some b)) (.agg #[.string ⟨#[98]⟩, .string eurT]) true).run Tryz.prog V.drew = .ok (.tuple #[.agg #[.int .i64 0, .int .i64 T', .int .i64 0], .bool true]) V.drew := l1
    have l2' : (Instr.lookup 45 (.map (some b)) (.agg #[.string ⟨#[98]⟩, .string eurT]) true).run Tryz.prog (V.alloc (.cells #[.int .i64 0, .int .i64 0, .int .i64 0] 53)).drew = .ok (.tuple #[.agg #[.int .i64 0, .int .i64 T', .int .i64 0], .bool true]) (V.alloc (.cells #[.int .i64 0, .int .i64 0, .int .i64 0] 53)).drew := l2
    clear l1 l2
    have e0 : (V.alloc (.cells #[.int .i64 0, .int .i64 0, .int .i64 0] 53)).cell? ⟨p, 0, none⟩ = some (.map (some b)) := Lib.cell?_alloc_some _ cp
    have e2 : (V.alloc (.cells #[.int .i64 0, .int .i64 0, .int .i64 0] 53)).cell? ⟨w.heap.size, 2, none⟩ = some (.string eurT) := Lib.cell?_alloc_some _ i2
    have bno := bb_aa_no
    have bno2 : ([98] == aaT.toList) = false := by rw [ByteArray.toList_eq]; decide
    have hpV : p < V.heap.size := by omega
    go_region
    all_goals
      clear l1' l2' e0 e2
      have HcX := Lib.hid (HcV.out.below (((Below.refl V.heap.size V).alloc (Nat.le_refl _) (.cells #[.int .i64 0, .int .i64 T', .int .i64 0] 53)).drew))
      have HCX := Lib.hid (HCV.out.below (((Below.refl V.heap.size V).alloc (Nat.le_refl _) (.cells #[.int .i64 0, .int .i64 T', .int .i64 0] 53)).drew))
      have HBX := Lib.hid (HB.out.trans ((((Below.refl V.heap.size V).alloc (Nat.le_refl _) (.cells #[.int .i64 0, .int .i64 T', .int .i64 0] 53)).drew).mono HCV.out.base_le))
      have x0 : (V.alloc (.cells #[.int .i64 0, .int .i64 T', .int .i64 0] 53)).drew.cell? ⟨w.heap.size, 0, none⟩ = some (.string id) := Lib.cell?_alloc_some _ i0
      have x1 : (V.alloc (.cells #[.int .i64 0, .int .i64 T', .int .i64 0] 53)).drew.cell? ⟨w.heap.size, 1, none⟩ = some (.string aaT) := Lib.cell?_alloc_some _ i1
      have x2 : (V.alloc (.cells #[.int .i64 0, .int .i64 T', .int .i64 0] 53)).drew.cell? ⟨w.heap.size, 2, none⟩ = some (.string eurT) := Lib.cell?_alloc_some _ i2
      have x3 : (V.alloc (.cells #[.int .i64 0, .int .i64 T', .int .i64 0] 53)).drew.cell? ⟨w.heap.size, 3, none⟩ = some (.int .i64 a) := Lib.cell?_alloc_some _ i3
      have x4 : (V.alloc (.cells #[.int .i64 0, .int .i64 T', .int .i64 0] 53)).drew.cell? ⟨w.heap.size + 1, 1, none⟩ = some (.int .i64 T') := by rw [← hVs]; simp
      have Hblk : Hid ((V.alloc (.cells #[.int .i64 0, .int .i64 T', .int .i64 0] 53)).drew.heap[w.heap.size]? = some (.cells #[.string id, .string aaT, .string eurT, .int .i64 a] 56)) := Lib.hid ((Below.heap_alloc V _ w.heap.size (by omega)).trans Hb0.out)
      generalize (V.alloc (.cells #[.int .i64 0, .int .i64 T', .int .i64 0] 53)).drew = X at *
      clear i0 i1 i2 i3 cp HcV HCV HB
      have c1 := HcX.out.led.lg.c1
      by_cases hs1 : sum < 1
      · have q1 : decide (sum < 1) = true := by simpa using hs1
        go_wp2
        go_ret
        refine ⟨⟨_, rfl⟩, ?_, HBX.out⟩
        unfold takeF takeX
        rw [hf]
        simp only
        rw [if_neg (by omega), if_neg (by omega)]
        exact (HCX.out.same (Below.refl _ _)).same (Below.refl _ _)
      · have q1 : decide (sum < 1) = false := by simpa using hs1
        by_cases hs2 : a < sum
        · have q2 : decide (a < sum) = true := by simpa using hs2
          go_wp2
          go_ret
          refine ⟨⟨_, rfl⟩, ?_, HBX.out⟩
          unfold takeF takeX
          rw [hf]
          simp only
          rw [if_neg (by omega), if_neg (by omega)]
          exact (HCX.out.same (Below.refl _ _)).same (Below.refl _ _)
        · have q2 : decide (a < sum) = false := by simpa using hs2
          have q3 : decide ((4096 : Int) ≤ (L.length : Int)) = false := by simp; omega
          have q4 : IntKind.i64.wrap (T' + sum) = T' + sum := IntWalk.i64_in _ (by omega)
          have q5 : decide ((1099511627776 : Int) < T' + sum) = false := by simp; omega
          have q6 : IntKind.i64.wrap (-sum) = -sum := IntWalk.i64_in _ (by omega)
          have HPl := Lib.hid (HCX.out.lessen (id := id) (by omega) (by omega) hf (by omega) (by omega : sum ≤ a))
          have q7 : ¬ (9223372036854775807 < (⟨#[116, 97, 107, 101, 32]⟩ : ByteArray).size + id.size) := by have : (⟨#[116, 97, 107, 101, 32]⟩ : ByteArray).size = 5 := rfl; omega
          have q8 : (⟨#[116, 97, 107, 101, 32]⟩ : ByteArray).size = 5 := rfl
          have q9 : ¬ (9223372036854775807 < 5 + id.size) := by omega
          go_wp2_with fail
          refine HPl.out.mono ?_
          rintro e w2 ⟨rfl, hC2, hb2, hkeep⟩
          have hblk2 := hkeep _ _ _ _ Hblk.out
          have y1 : w2.cell? ⟨w.heap.size, 1, none⟩ = some (.string aaT) := by unfold World.cell?; rw [hblk2]; rfl
          have y2 : w2.cell? ⟨w.heap.size, 2, none⟩ = some (.string eurT) := by unfold World.cell?; rw [hblk2]; rfl
          have HC2 := Lib.hid hC2
          have HB2 := Lib.hid (HBX.out.trans hb2)
          clear hkeep hblk2 hC2 hb2 HPl x0 x1 x2 x3 x4 c1
          go_wp2_with fail
          have hbE := (Below.refl w2.heap.size w2).alloc (Nat.le_refl _) (.cells #[.string aaT, .string eurT, .int .i64 (-sum), .string ⟨#[98]⟩, .string eurT, .int .i64 sum] 61)
          have HCE := Lib.hid (HC2.out.below hbE)
          have HBE := Lib.hid (HB2.out.trans (hbE.mono HC2.out.base_le))
          refine (HCE.out.enter (by omega) (takeT id) (by omega : (1 : Int) ≤ sum) s1 (re_two (V := w2) (a1 := aaT) (a2 := bbT) (c := eurT) (n := -sum) (m := sum))).mono ?_
          rintro e w3 ⟨⟨v3, rfl⟩, hC3, hb3⟩
          have HC3 := Lib.hid hC3
          have HB3 := Lib.hid (HBE.out.trans hb3)
          clear hbE hC3 hb3 HCE HBE
          go_wp2
          go_ret
          refine ⟨⟨_, rfl⟩, ?_, HB3.out⟩
          unfold takeF takeX
          rw [hf]
          simp only
          have hcond : 1 ≤ sum ∧ sum ≤ a := ⟨by omega, by omega⟩
          simp only [if_pos hcond]
          exact HC3.out
end Go.Proofs.YtooeelaobmhifaaGreatDoor
