/- Ledger.Hold. ledger.New, with its holds; the law's ledger at its beginning. -/
import Derived.Test.YtooeelaobmhifaaGreatDoorCTake
namespace Go.Proofs.YtooeelaobmhifaaGreatDoor
open Go.RowKit Go.Maps Go.Lib
set_option linter.unusedVariables false
set_option maxRecDepth 100000

/-- what a hold does -/
def holdF (f : ByteArray → Option Int) (id : ByteArray) (sum : Int) : ByteArray → Option Int := match f id with
  | some _ => f
  | none => if 1 ≤ sum then putG f id sum else f

set_option maxHeartbeats 4000000 in
theorem hold_cs (id : ByteArray) (sum : Int) (w : World) (base p k : Nat) (f : ByteArray → Option Int) (txt : List ByteArray) (hC : Cs w base p f txt k) (hk : k ≤ 90) (hN : GoodName id) (s0 : 0 ≤ sum) (s1 : sum ≤ 65535) :
    Calls Tryz.prog 9 #[.pointer (some ⟨p, 0, none⟩), .string id, .string ⟨#[97]⟩, .string ⟨#[69, 85, 82]⟩, .int .i64 sum] w fun e w' => (∃ v, e = .returned (.int .i64 v)) ∧ Cs w' base p (holdF f id sum) txt (k + 2) ∧ Below base w w' := by
  have m100 : 100 ≤ maxLen := by decide
  have hi := hN.le
  obtain ⟨b, h, n, m, G, pv, L, hc, ht, hn, hm, ⟨T, H, h1, h2, h3, h4, h5⟩, T', g1, g2, g3⟩ := hC.cr
  have c2 := hc.led.lg.c2
  have HC := Lib.hid hC
  have HN := Lib.hid hN
  clear hN
  cases hf : f id with
  | some a =>
    have hl := hc.lh.find (Nat.le_trans hi (by omega)) hf
    clear hc hC
    go_enter Tryz.func9, Tryz.ntmps9
    go_wp2_with (first
      | (go_at_call 17; refine (isName_good _ _ HN.out).mono ?_; rintro e w' ⟨rfl, rfl⟩)
      | go_in)
    go_ret
    have hb := (Below.refl w.heap.size w).alloc (Nat.le_refl _) (.cells #[.string id, .string aaT, .string eurT, .int .i64 a] 56)
    refine ⟨⟨_, rfl⟩, ?_, hb.mono HC.out.base_le⟩
    unfold holdF
    rw [hf]
    exact (HC.out.same hb).same (Below.refl _ _)
  | none =>
    have hl := hc.lh.findNo (Nat.le_trans hi (by omega)) hf
    have hb1 := (Below.refl w.heap.size w).alloc (Nat.le_refl _) (.cells #[.string ⟨#[]⟩, .string ⟨#[]⟩, .string ⟨#[]⟩, .int .i64 0] 56)
    have hb := hb1.alloc hb1.size (.cells #[.string ⟨#[97]⟩, .string ⟨#[69, 85, 82]⟩] 51)
    have HcV := Lib.hid (hc.below hb)
    have HCV := Lib.hid (HC.out.below hb)
    have HB := Lib.hid (hb.mono HC.out.base_le)
    have hkk : ((w.alloc (.cells #[.string ⟨#[]⟩, .string ⟨#[]⟩, .string ⟨#[]⟩, .int .i64 0] 56)).alloc (.cells #[.string ⟨#[97]⟩, .string ⟨#[69, 85, 82]⟩] 51)).heap[w.heap.size + 1]? = some (.cells #[.string ⟨#[97]⟩, .string ⟨#[69, 85, 82]⟩] 51) := by
      have := heap_alloc_new (w.alloc (.cells #[.string ⟨#[]⟩, .string ⟨#[]⟩, .string ⟨#[]⟩, .int .i64 0] 56)) (.cells #[.string ⟨#[97]⟩, .string ⟨#[69, 85, 82]⟩] 51)
      simpa using this
    have Hkk := Lib.hid hkk
    have i0 : ((w.alloc (.cells #[.string ⟨#[]⟩, .string ⟨#[]⟩, .string ⟨#[]⟩, .int .i64 0] 56)).alloc (.cells #[.string ⟨#[97]⟩, .string ⟨#[69, 85, 82]⟩] 51)).cell? ⟨w.heap.size + 1, 0, none⟩ = some (.string ⟨#[97]⟩) := by unfold World.cell?; rw [hkk]; rfl
    have i1 : ((w.alloc (.cells #[.string ⟨#[]⟩, .string ⟨#[]⟩, .string ⟨#[]⟩, .int .i64 0] 56)).alloc (.cells #[.string ⟨#[97]⟩, .string ⟨#[69, 85, 82]⟩] 51)).cell? ⟨w.heap.size + 1, 1, none⟩ = some (.string ⟨#[69, 85, 82]⟩) := by unfold World.cell?; rw [hkk]; rfl
    have hVs : ((w.alloc (.cells #[.string ⟨#[]⟩, .string ⟨#[]⟩, .string ⟨#[]⟩, .int .i64 0] 56)).alloc (.cells #[.string ⟨#[97]⟩, .string ⟨#[69, 85, 82]⟩] 51)).heap.size = w.heap.size + 2 := by simp
    have hpl := hc.led.lg.plt
    have Hc := Lib.hid hc
    have HbV := Lib.hid hb
    clear hb hb1 hc hC hkk
    go_enter Tryz.func9, Tryz.ntmps9
    go_wp2_with (first
      | (go_at_call 17; refine (isName_good _ _ HN.out).mono ?_; rintro e w' ⟨rfl, rfl⟩)
      | fail)
    clear hl c2
    generalize (w.alloc (.cells #[.string ⟨#[]⟩, .string ⟨#[]⟩, .string ⟨#[]⟩, .int .i64 0] 56)).alloc (.cells #[.string ⟨#[97]⟩, .string ⟨#[69, 85, 82]⟩] 51) = V at *
    obtain ⟨cp, l1, l2⟩ := HcV.out.led.lg.look3 smallA h1
    have l1' : (Instr.lookup 45 (.map (some b)) (.agg #[.string ⟨#[97]⟩, .string ⟨#[69, 85, 82]⟩]) true).run Tryz.prog V.drew = .ok (.tuple #[.agg #[.int .i64 (-1099511627776), .int .i64 T, .int .i64 H], .bool true]) V.drew := l1
    have l2' : (Instr.lookup 45 (.map (some b)) (.agg #[.string ⟨#[97]⟩, .string ⟨#[69, 85, 82]⟩]) true).run Tryz.prog (V.alloc (.cells #[.int .i64 0, .int .i64 0, .int .i64 0] 53)).drew = .ok (.tuple #[.agg #[.int .i64 (-1099511627776), .int .i64 T, .int .i64 H], .bool true]) (V.alloc (.cells #[.int .i64 0, .int .i64 0, .int .i64 0] 53)).drew := l2
    clear l1 l2
    have e0 : (V.alloc (.cells #[.int .i64 0, .int .i64 0, .int .i64 0] 53)).cell? ⟨p, 0, none⟩ = some (.map (some b)) := Lib.cell?_alloc_some _ cp
    have e1 : (V.alloc (.cells #[.int .i64 0, .int .i64 0, .int .i64 0] 53)).cell? ⟨w.heap.size + 1, 0, none⟩ = some (.string ⟨#[97]⟩) := Lib.cell?_alloc_some _ i0
    have e2 : (V.alloc (.cells #[.int .i64 0, .int .i64 0, .int .i64 0] 53)).cell? ⟨w.heap.size + 1, 1, none⟩ = some (.string ⟨#[69, 85, 82]⟩) := Lib.cell?_alloc_some _ i1
    have hpV : p < V.heap.size := by omega
    go_region
    all_goals
      clear l1' l2' e0 e1 e2
      have HbX := Lib.hid ((HbV.out.alloc HbV.out.size (.cells #[.int .i64 (-1099511627776), .int .i64 T, .int .i64 H] 53)).drew)
      have HcX := Lib.hid (HcV.out.below (((Below.refl V.heap.size V).alloc (Nat.le_refl _) (.cells #[.int .i64 (-1099511627776), .int .i64 T, .int .i64 H] 53)).drew))
      have HCX := Lib.hid (HCV.out.below (((Below.refl V.heap.size V).alloc (Nat.le_refl _) (.cells #[.int .i64 (-1099511627776), .int .i64 T, .int .i64 H] 53)).drew))
      have HBX := Lib.hid (HB.out.trans ((((Below.refl V.heap.size V).alloc (Nat.le_refl _) (.cells #[.int .i64 (-1099511627776), .int .i64 T, .int .i64 H] 53)).drew).mono HCV.out.base_le))
      have ha : (V.alloc (.cells #[.int .i64 (-1099511627776), .int .i64 T, .int .i64 H] 53)).drew.heap[w.heap.size + 2]? = some (.cells #[.int .i64 (-1099511627776), .int .i64 T, .int .i64 H] 53) := by rw [← hVs]; exact heap_alloc_new V _
      have hk1 : (V.alloc (.cells #[.int .i64 (-1099511627776), .int .i64 T, .int .i64 H] 53)).drew.heap[w.heap.size + 1]? = some (.cells #[.string ⟨#[97]⟩, .string ⟨#[69, 85, 82]⟩] 51) := (Below.heap_alloc V _ (w.heap.size + 1) (by omega)).trans Hkk.out
      have hXs : w.heap.size + 2 < (V.alloc (.cells #[.int .i64 (-1099511627776), .int .i64 T, .int .i64 H] 53)).drew.heap.size := by simp; omega
      generalize (V.alloc (.cells #[.int .i64 (-1099511627776), .int .i64 T, .int .i64 H] 53)).drew = X at *
      clear i0 i1 cp HcV HCV HB
      have a0 : X.cell? ⟨w.heap.size + 2, 0, none⟩ = some (.int .i64 (-1099511627776)) := by unfold World.cell?; rw [ha]; rfl
      have a1 : X.cell? ⟨w.heap.size + 2, 1, none⟩ = some (.int .i64 T) := by unfold World.cell?; rw [ha]; rfl
      have a2 : X.cell? ⟨w.heap.size + 2, 2, none⟩ = some (.int .i64 H) := by unfold World.cell?; rw [ha]; rfl
      have Ha := Lib.hid ha
      have Hk1 := Lib.hid hk1
      clear ha hk1
      by_cases hs1 : sum < 1
      · have q1 : decide (sum < 1) = true := by simpa using hs1
        go_wp2
        go_ret
        refine ⟨⟨_, rfl⟩, ?_, HBX.out⟩
        unfold holdF
        rw [hf]
        simp only
        rw [if_neg (by omega)]
        exact (HCX.out.same (Below.refl _ _)).same (Below.refl _ _)
      · have q1 : decide (sum < 1) = false := by simpa using hs1
        have q2 : decide ((1099511627776 : Int) < sum) = false := by simp; omega
        have q3 : decide (T - H - -1099511627776 < sum) = false := by simp; omega
        have q3' : decide (T - H + 1099511627776 < sum) = false := by simp; omega
        have q4 : IntKind.i64.wrap (H + sum) = H + sum := IntWalk.i64_in _ (by omega)
        go_wp2_with fail
        refine (free_any (-1099511627776) T H X (by omega) (by omega) (by omega)).mono ?_
        rintro e Y ⟨rfl, hbY⟩
        have HY := Lib.hid (HcX.out.below hbY)
        have HbY := Lib.hid (HbX.out.trans (hbY.mono HbX.out.size))
        have haY := (hbY.block (w.heap.size + 2) hXs).trans Ha.out
        have hkY := (hbY.block (w.heap.size + 1) (by omega)).trans Hk1.out
        have HaY := Lib.hid haY
        have HkY := Lib.hid hkY
        have c2 := HY.out.led.lg.c2
        obtain ⟨mm, hmm, hln⟩ := HY.out.hs.len Tryz.underlying46
        have hln' := hln 3
        have q5 : decide ((4096 : Int) ≤ (mm : Int)) = false := by simp; omega
        have hnl := run_eql_map_nil (P := Tryz.prog) Y 46 9 56 (some h) Tryz.underlying46
        obtain ⟨w3, hrun, hM3, ht3⟩ := HY.out.hs.store Tryz.underlying46 (by unfold maxLen; omega) (x := id) (Nat.le_trans hi (by omega)) (v := ⟨id, aaT, eurT, sum⟩) trivial
        have hrun3 : (Instr.mapUpdate 46 (.map (some h)) (.string id) (.agg #[.string id, .string ⟨#[97]⟩, .string ⟨#[69, 85, 82]⟩, .int .i64 sum])).run Tryz.prog Y = .ok () w3 := hrun
        obtain ⟨hL3, hg3⟩ := HY.out.lh.putH hM3 ht3
        have HL3 := Lib.hid hL3
        have hYs : w.heap.size + 2 < Y.heap.size := by have := hbY.size; omega
        have nh : w.heap.size + 2 ≠ h := by have := Hc.out.hs.lt; omega
        have nh1 : w.heap.size + 1 ≠ h := by have := Hc.out.hs.lt; omega
        have nb : w.heap.size + 2 ≠ b := by have := Hc.out.led.lg.blt; omega
        have np : w.heap.size + 2 ≠ p := by omega
        have ha3 := (hg3.block (w.heap.size + 2) hYs (fun e => nh (by injection e))).trans haY
        have hk3 := (hg3.block (w.heap.size + 1) (by omega) (fun e => nh1 (by injection e))).trans hkY
        have b0 : w3.cell? ⟨w.heap.size + 2, 0, none⟩ = some (.int .i64 (-1099511627776)) := by unfold World.cell?; rw [ha3]; rfl
        have b1 : w3.cell? ⟨w.heap.size + 2, 1, none⟩ = some (.int .i64 T) := by unfold World.cell?; rw [ha3]; rfl
        have b2 : w3.cell? ⟨w.heap.size + 2, 2, none⟩ = some (.int .i64 H) := by unfold World.cell?; rw [ha3]; rfl
        have b3 : w3.frozen? ⟨w.heap.size + 2, 2, none⟩ = false := by unfold World.frozen?; rw [ha3]; rfl
        have k0 : w3.cell? ⟨w.heap.size + 1, 0, none⟩ = some (.string ⟨#[97]⟩) := by unfold World.cell?; rw [hk3]; rfl
        have k1 : w3.cell? ⟨w.heap.size + 1, 1, none⟩ = some (.string ⟨#[69, 85, 82]⟩) := by unfold World.cell?; rw [hk3]; rfl
        have HK3 := Lib.hid (show Kp (fun j => j = b ∨ j = h) w w3 from (Kp.of_below _ HbY.out).trans ⟨hg3.os, hg3.tape, hg3.output, hg3.size, fun j hj hn => hg3.block j hj (fun e => hn (.inr (by injection e)))⟩)
        clear hrun hM3 ht3 hL3 hg3 ha3 hk3 haY hkY hln a0 a1 a2
        go_wp2_with fail
        clear hrun3 hln' hnl c2
        have d0 : (w3.setCell ⟨w.heap.size + 2, 2, none⟩ (.int .i64 (H + sum))).cell? ⟨w.heap.size + 2, 0, none⟩ = some (.int .i64 (-1099511627776)) := (World.cell?_setCell_other w3 ⟨w.heap.size + 2, 2, none⟩ ⟨w.heap.size + 2, 0, none⟩ _ (by simp)).trans b0
        have d1 : (w3.setCell ⟨w.heap.size + 2, 2, none⟩ (.int .i64 (H + sum))).cell? ⟨w.heap.size + 2, 1, none⟩ = some (.int .i64 T) := (World.cell?_setCell_other w3 ⟨w.heap.size + 2, 2, none⟩ ⟨w.heap.size + 2, 1, none⟩ _ (by simp)).trans b1
        have d2 : (w3.setCell ⟨w.heap.size + 2, 2, none⟩ (.int .i64 (H + sum))).cell? ⟨w.heap.size + 2, 2, none⟩ = some (.int .i64 (H + sum)) := World.cell?_setCell_same' w3 _ _ (by rw [b2]; rfl)
        have d3 : (w3.setCell ⟨w.heap.size + 2, 2, none⟩ (.int .i64 (H + sum))).cell? ⟨w.heap.size + 1, 0, none⟩ = some (.string ⟨#[97]⟩) := (World.cell?_setCell_other w3 ⟨w.heap.size + 2, 2, none⟩ ⟨w.heap.size + 1, 0, none⟩ _ (by simp)).trans k0
        have d4 : (w3.setCell ⟨w.heap.size + 2, 2, none⟩ (.int .i64 (H + sum))).cell? ⟨w.heap.size + 1, 1, none⟩ = some (.string ⟨#[69, 85, 82]⟩) := (World.cell?_setCell_other w3 ⟨w.heap.size + 2, 2, none⟩ ⟨w.heap.size + 1, 1, none⟩ _ (by simp)).trans k1
        have hL4 := HL3.out.set (a := ⟨w.heap.size + 2, 2, none⟩) np nb nh (.int .i64 (H + sum))
        have HK4 := Lib.hid (show Kp (fun j => j = b ∨ j = h) w (w3.setCell ⟨w.heap.size + 2, 2, none⟩ (.int .i64 (H + sum))) from ⟨HK3.out.os, HK3.out.tape, HK3.out.output, by simp; exact HK3.out.size, fun j hj hn => (heap_setCell_other w3 ⟨w.heap.size + 2, 2, none⟩ j _ (by simp only; omega)).trans (HK3.out.block j hj hn)⟩)
        clear b0 b1 b2 b3 k0 k1 HK3 HL3
        generalize w3.setCell ⟨w.heap.size + 2, 2, none⟩ (.int .i64 (H + sum)) = w4 at *
        have c0 := hL4.lg.c0
        obtain ⟨w5, hrun, hM5, ht5⟩ := (hL4.drewN 1).lg.acc.store Tryz.underlying45 (by unfold maxLen; omega) (x := (aaT, eurT)) smallA (v := ⟨-1099511627776, T, H + sum⟩) trivial
        have hrun5 : (Instr.mapUpdate 45 (.map (some b)) (.agg #[.string ⟨#[97]⟩, .string ⟨#[69, 85, 82]⟩]) (.agg #[.int .i64 (-1099511627776), .int .i64 T, .int .i64 (H + sum)])).run Tryz.prog w4.drew = .ok () w5 := hrun
        obtain ⟨hL5, hg5⟩ := (hL4.drewN 1).putA hM5 ht5
        have HL5 := Lib.hid hL5
        have HK5 := Lib.hid (HK4.out.trans (show Kp (fun j => j = b ∨ j = h) w4 w5 from ⟨hg5.os, hg5.tape, hg5.output, hg5.size, fun j hj hn => hg5.block j hj (fun e => hn (.inl (by injection e)))⟩))
        clear hrun hM5 ht5 hL5 hg5 hL4
        go_region
        all_goals
          go_wp2
          go_ret
          have hne : ((bbT, eurT) : Nt) ≠ (aaT, eurT) := fun e => aa_bb (by injection e with e _; exact e.symm)
          have hL := HL5.out
          rw [holdsF_put] at hL
          refine ⟨⟨_, rfl⟩, ?_, Hc.out.kp_base HK5.out ?_⟩
          · unfold holdF
            rw [hf]
            simp only
            rw [if_pos (by omega)]
            refine ⟨⟨b, h, _, _, _, pv, L, Hc.out.turn hL HK5.out, ht, by omega, by omega, ⟨T, H + sum, by rw [putG_same], by push_cast; omega, by push_cast; omega, by push_cast; omega, by push_cast; omega⟩, T', by rw [putG_other _ _ hne]; exact g1, g2, by push_cast; omega⟩, ?_, by have := HC.out.len; omega⟩
            intro i v hv
            by_cases e : i = id
            · subst e
              rw [putG_same] at hv
              injection hv with hv
              omega
            · rw [putG_other _ _ e] at hv
              exact HC.out.amt i v hv
          · rintro j (e | e)
            · rw [e]; exact Hc.out.led.bb
            · rw [e]; exact Hc.out.hb
end Go.Proofs.YtooeelaobmhifaaGreatDoor
namespace Go.Proofs.YtooeelaobmhifaaGreatDoor
open Go.RowKit Go.Maps Go.Lib
set_option linter.unusedVariables false
set_option maxRecDepth 100000

set_option maxHeartbeats 400000 in
theorem new_holds (s : ByteArray) (w : World) : Calls Tryz.prog 5 #[.string s] w fun e w' =>
    e = .returned (.pointer (some ⟨w.heap.size + 2, 0, none⟩)) ∧ Lh w' (w.heap.size + 2) w.heap.size (w.heap.size + 1) 0 0 (fun _ => none) (.slice none 0 0) (fun _ => none) ∧ Below w.heap.size w w' := by
  have hmm := @run_makeMap Tryz.prog
  go_enter Tryz.func5, Tryz.ntmps5
  go_wp2
  go_ret
  have h1 : (w.alloc (.map #[] 0)).heap.size = w.heap.size + 1 := by simp
  have h2 : ((w.alloc (.map #[] 0)).alloc (.map #[] 0)).heap.size = w.heap.size + 2 := by simp
  refine ⟨rfl, ⟨⟨?_, ((Mp.made w).alloc _).alloc _⟩, ?_, by omega⟩, (((Below.refl _ _).alloc (Nat.le_refl _) _).alloc (by rw [h1]; omega) _).alloc (by rw [h2]; omega) _⟩
  · have := (MapKept.heap_alloc ((w.alloc (.map #[] 0)).alloc (.map #[] 0)) (.cells #[.map (some w.heap.size), .slice none 0 0, .map (some (w.heap.size + 1))] 48)).1
    rw [h2] at this
    exact this
  · have := (Mp.made (C := curC) (E := hdE) (w.alloc (.map #[] 0))).alloc (.cells #[.map (some w.heap.size), .slice none 0 0, .map (some (w.heap.size + 1))] 48)
    rw [h1] at this
    exact this
/-- the ledger, with its two accounts -/
theorem Cs.start {w : World} {base p b h n : Nat} {G : Nt → Option Ac} (x : Lh w p b h n 0 G (.slice none 0 0) (fun _ => none)) (hn : n ≤ 10) (hA : G (aaT, eurT) = some ⟨-1099511627776, 0, 0⟩) (hB : G (bbT, eurT) = some ⟨0, 0, 0⟩) (hp : base ≤ p) (hb : base ≤ b) (hh : base ≤ h) : Cs w base p (fun _ => none) [] 0 := by
  have hF : holdsF (fun _ => none) = fun _ => none := by funext i; rfl
  refine ⟨⟨b, h, n, 0, G, .slice none 0 0, [], ⟨⟨x.lg, World.ownsRow_nil _ _ _ _, by simp, by simp, hp, hb⟩, by rw [hF]; exact x.hs, x.ne, hh⟩, rfl, by omega, by omega, ⟨0, 0, hA, by simp, by simp, by simp, by simp⟩, 0, hB, by simp, by simp⟩, by simp, by simp⟩
end Go.Proofs.YtooeelaobmhifaaGreatDoor
