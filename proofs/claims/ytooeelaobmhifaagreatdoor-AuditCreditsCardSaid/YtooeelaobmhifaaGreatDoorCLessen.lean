/- Ledger.lessen: so much is taken off a hold. -/
import Derived.Test.YtooeelaobmhifaaGreatDoorCHolds
import Derived.Test.YtooeelaobmhifaaGreatDoorALed
namespace Go.Proofs.YtooeelaobmhifaaGreatDoor
open Go.RowKit Go.Maps Go.Lib
set_option linter.unusedVariables false
set_option maxRecDepth 100000

theorem Lg.look2 {w3 : World} {p b n : Nat} {G : Nt → Option Ac} {pv hv : Value} (hL : Lg w3 p b n G pv hv) {s t : ByteArray} (hx : Small (s, t)) {ac : Ac} (hG : G (s, t) = some ac) :
    w3.cell? ⟨p, 0, none⟩ = some (.map (some b)) ∧
    (Instr.lookup 45 (.map (some b)) (.agg #[.string s, .string t]) false).run Tryz.prog w3.drew = .ok (.agg #[.int .i64 ac.floor, .int .i64 ac.bal, .int .i64 ac.held]) w3.drew ∧
    (Instr.lookup 45 (.map (some b)) (.agg #[.string s, .string t]) false).run Tryz.prog (w3.alloc (.cells #[.int .i64 0, .int .i64 0, .int .i64 0] 53)).drew = .ok (.agg #[.int .i64 ac.floor, .int .i64 ac.bal, .int .i64 ac.held]) (w3.alloc (.cells #[.int .i64 0, .int .i64 0, .int .i64 0] 53)).drew := by
  refine ⟨hL.c0, ?_, ?_⟩
  · have := (hL.drewN 1).acc.look Tryz.underlying45 (zeroAc _) trivial (x := (s, t)) hx
    rw [hG] at this
    exact this
  · have := ((hL.alloc (.cells #[.int .i64 0, .int .i64 0, .int .i64 0] 53)).drewN 1).acc.look Tryz.underlying45 (zeroAc _) trivial (x := (s, t)) hx
    rw [hG] at this
    exact this
/-- what is left of a hold -/
def lessF (F : ByteArray → Option Hd) (d : Hd) (sum : Int) : ByteArray → Option Hd := if d.n - sum = 0 then delG F d.id else putG F d.id ⟨d.id, d.acc, d.cur, d.n - sum⟩

set_option maxHeartbeats 4000000 in
theorem lessen_any (d : Hd) (sum : Int) (w : World) (p b h n m : Nat) (G : Nt → Option Ac) (pv : Value) (F : ByteArray → Option Hd) (ac : Ac) (hL : Lh w p b h n m G pv F) (hG : G (d.acc, d.cur) = some ac) (hx : Small (d.acc, d.cur)) (hi : d.id.size ≤ maxLen)
    (hs0 : 0 ≤ sum) (hs1 : sum ≤ 1099511627776) (hn0 : 0 ≤ d.n) (hn1 : d.n ≤ 1099511627776) (hh0 : -1099511627776 ≤ ac.held) (hh1 : ac.held ≤ 1099511627776) (hn : n < 4000000) (hm : m < 4000000) :
    Calls Tryz.prog 19 #[.pointer (some ⟨p, 0, none⟩), .agg #[.string d.id, .string d.acc, .string d.cur, .int .i64 d.n], .int .i64 sum] w fun e w' =>
      e = .returned (.tuple #[]) ∧ Lh w' p b h (n + 1) (m + 1) (putG G (d.acc, d.cur) ⟨ac.floor, ac.bal, ac.held - sum⟩) pv (lessF F d sum) ∧ Kp (fun k => k = b ∨ k = h) w w' := by
  obtain ⟨id, acc, cur, dn⟩ := d
  simp only at hG hx hi hn0 hn1 ⊢
  have hpl := hL.lg.plt
  have q1 : IntKind.i64.wrap (ac.held - sum) = ac.held - sum := IntWalk.i64_in _ (by omega)
  have q2 : IntKind.i64.wrap (dn - sum) = dn - sum := IntWalk.i64_in _ (by omega)
  have HL := Lib.hid hL
  have HG := Lib.hid hG
  have Hx := Lib.hid hx
  clear hL hG hx
  go_enter Tryz.func19, Tryz.ntmps19
  go_wp2_with fail
  have HLV := Lib.hid ((HL.out.alloc (.cells #[.string id, .string acc, .string cur, .int .i64 dn] 56)).alloc (.cells #[.string acc, .string cur] 51))
  have HbV := Lib.hid (((Below.refl w.heap.size w).alloc (Nat.le_refl _) (.cells #[.string id, .string acc, .string cur, .int .i64 dn] 56)).alloc (by simp) (.cells #[.string acc, .string cur] 51))
  have h0 : ((w.alloc (.cells #[.string id, .string acc, .string cur, .int .i64 dn] 56)).alloc (.cells #[.string acc, .string cur] 51)).cell? ⟨w.heap.size, 0, none⟩ = some (.string id) := Lib.cell?_alloc_some _ (by simp)
  have h1 : ((w.alloc (.cells #[.string id, .string acc, .string cur, .int .i64 dn] 56)).alloc (.cells #[.string acc, .string cur] 51)).cell? ⟨w.heap.size, 1, none⟩ = some (.string acc) := Lib.cell?_alloc_some _ (by simp)
  have h2 : ((w.alloc (.cells #[.string id, .string acc, .string cur, .int .i64 dn] 56)).alloc (.cells #[.string acc, .string cur] 51)).cell? ⟨w.heap.size, 2, none⟩ = some (.string cur) := Lib.cell?_alloc_some _ (by simp)
  have h3 : ((w.alloc (.cells #[.string id, .string acc, .string cur, .int .i64 dn] 56)).alloc (.cells #[.string acc, .string cur] 51)).cell? ⟨w.heap.size, 3, none⟩ = some (.int .i64 dn) := Lib.cell?_alloc_some _ (by simp)
  have f3 : ((w.alloc (.cells #[.string id, .string acc, .string cur, .int .i64 dn] 56)).alloc (.cells #[.string acc, .string cur] 51)).frozen? ⟨w.heap.size, 3, none⟩ = false := by
    rw [World.frozen?_of_block (w := w.alloc (.cells #[.string id, .string acc, .string cur, .int .i64 dn] 56)) (a := ⟨w.heap.size, 3, none⟩) (Below.heap_alloc _ _ _ (by simp))]
    have := heap_alloc_new w (.cells #[.string id, .string acc, .string cur, .int .i64 dn] 56)
    unfold World.frozen?
    rw [this]
    rfl
  have hk : ((w.alloc (.cells #[.string id, .string acc, .string cur, .int .i64 dn] 56)).alloc (.cells #[.string acc, .string cur] 51)).heap[w.heap.size + 1]? = some (.cells #[.string acc, .string cur] 51) := by
    have := heap_alloc_new (w.alloc (.cells #[.string id, .string acc, .string cur, .int .i64 dn] 56)) (.cells #[.string acc, .string cur] 51)
    simpa using this
  have k0 : ((w.alloc (.cells #[.string id, .string acc, .string cur, .int .i64 dn] 56)).alloc (.cells #[.string acc, .string cur] 51)).cell? ⟨w.heap.size + 1, 0, none⟩ = some (.string acc) := by unfold World.cell?; rw [hk]; rfl
  have k1 : ((w.alloc (.cells #[.string id, .string acc, .string cur, .int .i64 dn] 56)).alloc (.cells #[.string acc, .string cur] 51)).cell? ⟨w.heap.size + 1, 1, none⟩ = some (.string cur) := by unfold World.cell?; rw [hk]; rfl
  have hVs : ((w.alloc (.cells #[.string id, .string acc, .string cur, .int .i64 dn] 56)).alloc (.cells #[.string acc, .string cur] 51)).heap.size = w.heap.size + 2 := by simp
  clear hk
  generalize ((w.alloc (.cells #[.string id, .string acc, .string cur, .int .i64 dn] 56)).alloc (.cells #[.string acc, .string cur] 51)) = V at *
  obtain ⟨cp, l1, l2⟩ := HLV.out.lg.look2 Hx.out HG.out
  have hpV : p < V.heap.size := by omega
  have e0 : (V.alloc (.cells #[.int .i64 0, .int .i64 0, .int .i64 0] 53)).cell? ⟨p, 0, none⟩ = some (.map (some b)) := Lib.cell?_alloc_some _ cp
  have e1 : (V.alloc (.cells #[.int .i64 0, .int .i64 0, .int .i64 0] 53)).cell? ⟨w.heap.size + 1, 0, none⟩ = some (.string acc) := Lib.cell?_alloc_some _ k0
  have e2 : (V.alloc (.cells #[.int .i64 0, .int .i64 0, .int .i64 0] 53)).cell? ⟨w.heap.size + 1, 1, none⟩ = some (.string cur) := Lib.cell?_alloc_some _ k1
  go_region
  all_goals
    go_wp2_with fail
    clear l1 l2 e0 e1 e2
    have hLY := (HLV.out.alloc (.cells #[.int .i64 ac.floor, .int .i64 ac.bal, .int .i64 (ac.held - sum)] 53)).drewN 1
    have HbY := Lib.hid ((HbV.out.alloc HbV.out.size (.cells #[.int .i64 ac.floor, .int .i64 ac.bal, .int .i64 (ac.held - sum)] 53)).drew)
    have j0 : (V.alloc (.cells #[.int .i64 ac.floor, .int .i64 ac.bal, .int .i64 (ac.held - sum)] 53)).drew.cell? ⟨w.heap.size + 1, 0, none⟩ = some (.string acc) := Lib.cell?_alloc_some _ k0
    have j1 : (V.alloc (.cells #[.int .i64 ac.floor, .int .i64 ac.bal, .int .i64 (ac.held - sum)] 53)).drew.cell? ⟨w.heap.size + 1, 1, none⟩ = some (.string cur) := Lib.cell?_alloc_some _ k1
    have j2 : (V.alloc (.cells #[.int .i64 ac.floor, .int .i64 ac.bal, .int .i64 (ac.held - sum)] 53)).drew.cell? ⟨w.heap.size + 2, 0, none⟩ = some (.int .i64 ac.floor) := by rw [← hVs]; simp
    have j3 : (V.alloc (.cells #[.int .i64 ac.floor, .int .i64 ac.bal, .int .i64 (ac.held - sum)] 53)).drew.cell? ⟨w.heap.size + 2, 1, none⟩ = some (.int .i64 ac.bal) := by rw [← hVs]; simp
    have j4 : (V.alloc (.cells #[.int .i64 ac.floor, .int .i64 ac.bal, .int .i64 (ac.held - sum)] 53)).drew.cell? ⟨w.heap.size + 2, 2, none⟩ = some (.int .i64 (ac.held - sum)) := by rw [← hVs]; simp
    have g0 : (V.alloc (.cells #[.int .i64 ac.floor, .int .i64 ac.bal, .int .i64 (ac.held - sum)] 53)).drew.cell? ⟨w.heap.size, 0, none⟩ = some (.string id) := Lib.cell?_alloc_some _ h0
    have g1 : (V.alloc (.cells #[.int .i64 ac.floor, .int .i64 ac.bal, .int .i64 (ac.held - sum)] 53)).drew.cell? ⟨w.heap.size, 1, none⟩ = some (.string acc) := Lib.cell?_alloc_some _ h1
    have g2 : (V.alloc (.cells #[.int .i64 ac.floor, .int .i64 ac.bal, .int .i64 (ac.held - sum)] 53)).drew.cell? ⟨w.heap.size, 2, none⟩ = some (.string cur) := Lib.cell?_alloc_some _ h2
    have g3 : (V.alloc (.cells #[.int .i64 ac.floor, .int .i64 ac.bal, .int .i64 (ac.held - sum)] 53)).drew.cell? ⟨w.heap.size, 3, none⟩ = some (.int .i64 dn) := Lib.cell?_alloc_some _ h3
    have g4 : (V.alloc (.cells #[.int .i64 ac.floor, .int .i64 ac.bal, .int .i64 (ac.held - sum)] 53)).drew.frozen? ⟨w.heap.size, 3, none⟩ = false := (World.frozen?_of_block (w := V) (a := ⟨w.heap.size, 3, none⟩) (Below.heap_alloc V _ w.heap.size (by omega))).trans f3
    have hYs : w.heap.size < (V.alloc (.cells #[.int .i64 ac.floor, .int .i64 ac.bal, .int .i64 (ac.held - sum)] 53)).drew.heap.size := by simp; omega
    change Lh (V.alloc (.cells #[.int .i64 ac.floor, .int .i64 ac.bal, .int .i64 (ac.held - sum)] 53)).drew p b h n m G pv F at hLY
    generalize (V.alloc (.cells #[.int .i64 ac.floor, .int .i64 ac.bal, .int .i64 (ac.held - sum)] 53)).drew = Y at *
    have cY := hLY.lg.c0
    obtain ⟨w5, hrun, hM5, ht5⟩ := (hLY.drewN 1).lg.acc.store Tryz.underlying45 (by unfold maxLen; omega) (x := (acc, cur)) Hx.out (v := ⟨ac.floor, ac.bal, ac.held - sum⟩) trivial
    have hrun' : (Instr.mapUpdate 45 (.map (some b)) (.agg #[.string acc, .string cur]) (.agg #[.int .i64 ac.floor, .int .i64 ac.bal, .int .i64 (ac.held - sum)])).run Tryz.prog Y.drew = .ok () w5 := hrun
    obtain ⟨hL5, hg5⟩ := (hLY.drewN 1).putA hM5 ht5
    have hbw : w.heap.size ≠ b := by have := HL.out.lg.blt; omega
    have hhw : w.heap.size ≠ h := by have := HL.out.hlt; omega
    have hpw : w.heap.size ≠ p := by omega
    have u0 : w5.cell? ⟨w.heap.size, 0, none⟩ = some (.string id) := (hg5.cell_far ⟨w.heap.size, 0, none⟩ hYs (fun e => hbw (by injection e))).trans g0
    have u1 : w5.cell? ⟨w.heap.size, 1, none⟩ = some (.string acc) := (hg5.cell_far ⟨w.heap.size, 1, none⟩ hYs (fun e => hbw (by injection e))).trans g1
    have u2 : w5.cell? ⟨w.heap.size, 2, none⟩ = some (.string cur) := (hg5.cell_far ⟨w.heap.size, 2, none⟩ hYs (fun e => hbw (by injection e))).trans g2
    have u3 : w5.cell? ⟨w.heap.size, 3, none⟩ = some (.int .i64 dn) := (hg5.cell_far ⟨w.heap.size, 3, none⟩ hYs (fun e => hbw (by injection e))).trans g3
    have u4 : w5.frozen? ⟨w.heap.size, 3, none⟩ = false := (hg5.frozen_far ⟨w.heap.size, 3, none⟩ hYs (fun e => hbw (by injection e))).trans g4
    have HL5 := Lib.hid hL5
    have HK5 := Lib.hid (show Kp (fun k => k = b ∨ k = h) w w5 from by
      have k1 := Kp.of_below (fun k => k = b ∨ k = h) HbY.out
      have k2 : Kp (fun k => k = b ∨ k = h) Y w5 := ⟨hg5.os, hg5.tape, hg5.output, hg5.size, fun k hk hn => hg5.block k hk (fun e => hn (.inl (by injection e)))⟩
      exact k1.trans k2)
    clear hrun hM5 ht5 hL5 hg5 g0 g1 g2 g3 g4 h0 h1 h2 h3 f3 k0 k1 cp hLY
    go_region
    all_goals
      clear hrun' cY j0 j1 j2 j3 j4
      by_cases hz : dn - sum = 0
      · have z1 : ((dn - sum) == 0) = true := by simp [hz]
        go_wp2_with fail
        have v0 : (w5.setCell ⟨w.heap.size, 3, none⟩ (.int .i64 0)).cell? ⟨w.heap.size, 0, none⟩ = some (.string id) := (World.cell?_setCell_other w5 ⟨w.heap.size, 3, none⟩ ⟨w.heap.size, 0, none⟩ _ (by simp)).trans u0
        have v1 : (w5.setCell ⟨w.heap.size, 3, none⟩ (.int .i64 0)).cell? ⟨w.heap.size, 1, none⟩ = some (.string acc) := (World.cell?_setCell_other w5 ⟨w.heap.size, 3, none⟩ ⟨w.heap.size, 1, none⟩ _ (by simp)).trans u1
        have v2 : (w5.setCell ⟨w.heap.size, 3, none⟩ (.int .i64 0)).cell? ⟨w.heap.size, 2, none⟩ = some (.string cur) := (World.cell?_setCell_other w5 ⟨w.heap.size, 3, none⟩ ⟨w.heap.size, 2, none⟩ _ (by simp)).trans u2
        have v3 : (w5.setCell ⟨w.heap.size, 3, none⟩ (.int .i64 0)).cell? ⟨w.heap.size, 3, none⟩ = some (.int .i64 0) := World.cell?_setCell_same' w5 _ _ (by rw [u3]; rfl)
        have HL6 := Lib.hid (HL5.out.set (a := ⟨w.heap.size, 3, none⟩) hpw hbw hhw (.int .i64 0))
        have HK6 := Lib.hid (show Kp (fun k => k = b ∨ k = h) w (w5.setCell ⟨w.heap.size, 3, none⟩ (.int .i64 0)) from ⟨HK5.out.os, HK5.out.tape, HK5.out.output, by simp; exact HK5.out.size, fun k hk hn => (heap_setCell_other w5 ⟨w.heap.size, 3, none⟩ k _ (by simp only; omega)).trans (HK5.out.block k hk hn)⟩)
        clear u0 u1 u2 u3 u4 HL5 HK5
        generalize w5.setCell ⟨w.heap.size, 3, none⟩ (.int .i64 0) = w6 at *
        have c6 := HL6.out.lg.c2
        obtain ⟨w7, hrun7, hM7, ht7⟩ := (HL6.out.drewN 1).hs.drop Tryz.underlying46 (x := id) hi 0
        have hrun8 : (Builtin.delete_ #[46, 9] 0 #[.map (some h), .string id]).run Tryz.prog w6.drew = .ok (.tuple #[]) w7 := hrun7
        obtain ⟨hL7, hg7⟩ := (HL6.out.drewN 1).delH hM7 ht7
        have HL7 := Lib.hid hL7
        have HK7 := Lib.hid (show Kp (fun k => k = b ∨ k = h) w6 w7 from ⟨hg7.os, hg7.tape, hg7.output, hg7.size, fun k hk hn => hg7.block k hk (fun e => hn (.inr (by injection e)))⟩)
        clear hrun7 hM7 ht7 hL7 hg7
        go_region
        all_goals
          go_wp2
          refine bodyPost_ret (results_none rfl _ _ _) rfl ?_
          refine ⟨rfl, ?_, HK6.out.trans HK7.out⟩
          unfold lessF
          rw [if_pos hz]
          exact HL7.out.more (by omega)
      · have z1 : ((dn - sum) == 0) = false := by simp [hz]
        go_wp2_with fail
        have v0 : (w5.setCell ⟨w.heap.size, 3, none⟩ (.int .i64 (dn - sum))).cell? ⟨w.heap.size, 0, none⟩ = some (.string id) := (World.cell?_setCell_other w5 ⟨w.heap.size, 3, none⟩ ⟨w.heap.size, 0, none⟩ _ (by simp)).trans u0
        have v1 : (w5.setCell ⟨w.heap.size, 3, none⟩ (.int .i64 (dn - sum))).cell? ⟨w.heap.size, 1, none⟩ = some (.string acc) := (World.cell?_setCell_other w5 ⟨w.heap.size, 3, none⟩ ⟨w.heap.size, 1, none⟩ _ (by simp)).trans u1
        have v2 : (w5.setCell ⟨w.heap.size, 3, none⟩ (.int .i64 (dn - sum))).cell? ⟨w.heap.size, 2, none⟩ = some (.string cur) := (World.cell?_setCell_other w5 ⟨w.heap.size, 3, none⟩ ⟨w.heap.size, 2, none⟩ _ (by simp)).trans u2
        have v3 : (w5.setCell ⟨w.heap.size, 3, none⟩ (.int .i64 (dn - sum))).cell? ⟨w.heap.size, 3, none⟩ = some (.int .i64 (dn - sum)) := World.cell?_setCell_same' w5 _ _ (by rw [u3]; rfl)
        have HL6 := Lib.hid (HL5.out.set (a := ⟨w.heap.size, 3, none⟩) hpw hbw hhw (.int .i64 (dn - sum)))
        have HK6 := Lib.hid (show Kp (fun k => k = b ∨ k = h) w (w5.setCell ⟨w.heap.size, 3, none⟩ (.int .i64 (dn - sum))) from ⟨HK5.out.os, HK5.out.tape, HK5.out.output, by simp; exact HK5.out.size, fun k hk hn => (heap_setCell_other w5 ⟨w.heap.size, 3, none⟩ k _ (by simp only; omega)).trans (HK5.out.block k hk hn)⟩)
        clear u0 u1 u2 u3 u4 HL5 HK5
        generalize w5.setCell ⟨w.heap.size, 3, none⟩ (.int .i64 (dn - sum)) = w6 at *
        have c6 := HL6.out.lg.c2
        obtain ⟨w7, hrun7, hM7, ht7⟩ := (HL6.out.drewN 1).hs.store Tryz.underlying46 (by unfold maxLen; omega) (x := id) hi (v := ⟨id, acc, cur, dn - sum⟩) trivial
        have hrun8 : (Instr.mapUpdate 46 (.map (some h)) (.string id) (.agg #[.string id, .string acc, .string cur, .int .i64 (dn - sum)])).run Tryz.prog w6.drew = .ok () w7 := hrun7
        obtain ⟨hL7, hg7⟩ := (HL6.out.drewN 1).putH hM7 ht7
        have HL7 := Lib.hid hL7
        have HK7 := Lib.hid (show Kp (fun k => k = b ∨ k = h) w6 w7 from ⟨hg7.os, hg7.tape, hg7.output, hg7.size, fun k hk hn => hg7.block k hk (fun e => hn (.inr (by injection e)))⟩)
        clear hrun7 hM7 ht7 hL7 hg7
        go_region
        all_goals
          go_wp2
          go_end0
          refine ⟨rfl, ?_, HK6.out.trans HK7.out⟩
          unfold lessF
          rw [if_neg hz]
          exact HL7.out
end Go.Proofs.YtooeelaobmhifaaGreatDoor
