/- Ledger.enter: the accounts change, the post stands behind the others. -/
import Derived.Test.YtdinloecgaapaaaGreatDoorMABump
import Derived.Deep.RegionLaw
import Derived.Deep.RegionHeld3
import Derived.Deep.AppendLies
namespace Go.Proofs.YtdinloecgaapaaaGreatDoor
open Go.RowKit Go.Maps Go.Lib
set_option linter.unusedVariables false
set_option maxRecDepth 100000

theorem Lg.turn2 {w3 : World} {p b n : Nat} {G : Nt → Option Ac} {pv hv : Value} (hL : Lg w3 p b n G pv hv) {s t : ByteArray} (hx : Small (s, t)) {ac : Ac} (hG : G (s, t) = some ac) (o : Obj) :
    (w3.alloc o).cell? ⟨p, 0, none⟩ = some (.map (some b)) ∧
    (Instr.lookup 141 (.map (some b)) (.agg #[.string s, .string t]) false).run Tryz.prog (w3.alloc o).drew = .ok (.agg #[.int .i64 ac.floor, .int .i64 ac.bal, .int .i64 ac.held]) (w3.alloc o).drew ∧
    (Instr.lookup 141 (.map (some b)) (.agg #[.string s, .string t]) false).run Tryz.prog ((w3.alloc o).alloc (.cells #[.int .i64 0, .int .i64 0, .int .i64 0] 149)).drew = .ok (.agg #[.int .i64 ac.floor, .int .i64 ac.bal, .int .i64 ac.held]) ((w3.alloc o).alloc (.cells #[.int .i64 0, .int .i64 0, .int .i64 0] 149)).drew := by
  have h1 := hL.alloc o
  refine ⟨h1.c0, ?_, ?_⟩
  · have := (h1.drewN 1).acc.look Tryz.underlying141 (zeroAc _) trivial (x := (s, t)) hx
    rw [hG] at this
    exact this
  · have := ((h1.alloc (.cells #[.int .i64 0, .int .i64 0, .int .i64 0] 149)).drewN 1).acc.look Tryz.underlying141 (zeroAc _) trivial (x := (s, t)) hx
    rw [hG] at this
    exact this

theorem below_undrew {B : Nat} {a w : World} (h : Below B a.drew w) : Below B a w := ⟨h.os, h.tape, h.output, h.size, h.block⟩
theorem Led.at5 {wr w5 : World} {base p b n : Nat} {G : Nt → Option Ac} {pv hv : Value} {L : List Pl} (h : Led wr base p b n G pv hv L) (h5 : Below wr.heap.size wr w5) (num : Int) (txt : ByteArray) (v : Value) :
    (w5.alloc (.cells #[.int .i64 num, .string txt, v] 156)).ownsRow base 156 3 pv L.length (cellsP L) ∧ base ≤ (w5.alloc (.cells #[.int .i64 num, .string txt, v] 156)).heap.size ∧ pv.ownBlock ≠ some p ∧ (w5.alloc (.cells #[.int .i64 num, .string txt, v] 156)).frozen? ⟨p, 1, none⟩ = false ∧ p < w5.heap.size := by
  have hp := h.lg.plt
  have hb := h.pb
  have hs := h5.size
  refine ⟨(ownsRow_kp h.row (Kp.of_below (fun _ => False) h5) (fun _ _ e => e)).alloc _, by simp; omega, h.row_p, ?_, by omega⟩
  rw [World.frozen?_of_block (w := w5) (a := ⟨p, 1, none⟩) (Below.heap_alloc w5 _ p (by omega)), World.frozen?_of_block (w := wr) (a := ⟨p, 1, none⟩) (h5.block p hp)]
  simp [World.frozen?, h.lg.cell]

set_option maxHeartbeats 2000000 in
theorem enter_ok (txt : ByteArray) (A : Option Addr) (c : Nat) (es : List Ent) (w : World) (base p b n : Nat) (G : Nt → Option Ac) (pv hv : Value) (L : List Pl) (hD : Led w base p b n G pv hv L) (hR : Re w w.heap.size A es) (h0 : 0 < es.length) (hlen : es.length ≤ 64) (hF : ∀ e ∈ es, e.Fine) (hn : n + 64 < 4000000) (hLn : L.length ≤ 5000)
    (hacc : ∀ x v, eachG es x = some v → ∃ a, G x = some a ∧ Bears a v) :
    Calls Tryz.prog 73 #[.pointer (some ⟨p, 0, none⟩), .string txt, .slice A es.length c] w fun e w' => e = .returned (.int .i64 ((L.length : Int) + 1)) ∧
      ∃ pv' A' c' n', n' ≤ n + es.length ∧ Led w' base p b n' (bump G (eachG es)) pv' hv (L ++ [⟨⟨(L.length : Int) + 1, txt, es⟩, A', c'⟩]) ∧ Kp (own3 p b pv) w w' := by
  have hL := hD.lg
  have HD := Lib.hid hD
  have HR := Lib.hid hR
  have HF := Lib.hid hF
  obtain ⟨i0, hi0, hy0, hy1, hy2⟩ := info_parts post_info
  have hpl := hL.plt
  have hbl := hL.blt
  go_enter Tryz.func73, Tryz.ntmps73
  go_wp2_with fail
  refine (changes_any A c es _ hR hlen hF).mono ?_
  rintro e w1 ⟨rfl, hCh⟩
  have hz1 : w.heap.size + 2 ≤ w1.heap.size := hCh.size
  have Hb1 := Lib.hid hCh.bel
  have hE := hCh.each
  rw [List.take_length] at hE
  clear hCh
  go_wp2_with (first
    | (at_range; refine wpList_range_le _ rfl _ 185 rfl 2 Tryz.underlying185 w.heap.size es.length (eachG es) rfl hE ?_; intro w2 hrg2 hg2 hs2)
    | go_in)
  go_frame
  obtain ⟨cnt2, hcn2, hrg2⟩ := hrg2
  have hL2 : Lg w2 p b n (bumped G (eachG es) fun x => (eachG es x).isSome) pv hv := by
    rw [bumped_start]
    exact (hL.below Hb1.out hL.plt hL.blt).kept hg2 (by simp) (by simp)
  have HL2 := Lib.hid hL2
  have Hg2 := Lib.hid (show w.grownBy w2 (some b) from grown_of_below (Hb1.out.grown hg2 (by omega) (fun j hj => by cases hj)) _)
  clear hL2 hg2 hs2 Hb1
  go_loopw [10] (fun _ wr => ∃ lf cnt m, Rn' keyC amtE wr w.heap.size w1.heap.size es.length (eachG es) lf cnt ∧ m + cnt ≤ n + es.length ∧ Hid (Lg wr p b m (bumped G (eachG es) lf) pv hv) ∧ Hid (w.grownBy wr (some b))) (fun _ wr => wr.rangeLeft w.heap.size w1.heap.size)
  case atStart => exact ⟨_, cnt2, n, hrg2, by omega, HL2, Hg2⟩
  case round =>
    clear hE hrg2 HL2 Hg2
    obtain ⟨lf, cnt, m, hrg, hm, HL, Hg⟩ := hrel
    have hzr : w.heap.size ≤ wr.heap.size := Hg.out.size
    go_wp2_with (first
      | (at_next; refine wpList_next_key _ rfl _ rfl w.heap.size w1.heap.size es.length (eachG es) lf cnt rfl hrg ?_ ?_)
      | go_in)
    · intro hdone
      clear hrg
      have hL1 := HL.out
      rw [bumped_end (fun x hx => hdone x.1 x.2 hx) (eachG_small HF.out)] at hL1
      have hD1 := HD.out.grow Hg.out hL1
      have HR1 := Lib.hid (show Re wr wr.heap.size A es from by
        obtain ⟨es', cl', hmb⟩ := HD.out.lg.acc.blk
        refine HR.out.kp (Kp.of_grown Hg.out) (fun ad ha e => ?_)
        obtain ⟨g, off, e1, hg, _⟩ := HR.out h0
        have ha' := ha
        rw [e1] at ha'
        injection ha' with ha'
        subst ha'
        have hR' := HR.out
        rw [e1] at hR'
        injection e with e
        exact hR'.ne_map h0 hmb e)
      clear hL1 HL hdone hacc HR HF hL hF hR hD
      have HKg := Lib.hid (Kp.of_grown Hg.out)
      clear Hg
      obtain ⟨Ap, cp, rfl⟩ := hD1.form
      have HD1 := Lib.hid hD1
      have c1 := hD1.lg.c1
      have hp1 := hD1.lg.plt
      clear hD1 HD
      go_wp2_with fail
      have hq : ∀ i : Int, (Value.int .i64 i).oneCell' = true := fun _ => rfl
      go_region_law (first
        | (go_simp; go_at_call 99; refine (cloneE_any A c es wr.drew HR1.out h0 hlen).mono ?_; rintro e w5 ⟨A', c', rfl, hR5, hb5d, hA5⟩; have hb5 : Below wr.heap.size wr w5 := below_undrew hb5d; clear hb5d; have c5 : w5.cell? ⟨p, 1, none⟩ = some (.slice Ap L.length cp) := (hb5.cell (p := ⟨p, 1, none⟩) hp1).trans c1; obtain ⟨hrow5, hbs5, hrp5, f5, hp5⟩ := Led.at5 HD1.out hb5 ((L.length : Int) + 1) txt (.slice A' es.length c'); have HR5 := Lib.hid hR5; have HB5 := Lib.hid hb5; have HA5 := Lib.hid hA5; clear hR5 hb5 hA5)
        | ((try simp only [Act.put, List.setIfInBounds_toArray, List.set_cons_zero, List.set_cons_succ]); rw [if_pos (by rfl)]; refine wp_append_lies _ (.tmp 52) (.tmp 58) 143 (by rfl) base 156 i0 _ 3 48 Tryz.underlying143 hi0 hy0 hy1 hy2 rfl (by decide) (.slice Ap L.length cp) L.length (cellsP L) (by rfl) hrow5 ⟨w5.heap.size, 0, none⟩ 1 1 [.int .i64 ((L.length : Int) + 1), .string txt, .slice A' es.length c'] (by rfl) rfl (World.news_of_block (cs := #[.int .i64 ((L.length : Int) + 1), .string txt, .slice A' es.length c']) (t := 156) (fr := (0, 0)) (heap_alloc_new w5 _)) (by simp [Value.oneCell']) (by decide) (by unfold maxLen; omega) (by omega) hbs5 (w5.heap.size + 1) (by simp) ?_; intro g cap w6 hown6 hg6 hloc6 hlt6; have c6 : w6.cell? ⟨p, 1, none⟩ = some (.slice Ap L.length cp) := (hg6.cell_far ⟨p, 1, none⟩ (by simp; omega) (fun e => hrp5 e.symm)).trans (Lib.cell?_alloc_some _ c5); have f6 : w6.frozen? ⟨p, 1, none⟩ = false := (hg6.frozen_far ⟨p, 1, none⟩ (by simp; omega) (fun e => hrp5 e.symm)).trans f5))
      all_goals
        clear c1 c5 c6 f5 f6
        have HE := Lib.hid (Led.enter_end (num := (L.length : Int) + 1) (txt := txt) HD1.out HB5.out HR5.out HA5.out h0 hlen ((Below.refl w5.heap.size w5).alloc (Nat.le_refl _) (.cells #[.int .i64 ((L.length : Int) + 1), .string txt, .slice A' es.length c'] 156)) hown6 hg6 (by simpa using hloc6))
        clear hown6 hg6 hloc6 hrow5
        go_wp2
        go_ret
        exact ⟨rfl, _, A', c', m, by omega, HE.out.1, (HKg.out.mono (fun k _ e => .inr (.inl (by injection e)))).trans HE.out.2⟩
    · intro s t v w3 cnt3 hx hlx hGx hrg3 hlt3 hg3 hs3 hen
      obtain ⟨ac, hac, hbe⟩ := hacc _ _ hGx
      have hL3 := HL.out.kept hg3 (fun e => by injection e; omega) (fun e => by injection e; omega)
      obtain ⟨cp, l1, l2⟩ := hL3.turn2 hx (by rw [bumped_at hlx]; exact hac) (.cells #[.string s, .string t] 147)
      have k0 : (w3.alloc (.cells #[.string s, .string t] 147)).cell? ⟨w3.heap.size, 0, none⟩ = some (.string s) := by simp
      have k1 : (w3.alloc (.cells #[.string s, .string t] 147)).cell? ⟨w3.heap.size, 1, none⟩ = some (.string t) := by simp
      have hVs : (w3.alloc (.cells #[.string s, .string t] 147)).heap.size = w3.heap.size + 1 := by simp
      have hp3 : p < w3.heap.size := by omega
      have Hs3 := Lib.hid hs3
      have v2 := hbe.top
      have v3 := hbe.lo
      have v5 := hbe.fine.b0
      have q1 : IntKind.i64.wrap (ac.bal + v) = ac.bal + v := IntWalk.i64_in _ (by omega)
      have HL3 := Lib.hid hL3
      have Hr3 := Lib.hid hrg3
      have Hg3 := Lib.hid hg3
      have Hleft := Lib.hid hrg.left_eq
      have HLV := Lib.hid (hL3.alloc (.cells #[.string s, .string t] 147))
      have HrV := Lib.hid (hrg3.alloc (.cells #[.string s, .string t] 147))
      have Hx := Lib.hid hx
      have Hst := Lib.hid (bumped_step (G := G) (E := eachG es) (lf := lf) hGx hac)
      have HgV := Lib.hid (show w.grownBy (w3.alloc (.cells #[.string s, .string t] 147)) (some b) from by
        have h1 := Hg.out
        have h3 := hg3
        have h4 := World.grownBy_alloc w3 (.cells #[.string s, .string t] 147) none
        exact ⟨h4.os.trans (h3.os.trans h1.os), h4.tape.trans (h3.tape.trans h1.tape), h4.output.trans (h3.output.trans h1.output), by have := h4.size; have := h3.size; omega, fun i hi hne => (h4.block i (by omega) (by simp)).trans ((h3.block i (by omega) (fun e => by injection e; omega)).trans (h1.block i hi hne))⟩)
      clear hacc hbe hL3 hrg3 hg3 hrg HL hx hlx hGx hac hL hF hR hs3
      go_wp2_with fail
      clear hen
      generalize w3.alloc (.cells #[.string s, .string t] 147) = V at *
      have e0 : (V.alloc (.cells #[.int .i64 0, .int .i64 0, .int .i64 0] 149)).cell? ⟨p, 0, none⟩ = some (.map (some b)) := Lib.cell?_alloc_some _ cp
      have e1 : (V.alloc (.cells #[.int .i64 0, .int .i64 0, .int .i64 0] 149)).cell? ⟨w3.heap.size, 0, none⟩ = some (.string s) := Lib.cell?_alloc_some _ k0
      have e2 : (V.alloc (.cells #[.int .i64 0, .int .i64 0, .int .i64 0] 149)).cell? ⟨w3.heap.size, 1, none⟩ = some (.string t) := Lib.cell?_alloc_some _ k1
      go_region
      all_goals
        go_wp2_with fail
        clear l1 l2 e0 e1 e2
        have hLY := (HLV.out.alloc (.cells #[.int .i64 ac.floor, .int .i64 (ac.bal + v), .int .i64 ac.held] 149)).drewN 1
        have HrY := Lib.hid (HrV.out.alloc (.cells #[.int .i64 ac.floor, .int .i64 (ac.bal + v), .int .i64 ac.held] 149))
        have HgY := Lib.hid (show V.grownBy (V.alloc (.cells #[.int .i64 ac.floor, .int .i64 (ac.bal + v), .int .i64 ac.held] 149)).drew none from by
          have h := World.grownBy_alloc V (.cells #[.int .i64 ac.floor, .int .i64 (ac.bal + v), .int .i64 ac.held] 149) none
          exact ⟨h.os, h.tape, h.output, h.size, h.block⟩)
        have j0 : (V.alloc (.cells #[.int .i64 ac.floor, .int .i64 (ac.bal + v), .int .i64 ac.held] 149)).drew.cell? ⟨w3.heap.size, 0, none⟩ = some (.string s) := Lib.cell?_alloc_some _ k0
        have j1 : (V.alloc (.cells #[.int .i64 ac.floor, .int .i64 (ac.bal + v), .int .i64 ac.held] 149)).drew.cell? ⟨w3.heap.size, 1, none⟩ = some (.string t) := Lib.cell?_alloc_some _ k1
        have j2 : (V.alloc (.cells #[.int .i64 ac.floor, .int .i64 (ac.bal + v), .int .i64 ac.held] 149)).drew.cell? ⟨w3.heap.size + 1, 0, none⟩ = some (.int .i64 ac.floor) := by rw [← hVs]; simp
        have j3 : (V.alloc (.cells #[.int .i64 ac.floor, .int .i64 (ac.bal + v), .int .i64 ac.held] 149)).drew.cell? ⟨w3.heap.size + 1, 1, none⟩ = some (.int .i64 (ac.bal + v)) := by rw [← hVs]; simp
        have j4 : (V.alloc (.cells #[.int .i64 ac.floor, .int .i64 (ac.bal + v), .int .i64 ac.held] 149)).drew.cell? ⟨w3.heap.size + 1, 2, none⟩ = some (.int .i64 ac.held) := by rw [← hVs]; simp
        change Lg (V.alloc (.cells #[.int .i64 ac.floor, .int .i64 (ac.bal + v), .int .i64 ac.held] 149)).drew p b m (bumped G (eachG es) lf) pv hv at hLY
        change Hid (Rn' keyC amtE (V.alloc (.cells #[.int .i64 ac.floor, .int .i64 (ac.bal + v), .int .i64 ac.held] 149)).drew w.heap.size w1.heap.size es.length (eachG es) (fun z => lf z && !decide (z = (s, t))) cnt3) at HrY
        generalize (V.alloc (.cells #[.int .i64 ac.floor, .int .i64 (ac.bal + v), .int .i64 ac.held] 149)).drew = Y at *
        have cY := hLY.c0
        obtain ⟨w5, hrun, hM5, ht5⟩ := (hLY.drewN 1).acc.store Tryz.underlying141 (by unfold maxLen; omega) (x := (s, t)) Hx.out (v := ac.plus v) trivial
        have hrun' : (Instr.mapUpdate 141 (.map (some b)) (.agg #[.string s, .string t]) (.agg #[.int .i64 ac.floor, .int .i64 (ac.bal + v), .int .i64 ac.held])).run Tryz.prog Y.drew = .ok () w5 := hrun
        have hg5 := ht5.grown
        have Hg5 := Lib.hid (show Y.grownBy w5 (some b) from ⟨hg5.os, hg5.tape, hg5.output, hg5.size, hg5.block⟩)
        rw [Hst.out] at hM5
        have hne := hLY.ne
        have HL5 := Lib.hid (show Lg w5 p b (m + 1) (bumped G (eachG es) (fun z => lf z && !decide (z = (s, t)))) pv hv from ⟨(Hg5.out.block p hLY.plt (fun e => hne (by injection e))).trans hLY.cell, hM5⟩)
        have Hr5 := Lib.hid (HrY.out.kept Hg5.out (fun e => by injection e; omega) (fun e => by injection e; omega))
        have Hgw := Lib.hid (show w.grownBy w5 (some b) from by
          have h1 := HgV.out
          have h2 := HgY.out
          have h3 := Hg5.out
          have s1 := h1.size
          have s2 := h2.size
          exact ⟨h3.os.trans (h2.os.trans h1.os), h3.tape.trans (h2.tape.trans h1.tape), h3.output.trans (h2.output.trans h1.output), by have := h3.size; omega, fun i hi hne => (h3.block i (by omega) hne).trans ((h2.block i (by omega) (by simp)).trans (h1.block i hi hne))⟩)
        clear hrun hM5 ht5 hg5 hLY hne k0 k1 cp
        go_region
        all_goals
          go_wp2_with fail
          go_roundw
          case rel => exact ⟨_, cnt3, m + 1, Hr5.out, by omega, HL5, Hgw⟩
          case measure => rw [Hr5.out.left_eq, Hleft.out]; exact hlt3
end Go.Proofs.YtdinloecgaapaaaGreatDoor
