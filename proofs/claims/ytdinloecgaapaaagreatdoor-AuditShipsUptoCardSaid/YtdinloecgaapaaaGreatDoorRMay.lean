/- Register.may: a bill that may be issued is small. -/
import Derived.Test.YtdinloecgaapaaaGreatDoorMRMark
import Derived.Test.YtdinloecgaapaaaGreatDoorMRMem
import Derived.Deep.Cut
import Derived.Deep.CutRange
namespace Go.Proofs.YtdinloecgaapaaaGreatDoor
open Go.RowKit Go.Maps Go.Lib
set_option linter.unusedVariables false
set_option maxRecDepth 100000

/-- what a bill's parts are, where it may be issued -/
structure MayOk (x : En) : Prop where
  nu : x.nu.size ≤ 16
  l : x.l.length ≤ 64
  b : ∀ t ∈ x.l, t.size ≤ 16
  p : x.p.length ≤ 64
theorem isDay_q (n : Int) : ∃ r : Bool, ∀ w, Calls Tryz.prog 102 #[.int .i64 n] w fun e w' => e = .returned (.bool r) ∧ w' = w := by
  by_cases h1 : n < 0
  · refine ⟨false, fun w => ?_⟩
    go_enter Tryz.func102, Tryz.ntmps102
    go_wp2
    go_ret
    exact ⟨rfl, rfl⟩
  · refine ⟨decide (n ≤ 1048576), fun w => ?_⟩
    go_enter Tryz.func102, Tryz.ntmps102
    go_wp2
    go_ret
    exact ⟨rfl, rfl⟩
theorem right_r' (s : ByteArray) (w : World) : Calls Tryz.prog 103 #[.string s] w fun e w' => BoolP (s.size = 12) w e w' := by
  by_cases h12 : s.size = 12
  · exact right_r s w (by rw [h12]; unfold maxLen; omega)
  · have HN : Hid (∀ W, Below w.heap.size w W → BoolP (s.size = 12) w (.returned (.bool false)) W) := Lib.hid (fun W hb => BoolP.no hb)
    have b1 : ¬ (s.size : Int) = 12 := by omega
    generalize BoolP (s.size = 12) w = CP at *
    go_enter Tryz.func103, Tryz.ntmps103
    go_wp2
    first
      | exact HN.out _ (Below.refl _ _)
      | (go_ret; exact HN.out _ (Below.refl _ _))
theorem make_hint (n : Int) (W : World) : (Instr.makeMap 135 (some (.int .i64 n))).run Tryz.prog W = .ok (.map (some W.heap.size)) (W.alloc (.map #[] 0)) := by kernel_rfl
theorem zeroBool (W : World) : (zeroValue 4).run Tryz.prog W = .ok (.bool false) W := by kernel_rfl
noncomputable def bE := boolE Tryz.prog 4 Tryz.underlying4
/-- how far a loop over the boxes has come -/
structure MyI (L : List ByteArray) (W0 : World) (b k : Nat) (w : World) : Prop where
  mp : ∃ G, Mp nmC bE w b k G
  sz : ∀ i t, i < k → L[i]? = some t → t.size ≤ 16
  bel : Below W0.heap.size W0 w
  lo : W0.heap.size ≤ b
theorem MyI.step {L : List ByteArray} {W0 w w' : World} {b k : Nat} (h : MyI L W0 b k w) (hb : Below w.heap.size w w') {t : ByteArray} (ht : L[k]? = some t) (h12 : t.size = 12) (hk : k < 1000) :
    ∃ sn w'', (Instr.lookup 135 (.map (some b)) (.string t) false).run Tryz.prog w' = .ok (.bool sn) w' ∧ (Instr.mapUpdate 135 (.map (some b)) (.string t) (.bool true)).run Tryz.prog w' = .ok () w'' ∧ MyI L W0 b (k + 1) w'' := by
  obtain ⟨G, hm⟩ := h.mp
  have hm' := hm.below hb hm.lt
  have hlk := hm'.look (t := 135) (e := 4) Tryz.underlying135 (z := false) (zeroBool w') trivial (x := t) (show t.size ≤ maxLen by rw [h12]; unfold maxLen; omega)
  obtain ⟨w'', h1, h2, h3⟩ := hm'.store (t := 135) (e := 4) Tryz.underlying135 (by unfold maxLen; omega) (x := t) (show t.size ≤ maxLen by rw [h12]; unfold maxLen; omega) (v := true) trivial
  refine ⟨_, w'', hlk, h1, ⟨_, h2⟩, fun i y hi hy => ?_, ?_, h.lo⟩
  · by_cases hik : i = k
    · subst hik
      rw [ht] at hy
      cases hy
      omega
    · exact h.sz i y (by omega) hy
  · exact (h.bel.trans (hb.mono h.bel.size)).grown h3.grown (Nat.le_trans h.bel.size hb.size) (fun j hj => by cases hj; exact h.lo)
set_option maxHeartbeats 8000000 in
theorem may_r (r : Nat) (ca : ByteArray) (x : En) (w : World) (hr : w.cell? ⟨r, 0, none⟩ = some (.string ca)) (hA : Rs w w.heap.size x.A x.l) (hP : Rs w w.heap.size x.PA x.p) (hl : x.l.length ≤ 100000000) (hp : x.p.length ≤ 100000000) :
    Calls Tryz.prog 78 #[.pointer (some ⟨r, 0, none⟩), .agg (blA x)] w fun e w' => BoolP (MayOk x) w e w' := by
  have hb1 : Below w.heap.size w (w.alloc (.cells (blA x) 59)) := (Below.refl _ _).alloc (Nat.le_refl _) _
  have hz1 : (w.alloc (.cells (blA x) 59)).heap.size = w.heap.size + 1 := by simp
  have k0 : (w.alloc (.cells (blA x) 59)).heap[w.heap.size]? = some (.cells (blA x) 59 (0, 0)) := heap_alloc_new _ _
  obtain ⟨W0, hW0⟩ : ∃ W0, W0 = w.alloc (.cells (blA x) 59) := ⟨_, rfl⟩
  rw [← hW0] at hb1 hz1 k0
  have HCell : Hid (∀ W, Below W0.heap.size W0 W → ∀ (j : Nat) v, (blA x)[j]? = some v → W.cell? ⟨w.heap.size, j, none⟩ = some v) := Lib.hid (fun W hb j v hv => by
    refine (hb.cell (p := ⟨w.heap.size, j, none⟩) (by show w.heap.size < _; omega)).trans ?_
    simp [World.cell?, k0, hv])
  have HCr : Hid (∀ W, Below W0.heap.size W0 W → W.cell? ⟨r, 0, none⟩ = some (.string ca)) := Lib.hid (fun W hb => (hb.cell (p := ⟨r, 0, none⟩) (by have h' : r < w.heap.size := block_lt_of_cell hr; show r < _; omega)).trans ((hb1.cell (p := ⟨r, 0, none⟩) (block_lt_of_cell hr)).trans hr))
  have HA : Hid (∀ W, Below W0.heap.size W0 W → Rs W W.heap.size x.A x.l ∧ Rs W W.heap.size x.PA x.p) := Lib.hid (fun W hb => by
    have h2 : Below w.heap.size w W := hb1.trans (hb.mono (by omega))
    have hs := h2.size
    have key : ∀ A L, Rs w w.heap.size A L → Rs W W.heap.size A L := fun A L h hl => by
      obtain ⟨g, off, e1, hg, hc⟩ := h hl
      exact ⟨g, off, e1, by omega, fun i y hy => (h2.cell (p := ⟨g, off + i, none⟩) hg).trans (hc i y hy)⟩
    exact ⟨key _ _ hA, key _ _ hP⟩)
  have HN : Hid (∀ s W, Calls Tryz.prog 79 #[.string s] W fun e w' => BoolP (s.size ≤ 16) W e w') := Lib.hid (fun s W => name_r' s W)
  have HNo : Hid (∀ W, Below W0.heap.size W0 W → BoolP (MayOk x) w (.returned (.bool false)) W) := Lib.hid (fun W hb => BoolP.no (hb1.trans (hb.mono (by omega))))
  have HAny : Hid (∀ (rb : Bool) W, MayOk x → Below W0.heap.size W0 W → BoolP (MayOk x) w (.returned (.bool rb)) W) := Lib.hid (fun rb W hx hb => ⟨rb, rfl, fun _ => hx, hb1.trans (hb.mono (by omega))⟩)
  obtain ⟨rd, hrd⟩ := isDay_q x.is
  have HD := Lib.hid hrd
  have HZ1 := Lib.hid hz1
  have HW : Hid (Below W0.heap.size W0 W0) := Lib.hid (Below.refl _ _)
  generalize BoolP (MayOk x) w = CP at *
  clear hr hA hP hrd hb1 hz1 k0
  have hV : (.agg (blA x) : Value) = .agg #[.string x.nu, .string x.ca, .string x.sh, .string x.fr, .string x.to, .slice x.A x.l.length x.c, .slice x.PA x.p.length x.pc, .int .i64 x.is, .bool x.cl] := rfl
  rw [hV]
  clear hV
  unfold blA at *
  go_enter Tryz.func78, Tryz.ntmps78
  go_upto_region 1 with fail
  rw [← hW0]
  clear hW0
  go_cut [29] from 8 to 29 (fun a wx => ∃ rb : Bool, a = .bool rb ∧ Hid (rb = false → x.nu.size ≤ 16) ∧ Hid (Below W0.heap.size W0 wx))
  case first =>
    have tok1 : True := trivial
    have c0 := HCell.out W0 HW.out 0 _ rfl
    go_wp2_with (first
      | (have _t := tok1; go_at_call 79; refine (HN.out _ _).mono ?_; rintro en wn ⟨rb, rfl, hsz, hb2⟩; have Hsz := Lib.hid hsz; have HWn : Hid (Below W0.heap.size W0 wn) := Lib.hid (HW.out.trans (hb2.mono HW.out.size)); clear HW hb2 hsz tok1 _t c0; have HW := HWn; clear HWn; have c2 := HCell.out _ HW.out 2 _ rfl; have c3 := HCell.out _ HW.out 3 _ rfl; have c4 := HCell.out _ HW.out 4 _ rfl; cases rb)
      | (go_at_call 79; refine (HN.out _ _).mono ?_; rintro en wn ⟨rb, rfl, hsz, hb2⟩; have HWn : Hid (Below W0.heap.size W0 wn) := Lib.hid (HW.out.trans (hb2.mono HW.out.size)); clear HW hb2 hsz c2 c3 c4; have HW := HWn; clear HWn; have c2 := HCell.out _ HW.out 2 _ rfl; have c3 := HCell.out _ HW.out 3 _ rfl; have c4 := HCell.out _ HW.out 4 _ rfl; cases rb)
      | fail)
    all_goals
      go_meet
      case rel =>
        first
          | exact ⟨_, rfl, Lib.hid (fun _ => Hsz.out trivial), HW⟩
          | exact ⟨_, rfl, Lib.hid (fun _ => Hsz.out rfl), HW⟩
          | exact ⟨_, rfl, Lib.hid (fun h => by cases h), HW⟩
  case rest =>
    obtain ⟨rb, rfl, Hnu, HW1⟩ := hcut
    clear HW HN
    have c0 := HCell.out _ HW1.out 0 _ rfl
    have c1 := HCell.out _ HW1.out 1 _ rfl
    have c5 := HCell.out _ HW1.out 5 _ rfl
    have c6 := HCell.out _ HW1.out 6 _ rfl
    have c7 := HCell.out _ HW1.out 7 _ rfl
    have cr := HCr.out _ HW1.out
    cases rb
    · by_cases hca : (x.ca.toList == ca.toList) = true
      · go_wp2_with fail
        go_quiet ((go_at_call 102; exact quiet_sameR (HD.out _)))
        have HW2 := Lib.hid (below_drewR HW1.out nq)
        clear HW1 HD HCr c0 c1 c5 c6 c7 cr hca
        generalize wc.drewN nq = w2 at *
        cases rd
        · go_wp2_with fail
          first
            | exact HNo.out _ HW2.out
            | (go_ret; exact HNo.out _ HW2.out)
        · have c5 := HCell.out _ HW2.out 5 _ rfl
          have c6 := HCell.out _ HW2.out 6 _ rfl
          by_cases l1 : x.l.length < 1
          · have b1 : decide ((x.l.length : Int) < 1) = true := by simp; omega
            go_wp2_with fail
            first
              | exact HNo.out _ HW2.out
              | (go_ret; exact HNo.out _ HW2.out)
          · have b1 : decide ((x.l.length : Int) < 1) = false := by simp; omega
            by_cases l2 : 64 < x.l.length
            · have b2 : decide (64 < (x.l.length : Int)) = true := by simp; omega
              go_wp2_with fail
              first
                | exact HNo.out _ HW2.out
                | (go_ret; exact HNo.out _ HW2.out)
            · have b2 : decide (64 < (x.l.length : Int)) = false := by simp; omega
              by_cases l3 : 64 < x.p.length
              · have b3 : decide (64 < (x.p.length : Int)) = true := by simp; omega
                go_wp2_with fail
                first
                  | exact HNo.out _ HW2.out
                  | (go_ret; exact HNo.out _ HW2.out)
              · have b3 : decide (64 < (x.p.length : Int)) = false := by simp; omega
                have hmm := make_hint
                have HM0 : Hid (MyI x.l W0 w2.heap.size 0 (w2.alloc (.map #[] 0))) := Lib.hid ⟨⟨_, Mp.made w2⟩, fun i t hi => by omega, HW2.out.alloc HW2.out.size _, HW2.out.size⟩
                have hl0 : (0 : Int) ≤ (x.l.length : Int) := by omega
                have c5' := Lib.cell?_alloc_some (.map #[] 0) c5
                go_wp2_with fail
                have HW2' := Lib.hid (HW2.out.alloc HW2.out.size (.map #[] 0))
                clear c5 c6 c5' hmm b1 b2 b3
                obtain ⟨mb, hmb⟩ : ∃ mb, mb = w2.heap.size := ⟨_, rfl⟩
                rw [← hmb] at HM0 ⊢
                clear hmb
                generalize w2.alloc (.map #[] 0) = w3 at *
                go_loopw [66] (fun i wr => ∃ k : Nat, k ≤ x.l.length ∧ i = .int .i64 (k : Int) ∧ Hid (MyI x.l W0 mb k wr)) (fun i _ => x.l.length - (RowKit.intOf i).toNat)
                case atStart => exact ⟨0, Nat.zero_le _, rfl, HM0⟩
                case round =>
                  clear HM0 HW2 HW2'
                  obtain ⟨k, hk, rfl, HI⟩ := hrel
                  by_cases hlt : k < x.l.length
                  · have b1 : (k : Int) < (x.l.length : Int) := by omega
                    have b0 : (0 : Int) ≤ (k : Int) := by omega
                    obtain ⟨g, off, hxA, hg, hc⟩ := (HA.out _ HI.out.bel).1 (by omega)
                    have hx := List.getElem?_eq_getElem hlt
                    have e0 := hc k _ hx
                    have HR := Lib.hid (right_r' x.l[k] wr)
                    have HSt := Lib.hid (fun w' hb h12 => HI.out.step (w' := w') hb hx h12 (by omega))
                    clear hx hc HA
                    rw [hxA]
                    generalize x.l[k] = t at *
                    go_wp2_with (first
                      | (go_at_call 103; refine HR.out.mono ?_; rintro en w4 ⟨rb, rfl, h12, hb4⟩; have HB4 : Hid (Below W0.heap.size W0 w4) := Lib.hid (HI.out.bel.trans (hb4.mono HI.out.bel.size)); have HSt4 := Lib.hid (fun h => HSt.out w4 hb4 (h12 h)); clear hb4 h12 HSt; cases rb; rotate_left; obtain ⟨sn, w5, hlk, hst, hI5⟩ := HSt4.out rfl; have HI5 := Lib.hid hI5; clear hI5 HSt4; cases sn; rotate_right)
                      | fail)
                    all_goals
                      first
                        | exact HNo.out _ HB4.out
                        | (go_ret; exact HNo.out _ HB4.out)
                        | exact ⟨⟨_, _, _, _, _, _, _, _, _, _, _, _, _, _, _, _, _, ⟨k + 1, by omega, by go_num, HI5⟩, rfl⟩, by simp [RowKit.intOf]; omega⟩
                  · obtain rfl : k = x.l.length := by omega
                    have hOk : MayOk x := ⟨Hnu.out trivial, by omega, fun t ht => by
                      obtain ⟨i, hi, rfl⟩ := List.getElem_of_mem ht
                      exact HI.out.sz i _ hi (List.getElem?_eq_getElem hi), by omega⟩
                    have b1 : ¬ (x.l.length : Int) < (x.l.length : Int) := by omega
                    have HC := Lib.hid (containsF_r x.PA x.pc x.p 104 #[] wr (HA.out _ HI.out.bel).2 hp (enters_of Tryz.func104 (by kernel_rfl) rfl) (fun i s _ W _ => may1_r s W))
                    have c6 := HCell.out _ HI.out.bel 6 _ rfl
                    have HF := Lib.hid (fun rb W (hb : Below wr.heap.size wr W) => HAny.out rb W hOk (HI.out.bel.trans (hb.mono HI.out.bel.size)))
                    clear HA HI hOk HNo HAny HCell
                    go_wp2_with (first
                      | (go_at_call 82; refine HC.out.mono ?_; rintro en w4 ⟨rb, rfl, _, hb4⟩; have HB4 := Lib.hid hb4; clear hb4)
                      | fail)
                    first
                      | exact HF.out _ _ HB4.out
                      | (go_ret; exact HF.out _ _ HB4.out)
      · rw [Bool.not_eq_true] at hca
        go_wp2_with fail
        go_quiet (fail)
        go_wp2_with fail
        first
          | exact HNo.out _ (below_drewR HW1.out _)
          | (go_ret; exact HNo.out _ (below_drewR HW1.out _))
    · go_wp2_with fail
      first
        | exact HNo.out _ HW1.out
        | (go_ret; exact HNo.out _ HW1.out)
end Go.Proofs.YtdinloecgaapaaaGreatDoor
