/- custody: Begin, Hand. -/
import Derived.Test.YtdinloecgaapaaaGreatDoorHCh
import Derived.Test.YtdinloecgaapaaaGreatDoorMRPut
import Derived.Deep.AppendLies
import Derived.Deep.RegionHeld3
import Derived.Deep.MidRow
namespace Go.Proofs.YtdinloecgaapaaaGreatDoor
open Go.RowKit Go.Maps Go.Lib Go.Sort
set_option linter.unusedVariables false
set_option maxRecDepth 100000

/-- an operation: some chain is left, whatever it answers -/
def OcP (base p k : Nat) (w : World) (e : Ending) (w' : World) : Prop := ∃ v, e = .returned v ∧ Chn w' base p (k + 1) ∧ Below base w w'
theorem ChS.put {w w8 : World} {base p b k : Nat} {H : ByteArray → List Hn} (h : ChS w base p b k H) (s : ByteArray) (x : Hn) (hs : s.size ≤ 16) (hx : x.day ≤ 1048576) (ht : x.tt.size ≤ 16) (hreg : w8.heap[p]? = w.heap[p]?) (hgq : Gq base w8 b (k + 1) none (fun y => if y = s then H s ++ [x] else H y)) : Chn w8 base p (k + 1) := by
  have hm : ∀ y, ∀ z ∈ (if y = s then H s ++ [x] else H y), (∃ t, z ∈ H t) ∨ z = x := fun y z hz => by
    by_cases e : y = s
    · rw [if_pos e, List.mem_append, List.mem_singleton] at hz
      rcases hz with hz | hz
      · exact .inl ⟨s, hz⟩
      · exact .inr hz
    · rw [if_neg e] at hz
      exact .inl ⟨y, hz⟩
  refine ⟨b, _, ⟨hreg.trans h.reg, h.plo, hgq, fun y z hz => ?_, fun y z hz => ?_, fun y hy => ?_, fun y => ?_⟩⟩
  · rcases hm y z hz with ⟨t, h2⟩ | rfl
    · exact h.day t z h2
    · exact hx
  · rcases hm y z hz with ⟨t, h2⟩ | rfl
    · exact h.tos t z h2
    · exact ht
  · by_cases e : y = s
    · rw [e]; exact hs
    · simp only [if_neg e] at hy
      exact h.key y hy
  · by_cases e : y = s
    · simp only [if_pos e]
      have := h.len s
      simp
      omega
    · simp only [if_neg e]
      have := h.len y
      omega
theorem strs_new (W : World) (L : List ByteArray) : Rs (W.alloc (.cells (L.map Value.string).toArray 9)) (W.alloc (.cells (L.map Value.string).toArray 9)).heap.size (some ⟨W.heap.size, 0, none⟩) L := fun _ => by
  refine ⟨W.heap.size, 0, rfl, by simp, fun i x hx => ?_⟩
  rw [cell_of (heap_alloc_new W _), Nat.zero_add, List.getElem?_toArray, List.getElem?_map, hx]
  rfl
theorem chain_ne {w : World} {base p b k : Nat} {H : ByteArray → List Hn} (h : ChS w base p b k H) {v : Value} {L : List Hn} (ho : Oh w base v L) : some p ≠ v.ownBlock ∧ p ≠ b := by
  constructor
  · intro e
    obtain ⟨cs, hcs⟩ := row_blk ho e.symm
    rw [h.reg] at hcs
    injection hcs with hcs
    injection hcs with _ h7 _
    exact absurd h7 (by decide)
  · rintro rfl
    obtain ⟨es, ck, hm⟩ := h.gq.isMap
    rw [h.reg] at hm
    cases hm

set_option maxHeartbeats 2000000 in
theorem begin_c (base p k : Nat) (box who place : ByteArray) (day : Int) (w : World) (h : Chn w base p k) (hk : k ≤ 10000) (h1 : box.size ≤ 100000000) (h2 : who.size ≤ 100000000) (h3 : place.size ≤ 100000000) :
    Calls Tryz.prog 13 #[.pointer (some ⟨p, 0, none⟩), .string box, .string who, .string place, .int .i64 day] w fun e w' => OcP base p k w e w' := by
  obtain ⟨b, H, hC⟩ := h
  have hlo : base ≤ w.heap.size := Nat.le_trans hC.plo (Nat.le_of_lt (lt_of_some hC.reg))
  have hal : Below w.heap.size w (w.alloc (.cells #[.string box, .string who, .string place] 9)) := (Below.refl _ _).alloc (Nat.le_refl _) _
  have HN := Lib.hid (areNames_c [box, who, place] (some ⟨w.heap.size, 0, none⟩) 3 (w.alloc (.cells #[.string box, .string who, .string place] 9)) (strs_new w [box, who, place]) (by simp) (by
    intro s hs
    simp only [List.mem_cons, List.not_mem_nil, or_false] at hs
    rcases hs with rfl | rfl | rfl <;> (unfold maxLen; omega)))
  have HC := Lib.hid hC
  have HAl := Lib.hid hal
  generalize hCP : OcP base p k w = CP
  have HF : Hid (∀ W v, Below w.heap.size w W → CP (.returned v) W) := Lib.hid fun W v hb => by rw [← hCP]; exact ⟨v, rfl, ⟨b, H, (hC.below hb).more (Nat.le_succ k)⟩, hb.mono hlo⟩
  have HG : Hid (∀ W v, Chn W base p (k + 1) → Below base w W → CP (.returned v) W) := Lib.hid fun W v h1 h2 => by rw [← hCP]; exact ⟨v, rfl, h1, h2⟩
  clear hC hal hCP
  have hmf := @run_makeMap Tryz.prog
  go_enter Tryz.func13, Tryz.ntmps13
  go_wp2_with fail
  refine HN.out.mono ?_
  rintro e w1 ⟨r1, rfl, hr1, hb1⟩
  have hb1w : Below w.heap.size w w1 := HAl.out.trans (hb1.mono HAl.out.size)
  have HB1 := Lib.hid hb1w
  have HR1 := Lib.hid hr1
  clear hb1 hr1 HN HAl hb1w
  cases r1 with
  | false =>
    have HF2 := Lib.hid (HF.out w1 (.int .i64 1) HB1.out)
    clear HF HG
    go_wp2_with fail
    first
      | exact HF2.out
      | (go_ret; exact HF2.out)
  | true =>
    have hsz := HR1.out (by first | trivial | rfl)
    have hbx := hsz box (by simp)
    have hwh := hsz who (by simp)
    clear hsz HR1
    have HD := Lib.hid (isDay_c day w1)
    go_wp2_with fail
    refine HD.out.mono ?_
    rintro e w1' ⟨r2, rfl, hr2, hw⟩
    subst hw
    have HR2 := Lib.hid hr2
    clear hr2 HD
    cases r2 with
    | false =>
      have HF2 := Lib.hid (HF.out w1' (.int .i64 3) HB1.out)
      clear HF HG
      go_wp2_with fail
      first
        | exact HF2.out
        | (go_ret; exact HF2.out)
    | true =>
      have hdy := HR2.out (by first | trivial | rfl)
      clear HR2
      have hC1 := HC.out.below HB1.out
      have c0 := hC1.cell
      obtain ⟨A0, c0', how, hlk⟩ := hC1.gq.look_ok box (by unfold maxLen; omega)
      have hl0 := (hlk w1' (Below.refl _ _)).2
      by_cases hH : H box = []
      · have hdec : decide (H box ≠ []) = false := by simp [hH]
        rw [hdec] at hl0
        obtain ⟨m, hlen⟩ := hC1.gq.len
        have hl' := hlen w1' (Below.refl _ _) 3
        obtain ⟨A2, c2, hlk2, how2, _, hst⟩ := hC1.gq.at_ box (by omega) (by omega) (Nat.le_trans hlo HB1.out.size) (fun q hq => by cases hq)
        have hbs1 := Nat.le_trans hlo HB1.out.size
        obtain ⟨w8, hs8, hg8, hb8, hk8⟩ := hst w1' (w1'.alloc (.cells #[.string box, .string ⟨#[]⟩, .string who, .string place, .int .i64 day] 41)) w1'.heap.size 1 ⟨box, ⟨#[]⟩, who, place, day⟩ (Below.refl _ _) (World.grownBy_alloc w1' _ _) (by
          rw [hH]
          exact ⟨by simp [hnC], .inr ⟨w1'.heap.size, 1, _, rfl, hbs1, heap_alloc_new w1' _, Nat.le_refl _, by decide, rfl, by simp [hnC]⟩⟩) (.inr (Nat.le_refl _))
        obtain ⟨n1, n2⟩ := chain_ne hC1 how2
        rw [hH] at hs8
        simp only [List.length_nil, Nat.zero_add] at hs8
        have HFin := Lib.hid (fun v => HG.out w8 v (hC1.put box ⟨box, ⟨#[]⟩, who, place, day⟩ hbx hdy.2 hwh ((hk8 _ _ hC1.reg n1 n2).trans hC1.reg.symm) hg8) ((HB1.out.mono hlo).trans hb8))
        have HFull := Lib.hid (HF.out w1' (.int .i64 7) HB1.out)
        have hmn := run_eql_map_nil (P := Tryz.prog) w1' 82 9 37 (some b) Tryz.underlying82
        clear HF HG hC1 hlk hlk2 how how2 hst hk8 hg8 hb8 HC hlen HB1 n1 n2
        go_wp2_with fail
        all_goals
          first
            | exact HFin.out _
            | exact HFull.out
            | (go_ret; exact HFin.out _)
            | (go_ret; exact HFull.out)
      · have hdec : decide (H box ≠ []) = true := by simp [hH]
        rw [hdec] at hl0
        have HF2 := Lib.hid (HF.out w1' (.int .i64 5) HB1.out)
        clear HF HG hC1 hlk how HC
        go_wp2_with fail
        first
          | exact HF2.out
          | (go_ret; exact HF2.out)

def hnA (h : Hn) : Array Value := #[.string h.bx, .string h.fr, .string h.tt, .string h.pl, .int .i64 h.day]
def znA : Array Value := #[.string ⟨#[]⟩, .string ⟨#[]⟩, .string ⟨#[]⟩, .string ⟨#[]⟩, .int .i64 0]
theorem infoHn : (Tryz.prog.info? 41).map (·.size) = some 5 := by kernel_rfl
theorem infoHn3 : (Tryz.prog.info? 41).map (fun i => (i.zero, i.size, i.bytes)) = some (some (.agg #[.string ⟨#[]⟩, .string ⟨#[]⟩, .string ⟨#[]⟩, .string ⟨#[]⟩, .int .i64 0]), 5, 72) := by kernel_rfl
theorem hnA_one (h : Hn) : (hnA h).all (·.oneCell') = true := by simp [hnA, Value.oneCell']
set_option maxHeartbeats 4000000 in
theorem hand_c (base p k : Nat) (h : Hn) (w : World) (hC : Chn w base p k) (hk : k ≤ 10000) (h1 : h.bx.size ≤ 100000000) (h2 : h.fr.size ≤ 100000000) (h3 : h.tt.size ≤ 100000000) (h4 : h.pl.size ≤ 100000000) :
    Calls Tryz.prog 14 #[.pointer (some ⟨p, 0, none⟩), .agg (hnA h)] w fun e w' => OcP base p k w e w' := by
  obtain ⟨i0, hi0, hy0, hy1, hy2⟩ := info_parts infoHn3
  obtain ⟨b, H, hC⟩ := hC
  obtain ⟨bx, fr, tt, pl, day⟩ := h
  simp only at h1 h2 h3 h4
  have hlo : base ≤ w.heap.size := Nat.le_trans hC.plo (Nat.le_of_lt (lt_of_some hC.reg))
  have halA : Below w.heap.size w (w.alloc (.cells #[.string bx, .string fr, .string tt, .string pl, .int .i64 day] 41)) := (Below.refl _ _).alloc (Nat.le_refl _) _
  have hgA := heap_alloc_new w (.cells #[.string bx, .string fr, .string tt, .string pl, .int .i64 day] 41)
  have hzA : (w.alloc (.cells #[.string bx, .string fr, .string tt, .string pl, .int .i64 day] 41)).heap.size = w.heap.size + 1 := by simp
  have HC := Lib.hid hC
  generalize hCP : OcP base p k w = CP
  have HF : Hid (∀ W v, Below w.heap.size w W → CP (.returned v) W) := Lib.hid fun W v hb => by rw [← hCP]; exact ⟨v, rfl, ⟨b, H, (hC.below hb).more (Nat.le_succ k)⟩, hb.mono hlo⟩
  have HG : Hid (∀ W v, Chn W base p (k + 1) → Below base w W → CP (.returned v) W) := Lib.hid fun W v h1 h2 => by rw [← hCP]; exact ⟨v, rfl, h1, h2⟩
  clear hC hCP
  unfold hnA
  obtain ⟨W0, hW0⟩ : ∃ W0, W0 = w.alloc (.cells #[.string bx, .string fr, .string tt, .string pl, .int .i64 day] 41) := ⟨_, rfl⟩
  rw [← hW0] at halA hgA hzA
  have c0 : W0.cell? ⟨w.heap.size, 0, none⟩ = some (.string bx) := cell_of hgA 0
  have c1 : W0.cell? ⟨w.heap.size, 1, none⟩ = some (.string fr) := cell_of hgA 1
  have c2 : W0.cell? ⟨w.heap.size, 2, none⟩ = some (.string tt) := cell_of hgA 2
  have c3 : W0.cell? ⟨w.heap.size, 3, none⟩ = some (.string pl) := cell_of hgA 3
  have HN := Lib.hid (areNames_c [bx, fr, tt, pl] (some ⟨W0.heap.size, 0, none⟩) 4 (W0.alloc (.cells #[.string bx, .string fr, .string tt, .string pl] 9)) (strs_new W0 [bx, fr, tt, pl]) (by simp) (by
    intro s hs
    simp only [List.mem_cons, List.not_mem_nil, or_false] at hs
    rcases hs with rfl | rfl | rfl | rfl <;> (unfold maxLen; omega)))
  have HAl := Lib.hid (show Below W0.heap.size W0 (W0.alloc (.cells #[.string bx, .string fr, .string tt, .string pl] 9)) from (Below.refl _ _).alloc (Nat.le_refl _) _)
  have HA := Lib.hid halA
  have HGA := Lib.hid hgA
  have hwz : w.heap.size < W0.heap.size := by omega
  clear halA hgA hzA
  go_enter Tryz.func14, Tryz.ntmps14
  go_wp2_with (first
    | (rw [← hW0]; clear hW0; go_simp)
    | fail)
  refine HN.out.mono ?_
  rintro e w1 ⟨r1, rfl, hr1, hb1⟩
  have hb01 : Below W0.heap.size W0 w1 := HAl.out.trans (hb1.mono HAl.out.size)
  have HB1 := Lib.hid (HA.out.trans (hb01.mono HA.out.size))
  have hg1 : w1.heap[w.heap.size]? = some (.cells #[.string bx, .string fr, .string tt, .string pl, .int .i64 day] 41 (0, 0)) := keep_of_below hb01 HGA.out
  have HR1 := Lib.hid hr1
  have HG1 := Lib.hid hg1
  have d0 : w1.cell? ⟨w.heap.size, 0, none⟩ = some (.string bx) := cell_of hg1 0
  have d1 : w1.cell? ⟨w.heap.size, 1, none⟩ = some (.string fr) := cell_of hg1 1
  have d2 : w1.cell? ⟨w.heap.size, 2, none⟩ = some (.string tt) := cell_of hg1 2
  have d4 : w1.cell? ⟨w.heap.size, 4, none⟩ = some (.int .i64 day) := cell_of hg1 4
  clear hb1 hr1 HN HAl hb01 hg1 HGA HA c0 c1 c2 c3
  cases r1 with
  | false =>
    have HF2 := Lib.hid (HF.out w1 (.int .i64 1) HB1.out)
    clear HF HG
    go_wp2_with fail
    first
      | exact HF2.out
      | (go_ret; exact HF2.out)
  | true =>
    have hsz := HR1.out (by first | trivial | rfl)
    have hbx := hsz bx (by simp)
    have htt := hsz tt (by simp)
    clear hsz HR1
    have HD := Lib.hid (isDay_c day w1)
    by_cases hft : (fr.toList == tt.toList) = true
    · have HF2 := Lib.hid (HF.out w1 (.int .i64 1) HB1.out)
      clear HF HG
      go_wp2_with fail
      first
        | exact HF2.out
        | (go_ret; exact HF2.out)
    · have hft' : (fr.toList == tt.toList) = false := by simpa using hft
      clear hft
      go_wp2_with fail
      refine HD.out.mono ?_
      rintro e w1' ⟨r2, rfl, hr2, hw⟩
      subst hw
      have HR2 := Lib.hid hr2
      clear hr2 HD
      cases r2 with
      | false =>
        have HF2 := Lib.hid (HF.out w1' (.int .i64 3) HB1.out)
        clear HF HG
        go_wp2_with fail
        first
          | exact HF2.out
          | (go_ret; exact HF2.out)
      | true =>
        have hdy := HR2.out (by first | trivial | rfl)
        clear HR2
        have hC1 := HC.out.below HB1.out
        have cp := hC1.cell
        obtain ⟨A0, c0', how, hlk⟩ := HC.out.gq.look_ok bx (by unfold maxLen; omega)
        have HLk := Lib.hid hlk
        have hl0 := (hlk w1'.drew (HB1.out.trans ⟨rfl, rfl, rfl, Nat.le_refl _, fun _ _ => rfl⟩)).2
        by_cases hH : H bx = []
        · have hdec : decide (H bx ≠ []) = false := by simp [hH]
          rw [hdec] at hl0
          have HF2 := Lib.hid (HF.out w1'.drew (.int .i64 4) (HB1.out.trans ⟨rfl, rfl, rfl, Nat.le_refl _, fun _ _ => rfl⟩))
          clear HF HG hC1 hlk how HC
          go_wp2_with fail
          go_region
          all_goals
            go_wp2_with fail
            first
              | exact HF2.out
              | (go_ret; exact HF2.out)
        · have hdec : decide (H bx ≠ []) = true := by simp [hH]
          rw [hdec] at hl0
          have hpos : 0 < (H bx).length := List.length_pos_iff.2 hH
          obtain ⟨n, hn⟩ : ∃ n, (H bx).length = n + 1 := ⟨(H bx).length - 1, by omega⟩
          obtain ⟨g, rfl, _, hgl, hc⟩ := how.at_ (k := n) (by omega)
          have hnk : (n : Int) ≤ 10000 := by have := hC1.len bx; omega
          rw [hn] at hl0
          go_wp2_with fail
          go_region
          have hbd : Below w1'.heap.size w1' w1'.drew := ⟨rfl, rfl, rfl, Nat.le_refl _, fun _ _ => rfl⟩
          have hC2 := hC1.below hbd
          have HB2 := Lib.hid (HB1.out.trans (hbd.mono HB1.out.size))
          have hgA : w1'.drew.heap[w.heap.size]? = some (.cells #[.string bx, .string fr, .string tt, .string pl, .int .i64 day] 41 (0, 0)) := HG1.out
          have hr : w1'.drew.rangeAt g (n * 5) (hnA ((H bx)[n]'(by omega))).toList := fun j v hv => by
            have hj : j < 5 := by have := (List.getElem?_eq_some_iff.1 hv).1; simpa [hnA] using this
            exact (show w1'.drew.cell? ⟨g, n * 5 + j, none⟩ = _ from (HB1.out.cell (p := ⟨g, n * 5 + j, none⟩) hgl).trans (hc j hj)).trans hv
          generalize (H bx)[n]'(by omega) = x at *
          clear hc hl0 hlk how d0 d1 d2 d4 cp hC1 HG1 HB1 hbd HC
          generalize w1'.drew = w2 at *
          obtain ⟨hb3, hz3⟩ := laid_below w2 znA (hnA x) 41
          have hm := heap_alloc_new w2 (.cells znA 41)
          obtain ⟨W1, hW1⟩ : ∃ W1, W1 = w2.alloc (.cells znA 41) := ⟨_, rfl⟩
          rw [← hW1] at hb3 hz3 hm
          have l0 := laid_act W1 w2.heap.size znA (hnA x) _ _ hm
          have HMz := Lib.hid hm
          obtain ⟨W2, hW2⟩ : ∃ W2, W2 = W1.setRow w2.heap.size (hnA x) := ⟨_, rfl⟩
          rw [← hW2] at hb3 hz3 l0
          have e2 : W2.cell? ⟨w2.heap.size, 2, none⟩ = some (.string x.tt) := cell_of l0 2
          have e4 : W2.cell? ⟨w2.heap.size, 4, none⟩ = some (.int .i64 x.day) := cell_of l0 4
          have hg2 := keep_of_below hb3 hgA
          have f0 : W2.cell? ⟨w.heap.size, 0, none⟩ = some (.string bx) := cell_of hg2 0
          have f1 : W2.cell? ⟨w.heap.size, 1, none⟩ = some (.string fr) := cell_of hg2 1
          have f2 : W2.cell? ⟨w.heap.size, 2, none⟩ = some (.string tt) := cell_of hg2 2
          have f3 : W2.cell? ⟨w.heap.size, 3, none⟩ = some (.string pl) := cell_of hg2 3
          have f4 : W2.cell? ⟨w.heap.size, 4, none⟩ = some (.int .i64 day) := cell_of hg2 4
          have hC3 := hC2.below hb3
          have HB3 := Lib.hid (HB2.out.trans (hb3.mono HB2.out.size))
          have HRr := Lib.hid hr
          have HO := Lib.hid (hnA_one x)
          have HIb := Lib.hid (show (Tryz.prog.info? 41).map (·.size) = some (hnA x).toList.length from infoHn)
          have HIs := Lib.hid (show (Tryz.prog.info? 41).map (·.size) = some (hnA x).size from infoHn)
          have HSz := Lib.hid (show znA.size = (hnA x).size from rfl)
          have HC3 := Lib.hid hC3
          have HG2 := Lib.hid hg2
          have cp := hC3.cell
          have hn1 : (0 : Int) ≤ (n : Int) := by omega
          have hnn : (n : Int) < (n : Int) + 1 := by omega
          clear hm l0 hb3 hz3 hr hC2 hC3 hgA hg2 HB2
          generalize hnA x = V at *
          unfold znA at hW1
          have HNo := Lib.hid (fun v => HF.out W2 v HB3.out)
          clear HF
          go_wp2_with (first
            | (have _t := hW1; clear _t; refine wpList_load_mid rfl 41 (.tmp 46) rfl g (n * 5) rfl V.toList _ HRr.out Tryz.underlying41 rfl HIb.out ?_)
            | (rw [← hW1]; clear hW1; refine wpList_store_row rfl 41 (.tmp 7) (.tmp 47) rfl w2.heap.size V rfl rfl 41 _ HMz.out HIs.out HSz.out HO.out ?_; rw [← hW2]; clear hW2)
            | fail)
          all_goals first
            | exact HNo.out _
            | skip
          clear HNo HRr HO HIb HIs HSz HMz
          have hbs : base ≤ W2.heap.size := Nat.le_trans hlo HB3.out.size
          obtain ⟨A2, c2, hlk2, how2, _, hst⟩ := HC3.out.gq.at_ bx (by omega) (by omega) hbs (fun q hq => by cases hq)
          have hsame : (Value.slice A2 (H bx).length c2) = .slice (some ⟨g, 0, none⟩) (H bx).length c0' := by
            have q1 := hlk2 W2 (Below.refl _ _)
            have q2 := (HLk.out W2 HB3.out).1
            rw [q1] at q2
            injection q2
          injection hsame with hA2 _ hc2
          subst hA2 hc2
          rw [hn] at how2 hst
          obtain ⟨np, nb⟩ := chain_ne HC3.out how2
          have hgw := hgl
          obtain ⟨xn, hxn⟩ : ∃ xn : Hn, xn = ⟨bx, fr, tt, pl, day⟩ := ⟨_, rfl⟩
          have hX : Below W2.heap.size W2 (W2.alloc (.cells #[.string bx, .string fr, .string tt, .string pl, .int .i64 day] 41)).drew := ((Below.refl _ _).alloc (Nat.le_refl _) _).drew
          have rowA : (W2.alloc (.cells #[.string bx, .string fr, .string tt, .string pl, .int .i64 day] 41)).drew.ownsRow base 41 5 (.slice (some ⟨g, 0, none⟩) (n + 1) c2) (n + 1) ((H bx).flatMap hnC) := by
            have := how2.alloc (.cells #[.string bx, .string fr, .string tt, .string pl, .int .i64 day] 41)
            rw [hn] at this
            exact this
          have hwb : w.heap.size ≠ b := by
            intro e
            obtain ⟨es, ck, hmp⟩ := HC3.out.gq.isMap
            rw [← e, HG2.out] at hmp
            cases hmp
          have hgne : some w.heap.size ≠ (Value.slice (some ⟨g, 0, none⟩) (n + 1) c2).ownBlock := by
            intro e
            simp [Value.ownBlock] at e
            omega
          have HFin := Lib.hid (fun w8 (hreg : w8.heap[p]? = W2.heap[p]?) hg v (hb : Below base W2 w8) => HG.out w8 v (HC3.out.put bx ⟨bx, fr, tt, pl, day⟩ hbx hdy.2 htt hreg hg) ((HB3.out.mono hlo).trans hb))
          have HSt := Lib.hid hst
          have hpr := HC3.out.reg
          have HG3 := Lib.hid HG2.out
          clear hst hlk2 how2
          go_region_held3 (fun w' => w'.cell? ⟨p, 0, none⟩ = some (.map (some b)) ∧ w'.cell? ⟨w.heap.size, 0, none⟩ = some (.string bx) ∧ w'.cell? ⟨w.heap.size, 1, none⟩ = some (.string fr) ∧ w'.cell? ⟨w.heap.size, 2, none⟩ = some (.string tt) ∧ w'.cell? ⟨w.heap.size, 3, none⟩ = some (.string pl) ∧ w'.cell? ⟨w.heap.size, 4, none⟩ = some (.int .i64 day))
            (first | go_keep | exact ⟨cell_of p8 0, cell_of h8 0, cell_of h8 1, cell_of h8 2, cell_of h8 3, cell_of h8 4⟩ | exact ⟨cell_of p7 0, cell_of h7 0, cell_of h7 1, cell_of h7 2, cell_of h7 3, cell_of h7 4⟩)
            (first
              | (refine step_append_lies _ rfl (.tmp 70) (.tmp 72) 37 rfl base 41 i0 _ 5 72 Tryz.underlying37 hi0 hy0 hy1 hy2 rfl (by decide) (.slice (some ⟨g, 0, none⟩) (n + 1) c2) (n + 1) ((H bx).flatMap hnC) rfl rowA ⟨W2.heap.size, 0, none⟩ 1 1 (hnC ⟨bx, fr, tt, pl, day⟩) rfl rfl (World.news_of_block (cs := #[.string bx, .string fr, .string tt, .string pl, .int .i64 day]) (t := 41) (fr := (0, 0)) (show (W2.alloc (.cells #[.string bx, .string fr, .string tt, .string pl, .int .i64 day] 41)).heap[W2.heap.size]? = _ from heap_alloc_new W2 _)) (hnC_one _) (by decide) (by unfold maxLen; omega) (by omega) (Nat.le_trans hbs hX.size) (W2.heap.size + 1) (by simp) ?_; intro g7 cap7 w7 hown7 hg7 hloc7 hlt7; obtain ⟨w8, hst8, hgp8, hb8, hk8⟩ := HSt.out _ w7 g7 cap7 ⟨bx, fr, tt, pl, day⟩ hX hg7 (by unfold Oh; simpa [hn] using hown7) (hloc7.imp id (fun e => by omega)); have p7 : w7.heap[p]? = some (.cells #[.map (some b)] 84 (0, 0)) := (hg7.block p (lt_of_some (keep_of_below hX hpr)) (fun e => np e)).trans (keep_of_below hX hpr); have h7 : w7.heap[w.heap.size]? = some (.cells #[.string bx, .string fr, .string tt, .string pl, .int .i64 day] 41 (0, 0)) := (hg7.block _ (lt_of_some (keep_of_below hX HG3.out)) hgne).trans (keep_of_below hX HG3.out); have p8 := hk8 _ _ hpr np nb; have h8 := hk8 _ _ HG3.out hgne hwb))
          all_goals
            have HEnd := Lib.hid (fun v => HFin.out w8 (p8.trans hpr.symm) hgp8 v hb8)
            clear p7 h7 p8 h8 hst8 hgp8 hb8 hk8 hown7 hg7 hloc7 HFin HSt HG3 HG rowA hX cp f0 f1 f2 f3 f4 hpr
            go_wp2_with fail
            first
              | exact HEnd.out _
              | (go_ret; exact HEnd.out _)
end Go.Proofs.YtdinloecgaapaaaGreatDoor
