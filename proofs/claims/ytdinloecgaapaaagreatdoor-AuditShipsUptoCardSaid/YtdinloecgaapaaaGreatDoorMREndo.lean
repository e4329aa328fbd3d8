/- endorse.Holder of one endorsement: some text. Endorse's loop: what it keeps, and how its two stores keep it. -/
import Derived.Test.YtdinloecgaapaaaGreatDoorMRMark
import Derived.Test.YtdinloecgaapaaaGreatDoorMRNum
import Derived.Test.YtdinloecgaapaaaGreatDoorMAChanges
import Derived.WalkMore
import Derived.OwnWalk
import Derived.Deep.RegionHeld3
import Derived.Test.YtdinloecgaapaaaGreatDoorMROps2
namespace Go.Proofs.YtdinloecgaapaaaGreatDoor
open Go.RowKit Go.Maps Go.Lib
set_option linter.unusedVariables false
set_option maxRecDepth 100000

def edA (f t : ByteArray) (d : Int) : Array Value := #[.string f, .string t, .int .i64 0, .int .i64 d]
def IntP (w : World) (en : Ending) (w' : World) : Prop := ∃ c : Int, en = .returned (.int .i64 c) ∧ Below w.heap.size w w'
def CeP (w : World) (en : Ending) (w' : World) : Prop := ∃ (t : ByteArray) (n c : Int), en = .returned (.tuple #[.string t, .int .i64 n, .int .i64 c]) ∧ t.size ≤ 100000000 ∧ Below w.heap.size w w'
def HdP (w : World) (en : Ending) (w' : World) : Prop := ∃ t : ByteArray, en = .returned (.string t) ∧ t.size ≤ 100000000 ∧ Below w.heap.size w w'
theorem may_e (f t : ByteArray) (d : Int) (w : World) :
    Calls Tryz.prog 153 #[.agg (edA f t d)] w fun en w' => CkP (fun _ => True) w en w' := by
  have hb1 : Below w.heap.size w (w.alloc (.cells (edA f t d) 167)) := (Below.refl _ _).alloc (Nat.le_refl _) _
  have HT : Hid (∀ (r : Bool) W, Below (w.heap.size) w W → CkP (fun _ => True) w (.returned (.bool r)) W) := Lib.hid (fun r W hb => ⟨r, rfl, trivial, hb⟩)
  have HB1 := Lib.hid hb1
  have hz : (w.alloc (.cells (edA f t d) 167)).heap.size = w.heap.size + 1 := by simp
  have HZ := Lib.hid hz
  have c0 : (w.alloc (.cells (edA f t d) 167)).cell? ⟨w.heap.size, 0, none⟩ = some (.string f) := by simp [edA]
  have c1 : (w.alloc (.cells (edA f t d) 167)).cell? ⟨w.heap.size, 1, none⟩ = some (.string t) := by simp [edA]
  have c2 : (w.alloc (.cells (edA f t d) 167)).cell? ⟨w.heap.size, 2, none⟩ = some (.int .i64 0) := by simp [edA]
  have c3 : (w.alloc (.cells (edA f t d) 167)).cell? ⟨w.heap.size, 3, none⟩ = some (.int .i64 d) := by simp [edA]
  have HN := Lib.hid (name_r' f (w.alloc (.cells (edA f t d) 167)))
  have HN2 : Hid (∀ W, Calls Tryz.prog 79 #[.string t] W fun en w' => BoolP (t.size ≤ 16) W en w') := Lib.hid (fun W => name_r' t W)
  generalize hCP : CkP (fun _ => True) w = CP at *
  unfold edA at *
  clear hb1 hz hCP
  go_enter Tryz.func153, Tryz.ntmps153
  go_wp2_with fail
  generalize w.alloc (.cells #[.string f, .string t, .int .i64 0, .int .i64 d] 167) = W at *
  refine HN.out.mono ?_
  rintro en w2 ⟨rb, rfl, _, hb2⟩
  have d0 := (hb2.cell (p := ⟨w.heap.size, 0, none⟩) (by have := HZ.out; show w.heap.size < _; omega)).trans c0
  have d1 := (hb2.cell (p := ⟨w.heap.size, 1, none⟩) (by have := HZ.out; show w.heap.size < _; omega)).trans c1
  have d2 := (hb2.cell (p := ⟨w.heap.size, 2, none⟩) (by have := HZ.out; show w.heap.size < _; omega)).trans c2
  have d3 := (hb2.cell (p := ⟨w.heap.size, 3, none⟩) (by have := HZ.out; show w.heap.size < _; omega)).trans c3
  have HB2 := Lib.hid (HB1.out.trans (hb2.mono (by have := HZ.out; omega)))
  have HY : Hid (∀ r, CP (.returned (.bool r)) w2) := Lib.hid (fun r => HT.out r w2 HB2.out)
  clear c0 c1 c2 c3 hb2 HN HB1 HZ
  by_cases h1 : d < 0
  · cases rb
    all_goals
      go_wp2_with fail
      first
        | exact HY.out _
        | (go_ret; exact HY.out _)
  · have b1 : decide (d < 0) = false := by simpa using h1
    by_cases h2 : 1048576 < d
    · cases rb
      all_goals
        go_wp2_with fail
        first
          | exact HY.out _
          | (go_ret; exact HY.out _)
    · have b2 : decide (1048576 < d) = false := by simpa using h2
      cases rb
      · go_wp2_with fail
        first
          | exact HY.out _
          | (go_ret; exact HY.out _)
      · go_wp2_with (first
          | (go_at_call 79; refine (HN2.out w2).mono ?_; rintro en w3 ⟨rb, rfl, _, hb3⟩; have HY3 : Hid (∀ r, CP (.returned (.bool r)) w3) := Lib.hid (fun r => HT.out r w3 (HB2.out.trans (hb3.mono HB2.out.size))); have e1 := (hb3.cell (block_lt_of_cell d1)).trans d1; have e0 := (hb3.cell (block_lt_of_cell d0)).trans d0; clear hb3; cases rb)
          | fail)
        all_goals
          first
            | exact HY3.out _
            | (go_ret; exact HY3.out _)
theorem closed_e (A : Option Addr) (c : Nat) (w : World) : Calls Tryz.prog 154 #[.slice A 0 c] w fun en w' => en = .returned (.bool false) ∧ w' = w := by
  go_enter Tryz.func154, Tryz.ntmps154
  go_wp2_with fail
  go_ret
  exact ⟨rfl, rfl⟩
theorem blank_e (A : Option Addr) (c : Nat) (w : World) : Calls Tryz.prog 155 #[.slice A 0 c] w fun en w' => en = .returned (.bool false) ∧ w' = w := by
  go_enter Tryz.func155, Tryz.ntmps155
  go_wp2_with fail
  go_ret
  exact ⟨rfl, rfl⟩
theorem wrong_e (h f t : ByteArray) (d : Int) (A : Option Addr) (c : Nat) (w : World) :
    Calls Tryz.prog 140 #[.string h, .slice A 0 c, .agg (edA f t d)] w fun en w' => IntP w en w' := by
  have hb1 : Below w.heap.size w (w.alloc (.cells (edA f t d) 167)) := (Below.refl _ _).alloc (Nat.le_refl _) _
  have HT : Hid (∀ (r : Int) W, Below (w.heap.size) w W → IntP w (.returned (.int .i64 r)) W) := Lib.hid (fun r W hb => ⟨r, rfl, hb⟩)
  have HB1 := Lib.hid hb1
  have hz : (w.alloc (.cells (edA f t d) 167)).heap.size = w.heap.size + 1 := by simp
  have HZ := Lib.hid hz
  have c0 : (w.alloc (.cells (edA f t d) 167)).cell? ⟨w.heap.size, 0, none⟩ = some (.string f) := by simp [edA]
  have c1 : (w.alloc (.cells (edA f t d) 167)).cell? ⟨w.heap.size, 1, none⟩ = some (.string t) := by simp [edA]
  have c2 : (w.alloc (.cells (edA f t d) 167)).cell? ⟨w.heap.size, 2, none⟩ = some (.int .i64 0) := by simp [edA]
  have c3 : (w.alloc (.cells (edA f t d) 167)).cell? ⟨w.heap.size, 3, none⟩ = some (.int .i64 d) := by simp [edA]
  have HM := Lib.hid (may_e f t d (w.alloc (.cells (edA f t d) 167)))
  have HC := Lib.hid (fun w => closed_e A c w)
  have HBl := Lib.hid (fun w => blank_e A c w)
  generalize IntP w = CP at *
  unfold edA at *
  clear hb1 hz
  go_enter Tryz.func140, Tryz.ntmps140
  go_wp2_with fail
  generalize w.alloc (.cells #[.string f, .string t, .int .i64 0, .int .i64 d] 167) = W at *
  refine HM.out.mono ?_
  rintro en w2 ⟨rb, rfl, _, hb2⟩
  have d0 := (hb2.cell (p := ⟨w.heap.size, 0, none⟩) (by have := HZ.out; show w.heap.size < _; omega)).trans c0
  have d3 := (hb2.cell (p := ⟨w.heap.size, 3, none⟩) (by have := HZ.out; show w.heap.size < _; omega)).trans c3
  have HB2 := Lib.hid (HB1.out.trans (hb2.mono (by have := HZ.out; omega)))
  have HY : Hid (∀ r, CP (.returned (.int .i64 r)) w2) := Lib.hid (fun r => HT.out r w2 HB2.out)
  have HY2 : Hid (∀ r, CP (.returned (.int .i64 r)) w2.drew) := Lib.hid (fun r => HT.out r _ (HB2.out.trans ⟨rfl, rfl, rfl, Nat.le_refl _, fun _ _ => rfl⟩))
  clear c0 c1 c2 c3 hb2 HM HB1 HZ
  cases rb
  · go_wp2_with fail
    first
      | exact HY.out _
      | (go_ret; exact HY.out _)
  · cases hfh : (f.toList == h.toList)
    all_goals
      go_wp2_with (first
        | (go_at_call 154; refine (HC.out _).mono ?_; rintro en w3 ⟨rfl, rfl⟩)
        | (go_at_call 155; refine (HBl.out _).mono ?_; rintro en w3 ⟨rfl, rfl⟩)
        | fail)
    all_goals
      first
        | exact HY.out _
        | (go_ret; exact HY.out _)
        | (go_quiet (fail)
           go_wp2_with fail
           first
             | exact HT.out _ _ (below_drewR HB2.out _)
             | (go_ret; exact HT.out _ _ (below_drewR HB2.out _)))
set_option maxHeartbeats 4000000 in
theorem check_e (h f t : ByteArray) (d : Int) (g c : Nat) (w : World) (htz : t.size ≤ 100000000) (hg : ∀ (j : Nat) v, (edA f t d)[j]? = some v → w.cell? ⟨g, j, none⟩ = some v) (hgl : g < w.heap.size) :
    Calls Tryz.prog 119 #[.string h, .slice (some ⟨g, 0, none⟩) 1 c] w fun en w' => CeP w en w' := by
  have HN := Lib.hid (name_r' h w)
  have HG : Hid (∀ W, Below w.heap.size w W → ∀ (j : Nat) v, (edA f t d)[j]? = some v → W.cell? ⟨g, j, none⟩ = some v) := Lib.hid (fun W hb j v hv => (hb.cell (p := ⟨g, j, none⟩) hgl).trans (hg j v hv))
  have HW := Lib.hid (fun h A c w => wrong_e h f t d A c w)
  have HT : Hid (∀ (t : ByteArray) (n c : Int) W, t.size ≤ 100000000 → Below w.heap.size w W → CeP w (.returned (.tuple #[.string t, .int .i64 n, .int .i64 c])) W) := Lib.hid (fun t n c W hz hb => ⟨t, n, c, rfl, hz, hb⟩)
  generalize CeP w = CP at *
  clear hg
  go_enter Tryz.func119, Tryz.ntmps119
  go_wp2_with fail
  go_step3
  go_wp2_with (first
    | (go_at_call 79; refine HN.out.mono ?_; rintro en w2 ⟨rb, rfl, hnm, hb2⟩; have HB2 := Lib.hid hb2; have HNz := Lib.hid hnm; clear hb2 hnm; cases rb)
    | fail)
  · rw [Exit.noGoto_ret]
    first
      | exact HT.out _ _ _ _ (by first | decide | (have := HNz.out (by first | trivial | rfl); omega)) HB2.out
      | (refine bodyPost_ret (results_tmp3 rfl _ _ _) rfl ?_; exact HT.out _ _ _ _ (by first | decide | (have := HNz.out (by first | trivial | rfl); omega)) HB2.out)
  · go_step3
    go_wp2_with fail
    go_loopw [4, 5, 6, 14] (fun a b e i wr => ∃ (k : Nat) (ht : ByteArray) (n c : Int), k ≤ 1 ∧ i = .int .i64 (k : Int) ∧ a = .string ht ∧ b = .int .i64 n ∧ e = .int .i64 c ∧ ht.size ≤ 100000000 ∧ Hid (Below w.heap.size w wr)) (fun _ _ _ i _ => 1 - (RowKit.intOf i).toNat)
    case atStart => exact ⟨0, h, 0, 0, by omega, rfl, rfl, rfl, rfl, by have := HNz.out (by first | trivial | rfl); omega, HB2⟩
    case round =>
      obtain ⟨k, ht, n, cd, hk, rfl, rfl, rfl, rfl, hz, HB⟩ := hrel
      by_cases hlt : k < 1
      · obtain rfl : k = 0 := by omega
        simp only [Int.cast_ofNat_Int]
        have q0 : wr.cell? ⟨g, 0, none⟩ = some (.string f) := HG.out wr HB.out 0 _ rfl
        have q1 : wr.cell? ⟨g, 1, none⟩ = some (.string t) := HG.out wr HB.out 1 _ rfl
        have q2 : wr.cell? ⟨g, 2, none⟩ = some (.int .i64 0) := HG.out wr HB.out 2 _ rfl
        have q3 : wr.cell? ⟨g, 3, none⟩ = some (.int .i64 d) := HG.out wr HB.out 3 _ rfl
        have hgr : g < wr.heap.size := Nat.lt_of_lt_of_le hgl HB.out.size
        clear hk hlt HN HB2
        unfold edA at HW
        go_wp2_with fail
        go_region_held3 (fun w' => w'.cell? ⟨g, 0, none⟩ = some (.string f) ∧ w'.cell? ⟨g, 1, none⟩ = some (.string t) ∧ w'.cell? ⟨g, 2, none⟩ = some (.int .i64 0) ∧ w'.cell? ⟨g, 3, none⟩ = some (.int .i64 d))
          (first | go_keep)
          (first
            | (go_at_call 140; refine (HW.out _ _ _ _).mono ?_; rintro en w3 ⟨cd3, rfl, hb3⟩; have e0 := (hb3.cell (p := ⟨g, 0, none⟩) hgr).trans q0; have e1 := (hb3.cell (p := ⟨g, 1, none⟩) hgr).trans q1; have e2 := (hb3.cell (p := ⟨g, 2, none⟩) hgr).trans q2; have e3 := (hb3.cell (p := ⟨g, 3, none⟩) hgr).trans q3))
        have HB3 : Hid (Below w.heap.size w w3) := Lib.hid (HB.out.trans (show Below w.heap.size wr w3 from (show Below wr.heap.size wr w3 from ⟨hb3.os, hb3.tape, hb3.output, hb3.size, hb3.block⟩).mono HB.out.size))
        clear q0 q1 q2 q3 hb3 HW HG HB
        by_cases hc : cd3 = 0
        · subst hc
          go_wp2_with fail
          exact ⟨⟨1, t, n, 0, by omega, rfl, rfl, rfl, rfl, htz, HB3⟩, by simp [RowKit.intOf]⟩
        · have b1 : (cd3 == 0) = false := by simpa using hc
          go_wp2_with fail
          rw [Exit.noGoto_ret]
          refine bodyPost_ret (results_tmp3 rfl _ _ _) rfl ?_
          exact HT.out _ _ _ _ (by first | exact hz | decide) HB3.out
      · obtain rfl : k = 1 := by omega
        have HF : Hid (∀ (t : ByteArray) n c, t.size ≤ 100000000 → CP (.returned (.tuple #[.string t, .int .i64 n, .int .i64 c])) wr) := Lib.hid (fun t n c hz => HT.out t n c wr hz HB.out)
        clear HN HW HG HB HB2
        by_cases hc : cd = 0
        · subst hc
          go_wp2_with fail
          rw [Exit.noGoto_ret]
          refine bodyPost_ret (results_tmp3 rfl _ _ _) rfl ?_
          exact HF.out _ _ _ (by first | exact hz | decide)
        · have b1 : (cd == 0) = false := by simpa using hc
          go_wp2_with fail
          rw [Exit.noGoto_ret]
          refine bodyPost_ret (results_tmp3 rfl _ _ _) rfl ?_
          exact HF.out _ _ _ (by first | exact hz | decide)
theorem holder_e (h f t : ByteArray) (d : Int) (g c : Nat) (w : World) (htz : t.size ≤ 100000000) (hg : ∀ (j : Nat) v, (edA f t d)[j]? = some v → w.cell? ⟨g, j, none⟩ = some v) (hgl : g < w.heap.size) :
    Calls Tryz.prog 86 #[.string h, .slice (some ⟨g, 0, none⟩) 1 c] w fun en w' => HdP w en w' := by
  have HC := Lib.hid (check_e h f t d g c w htz hg hgl)
  have HT : Hid (∀ (t : ByteArray) W, t.size ≤ 100000000 → Below w.heap.size w W → HdP w (.returned (.string t)) W) := Lib.hid (fun t W hz hb => ⟨t, rfl, hz, hb⟩)
  generalize HdP w = CP at *
  clear hg
  go_enter Tryz.func86, Tryz.ntmps86
  go_wp2_with (first
    | (go_at_call 119; refine HC.out.mono ?_; rintro en w2 ⟨t2, n2, c2, rfl, hz2, hb2⟩; have HB2 := Lib.hid hb2; clear hb2)
    | fail)
  first
    | exact HT.out _ _ hz2 HB2.out
    | (go_ret; exact HT.out _ _ hz2 HB2.out)
end Go.Proofs.YtdinloecgaapaaaGreatDoor
namespace Go.Proofs.YtdinloecgaapaaaGreatDoor
open Go.RowKit Go.Maps Go.Lib
set_option linter.unusedVariables false
set_option maxRecDepth 100000

/-- what a loop of Endorse keeps -/
structure EdI (base r N b n e k : Nat) (ca : ByteArray) (G : ByteArray → Option (Option Nat)) (S : Nat → Option En) (x : En) (w w' : World) : Prop where
  rg : RgS w' base r ca (N + 1) b n G S
  en : S e = some x
  le : ∀ j, k ≤ j → j < 3 → (x.o j).n ≤ N
  bel : Below base w w'
/-- in the middle of a round: the chain has grown, the endorsement lies in block q -/
structure EdM (base r N b n e j : Nat) (ca by_ tt : ByteArray) (day : Int) (q : Nat) (G : ByteArray → Option (Option Nat)) (S : Nat → Option En) (x : En) (w w' : World) : Prop where
  rg : RgS w' base r ca (N + 1) b n G S
  en : S e = some x
  le : ∀ i, j + 1 ≤ i → i < 3 → (x.o i).n ≤ N
  bel : Below base w w'
  giv : w'.heap[q]? = some (.cells (edA by_ tt day) 167 (0, 0))
theorem EdI.grow {base r N b n e j m cap cc g : Nat} {ca by_ tt : ByteArray} {day : Int} {A : Option Addr} {cs : List Value} {G : ByteArray → Option (Option Nat)} {S : Nat → Option En} {x : En} {w wr W0 w6 : World}
    (hI : EdI base r N b n e j ca G S x w wr) (hj : j < 3) (b0 : Below wr.heap.size wr W0) (z0 : W0.heap.size = wr.heap.size + 1) (g0 : W0.heap[wr.heap.size]? = some (.cells (edA by_ tt day) 167 (0, 0)))
    (hm : (x.o j).n = m) (hA : (x.o j).A = A) (hcc : (x.o j).c = cc) (hcs : cs.length = m * 4) (hday : ∀ i, i < m → ∃ d, cs[4 * i + 3]? = some (.int .i64 d))
    (hown : w6.ownsRow base 167 4 (.slice (some ⟨g, 0, none⟩) (m + 1) cap) (m + 1) (cs ++ [.string by_, .string tt, .int .i64 0, .int .i64 day]))
    (hg : (W0.drew.alloc (.cells (edA by_ tt day) 167)).grownBy w6 (Value.slice A m cc).ownBlock) (hl : (Value.slice A m cc).ownBlock = some g ∨ g = W0.heap.size + 1) :
    ∃ S' x', EdM base r N b n e j ca by_ tt day wr.heap.size G S' x' w (w6.setCell ⟨e, 12 + 3 * j, none⟩ (.slice (some ⟨g, 0, none⟩) (m + 1) cap)) := by
  have R0 := hI.rg.below b0
  have hat := R0.at_ e x hI.en
  have hblk : (x.o j).blk = (Value.slice A m cc).ownBlock := by unfold Or.blk; rw [hm, hA, hcc]
  have hle := hI.le j (Nat.le_refl _) hj
  have hkeep : ∀ k, k < W0.heap.size → some k ≠ (x.o j).blk → w6.heap[k]? = W0.heap[k]? := fun k hk hne => by
    rw [hblk] at hne
    rw [hg.block k (by simp; omega) hne]
    exact Below.heap_alloc W0.drew _ k (by simp; omega)
  have hne2 : some wr.heap.size ≠ (x.o j).blk := fun he => by
    have := ((hI.rg.at_ e x hI.en).ch j hj).lt he.symm
    omega
  have hqe : wr.heap.size ≠ e := by
    have := lt_of_some (hI.rg.at_ e x hI.en).obj
    omega
  have hch : ChOk w6 base { x.o j with A := some ⟨g, 0, none⟩, n := m + 1, c := cap } := by
    refine ⟨_, hown, fun i hi => ?_⟩
    by_cases him : i < m
    · obtain ⟨d, hd⟩ := hday i him
      exact ⟨d, by rw [List.getElem?_append_left (by omega)]; exact hd⟩
    · have : i = m := by simp at hi; omega
      subst this
      refine ⟨day, ?_⟩
      rw [List.getElem?_append_right (by omega), hcs]
      rw [show 4 * i + 3 - i * 4 = 3 by omega]
      rfl
  have hR := R0.chain (M := N + 1) (w1 := w6) (A' := some ⟨g, 0, none⟩) (n' := m + 1) (c' := cap) hI.en hj (Nat.le_refl _) (by omega) hkeep hch (by
    rcases hl with h | h
    · left; rw [hblk, h]; rfl
    · right; exact ⟨g, rfl, by omega⟩)
  refine ⟨_, _, hR, putE_same _ _ _, fun i hi hi3 => ?_, ?_, ?_⟩
  · rw [ch_other _ _ _ _ (by omega)]
    exact hI.le i (by omega) hi3
  · have h1 : Below base w W0 := hI.bel.trans (b0.mono hI.rg.lo)
    have h2 : Below base w (W0.drew.alloc (.cells (edA by_ tt day) 167)) := (h1.trans (b := W0) (show Below base W0 W0.drew from ⟨rfl, rfl, rfl, Nat.le_refl _, fun _ _ => rfl⟩)).alloc (by have := R0.lo; simp; omega) _
    have h3 : Below base w w6 := h2.grown hg (by have := R0.lo; simp; omega) (fun k hk => ((hat.ch j hj).lt (by rw [hblk]; exact hk)).1)
    exact h3.trans ((Wrt.refl e w6).set _ _ |>.below hat.lo)
  · rw [Below.heap_setCell _ _ _ _ hqe, hkeep _ (by omega) hne2]
    exact g0
theorem EdM.fin {base r N b n e j q : Nat} {ca by_ tt t : ByteArray} {day : Int} {G : ByteArray → Option (Option Nat)} {S : Nat → Option En} {x : En} {w V w8 : World} (hM : EdM base r N b n e j ca by_ tt day q G S x w V) (hj : j < 3) (ht : t.size ≤ 100000000) (hb : Below V.heap.size V w8) :
    ∃ S' x', EdI base r N b n e (j + 1) ca G S' x' w (w8.setCell ⟨e, 11 + 3 * j, none⟩ (.string t)) := by
  have R8 := hM.rg.below hb
  obtain ⟨R9, b9⟩ := R8.hd hM.en j hj t ht
  refine ⟨_, _, R9, putE_same _ _ _, fun i hi hi3 => ?_, (hM.bel.trans (hb.mono hM.rg.lo)).trans b9⟩
  have : (x.hd j t).o i = x.o i := by simp [En.hd]; omega
  rw [this]
  exact hM.le i hi hi3
end Go.Proofs.YtdinloecgaapaaaGreatDoor
