/- custody: names, days: what they answer is a truth value; what it bounds. audit.gather's closure: a line is laid behind those that there are. ref56.live: does a box stand in a live bill? -/
import Derived.Test.YtdinloecgaapaaaGreatDoorMRMark
import Derived.Test.YtdinloecgaapaaaGreatDoorMASame
import Derived.Test.YtdinloecgaapaaaGreatDoorMRShelf
import Derived.Test.YtdinloecgaapaaaGreatDoorRBills
import Derived.Test.YtdinloecgaapaaaGreatDoorMRPlain
namespace Go.Proofs.YtdinloecgaapaaaGreatDoor
open Go.RowKit Go.Lib
set_option linter.unusedVariables false
set_option maxRecDepth 100000

set_option maxHeartbeats 1000000 in
theorem isName_c (s : ByteArray) (w : World) (hs : s.size ≤ maxLen) :
    Calls Tryz.prog 66 #[.string s] w fun e w' => BoolP (s.size ≤ 16) w e w' := by
  unfold maxLen at hs
  have HN : Hid (∀ W, Below w.heap.size w W → BoolP (s.size ≤ 16) w (.returned (.bool false)) W) := Lib.hid (fun W hb => BoolP.no hb)
  have HY : Hid (s.size ≤ 16 → ∀ W, Below w.heap.size w W → BoolP (s.size ≤ 16) w (.returned (.bool true)) W) := Lib.hid (fun h W hb => BoolP.yes h hb)
  generalize BoolP (s.size ≤ 16) w = CP at *
  by_cases h1 : s.size < 1
  · go_enter Tryz.func66, Tryz.ntmps66
    go_wp2
    first
      | exact HN.out _ (Below.refl _ _)
      | (go_ret; exact HN.out _ (Below.refl _ _))
  by_cases h2 : 16 < s.size
  · go_enter Tryz.func66, Tryz.ntmps66
    go_wp2
    first
      | exact HN.out _ (Below.refl _ _)
      | (go_ret; exact HN.out _ (Below.refl _ _))
  have HY' := Lib.hid (HY.out (by omega))
  clear HY
  go_enter Tryz.func66, Tryz.ntmps66
  go_wp2
  go_loop [15] (fun i => ∃ k : Nat, k ≤ s.size ∧ i = .int .i64 k) (fun i => s.size - (intOf i).toNat)
  case atStart => exact ⟨0, Nat.zero_le _, rfl⟩
  case round =>
    obtain ⟨k, hk, rfl⟩ := hrel
    by_cases hlt : k < s.size
    · go_wp2
      all_goals
        first
          | (go_round
             case rel => exact ⟨k + 1, by omega, by go_num⟩
             case measure => simp [intOf]; omega)
          | exact HN.out _ (Below.refl _ _)
          | (go_ret; exact HN.out _ (Below.refl _ _))
    · go_wp2
      first
        | exact HY'.out _ (Below.refl _ _)
        | (go_ret; exact HY'.out _ (Below.refl _ _))
def DayP (d : Int) (w : World) (e : Ending) (w' : World) : Prop := ∃ r : Bool, e = .returned (.bool r) ∧ (r = true → 0 ≤ d ∧ d ≤ 1048576) ∧ w' = w
set_option maxHeartbeats 400000 in
theorem isDay_c (d : Int) (w : World) : Calls Tryz.prog 35 #[.int .i64 d] w fun e w' => DayP d w e w' := by
  have HD := Lib.hid (show ∀ r : Bool, (r = true → 0 ≤ d ∧ d ≤ 1048576) → DayP d w (.returned (.bool r)) w from fun r h => ⟨r, rfl, h, rfl⟩)
  generalize DayP d w = CP at *
  by_cases h1 : 0 ≤ d
  · by_cases h2 : d ≤ 1048576
    · go_enter Tryz.func35, Tryz.ntmps35
      go_wp2
      first
        | exact HD.out true fun _ => ⟨h1, h2⟩
        | (go_ret; exact HD.out true fun _ => ⟨h1, h2⟩)
    · go_enter Tryz.func35, Tryz.ntmps35
      go_wp2
      first
        | exact HD.out false fun h => by cases h
        | (go_ret; exact HD.out false fun h => by cases h)
  · go_enter Tryz.func35, Tryz.ntmps35
    go_wp2
    first
      | exact HD.out false fun h => by cases h
      | (go_ret; exact HD.out false fun h => by cases h)
set_option maxHeartbeats 1000000 in
theorem areNames_c (L : List ByteArray) (A : Option Addr) (c : Nat) (w : World) (h : Rs w w.heap.size A L) (hl : L.length ≤ 1000) (hs : ∀ s ∈ L, s.size ≤ maxLen) :
    Calls Tryz.prog 34 #[.slice A L.length c] w fun e w' => BoolP (∀ s ∈ L, s.size ≤ 16) w e w' := by
  have HR := Lib.hid h
  have HS := Lib.hid hs
  clear h hs
  have HN : Hid (∀ W, Below w.heap.size w W → BoolP (∀ s ∈ L, s.size ≤ 16) w (.returned (.bool false)) W) := Lib.hid (fun W hb => BoolP.no hb)
  have HY : Hid ((∀ s ∈ L, s.size ≤ 16) → ∀ W, Below w.heap.size w W → BoolP (∀ s ∈ L, s.size ≤ 16) w (.returned (.bool true)) W) := Lib.hid (fun h W hb => BoolP.yes h hb)
  generalize BoolP (∀ s ∈ L, s.size ≤ 16) w = CP at *
  go_enter Tryz.func34, Tryz.ntmps34
  go_wp2
  go_loopw [7] (fun i wr => ∃ k : Nat, k ≤ L.length ∧ i = .int .i64 k ∧ Hid (Below w.heap.size w wr) ∧ Hid (∀ s ∈ L.take k, s.size ≤ 16)) (fun i _ => L.length - (intOf i).toNat)
  case atStart => exact ⟨0, Nat.zero_le _, rfl, Lib.hid (Below.refl _ _), Lib.hid (by simp)⟩
  case round =>
    obtain ⟨k, hk, rfl, HB, HA⟩ := hrel
    by_cases hlt : k < L.length
    · obtain ⟨g1, o1, rfl, hg1, hc1⟩ := (HR.out.below HB.out).at_ hlt
      have hlt' : (k : Int) < (L.length : Int) := by omega
      have HC := Lib.hid (isName_c L[k] wr (HS.out _ (List.getElem_mem hlt)))
      have HSt := Lib.hid (show L[k].size ≤ 16 → ∀ s ∈ L.take (k + 1), s.size ≤ 16 from fun h s hs => by
        rw [List.take_succ_eq_append_getElem hlt, List.mem_append, List.mem_singleton] at hs
        rcases hs with hs | rfl
        · exact HA.out s hs
        · exact h)
      generalize L[k] = x at *
      go_wp2_with fail
      refine HC.out.mono ?_
      rintro e w2 ⟨r, rfl, hr, hb2⟩
      have HB2 := Lib.hid (HB.out.trans (hb2.mono HB.out.size))
      have Hr := Lib.hid hr
      clear hb2 hr HC
      cases r with
      | true =>
        have HA2 := Lib.hid (HSt.out (Hr.out (by first | trivial | rfl)))
        go_wp2_with fail
        exact ⟨⟨k + 1, by omega, by go_num, HB2, HA2⟩, by simp [intOf]; omega⟩
      | false =>
        have HF := Lib.hid (HN.out w2 HB2.out)
        clear HN HY
        go_wp2_with fail
        first
          | exact HF.out
          | (go_ret; exact HF.out)
    · have hlt' : ¬ (k : Int) < (L.length : Int) := by omega
      have hke : L.take k = L := List.take_of_length_le (by omega)
      rw [hke] at HA
      have HF := Lib.hid (HY.out HA.out wr HB.out)
      clear HN HY hke
      go_wp2_with fail
      first
        | exact HF.out
        | (go_ret; exact HF.out)
end Go.Proofs.YtdinloecgaapaaaGreatDoor
namespace Go.Proofs.YtdinloecgaapaaaGreatDoor
open Go.RowKit Go.Maps Go.Lib
set_option linter.unusedVariables false
set_option maxRecDepth 100000

set_option maxHeartbeats 2000000 in
theorem line_any (po bk o c : Nat) (xs : List ByteArray) (J : ByteArray) (w : World) (base : Nat) (A : Option Addr) (cc : Nat) (out : List ByteArray) (hrow : w.ownsRow base 9 1 (.slice A out.length cc) out.length (out.map Value.string)) (hbase : base ≤ w.heap.size) (hol : out.length ≤ 100000) (hc : w.heap[po]? = some (.cells #[.slice A out.length cc] 22 (0, 0))) (hcells : ∀ (j : Nat) x, xs[j]? = some x → w.cell? ⟨bk, o + j, none⟩ = some (.string x)) (hbk : bk < w.heap.size) (hN : xs.length ≤ 100) (hcap : xs.length ≤ c) (hJ : J = ⟨(Lib.join (xs.map (·.data.toList)) [32]).toArray⟩) (hlen : J.size ≤ 140737488355328) :
    Calls Tryz.prog 60 #[.slice (some ⟨bk, o, none⟩) xs.length c, .pointer (some ⟨po, 0, none⟩)] w fun e w' =>
      e = .returned (.tuple #[]) ∧ ∃ g cap, w'.heap[po]? = some (.cells #[.slice (some ⟨g, 0, none⟩) (out.length + 1) cap] 22 (0, 0)) ∧ w'.ownsRow base 9 1 (.slice (some ⟨g, 0, none⟩) (out.length + 1) cap) (out.length + 1) ((out ++ [J]).map Value.string) ∧ Kp (fun k => k = po ∨ some k = (Value.slice A out.length cc).ownBlock) w w' := by
  have hpr : (Value.slice A out.length cc).ownBlock ≠ some po := by
    rcases hrow.2 with ⟨h0, _⟩ | ⟨g, cap, cur, he, _, hb, _⟩
    · rw [h0]; simp [Value.ownBlock]
    · rw [he]
      intro e
      simp [Value.ownBlock] at e
      subst e
      rw [hc] at hb
      simp at hb
  have Hrow := Lib.hid hrow
  have Hrl := Lib.hid hrow.lt
  clear hrow
  obtain ⟨i0, hi0, hy0, hy1, hy2⟩ := info_parts str_info
  have hpo : po < w.heap.size := (Array.getElem?_eq_some_iff.1 hc).1
  have c1 : w.cell? ⟨po, 0, none⟩ = some (.slice A out.length cc) := by simp [World.cell?, hc]
  have f1 : w.frozen? ⟨po, 0, none⟩ = false := by simp [World.frozen?, hc]
  have hC : Calls Tryz.prog 61 #[.slice (some ⟨bk, o, none⟩) xs.length c, .string ⟨#[32]⟩] w.drew fun e w' => e = .returned (.string J) ∧ Below w.heap.size w.drew w' := by
    have hl : (Lib.join (xs.map (·.data.toList)) [32]).length ≤ 140737488355328 := by
      rw [hJ] at hlen
      have : (Lib.join (xs.map (·.data.toList)) [32]).length ≤ 140737488355328 := by
        change (Lib.join (xs.map (·.data.toList)) [32]).toArray.size ≤ 140737488355328 at hlen
        simpa using hlen
      omega
    rw [hJ]
    exact Tryz.strings_Join bk o c xs ⟨#[32]⟩ w.drew hcells hbk (by omega) hcap hl
  have HC := Lib.hid hC
  have Hc := Lib.hid hc
  clear hC hcells hJ hc
  go_enter Tryz.func60, Tryz.ntmps60
  go_wp2_with fail
  go_region_law (first
    | (go_simp; go_at_call 61; refine HC.out.mono ?_; rintro e w5 ⟨rfl, hb5⟩; have c5 : w5.cell? ⟨po, 0, none⟩ = some (.slice A out.length cc) := (hb5.cell (p := ⟨po, 0, none⟩) hpo).trans c1; have f5 : w5.frozen? ⟨po, 0, none⟩ = false := (hb5.frozen (p := ⟨po, 0, none⟩) hpo).trans f1; have c5' : (w5.alloc (.cells #[.string J] 9)).cell? ⟨po, 0, none⟩ = some (.slice A out.length cc) := Lib.cell?_alloc_some _ c5; have hs5 : w.heap.size ≤ w5.heap.size := hb5.size; have hrow5 : (w5.alloc (.cells #[.string J] 9)).ownsRow base 9 1 (.slice A out.length cc) out.length (out.map Value.string) := (ownsRow_kp Hrow.out (Kp.of_below (fun _ => False) (show Below w.heap.size w w5 from ⟨hb5.os, hb5.tape, hb5.output, hb5.size, hb5.block⟩)) (fun _ _ e => e)).alloc _; have HB5 := Lib.hid (show Below w.heap.size w w5 from ⟨hb5.os, hb5.tape, hb5.output, hb5.size, hb5.block⟩); clear hb5)
    | ((try simp only [Act.put, List.setIfInBounds_toArray, List.set_cons_zero, List.set_cons_succ]); rw [if_pos (by rfl)]; refine wp_append_lies _ (.tmp 3) (.tmp 6) 22 (by rfl) base 9 i0 _ 1 16 Tryz.underlying22 hi0 hy0 hy1 hy2 rfl (by decide) (.slice A out.length cc) out.length (out.map Value.string) (by rfl) hrow5 ⟨w5.heap.size, 0, none⟩ 1 1 [.string J] (by rfl) rfl (World.news_of_block (cs := #[.string J]) (t := 9) (fr := (0, 0)) (heap_alloc_new w5 _)) (by simp [Value.oneCell']) (by decide) (by unfold maxLen; omega) (by omega) (by simp; omega) (w5.heap.size + 1) (by simp) ?_; intro g cap w6 hown6 hg6 hloc6 hlt6; have c6 : w6.cell? ⟨po, 0, none⟩ = some (.slice A out.length cc) := (hg6.cell_far ⟨po, 0, none⟩ (by simp; omega) (fun e => hpr e.symm)).trans (Lib.cell?_alloc_some _ c5); have f6 : w6.frozen? ⟨po, 0, none⟩ = false := (hg6.frozen_far ⟨po, 0, none⟩ (by simp; omega) (fun e => hpr e.symm)).trans ((World.frozen?_of_block (w := w5) (a := ⟨po, 0, none⟩) (Below.heap_alloc w5 _ po (by omega))).trans f5)))
  all_goals
    clear c1 c5 c5' c6 f1 f5 f6 HC
    have hpg : po ≠ g := by
      rcases hloc6 with e | e
      · intro e2; rw [e2] at hpr; exact hpr e
      · omega
    have hs6 := hg6.size
    rw [show (w5.alloc (.cells #[.string J] 9)).heap.size = w5.heap.size + 1 from by simp] at hs6
    have hown6' : w6.ownsRow base 9 1 (.slice (some ⟨g, 0, none⟩) (out.length + 1) cap) (out.length + 1) ((out ++ [J]).map Value.string) := by simpa using hown6
    have HR6 := Lib.hid (ownsRow_setCell_other hown6' (a := ⟨po, 0, none⟩) (by simp [Value.ownBlock]; exact fun e => hpg e.symm) (.slice (some ⟨g, 0, none⟩) (out.length + 1) cap))
    have HK := Lib.hid (show Kp (fun k => k = po ∨ some k = (Value.slice A out.length cc).ownBlock) w (w6.setCell ⟨po, 0, none⟩ (.slice (some ⟨g, 0, none⟩) (out.length + 1) cap)) from by
      have k1 : Kp (fun k => k = po ∨ some k = (Value.slice A out.length cc).ownBlock) w w6 := by
        have h1 := (Kp.of_below (fun k => k = po ∨ some k = (Value.slice A out.length cc).ownBlock) HB5.out)
        have h2 : Kp (fun k => k = po ∨ some k = (Value.slice A out.length cc).ownBlock) w5 (w5.alloc (.cells #[.string J] 9)) := Kp.of_below _ ((Below.refl _ _).alloc (Nat.le_refl _) _)
        have h3 : Kp (fun k => k = po ∨ some k = (Value.slice A out.length cc).ownBlock) (w5.alloc (.cells #[.string J] 9)) w6 := (Kp.of_grown hg6).mono (fun k _ e => .inr e)
        exact (h1.trans h2).trans h3
      exact k1.trans ⟨rfl, rfl, rfl, by simp, fun k _ hn => heap_setCell_other w6 ⟨po, 0, none⟩ k _ (fun e => hn (.inl e))⟩)
    have hcp : w6.heap[po]? = some (.cells #[.slice A out.length cc] 22 (0, 0)) := (hg6.block po (by simp; omega) (fun e => hpr e.symm)).trans ((Below.heap_alloc w5 _ po (by omega)).trans ((HB5.out.block po hpo).trans Hc.out))
    have Hcell := Lib.hid (show (w6.setCell ⟨po, 0, none⟩ (.slice (some ⟨g, 0, none⟩) (out.length + 1) cap)).heap[po]? = some (.cells #[.slice (some ⟨g, 0, none⟩) (out.length + 1) cap] 22 (0, 0)) from by
      have := heap_setCell_same w6 po 0 #[.slice A out.length cc] 22 (.slice (some ⟨g, 0, none⟩) (out.length + 1) cap) hcp
      simpa using this)
    clear hown6 hown6' hg6 hloc6 hcp
    go_wp2
    go_end0
    exact ⟨rfl, g, cap, Hcell.out, HR6.out, HK.out⟩
end Go.Proofs.YtdinloecgaapaaaGreatDoor
namespace Go.Proofs.YtdinloecgaapaaaGreatDoor
open Go.RowKit Go.Maps Go.Lib
set_option linter.unusedVariables false
set_option maxRecDepth 100000

def Bm.bl (m : Bm) : Bl := ⟨m.x.l, m.x.s⟩
/-- a slice of bills -/
def Rb (w : World) (B : Nat) (A : Option Addr) (L : List Bm) : Prop :=
  0 < L.length → ∃ g, A = some ⟨g, 0, none⟩ ∧ g < B ∧ ∀ (i : Nat) m, L[i]? = some m → w.cell? ⟨g, i * 3, none⟩ = some (.slice m.A m.x.l.length m.c) ∧ w.cell? ⟨g, i * 3 + 1, none⟩ = some (.int .i64 m.x.s) ∧ Rs w B m.A m.x.l
section
variable {w w' : World} {B B' : Nat} {A : Option Addr} {L : List Bm}
theorem Rb.below (h : Rb w B A L) (hb : Below B w w') : Rb w' B A L := fun hl => by
  obtain ⟨g, e, hg, hc⟩ := h hl
  exact ⟨g, e, hg, fun i m hm => ⟨(hb.cell (p := ⟨g, _, none⟩) hg).trans (hc i m hm).1, (hb.cell (p := ⟨g, _, none⟩) hg).trans (hc i m hm).2.1, (hc i m hm).2.2.below hb⟩⟩
theorem Rb.more (h : Rb w B A L) (hB : B ≤ B') : Rb w B' A L := fun hl => by
  obtain ⟨g, e, hg, hc⟩ := h hl
  exact ⟨g, e, by omega, fun i m hm => ⟨(hc i m hm).1, (hc i m hm).2.1, (hc i m hm).2.2.more hB⟩⟩
theorem Rb.at_ (h : Rb w B A L) {k : Nat} (hk : k < L.length) : ∃ g, A = some ⟨g, 0, none⟩ ∧ g < B ∧ w.cell? ⟨g, k * 3, none⟩ = some (.slice L[k].A L[k].x.l.length L[k].c) ∧ w.cell? ⟨g, k * 3 + 1, none⟩ = some (.int .i64 L[k].x.s) ∧ Rs w B L[k].A L[k].x.l := by
  obtain ⟨g, e, hg, hc⟩ := h (by omega)
  exact ⟨g, e, hg, hc k _ (List.getElem?_eq_getElem hk)⟩
end
theorem flat3 (L : List Bm) : ∀ (i : Nat) m, L[i]? = some m → (L.flatMap bmC)[i * 3]? = some (.slice m.A m.x.l.length m.c) ∧ (L.flatMap bmC)[i * 3 + 1]? = some (.int .i64 m.x.s) := by
  induction L with
  | nil => intro i m h; simp at h
  | cons y L ih =>
    intro i m h
    cases i with
    | zero =>
      simp at h
      subst h
      simp [bmC]
    | succ i =>
      simp only [List.getElem?_cons_succ] at h
      have := ih i m h
      rw [List.flatMap_cons]
      constructor
      · rw [List.getElem?_append_right (by simp [bmC]; omega)]
        rw [show (i + 1) * 3 - (bmC y).length = i * 3 from by simp [bmC]; omega]
        exact this.1
      · rw [List.getElem?_append_right (by simp [bmC]; omega)]
        rw [show (i + 1) * 3 + 1 - (bmC y).length = i * 3 + 1 from by simp [bmC]; omega]
        exact this.2
theorem Bw.rb {base : Nat} {w : World} {A : Option Addr} {c : Nat} {BL : List Bm} (h : Bw base w A c BL) : Rb w w.heap.size A BL := fun hl => by
  rcases h.row.2 with ⟨h1, h2⟩ | ⟨g, cap, cur, e, hb, hg, h4, h5, h6, h7⟩
  · omega
  · injection e with e
    have hat : ∀ j v, (BL.flatMap bmC)[j]? = some v → w.cell? ⟨g, j, none⟩ = some v := fun j v hv => by
      rw [cell_of hg j, ← Array.getElem?_toList]
      rw [← h7, List.getElem?_take] at hv
      split at hv
      · exact hv
      · cases hv
    exact ⟨g, e, lt_of_some hg, fun i m hm => ⟨hat _ _ (flat3 BL i m hm).1, hat _ _ (flat3 BL i m hm).2, (h.each m (List.mem_of_getElem? hm)).box.rs⟩⟩
theorem live_at (L : List Bm) (s : ByteArray) (k : Nat) (h : k < L.length) (h1 : L[k].x.s = 0) (h2 : inS L[k].x.l s = true) : liveB (L.map Bm.bl) s = true := by
  unfold liveB
  rw [List.any_eq_true]
  exact ⟨_, List.mem_map.2 ⟨_, List.getElem_mem h, rfl⟩, by simp only [Bm.bl, h1, h2]; rfl⟩
theorem live_step (L : List Bm) (s : ByteArray) (k : Nat) (h : k < L.length) (h0 : liveB ((L.take k).map Bm.bl) s = false) (e : (decide (L[k].x.s = 0) && inS L[k].x.l s) = false) : liveB ((L.take (k + 1)).map Bm.bl) s = false := by
  rw [List.take_succ_eq_append_getElem h]
  unfold liveB at h0 ⊢
  rw [List.map_append, List.any_append, h0, List.map_cons, List.any_cons]
  show (false || (decide (L[k].x.s = 0) && inS L[k].x.l s || _)) = false
  rw [e]
  rfl

set_option maxHeartbeats 1000000 in
theorem live_r (L : List Bm) (s : ByteArray) (A : Option Addr) (c : Nat) (w : World) (h : Rb w w.heap.size A L) (hl : L.length ≤ 100000) (hL : ∀ m ∈ L, m.x.l.length ≤ 64) :
    Calls Tryz.prog 33 #[.slice A L.length c, .string s] w fun e w' => e = .returned (.bool (liveB (L.map Bm.bl) s)) ∧ Below w.heap.size w w' := by
  go_enter Tryz.func33, Tryz.ntmps33
  go_wp2
  go_loopw [5] (fun i wr => ∃ k : Nat, k ≤ L.length ∧ i = .int .i64 k ∧ Hid (Below w.heap.size w wr) ∧ Hid (liveB ((L.take k).map Bm.bl) s = false)) (fun i _ => L.length - (intOf i).toNat)
  case atStart => exact ⟨0, Nat.zero_le _, rfl, Lib.hid (Below.refl _ _), Lib.hid rfl⟩
  case round =>
    obtain ⟨k, hk, rfl, Hb, Hn⟩ := hrel
    by_cases hlt : k < L.length
    · obtain ⟨g1, rfl, hg1, hc0, hc1, hrs⟩ := (h.below Hb.out).at_ hlt
      have hlt' : (k : Int) < (L.length : Int) := by omega
      have hll := hL _ (List.getElem_mem hlt)
      have HA := Lib.hid (fun h1 h2 => live_at L s k hlt h1 h2)
      have HS := Lib.hid (live_step L s k hlt Hn.out)
      have HI := Lib.hid (in_any L[k].x.l s L[k].A L[k].c wr (hrs.more Hb.out.size) (by omega))
      generalize L[k] = m at *
      clear h hL hrs
      obtain ⟨mk, x, mA, mc, mO, moc⟩ := m
      simp only at *
      generalize x.s = xs at *
      generalize x.l = xl at *
      by_cases h0 : xs = 0
      · subst h0
        go_wp2_with fail
        refine HI.out.mono ?_
        rintro e w2 ⟨rfl, hb2⟩
        have Hb2 := Lib.hid (Hb.out.trans (hb2.mono Hb.out.size))
        cases hin : inS xl s with
        | true =>
          have HT := Lib.hid (HA.out (by first | trivial | rfl) hin)
          clear hb2 HS HA HI
          go_wp2_with fail
          first
            | exact ⟨by rw [HT.out]; rfl, Hb2.out⟩
            | (go_ret; exact ⟨by rw [HT.out]; rfl, Hb2.out⟩)
        | false =>
          have HT := Lib.hid (HS.out (by rw [hin]; rfl))
          clear hb2 HS HA HI
          go_wp2_with fail
          exact ⟨⟨k + 1, by omega, by go_num, Hb2, HT⟩, by simp [intOf]; omega⟩
      · have hb0 : (xs == 0) = false := by simpa using h0
        have HT := Lib.hid (HS.out (by simp [h0]))
        clear HS HA HI
        go_wp2_with fail
        exact ⟨⟨k + 1, by omega, by go_num, Hb, HT⟩, by simp [intOf]; omega⟩
    · have hlt' : ¬ (k : Int) < (L.length : Int) := by omega
      have hke : L.take k = L := List.take_of_length_le (by omega)
      rw [hke] at Hn
      clear h hL hke
      go_wp2_with fail
      first
        | exact ⟨by rw [Hn.out]; rfl, Hb.out⟩
        | (go_ret; exact ⟨by rw [Hn.out]; rfl, Hb.out⟩)
end Go.Proofs.YtdinloecgaapaaaGreatDoor
