/- audit.gather's closure: a line is laid behind those that there are. -/
import Derived.Test.YtooeelaobmhifaaGreatDoorALine
namespace Go.Proofs.YtooeelaobmhifaaGreatDoor
open Go.RowKit Go.Maps Go.Lib
set_option linter.unusedVariables false
set_option maxRecDepth 100000

set_option maxHeartbeats 2000000 in
theorem line_any (po bk o c : Nat) (xs : List ByteArray) (J : ByteArray) (w : World) (base : Nat) (A : Option Addr) (cc : Nat) (out : List ByteArray) (hrow : w.ownsRow base 9 1 (.slice A out.length cc) out.length (out.map Value.string)) (hbase : base ≤ w.heap.size) (hol : out.length ≤ 100000) (hc : w.heap[po]? = some (.cells #[.slice A out.length cc] 31 (0, 0))) (hcells : ∀ (j : Nat) x, xs[j]? = some x → w.cell? ⟨bk, o + j, none⟩ = some (.string x)) (hbk : bk < w.heap.size) (hN : xs.length ≤ 100) (hcap : xs.length ≤ c) (hJ : J = ⟨(Lib.join (xs.map (·.data.toList)) [32]).toArray⟩) (hlen : J.size ≤ 140737488355328) :
    Calls Tryz.prog 42 #[.slice (some ⟨bk, o, none⟩) xs.length c, .pointer (some ⟨po, 0, none⟩)] w fun e w' =>
      e = .returned (.tuple #[]) ∧ ∃ g cap, w'.heap[po]? = some (.cells #[.slice (some ⟨g, 0, none⟩) (out.length + 1) cap] 31 (0, 0)) ∧ w'.ownsRow base 9 1 (.slice (some ⟨g, 0, none⟩) (out.length + 1) cap) (out.length + 1) ((out ++ [J]).map Value.string) ∧ Kp (fun k => k = po ∨ some k = (Value.slice A out.length cc).ownBlock) w w' := by
  have hpr : (Value.slice A out.length cc).ownBlock ≠ some po := by
    rcases hrow.2 with ⟨h0, _⟩ | ⟨g, cap, cur, he, _, hb, _⟩
    · rw [h0]; simp [Value.ownBlock]
    · rw [he]
      intro e
      simp [Value.ownBlock] at e
      subst e
      rw [hc] at hb
      simp at hb
  have Hrow := Lib.hid hrow
  have Hrl := Lib.hid hrow.lt
  clear hrow
  obtain ⟨i0, hi0, hy0, hy1, hy2⟩ := info_parts str_info
  have hpo : po < w.heap.size := (Array.getElem?_eq_some_iff.1 hc).1
  have c1 : w.cell? ⟨po, 0, none⟩ = some (.slice A out.length cc) := by simp [World.cell?, hc]
  have f1 : w.frozen? ⟨po, 0, none⟩ = false := by simp [World.frozen?, hc]
  have hC : Calls Tryz.prog 43 #[.slice (some ⟨bk, o, none⟩) xs.length c, .string ⟨#[32]⟩] w.drew fun e w' => e = .returned (.string J) ∧ Below w.heap.size w.drew w' := by
    have hl : (Lib.join (xs.map (·.data.toList)) [32]).length ≤ 140737488355328 := by
      rw [hJ] at hlen
      have : (Lib.join (xs.map (·.data.toList)) [32]).length ≤ 140737488355328 := by
        change (Lib.join (xs.map (·.data.toList)) [32]).toArray.size ≤ 140737488355328 at hlen
        simpa using hlen
      omega
    rw [hJ]
    exact Tryz.strings_Join bk o c xs ⟨#[32]⟩ w.drew hcells hbk (by omega) hcap hl
  have HC := Lib.hid hC
  have Hc := Lib.hid hc
  clear hC hcells hJ hc
  go_enter Tryz.func42, Tryz.ntmps42
  go_wp2_with fail
  go_region_law (first
    | (go_simp; go_at_call 43; refine HC.out.mono ?_; rintro e w5 ⟨rfl, hb5⟩; have c5 : w5.cell? ⟨po, 0, none⟩ = some (.slice A out.length cc) := (hb5.cell (p := ⟨po, 0, none⟩) hpo).trans c1; have f5 : w5.frozen? ⟨po, 0, none⟩ = false := (hb5.frozen (p := ⟨po, 0, none⟩) hpo).trans f1; have c5' : (w5.alloc (.cells #[.string J] 9)).cell? ⟨po, 0, none⟩ = some (.slice A out.length cc) := Lib.cell?_alloc_some _ c5; have hs5 : w.heap.size ≤ w5.heap.size := hb5.size; have hrow5 : (w5.alloc (.cells #[.string J] 9)).ownsRow base 9 1 (.slice A out.length cc) out.length (out.map Value.string) := (ownsRow_kp Hrow.out (Kp.of_below (fun _ => False) (show Below w.heap.size w w5 from ⟨hb5.os, hb5.tape, hb5.output, hb5.size, hb5.block⟩)) (fun _ _ e => e)).alloc _; have HB5 := Lib.hid (show Below w.heap.size w w5 from ⟨hb5.os, hb5.tape, hb5.output, hb5.size, hb5.block⟩); clear hb5)
    | ((try simp only [Act.put, List.setIfInBounds_toArray, List.set_cons_zero, List.set_cons_succ]); rw [if_pos (by rfl)]; refine wp_append_lies _ (.tmp 3) (.tmp 6) 31 (by rfl) base 9 i0 _ 1 16 Tryz.underlying31 hi0 hy0 hy1 hy2 rfl (by decide) (.slice A out.length cc) out.length (out.map Value.string) (by rfl) hrow5 ⟨w5.heap.size, 0, none⟩ 1 1 [.string J] (by rfl) rfl (World.news_of_block (cs := #[.string J]) (t := 9) (fr := (0, 0)) (heap_alloc_new w5 _)) (by simp [Value.oneCell']) (by decide) (by unfold maxLen; omega) (by omega) (by simp; omega) (w5.heap.size + 1) (by simp) ?_; intro g cap w6 hown6 hg6 hloc6 hlt6; have c6 : w6.cell? ⟨po, 0, none⟩ = some (.slice A out.length cc) := (hg6.cell_far ⟨po, 0, none⟩ (by simp; omega) (fun e => hpr e.symm)).trans (Lib.cell?_alloc_some _ c5); have f6 : w6.frozen? ⟨po, 0, none⟩ = false := (hg6.frozen_far ⟨po, 0, none⟩ (by simp; omega) (fun e => hpr e.symm)).trans ((World.frozen?_of_block (w := w5) (a := ⟨po, 0, none⟩) (Below.heap_alloc w5 _ po (by omega))).trans f5)))
  all_goals
    clear c1 c5 c5' c6 f1 f5 f6 HC
    have hpg : po ≠ g := by
      rcases hloc6 with e | e
      · intro e2; rw [e2] at hpr; exact hpr e
      · omega
    have hs6 := hg6.size
    rw [show (w5.alloc (.cells #[.string J] 9)).heap.size = w5.heap.size + 1 from by simp] at hs6
    have hown6' : w6.ownsRow base 9 1 (.slice (some ⟨g, 0, none⟩) (out.length + 1) cap) (out.length + 1) ((out ++ [J]).map Value.string) := by simpa using hown6
    have HR6 := Lib.hid (ownsRow_setCell_other hown6' (a := ⟨po, 0, none⟩) (by simp [Value.ownBlock]; exact fun e => hpg e.symm) (.slice (some ⟨g, 0, none⟩) (out.length + 1) cap))
    have HK := Lib.hid (show Kp (fun k => k = po ∨ some k = (Value.slice A out.length cc).ownBlock) w (w6.setCell ⟨po, 0, none⟩ (.slice (some ⟨g, 0, none⟩) (out.length + 1) cap)) from by
      have k1 : Kp (fun k => k = po ∨ some k = (Value.slice A out.length cc).ownBlock) w w6 := by
        have h1 := (Kp.of_below (fun k => k = po ∨ some k = (Value.slice A out.length cc).ownBlock) HB5.out)
        have h2 : Kp (fun k => k = po ∨ some k = (Value.slice A out.length cc).ownBlock) w5 (w5.alloc (.cells #[.string J] 9)) := Kp.of_below _ ((Below.refl _ _).alloc (Nat.le_refl _) _)
        have h3 : Kp (fun k => k = po ∨ some k = (Value.slice A out.length cc).ownBlock) (w5.alloc (.cells #[.string J] 9)) w6 := (Kp.of_grown hg6).mono (fun k _ e => .inr e)
        exact (h1.trans h2).trans h3
      exact k1.trans ⟨rfl, rfl, rfl, by simp, fun k _ hn => heap_setCell_other w6 ⟨po, 0, none⟩ k _ (fun e => hn (.inl e))⟩)
    have hcp : w6.heap[po]? = some (.cells #[.slice A out.length cc] 31 (0, 0)) := (hg6.block po (by simp; omega) (fun e => hpr e.symm)).trans ((Below.heap_alloc w5 _ po (by omega)).trans ((HB5.out.block po hpo).trans Hc.out))
    have Hcell := Lib.hid (show (w6.setCell ⟨po, 0, none⟩ (.slice (some ⟨g, 0, none⟩) (out.length + 1) cap)).heap[po]? = some (.cells #[.slice (some ⟨g, 0, none⟩) (out.length + 1) cap] 31 (0, 0)) from by
      have := heap_setCell_same w6 po 0 #[.slice A out.length cc] 31 (.slice (some ⟨g, 0, none⟩) (out.length + 1) cap) hcp
      simpa using this)
    clear hown6 hown6' hg6 hloc6 hcp
    go_wp2
    go_end0
    exact ⟨rfl, g, cap, Hcell.out, HR6.out, HK.out⟩
end Go.Proofs.YtooeelaobmhifaaGreatDoor
