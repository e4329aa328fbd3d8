/- slices.Clone of posts. -/
import Derived.Test.YtooeelaobmhifaaGreatDoorAPosts
namespace Go.Proofs.YtooeelaobmhifaaGreatDoor
open Go.RowKit Go.Maps Go.Lib
set_option linter.unusedVariables false
set_option maxRecDepth 100000

set_option maxHeartbeats 1000000 in
theorem cloneP_some (g off c : Nat) (L : List Pl) (w : World) (hc : ∀ j u, (cellsP L)[j]? = some u → w.cell? ⟨g, off + j, none⟩ = some u) (hlen : L.length ≤ 100000) :
    Calls Tryz.prog 48 #[.slice (some ⟨g, off, none⟩) L.length c] w fun e w' => ∃ v', e = .returned v' ∧ w'.ownsRow w.heap.size 67 3 v' L.length (cellsP L) ∧ Below w.heap.size w w' := by
  obtain ⟨i0, hi, hz0, hz1, hz2⟩ := info_parts post_info
  have Hc := Lib.hid hc
  clear hc
  have q22 : ∀ (w : World) (a : Option Addr) (n c n' c' : Nat), (binOp .eql 37 (.slice a n c) (.slice none n' c')).run Tryz.prog w = .ok (.bool a.isNone) w := fun w a n c n' c' => Lib.run_eql_slice_nil w _ _ a n c n' c' Tryz.underlying37
  go_enter Tryz.func48, Tryz.ntmps48
  go_wp2_with (at_builtin; refine wpList_append_own _ rfl _ _ 37 rfl w.heap.size 67 i0 _ 3 48 Tryz.underlying37 hi hz0 hz1 hz2 rfl (by decide) _ _ _ rfl (World.ownsRow_made w #[] 0 (Nat.le_refl _) (Nat.zero_le _) rfl) ⟨g, off, none⟩ L.length c (cellsP L) rfl ?qc1 ?qc2 ?qc3 ?qc4 ?qc5 ?qc6 ?_)
  case qc1 => rw [cellsP_len]
  case qc2 =>
    intro j u hj
    rw [Addr.add_lit]
    exact Lib.cell?_alloc_some _ (Hc.out j u hj)
  case qc3 => exact cellsP_one L
  case qc4 => unfold maxLen; omega
  case qc5 => omega
  case qc6 => simp
  intro v' w1 hown hgrow hnil
  go_wp2
  go_ret
  exact ⟨v', rfl, by simpa using hown, ((Below.refl _ w).alloc (Nat.le_refl _) _).grown hgrow (by simp) (by intro k hk; simp [Value.ownBlock] at hk; omega)⟩

set_option maxHeartbeats 1000000 in
theorem cloneP_nil (n c : Nat) (w : World) :
    Calls Tryz.prog 48 #[.slice none n c] w fun e w' => e = .returned (.slice none 0 0) ∧ w' = w := by
  have q22 : ∀ (w : World) (a : Option Addr) (n c n' c' : Nat), (binOp .eql 37 (.slice a n c) (.slice none n' c')).run Tryz.prog w = .ok (.bool a.isNone) w := fun w a n c n' c' => Lib.run_eql_slice_nil w _ _ a n c n' c' Tryz.underlying37
  go_enter Tryz.func48, Tryz.ntmps48
  go_wp2
  go_ret
  exact ⟨rfl, rfl⟩

theorem cloneP_any {base B : Nat} (v : Value) (L : List Pl) (w : World) (h : Pw w base B v L) (hlen : L.length ≤ 100000) :
    Calls Tryz.prog 48 #[v] w fun e w' => ∃ v', e = .returned v' ∧ w'.ownsRow w.heap.size 67 3 v' L.length (cellsP L) ∧ Below w.heap.size w w' := by
  rcases h.row.2 with ⟨h0, hn⟩ | ⟨g, cap, cur, he, _⟩
  · subst h0
    have hL : L = [] := List.length_eq_zero_iff.1 hn
    subst hL
    exact (cloneP_nil 0 0 w).mono fun e w' ⟨he, hw⟩ => ⟨_, he, by subst hw; exact World.ownsRow_nil _ _ _ _, by subst hw; exact Below.refl _ _⟩
  · subst he
    refine cloneP_some g 0 cap L w (fun j u hj => ?_) hlen
    have := h.row.cells (g := g) rfl j u hj
    rw [Addr.add_lit] at this
    exact this
end Go.Proofs.YtooeelaobmhifaaGreatDoor
