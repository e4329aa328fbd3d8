/- slices.Clone of entries. -/
import Derived.Test.YtooeelaobmhifaaGreatDoorAEnt
import Derived.Deep.AppendLies
import Derived.Lib.SliceRun
namespace Go.Proofs.YtooeelaobmhifaaGreatDoor
open Go.RowKit Go.Maps Go.Lib
set_option linter.unusedVariables false
set_option maxRecDepth 100000

def entC (e : Ent) : List Value := [.string e.acc, .string e.cur, .int .i64 e.n]
def cellsE (T : List Ent) : List Value := T.flatMap entC
theorem cellsE_len (T : List Ent) : (cellsE T).length = T.length * 3 := by
  induction T with
  | nil => rfl
  | cons e T ih => simp [cellsE, entC] at ih ⊢; omega
theorem cellsE_at : ∀ (T : List Ent) (i : Nat) (t : Ent), T[i]? = some t → (cellsE T)[i * 3]? = some (.string t.acc) ∧ (cellsE T)[i * 3 + 1]? = some (.string t.cur) ∧ (cellsE T)[i * 3 + 2]? = some (.int .i64 t.n)
  | [], i, t, h => by simp at h
  | u :: T, 0, t, h => by simp at h; subst h; exact ⟨rfl, rfl, rfl⟩
  | u :: T, i + 1, t, h => by
    have := cellsE_at T i t (by simpa using h)
    have e : cellsE (u :: T) = .string u.acc :: .string u.cur :: .int .i64 u.n :: cellsE T := rfl
    rw [e]
    have e0 : (i + 1) * 3 = i * 3 + 1 + 1 + 1 := by omega
    have e1 : (i + 1) * 3 + 1 = i * 3 + 1 + 1 + 1 + 1 := by omega
    have e2 : (i + 1) * 3 + 2 = i * 3 + 2 + 1 + 1 + 1 := by omega
    rw [e1, e2, e0]
    exact this
theorem cellsE_one (T : List Ent) : ∀ u ∈ cellsE T, u.oneCell' = true := by
  intro u hu
  obtain ⟨e, _, h⟩ := List.mem_flatMap.1 hu
  simp [entC] at h
  rcases h with rfl | rfl | rfl <;> rfl
theorem Re.of_row {w : World} {base c : Nat} {e : TypeId} {A : Option Addr} {T : List Ent} (h : w.ownsRow base e 3 (.slice A T.length c) T.length (cellsE T)) : Re w w.heap.size A T := fun hl => by
  rcases h.2 with ⟨h0, hn⟩ | ⟨g, cap, cur, he, h6⟩
  · rw [hn] at hl; exact absurd hl (by decide)
  · injection he with e1 _ e3
    subst e1 e3
    refine ⟨g, 0, rfl, (h.lt g rfl).2, fun i x hx => ?_⟩
    obtain ⟨h1, h2, h3⟩ := cellsE_at T i x hx
    have hc := h.cells (g := g) rfl
    have ha : ∀ k, (⟨g, 0, none⟩ : Addr).add k = ⟨g, 0 + k, none⟩ := by
      intro k
      by_cases e : k = 0
      · subst e; simp [Addr.add]
      · simp [Addr.add, e]
    have e1 := hc _ _ h1
    have e2 := hc _ _ h2
    have e3 := hc _ _ h3
    rw [ha] at e1 e2 e3
    exact ⟨e1, by rw [Nat.add_assoc]; exact e2, by rw [Nat.add_assoc]; exact e3⟩
/-- the cells behind a slice's address -/
theorem Re.cells {w : World} {B g off : Nat} {T : List Ent} (h : Re w B (some ⟨g, off, none⟩) T) : ∀ j u, (cellsE T)[j]? = some u → w.cell? ⟨g, off + j, none⟩ = some u := by
  intro j u hj
  have hl : j < T.length * 3 := by rw [← cellsE_len]; exact (List.getElem?_eq_some_iff.1 hj).1
  obtain ⟨g', off', e, _, hc⟩ := h (by omega)
  injection e with e
  injection e with e1 e2
  subst e1 e2
  have hq : j / 3 < T.length := by omega
  have hx := List.getElem?_eq_getElem hq
  obtain ⟨c0, c1, c2⟩ := hc _ _ hx
  obtain ⟨d0, d1, d2⟩ := cellsE_at T _ _ hx
  rcases (show j = j / 3 * 3 ∨ j = j / 3 * 3 + 1 ∨ j = j / 3 * 3 + 2 by omega) with h | h | h
  · rw [h] at hj ⊢; rw [d0] at hj; rw [c0]; exact hj
  · rw [h] at hj ⊢; rw [d1] at hj; rw [← Nat.add_assoc, c1]; exact hj
  · rw [h] at hj ⊢; rw [d2] at hj; rw [← Nat.add_assoc, c2]; exact hj
theorem ent_info : (Tryz.prog.info? 61).map (fun i => (i.zero, i.size, i.bytes)) = some (some (.agg #[.string ⟨#[]⟩, .string ⟨#[]⟩, .int .i64 0]), 3, 40) := by kernel_rfl

set_option maxHeartbeats 1000000 in
theorem cloneE_any (A : Option Addr) (c : Nat) (es : List Ent) (w : World) (hR : Re w w.heap.size A es) (h0 : 0 < es.length) (hlen : es.length ≤ 64) :
    Calls Tryz.prog 39 #[.slice A es.length c] w fun e w' => ∃ A' c', e = .returned (.slice A' es.length c') ∧ Re w' w'.heap.size A' es ∧ Below w.heap.size w w' ∧ ∀ ad, A' = some ad → w.heap.size ≤ ad.block := by
  obtain ⟨i0, hi, hz0, hz1, hz2⟩ := info_parts ent_info
  obtain ⟨g, off, rfl, hg, _⟩ := hR h0
  have Hc := Lib.hid hR.cells
  clear hR
  have q22 : ∀ (w : World) (a : Option Addr) (n c n' c' : Nat), (binOp .eql 62 (.slice a n c) (.slice none n' c')).run Tryz.prog w = .ok (.bool a.isNone) w := fun w a n c n' c' => Lib.run_eql_slice_nil w _ _ a n c n' c' Tryz.underlying62
  go_enter Tryz.func39, Tryz.ntmps39
  go_wp2_with (at_builtin; refine wpList_append_own _ rfl _ _ 62 rfl w.heap.size 61 i0 _ 3 40 Tryz.underlying62 hi hz0 hz1 hz2 rfl (by decide) _ _ _ rfl (World.ownsRow_made w #[] 0 (Nat.le_refl _) (Nat.zero_le _) rfl) ⟨g, off, none⟩ es.length c (cellsE es) rfl ?qc1 ?qc2 ?qc3 ?qc4 ?qc5 ?qc6 ?_)
  case qc1 => rw [cellsE_len]
  case qc2 =>
    intro j u hj
    rw [Addr.add_lit]
    exact Lib.cell?_alloc_some _ (Hc.out j u hj)
  case qc3 => exact cellsE_one es
  case qc4 => unfold maxLen; omega
  case qc5 => omega
  case qc6 => simp
  intro v' w1 hown hgrow hnil
  go_wp2
  go_ret
  have hown' : w1.ownsRow w.heap.size 61 3 v' es.length (cellsE es) := by simpa using hown
  obtain ⟨A', c', rfl⟩ : ∃ A' c', v' = .slice A' es.length c' := by
    rcases hown'.2 with ⟨h1, hn⟩ | ⟨g, cap, cur, he, _⟩
    · omega
    · exact ⟨_, _, he⟩
  exact ⟨A', c', rfl, Re.of_row hown', ((Below.refl _ w).alloc (Nat.le_refl _) _).grown hgrow (by simp) (by intro k hk; simp [Value.ownBlock] at hk; omega), fun ad hA => by subst hA; exact (hown'.lt ad.block rfl).1⟩
end Go.Proofs.YtooeelaobmhifaaGreatDoor
