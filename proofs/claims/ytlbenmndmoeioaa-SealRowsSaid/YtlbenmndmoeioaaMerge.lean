/- Notary.Merge: what it does to the notes. -/
import Derived.Test.YtlbenmndmoeioaaSignsB
import Derived.LaidEqlPtr
namespace Go.Proofs.Ytlbenmndmoeioaa
open Go.RowKit Go.Maps
set_option linter.unusedVariables false

theorem infoNote2 : (Try.prog.info? 55).map (fun i => (i.zero, i.size, i.bytes)) = some (some (.agg #[.string ⟨#[]⟩, .string ⟨#[]⟩]), 2, 32) := by kernel_rfl
theorem infoNotary : (Try.prog.info? 53).map (fun i => i.size) = some 1 := by kernel_rfl

theorem Rn.of_row {w : World} {base : Nat} {e : TypeId} {v : Value} {F : List Nt} (h : w.ownsRow base e 2 v F.length (cellsN F)) :
    ∃ A cap, v = .slice A F.length cap ∧ Rn w w.heap.size A F ∧ (0 < F.length → ∃ g, A = some ⟨g, 0, none⟩ ∧ base ≤ g ∧ g < w.heap.size) := by
  rcases h.2 with ⟨rfl, hn⟩ | ⟨g, cap, cur, rfl, h6⟩
  · exact ⟨none, 0, by rw [hn], fun hl => absurd hl (by omega), fun hl => absurd hl (by omega)⟩
  · refine ⟨some ⟨g, 0, none⟩, cap, rfl, fun hl => ?_, fun _ => ⟨g, rfl, (h.lt g rfl).1, (h.lt g rfl).2⟩⟩
    refine ⟨g, 0, rfl, (h.lt g rfl).2, fun i x hx => ?_⟩
    obtain ⟨h1, h2⟩ := cellsN_at F i x hx
    have hc := h.cells (g := g) rfl
    have ha : ∀ k, (⟨g, 0, none⟩ : Addr).add k = ⟨g, 0 + k, none⟩ := by
      intro k
      by_cases e : k = 0
      · subst e; simp [Addr.add]
      · simp [Addr.add, e]
    have e1 := hc _ _ h1
    have e2 := hc _ _ h2
    rw [ha] at e1 e2
    exact ⟨e1, by rw [Nat.add_assoc]; exact e2⟩

/-- the notes that come over -/
def freshOf (L M : List Nt) : List Nt := M.filter fun x => !hasN L x
theorem fresh_perm {L M F : List Nt} (hM : M.Nodup) (hF : F.Nodup) (h : ∀ x, x ∈ F ↔ x ∈ M ∧ x ∉ L) : F.Perm (freshOf L M) := by
  refine (List.perm_ext_iff_of_nodup hF (hM.filter _)).2 fun x => ?_
  rw [h x, List.mem_filter]
  have := hasN_false L x
  simp only [Bool.not_eq_true', this]

/-- what the first loop has collected -/
structure Col (L M F : List Nt) (left : Lit → Bool) : Prop where
  nd : F.Nodup
  mem : ∀ x, x ∈ F ↔ (x ∈ M ∧ left (nkey x) = false) ∧ x ∉ L
theorem Col.start (L M : List Nt) (hM : ∀ y ∈ M, Small y) : Col L M [] (Maps.has (setD M)) := by
  refine ⟨by simp, fun x => ?_⟩
  simp only [List.not_mem_nil, false_iff, not_and]
  rintro ⟨hx, hl⟩
  rw [has_setD M x hM (hM x hx), (hasN_iff M x).2 hx] at hl
  cases hl
theorem Col.done {L M F : List Nt} {left : Lit → Bool} (h : Col L M F left) (hl : ∀ k, left k = false) : ∀ x, x ∈ F ↔ x ∈ M ∧ x ∉ L := by
  intro x
  rw [h.mem x, hl (nkey x)]
  simp
theorem Col.skip {L M F : List Nt} {left : Lit → Bool} (h : Col L M F left) {x : Nt} (hM : ∀ y ∈ M, Small y) (hx : x ∈ M) (hL : hasN L x = true) : Col L M F (fun z => left z && !z.sameKey (nkey x)) := by
  refine ⟨h.nd, fun y => ?_⟩
  rw [h.mem y]
  by_cases e : y = x
  · subst e
    simp [(hasN_iff L y).1 hL]
  · constructor
    · rintro ⟨⟨h1, h2⟩, h3⟩
      exact ⟨⟨h1, by rw [h2]; rfl⟩, h3⟩
    · rintro ⟨⟨h1, h2⟩, h3⟩
      have hne : nkey y ≠ nkey x := fun h => e (nkey_inj (hM y h1) (hM x hx) h)
      rw [sameKey_ne hne] at h2
      exact ⟨⟨h1, by simpa using h2⟩, h3⟩
theorem Col.take {L M F : List Nt} {left : Lit → Bool} (h : Col L M F left) {x : Nt} (hM : ∀ y ∈ M, Small y) (hx : x ∈ M) (hlx : left (nkey x) = true) (hL : hasN L x = false) : Col L M (F ++ [x]) (fun z => left z && !z.sameKey (nkey x)) := by
  have hxF : x ∉ F := fun hf => by have := ((h.mem x).1 hf).1.2; rw [hlx] at this; cases this
  refine ⟨?_, fun y => ?_⟩
  · rw [List.nodup_append]
    refine ⟨h.nd, by simp, ?_⟩
    intro a ha c hc e
    simp at hc
    subst hc e
    exact hxF ha
  · rw [List.mem_append, List.mem_singleton, h.mem y]
    by_cases e : y = x
    · subst e
      rw [WideAt.sameKey_self (isKey_nkey y)]
      simp [hx, (hasN_false L y).1 hL]
    · simp only [e, or_false]
      constructor
      · rintro ⟨⟨h1, h2⟩, h3⟩
        exact ⟨⟨h1, by rw [h2]; rfl⟩, h3⟩
      · rintro ⟨⟨h1, h2⟩, h3⟩
        have hne : nkey y ≠ nkey x := fun h => e (nkey_inj (hM y h1) (hM x hx) h)
        rw [sameKey_ne hne] at h2
        exact ⟨⟨h1, by simpa using h2⟩, h3⟩
theorem Col.le {L M F : List Nt} {left : Lit → Bool} (h : Col L M F left) (hM : M.Nodup) : F.length ≤ M.length := by
  have hp : F.Perm (M.filter fun x => hasN F x) := by
    refine (List.perm_ext_iff_of_nodup h.nd (hM.filter _)).2 fun x => ?_
    rw [List.mem_filter, hasN_iff]
    exact ⟨fun hx => ⟨((h.mem x).1 hx).1.1, hx⟩, fun hx => hx.2⟩
  rw [hp.length_eq]
  exact List.length_filter_le _ _
theorem eql_notary (W : World) (p q b d : Nat) (hpq : p ≠ q) (hp : W.heap[p]? = some (.cells #[.map (some b)] 53 (0, 0))) (hq : W.heap[q]? = some (.cells #[.map (some d)] 53 (0, 0))) :
    (binOp .eql 29 (.pointer (some ⟨q, 0, none⟩)) (.pointer (some ⟨p, 0, none⟩))).run Try.prog W = .ok (.bool false) W := by
  obtain ⟨j, hj, hs⟩ := Option.map_eq_some_iff.1 infoNotary
  exact run_eql_ptr_other W Try.underlying29 hj (by omega) (fun e => hpq (by injection e with e; exact e.symm)) hq hp

set_option maxHeartbeats 400000 in
theorem merge_nil (w : World) (q : Value) : Calls Try.prog 21 #[q, .pointer none] w fun e w' => e = .returned (.bool false) ∧ w = w' := by
  go_enter Try.func21, Try.ntmps21
  go_wp2
  go_ret
  exact ⟨rfl, rfl⟩
end Go.Proofs.Ytlbenmndmoeioaa
