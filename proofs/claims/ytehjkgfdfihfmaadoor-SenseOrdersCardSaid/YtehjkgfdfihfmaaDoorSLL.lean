/- Slices of slices of numbers, each in a block of its own. -/
import Derived.Test.YtehjkgfdfihfmaaDoorSConcat
namespace Go.Proofs.YtehjkgfdfihfmaaDoor
open Go.RowKit Go.Maps Go.Lib
set_option linter.unusedVariables false
set_option maxRecDepth 100000

theorem info_ints : (Tryd.prog.info? 43).map (fun i => (i.zero, i.size, i.bytes)) = some (some (.slice none 0 0), 1, 24) := by kernel_rfl
/-- v's elements are the slices vs, of the numbers ls, each in a block of its own, all from base on -/
structure LL (w : World) (base : Nat) (v : Value) (ls : List (List Nat)) (vs : List Value) : Prop where
  row : w.ownsRow base 43 1 v ls.length vs
  len : vs.length = ls.length
  each : ∀ (i : Nat) (u : Value) (l : List Nat), vs[i]? = some u → ls[i]? = some l → Ri w base u l
  apart : ∀ (i j : Nat) (u u' : Value), vs[i]? = some u → vs[j]? = some u' → i ≠ j → u.ownBlock = none ∨ u.ownBlock ≠ u'.ownBlock
theorem Ri.lt {w : World} {base : Nat} {v : Value} {l : List Nat} (h : Ri w base v l) {q : Nat} (hq : v.ownBlock = some q) : base ≤ q ∧ q < w.heap.size ∧ ∃ cur, w.heap[q]? = some (.cells cur 3 (0, 0)) := by
  rcases h.2 with ⟨h1, _⟩ | ⟨g, cap, cur, h1, h2, h3, _⟩
  · rw [h1] at hq; simp [Value.ownBlock] at hq
  · rw [h1] at hq
    simp [Value.ownBlock] at hq
    subst hq
    exact ⟨h2, (Array.getElem?_eq_some_iff.1 h3).1, cur, h3⟩
theorem Ri.keep {w w' : World} {base : Nat} {v : Value} {l : List Nat} (h : Ri w base v l) (hk : ∀ q, v.ownBlock = some q → w'.heap[q]? = w.heap[q]?) : Ri w' base v l := by
  refine ⟨h.1, ?_⟩
  rcases h.2 with h0 | ⟨g, cap, cur, h1, h2, h3, h4⟩
  · exact .inl h0
  · exact .inr ⟨g, cap, cur, h1, h2, (hk g (by rw [h1]; simp [Value.ownBlock])).trans h3, h4⟩
theorem Ri.base {w : World} {base base' : Nat} {v : Value} {l : List Nat} (h : Ri w base v l) (hb : base' ≤ base) : Ri w base' v l := by
  refine ⟨h.1, ?_⟩
  rcases h.2 with h0 | ⟨g, cap, cur, h1, h2, h3, h4⟩
  · exact .inl h0
  · exact .inr ⟨g, cap, cur, h1, by omega, h3, h4⟩
section
variable {w w' : World} {base : Nat} {v : Value} {ls : List (List Nat)} {vs : List Value}
theorem LL.rowlt (h : LL w base v ls vs) {q : Nat} (hq : v.ownBlock = some q) : base ≤ q ∧ q < w.heap.size ∧ ∃ cur, w.heap[q]? = some (.cells cur 43 (0, 0)) := by
  rcases h.row.2 with ⟨h1, _⟩ | ⟨g, cap, cur, h1, h2, h3, _⟩
  · rw [h1] at hq; simp [Value.ownBlock] at hq
  · rw [h1] at hq
    simp [Value.ownBlock] at hq
    subst hq
    exact ⟨h2, (Array.getElem?_eq_some_iff.1 h3).1, cur, h3⟩
/-- the row's block is no element's -/
theorem LL.row_ne (h : LL w base v ls vs) {i : Nat} {u : Value} (hu : vs[i]? = some u) {q : Nat} (hq : u.ownBlock = some q) : v.ownBlock ≠ some q := by
  intro e
  obtain ⟨_, _, c1, e1⟩ := h.rowlt e
  have hi : i < ls.length := by rw [← h.len]; exact (List.getElem?_eq_some_iff.1 hu).1
  obtain ⟨_, _, c2, e2⟩ := (h.each i u _ hu (List.getElem?_eq_getElem hi)).lt hq
  rw [e1] at e2
  simp at e2
theorem LL.keep (h : LL w base v ls vs) (hk : ∀ q, base ≤ q → q < w.heap.size → w'.heap[q]? = w.heap[q]?) : LL w' base v ls vs := by
  refine ⟨⟨h.row.1, ?_⟩, h.len, fun i u l hu hl => (h.each i u l hu hl).keep fun q hq => ?_, h.apart⟩
  · rcases h.row.2 with h0 | ⟨g, cap, cur, h1, h2, h3, h4⟩
    · exact .inl h0
    · exact .inr ⟨g, cap, cur, h1, h2, (hk g h2 (Array.getElem?_eq_some_iff.1 h3).1).trans h3, h4⟩
  · have := (h.each i u l hu hl).lt hq
    exact hk q this.1 this.2.1
theorem LL.below (h : LL w base v ls vs) (hb : Below w.heap.size w w') : LL w' base v ls vs := h.keep fun q _ hq => hb.block q hq
theorem LL.form (h : LL w base v ls vs) : ∃ A c, v = .slice A ls.length c := by
  rcases h.row.2 with ⟨h1, h2⟩ | ⟨g, cap, cur, h1, _⟩
  · exact ⟨none, 0, by rw [h1, h2]⟩
  · exact ⟨_, _, h1⟩
theorem LL.at_ (h : LL w base v ls vs) {i : Nat} (hi : i < ls.length) : ∃ g cap A c, v = .slice (some ⟨g, 0, none⟩) ls.length cap ∧ base ≤ g ∧ g < w.heap.size ∧ vs[i]? = some (.slice A ls[i].length c) ∧ w.cell? ⟨g, i, none⟩ = some (.slice A ls[i].length c) ∧ Ri w base (.slice A ls[i].length c) ls[i] := by
  have hiv : i < vs.length := by rw [h.len]; exact hi
  have hR := h.each i vs[i] ls[i] (List.getElem?_eq_getElem hiv) (List.getElem?_eq_getElem hi)
  obtain ⟨A, c, e⟩ := hR.form
  rcases h.row.2 with ⟨_, h2⟩ | ⟨g, cap, cur, h1, h2, h3, _⟩
  · omega
  · refine ⟨g, cap, A, c, h1, h2, (Array.getElem?_eq_some_iff.1 h3).1, by rw [← e]; exact List.getElem?_eq_getElem hiv, ?_, by rw [← e]; exact hR⟩
    have hrow := h.row
    rw [h1] at hrow
    rw [hrow.cellAt i (by omega), ← e]
    exact List.getElem?_eq_getElem hiv
theorem LL.nil (w : World) (base : Nat) : LL w base (.slice none 0 0) [] [] := ⟨World.ownsRow_nil _ _ _ _, rfl, by simp, by simp⟩
/-- the element i is another one now -/
theorem LL.set (h : LL w base v ls vs) {i : Nat} (hi : i < ls.length) {g cap : Nat} (hv : v = .slice (some ⟨g, 0, none⟩) ls.length cap) {w1 : World} {u u' : Value} {l' : List Nat} (hu : vs[i]? = some u)
    (hg : w.grownBy w1 u.ownBlock) (hR : Ri w1 base u' l') (hloc : u'.ownBlock = u.ownBlock ∨ u'.ownBlock = some w.heap.size) :
    LL (w1.setCell ⟨g, i, none⟩ u') base v (ls.set i l') (vs.set i u') := by
  have hiv : i < vs.length := by rw [h.len]; exact hi
  have hgo : v.ownBlock = some g := by rw [hv]; simp [Value.ownBlock]
  obtain ⟨hgb, hgl, cur, hgc⟩ := h.rowlt hgo
  have hgu : some g ≠ u.ownBlock := fun e => h.row_ne hu e.symm hgo
  have hg1 : w1.heap[g]? = some (.cells cur 43 (0, 0)) := (hg.block g hgl hgu).trans hgc
  have hother : ∀ q, q ≠ g → (w1.setCell ⟨g, i, none⟩ u').heap[q]? = w1.heap[q]? := fun q hq => Below.heap_setCell _ _ _ q hq
  refine ⟨?_, by simp [h.len], ?_, ?_⟩
  · have hrow := h.row
    rcases hrow.2 with ⟨h1, _⟩ | ⟨g', cap', cur', h1, h2, h3, h4, h5, h6, h7⟩
    · rw [h1] at hv; cases hv
    · rw [h1] at hv
      injection hv with hv1 _ hv3
      injection hv1 with hv1
      injection hv1 with hv1
      subst hv1 hv3
      rw [h3] at hgc
      injection hgc with hgc
      injection hgc with hgc
      subst hgc
      refine ⟨by simp [hrow.1], .inr ⟨g', cap', cur'.setIfInBounds i u', by simp [h1], h2, ?_, by simpa using h4, h5, by simpa using h6, ?_⟩⟩
      · obtain ⟨hlt, hk⟩ := Array.getElem?_eq_some_iff.1 hg1
        show (w1.heap.modify g' _)[g']? = _
        rw [Array.getElem?_eq_getElem (by rw [Array.size_modify]; exact hlt), Array.getElem_modify_self, hk]
        rfl
      · simp only [List.length_set, Array.toList_setIfInBounds]
        rw [List.take_set, h7]
  · intro j x l hx hl
    rw [List.getElem?_set] at hx hl
    by_cases e : i = j
    · subst e
      rw [if_pos rfl, if_pos hiv] at hx
      rw [if_pos rfl, if_pos hi] at hl
      cases hx
      cases hl
      refine hR.keep fun q hq => hother q ?_
      rintro rfl
      rcases hloc with e | e
      · rw [hq] at e; exact hgu e
      · rw [hq] at e; injection e with e; omega
    · rw [if_neg e] at hx hl
      have hRj := h.each j x l hx hl
      refine hRj.keep fun q hq => ?_
      have hq2 := hRj.lt hq
      have hqg : q ≠ g := by rintro rfl; exact h.row_ne hx hq hgo
      rw [hother q hqg]
      refine hg.block q hq2.2.1 ?_
      intro e2
      rcases h.apart i j u x hu hx e with e3 | e3
      · rw [e3] at e2; cases e2
      · exact e3 (by rw [← e2, hq])
  · intro a b x y hx hy hab
    rw [List.getElem?_set] at hx hy
    by_cases ea : i = a
    · subst ea
      rw [if_pos rfl, if_pos hiv] at hx
      cases hx
      rw [if_neg (fun e => hab e)] at hy
      rcases hloc with e | e
      · rw [e]; exact h.apart i b u y hu hy hab
      · refine .inr fun e2 => ?_
        have hb : b < ls.length := by rw [← h.len]; exact (List.getElem?_eq_some_iff.1 hy).1
        have := ((h.each b y _ hy (List.getElem?_eq_getElem hb)).lt (e2.symm.trans e)).2.1
        omega
    · rw [if_neg ea] at hx
      by_cases eb : i = b
      · subst eb
        rw [if_pos rfl, if_pos hiv] at hy
        cases hy
        rcases hloc with e | e
        · rw [e]; exact h.apart a i x u hx hu hab
        · cases hxo : x.ownBlock with
          | none => exact .inl rfl
          | some q =>
            refine .inr fun e2 => ?_
            have ha : a < ls.length := by rw [← h.len]; exact (List.getElem?_eq_some_iff.1 hx).1
            have := ((h.each a x _ hx (List.getElem?_eq_getElem ha)).lt hxo).2.1
            rw [e] at e2
            injection e2 with e2
            omega
      · rw [if_neg eb] at hy
        exact h.apart a b x y hx hy hab
end
end Go.Proofs.YtehjkgfdfihfmaaDoor
