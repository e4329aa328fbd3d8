/- Own slices of rules: how they lie, and what append makes of them. -/
import Derived.Test.YtehjkgfdfihfmaaDoorSOrdP
import Derived.Maps.AppendAt
namespace Go.Proofs.YtehjkgfdfihfmaaDoor
open Go.RowKit Go.Maps Go.Lib
set_option linter.unusedVariables false
set_option maxRecDepth 100000

/-- v is a slice of its own, in a block from base on, of the rules L -/
structure Ar (w : World) (base : Nat) (v : Value) (L : List Rl) (cs : List Value) : Prop where
  row : w.ownsRow base 24 6 v L.length cs
  each : ∀ (i : Nat) (x : Rl), L[i]? = some x → cs[6 * i]? = some (.int .i64 x.k) ∧ cs[6 * i + 1]? = some (.int .i64 x.p) ∧ cs[6 * i + 2]? = some (.string x.f) ∧ cs[6 * i + 3]? = some (.string x.t) ∧ cs[6 * i + 4]? = some (.int .i64 x.n) ∧ ∃ A c, cs[6 * i + 5]? = some (.slice A x.l.length c)
/-- the cells of a rule -/
def six (x : Rl) (A : Option Addr) (c : Nat) : List Value := [.int .i64 x.k, .int .i64 x.p, .string x.f, .string x.t, .int .i64 x.n, .slice A x.l.length c]
theorem six_one (x : Rl) (A : Option Addr) (c : Nat) : ∀ u ∈ six x A c, u.oneCell' = true := by
  intro u hu
  simp only [six, List.mem_cons, List.not_mem_nil, or_false] at hu
  rcases hu with rfl | rfl | rfl | rfl | rfl | rfl <;> rfl
section
variable {w w' : World} {base : Nat} {v : Value} {L : List Rl} {cs : List Value}
theorem Ar.lt (h : Ar w base v L cs) {q : Nat} (hq : v.ownBlock = some q) : base ≤ q ∧ q < w.heap.size := by
  rcases h.row.2 with ⟨h1, _⟩ | ⟨g, cap, cur, h1, h2, h3, _⟩
  · rw [h1] at hq; simp [Value.ownBlock] at hq
  · rw [h1] at hq
    simp [Value.ownBlock] at hq
    subst hq
    exact ⟨h2, (Array.getElem?_eq_some_iff.1 h3).1⟩
theorem Ar.keep (h : Ar w base v L cs) (hk : ∀ q, v.ownBlock = some q → w'.heap[q]? = w.heap[q]?) : Ar w' base v L cs := by
  refine ⟨⟨h.row.1, ?_⟩, h.each⟩
  rcases h.row.2 with h0 | ⟨g, cap, cur, h1, h2, h3, h4⟩
  · exact .inl h0
  · exact .inr ⟨g, cap, cur, h1, h2, (hk g (by rw [h1]; simp [Value.ownBlock])).trans h3, h4⟩
theorem Ar.below (h : Ar w base v L cs) (hb : Below w.heap.size w w') : Ar w' base v L cs := h.keep fun q hq => hb.block q (h.lt hq).2
theorem Ar.base_le (h : Ar w base v L cs) {base' : Nat} (hb : base' ≤ base) : Ar w base' v L cs := by
  refine ⟨⟨h.row.1, ?_⟩, h.each⟩
  rcases h.row.2 with h0 | ⟨g, cap, cur, h1, h2, h3, h4⟩
  · exact .inl h0
  · exact .inr ⟨g, cap, cur, h1, by omega, h3, h4⟩
theorem Ar.form (h : Ar w base v L cs) : ∃ A c, v = .slice A L.length c := by
  rcases h.row.2 with ⟨h1, h2⟩ | ⟨g, cap, cur, h1, _⟩
  · exact ⟨none, 0, by rw [h1, h2]⟩
  · exact ⟨_, _, h1⟩
theorem Ar.one (h : Ar w base v L cs) : ∀ u ∈ cs, u.oneCell' = true := by
  intro u hu
  obtain ⟨j, hj, rfl⟩ := List.getElem_of_mem hu
  have hl := h.row.1
  have hi : j / 6 < L.length := by omega
  obtain ⟨e0, e1, e2, e3, e4, A, c, e5⟩ := h.each (j / 6) _ (List.getElem?_eq_getElem hi)
  have hr : j % 6 = 0 ∨ j % 6 = 1 ∨ j % 6 = 2 ∨ j % 6 = 3 ∨ j % 6 = 4 ∨ j % 6 = 5 := by omega
  have key : ∀ r u, j % 6 = r → cs[6 * (j / 6) + r]? = some u → cs[j] = u := fun r u hr hu => by
    have : cs[j]? = some u := by rw [← hu]; congr 1; omega
    rw [List.getElem?_eq_getElem hj] at this
    exact Option.some.inj this
  rcases hr with hr | hr | hr | hr | hr | hr
  · rw [key 0 _ hr e0]; rfl
  · rw [key 1 _ hr e1]; rfl
  · rw [key 2 _ hr e2]; rfl
  · rw [key 3 _ hr e3]; rfl
  · rw [key 4 _ hr e4]; rfl
  · rw [key 5 _ hr e5]; rfl
end
theorem each_app {L M : List Rl} {cs ds : List Value}
    (h : ∀ (i : Nat) (x : Rl), L[i]? = some x → cs[6 * i]? = some (.int .i64 x.k) ∧ cs[6 * i + 1]? = some (.int .i64 x.p) ∧ cs[6 * i + 2]? = some (.string x.f) ∧ cs[6 * i + 3]? = some (.string x.t) ∧ cs[6 * i + 4]? = some (.int .i64 x.n) ∧ ∃ A c, cs[6 * i + 5]? = some (.slice A x.l.length c))
    (k : ∀ (i : Nat) (x : Rl), M[i]? = some x → ds[6 * i]? = some (.int .i64 x.k) ∧ ds[6 * i + 1]? = some (.int .i64 x.p) ∧ ds[6 * i + 2]? = some (.string x.f) ∧ ds[6 * i + 3]? = some (.string x.t) ∧ ds[6 * i + 4]? = some (.int .i64 x.n) ∧ ∃ A c, ds[6 * i + 5]? = some (.slice A x.l.length c))
    (hl : cs.length = L.length * 6) :
    ∀ (i : Nat) (x : Rl), (L ++ M)[i]? = some x → (cs ++ ds)[6 * i]? = some (.int .i64 x.k) ∧ (cs ++ ds)[6 * i + 1]? = some (.int .i64 x.p) ∧ (cs ++ ds)[6 * i + 2]? = some (.string x.f) ∧ (cs ++ ds)[6 * i + 3]? = some (.string x.t) ∧ (cs ++ ds)[6 * i + 4]? = some (.int .i64 x.n) ∧ ∃ A c, (cs ++ ds)[6 * i + 5]? = some (.slice A x.l.length c) := by
  intro i y hy
  rcases Nat.lt_or_ge i L.length with hi | hi
  · rw [List.getElem?_append_left hi] at hy
    obtain ⟨h1, h5, h2, h3, h4, A, c, h6⟩ := h i y hy
    refine ⟨?_, ?_, ?_, ?_, ?_, A, c, ?_⟩ <;> rw [List.getElem?_append_left (by omega)] <;> assumption
  · rw [List.getElem?_append_right hi] at hy
    obtain ⟨h1, h5, h2, h3, h4, A, c, h6⟩ := k _ y hy
    refine ⟨?_, ?_, ?_, ?_, ?_, A, c, ?_⟩ <;> rw [List.getElem?_append_right (by omega)]
    · rw [show 6 * i - cs.length = 6 * (i - L.length) by omega]; exact h1
    · rw [show 6 * i + 1 - cs.length = 6 * (i - L.length) + 1 by omega]; exact h5
    · rw [show 6 * i + 2 - cs.length = 6 * (i - L.length) + 2 by omega]; exact h2
    · rw [show 6 * i + 3 - cs.length = 6 * (i - L.length) + 3 by omega]; exact h3
    · rw [show 6 * i + 4 - cs.length = 6 * (i - L.length) + 4 by omega]; exact h4
    · rw [show 6 * i + 5 - cs.length = 6 * (i - L.length) + 5 by omega]; exact h6
theorem each_six (x : Rl) (A : Option Addr) (c : Nat) : ∀ (i : Nat) (y : Rl), [x][i]? = some y → (six x A c)[6 * i]? = some (.int .i64 y.k) ∧ (six x A c)[6 * i + 1]? = some (.int .i64 y.p) ∧ (six x A c)[6 * i + 2]? = some (.string y.f) ∧ (six x A c)[6 * i + 3]? = some (.string y.t) ∧ (six x A c)[6 * i + 4]? = some (.int .i64 y.n) ∧ ∃ A' c', (six x A c)[6 * i + 5]? = some (.slice A' y.l.length c') := by
  intro i y hy
  match i, hy with
  | 0, hy => cases hy; exact ⟨rfl, rfl, rfl, rfl, rfl, A, c, rfl⟩
  | i + 1, hy => simp at hy
theorem info_node2 : (Tryd.prog.info? 24).map (fun i => (i.zero, i.size, i.bytes)) = some (some (.agg z6.toArray), 6, 80) := info_node
/-- append of a row of rules to an own one -/
theorem app_nodes {w : World} {base bx : Nat} (ty : TypeId) {v x : Value} {L M : List Rl} {cs ds : List Value} (hv : Ar w base v L cs) (hx : Ar w bx x M ds) (h63 : L.length + M.length ≤ 1000000) (hbase : base ≤ w.heap.size) :
    ∃ v' w', (Builtin.append_ #[22, 22] ty #[v, x]).run Tryd.prog w = .ok v' w' ∧ Ar w' base v' (L ++ M) (cs ++ ds) ∧ w.grownBy w' v.ownBlock ∧ (v'.ownBlock = v.ownBlock ∨ v'.ownBlock = some w.heap.size) := by
  obtain ⟨i0, hi0, hz0, hz1, hz2⟩ := info_parts info_node2
  have hea := each_app hv.each hx.each hv.row.1
  rcases hx.row.2 with ⟨rfl, h0⟩ | ⟨g, cap, cur, rfl, _, hg, _, _, _, htake⟩
  · have e1 : ds = [] := List.length_eq_zero_iff.1 (by rw [hx.row.1, h0])
    have e2 : M = [] := List.length_eq_zero_iff.1 h0
    subst e1 e2
    refine ⟨v, w, run_append_owned_none w base 22 ty 24 i0 6 Tryd.underlying22 hi0 v _ cs hv.row, by simpa using hv, World.grownBy_refl' w v, .inl rfl⟩
  · obtain ⟨v', w', hr, h2, h3, _, h5⟩ := run_append_own_at (P := Tryd.prog) (w := w) base 22 ty 24 i0 (.agg z6.toArray) 6 80 Tryd.underlying22 hi0 hz0 hz1 hz2 rfl (by omega) v L.length cs hv.row ⟨g, 0, none⟩ M.length cap ds hx.row.1 (fun j u hu => by
      have hj : j < M.length * 6 := by rw [← hx.row.1]; exact (List.getElem?_eq_some_iff.1 hu).1
      rw [show (⟨g, 0, none⟩ : Addr).add j = ⟨g, j, none⟩ from by unfold Addr.add; split <;> simp_all]
      rw [hx.row.cellAt j hj]
      exact hu) hx.one (by unfold maxLen; omega) (by omega) hbase
    exact ⟨v', w', hr, ⟨by rw [List.length_append]; exact h2, hea⟩, h3, h5⟩
/-- a slice of one rule, just built -/
theorem one_node (W : World) (x : Rl) (A : Option Addr) (c : Nat) : Ar (W.alloc (.cells #[.int .i64 x.k, .int .i64 x.p, .string x.f, .string x.t, .int .i64 x.n, .slice A x.l.length c] 24)) W.heap.size (.slice (some ⟨W.heap.size, 0, none⟩) 1 1) [x] (six x A c) :=
  ⟨⟨rfl, .inr ⟨W.heap.size, 1, _, rfl, Nat.le_refl _, heap_alloc_new _ _, Nat.le_refl _, by unfold maxLen; omega, rfl, rfl⟩⟩, each_six x A c⟩
/-- the empty slice, just built -/
theorem no_node (W : World) : Ar (W.alloc (.cells #[] 24)) W.heap.size (.slice (some ⟨W.heap.size, 0, none⟩) 0 0) [] [] :=
  ⟨⟨rfl, .inr ⟨W.heap.size, 0, _, rfl, Nat.le_refl _, heap_alloc_new _ _, Nat.le_refl _, by unfold maxLen; omega, rfl, rfl⟩⟩, fun i x h => by simp at h⟩
end Go.Proofs.YtehjkgfdfihfmaaDoor
