/- What a list of lists keeps while atoms are put. -/
import Derived.Test.YtehjkgfdfihfmaaDoorSCases2
namespace Go.Proofs.YtehjkgfdfihfmaaDoor
open Go.RowKit Go.Maps Go.Lib
set_option linter.unusedVariables false

/-- a list of lists is what it was, if blocks of numbers and of lists are -/
theorem LL.keepT {w w' : World} {base : Nat} {v : Value} {ls : List (List Nat)} {vs : List Value} (h : LL w base v ls vs) (hk : ∀ (q : Nat) (cur : Array Value) (t : TypeId), base ≤ q → w.heap[q]? = some (.cells cur t (0, 0)) → t ≠ 24 → w'.heap[q]? = w.heap[q]?) : LL w' base v ls vs := by
  refine ⟨⟨h.row.1, ?_⟩, h.len, fun i u l hu hl => (h.each i u l hu hl).keep fun q hq => ?_, h.apart⟩
  · rcases h.row.2 with h0 | ⟨g, cap, cur, h1, h2, h3, h4⟩
    · exact .inl h0
    · exact .inr ⟨g, cap, cur, h1, h2, (hk g cur _ h2 h3 (by decide)).trans h3, h4⟩
  · obtain ⟨h1, _, cur, h2⟩ := (h.each i u l hu hl).lt hq
    exact hk q cur _ h1 h2 (by decide)
/-- over what puts atoms -/
theorem LL.gr {w w' : World} {base B pb : Nat} {u v v' : Value} {ls : List (List Nat)} {us : List Value} {L : List Rl} {cs : List Value} (h : LL w B u ls us) (hA : At w base pb v L cs) (hpb : pb < B) (hG : Gr pb v v' w w') : LL w' B u ls us := by
  refine h.keepT fun q cur t hq hc ht => hG.block q (Array.getElem?_eq_some_iff.1 hc).1 (by omega) ?_
  intro e
  rcases hA.row.2 with ⟨h1, _⟩ | ⟨g, cap, cur2, h1, h2, h3, _⟩
  · rw [h1] at e; simp [Value.ownBlock] at e
  · rw [h1] at e
    simp [Value.ownBlock] at e
    subst e
    rw [h3] at hc
    simp at hc
    exact ht hc.2.symm
/-- the atoms are what they were, over what turns lists alone -/
theorem At.kn {w w' : World} {base pb B : Nat} {v : Value} {L : List Rl} {cs : List Value} (h : At w base pb v L cs) (hpb : pb < B) (hb : Below B w w') (hk : KN w w') : At w' base pb v L cs := by
  refine h.below fun q hq => ?_
  rcases hq with rfl | hq
  · exact hb.block q hpb
  · rcases h.row.2 with ⟨h1, _⟩ | ⟨g, cap, cur2, h1, h2, h3, _⟩
    · rw [h1] at hq; simp [Value.ownBlock] at hq
    · rw [h1] at hq
      simp [Value.ownBlock] at hq
      subst hq
      exact hk g cur2 h3
/-- the rules are what they were -/
theorem NL.gr {w w' : World} {base B pb : Nat} {v v' : Value} {L : List Rl} {cs : List Value} {A : Option Addr} {l : List Rl} (h : NL w B A l) (hA : At w base pb v L cs) (hB : B ≤ pb) (hpb : pb < base) (hb : base ≤ w.heap.size) (hG : Gr pb v v' w w') : NL w' B A l :=
  h.kept ⟨hG.os, hG.tape, hG.output, hG.size, fun q hq => hG.block q (by omega) (by omega) (fun e => by have := (hA.row.lt q e).1; omega)⟩
end Go.Proofs.YtehjkgfdfihfmaaDoor
