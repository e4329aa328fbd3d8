/- The law's turned rule. -/
import Derived.Test.YtehjkgfdfihfmaaDoorSAtoms
namespace Go.Proofs.YtehjkgfdfihfmaaDoor
open Go.RowKit Go.Maps Go.Lib
set_option linter.unusedVariables false
set_option maxRecDepth 100000

/-- the slice's elements are the rules l, all of it in blocks of S -/
inductive NS (w : World) (S : Nat → Prop) : Option Addr → List Rl → Prop
  | mk (A : Option Addr) (l : List Rl) (ad : Nat → Option Addr) (cp : Nat → Nat) (hA : 0 < l.length → ∃ g off, A = some ⟨g, off, none⟩ ∧ S g ∧ ∀ i x, l[i]? = some x → C6 w g (off + i * 6) x (ad i) (cp i))
      (hk : ∀ i x, l[i]? = some x → NS w S (ad i) x.l) : NS w S A l
section
variable {w w' : World} {S S' : Nat → Prop} {A : Option Addr} {l : List Rl}
theorem cell_blk {w w' : World} {p : Addr} (h : w'.heap[p.block]? = w.heap[p.block]?) : w'.cell? p = w.cell? p := by
  simp only [World.cell?, h]
theorem NS.keep (h : NS w S A l) (hS : ∀ q, S q → S' q) (hk : ∀ q, S q → w'.heap[q]? = w.heap[q]?) : NS w' S' A l := by
  induction h with
  | mk A l ad cp hA hkk ih =>
    refine ⟨A, l, ad, cp, fun h0 => ?_, ih⟩
    obtain ⟨g, off, e, hg, hc⟩ := hA h0
    exact ⟨g, off, e, hS g hg, fun i x hx => (hc i x hx).keep fun p hp => World.cell?_of_block (by rw [hp]; exact hk g hg)⟩
theorem NS.nl (h : NS w S A l) {B : Nat} (hS : ∀ q, S q → q < B) : NL w B A l := by
  induction h with
  | mk A l ad cp hA hkk ih =>
    refine ⟨A, l, ad, cp, fun h0 => ?_, ih⟩
    obtain ⟨g, off, e, hg, hc⟩ := hA h0
    exact ⟨g, off, e, hS g hg, hc⟩
end
/-- an own slice of rules, their rules in blocks of their own -/
structure Tr (w : World) (base : Nat) (v : Value) (L : List Rl) (cs : List Value) : Prop where
  ar : Ar w base v L cs
  kids : ∀ (i : Nat) (y : Rl), L[i]? = some y → ∃ A c, cs[6 * i + 5]? = some (.slice A y.l.length c) ∧ NS w (fun q => base ≤ q ∧ q < w.heap.size ∧ v.ownBlock ≠ some q) A y.l
/-- one more -/
theorem Tr.push {w w3 : World} {base : Nat} {v : Value} {L : List Rl} {cs : List Value} {y : Rl} {A : Option Addr} {c : Nat} (h : Tr w base v L cs) (hb : Below w.heap.size w w3) (hy : NS w3 (fun q => w.heap.size ≤ q ∧ q < w3.heap.size) A y.l) (hbase : base ≤ w.heap.size) (hL : L.length ≤ 100000) (ty : TypeId) :
    ∃ v' w4, (Builtin.append_ #[22, 22] ty #[v, .slice (some ⟨w3.heap.size, 0, none⟩) 1 1]).run Tryd.prog (w3.alloc (.cells #[.int .i64 y.k, .int .i64 y.p, .string y.f, .string y.t, .int .i64 y.n, .slice A y.l.length c] 24)) = .ok v' w4 ∧ Tr w4 base v' (L ++ [y]) (cs ++ six y A c) ∧ Below base w w4 := by
  have hz := hb.size
  have hb' := hb.alloc hz (.cells #[.int .i64 y.k, .int .i64 y.p, .string y.f, .string y.t, .int .i64 y.n, .slice A y.l.length c] 24)
  have hsW : (w3.alloc (.cells #[.int .i64 y.k, .int .i64 y.p, .string y.f, .string y.t, .int .i64 y.n, .slice A y.l.length c] 24)).heap.size = w3.heap.size + 1 := by simp
  obtain ⟨v', w4, h1, h2, h3, h4⟩ := app_nodes ty (h.ar.below hb') (one_node w3 y A c) (by simp; omega) (by omega)
  have hg4 := h3.size
  refine ⟨v', w4, h1, ⟨h2, fun i z hi => ?_⟩, (hb'.mono hbase).grown h3 (by omega) (fun j hj => (h.ar.lt hj).1)⟩
  have hlow : ∀ q, q < w3.heap.size + 1 → v.ownBlock ≠ some q → v'.ownBlock ≠ some q := fun q hq hv => by
    rcases h4 with e | e
    · rw [e]; exact hv
    · rw [e]; intro e; injection e; omega
  rcases Nat.lt_or_ge i L.length with hlt | hge
  · rw [List.getElem?_append_left hlt] at hi
    obtain ⟨A', c', e, hn⟩ := h.kids i z hi
    refine ⟨A', c', by rw [List.getElem?_append_left (by rw [h.ar.row.1]; omega)]; exact e, hn.keep (fun q ⟨q1, q2, q3⟩ => ⟨q1, by omega, hlow q (by omega) q3⟩) fun q ⟨q1, q2, q3⟩ => ?_⟩
    rw [h3.block q (by omega) (fun e => q3 e.symm)]
    exact hb'.block q q2
  · rw [List.getElem?_append_right hge] at hi
    have h0 : i - L.length = 0 := by
      have := (List.getElem?_eq_some_iff.1 hi).1
      simp at this
      omega
    rw [h0] at hi
    cases hi
    refine ⟨A, c, ?_, hy.keep (fun q ⟨q1, q2⟩ => ⟨by omega, by omega, ?_⟩) fun q ⟨q1, q2⟩ => ?_⟩
    · rw [List.getElem?_append_right (by rw [h.ar.row.1]; omega), h.ar.row.1, show 6 * i + 5 - L.length * 6 = 5 by omega]
      rfl
    · exact hlow q (by omega) (fun e => by have := (h.ar.lt e).2; omega)
    · rw [h3.block q (by omega) (fun e => by have := (h.ar.lt e.symm).2; omega)]
      exact heap_alloc_old _ _ q2
theorem Tr.begun (W : World) : Tr (W.alloc (.cells #[] 24)) W.heap.size (.slice (some ⟨W.heap.size, 0, none⟩) 0 0) [] [] := ⟨no_node W, fun i y h => by simp at h⟩
/-- the row's rules lie as rules do -/
theorem Tr.ns {w w' : World} {base B : Nat} {A : Option Addr} {c : Nat} {L : List Rl} {cs : List Value} (h : Tr w base (.slice A L.length c) L cs) (hB : B ≤ base) (hz : w.heap.size ≤ w'.heap.size) (hk : ∀ q, base ≤ q → q < w.heap.size → w'.heap[q]? = w.heap[q]?) : NS w' (fun q => B ≤ q ∧ q < w'.heap.size) A L := by
  have hx : ∀ i y, L[i]? = some y → ∃ x : Option Addr × Nat, cs[6 * i + 5]? = some (.slice x.1 y.l.length x.2) ∧ NS w' (fun q => B ≤ q ∧ q < w'.heap.size) x.1 y.l := fun i y hi => by
    obtain ⟨A', c', e, hn⟩ := h.kids i y hi
    exact ⟨⟨A', c'⟩, e, hn.keep (fun q ⟨q1, q2, _⟩ => ⟨by omega, by omega⟩) fun q ⟨q1, q2, _⟩ => hk q q1 q2⟩
  refine ⟨A, L, fun i => if hi : i < L.length then (Classical.choose (hx i L[i] (List.getElem?_eq_getElem hi))).1 else none, fun i => if hi : i < L.length then (Classical.choose (hx i L[i] (List.getElem?_eq_getElem hi))).2 else 0, fun h0 => ?_, fun i y hi => ?_⟩
  · rcases h.ar.row.2 with ⟨e, _⟩ | ⟨g, cap, cur, e, hg, hblk, _⟩
    · injection e with e1 e2
      omega
    · injection e with e1 e2 e3
      subst e1
      have hgl : g < w.heap.size := (Array.getElem?_eq_some_iff.1 hblk).1
      refine ⟨g, 0, rfl, ⟨by omega, by omega⟩, fun i y hi => ?_⟩
      have hil := (List.getElem?_eq_some_iff.1 hi).1
      have hy : L[i] = y := (List.getElem?_eq_some_iff.1 hi).2
      have hc := Classical.choose_spec (hx i L[i] (List.getElem?_eq_getElem hil))
      obtain ⟨e0, e1, e2, e3, e4, _⟩ := h.ar.each i y hi
      have key : ∀ j, j < 6 → w'.cell? ⟨g, 0 + i * 6 + j, none⟩ = cs[6 * i + j]? := fun j hj => by
        have e : w'.cell? ⟨g, 0 + i * 6 + j, none⟩ = w.cell? ⟨g, 0 + i * 6 + j, none⟩ := World.cell?_of_block (hk g hg hgl)
        rw [e, show 0 + i * 6 + j = 6 * i + j by omega]
        exact h.ar.row.cellAt (6 * i + j) (by omega)
      simp only [hil, dif_pos]
      refine ⟨(key 0 (by omega)).trans e0, (key 1 (by omega)).trans e1, (key 2 (by omega)).trans e2, (key 3 (by omega)).trans e3, (key 4 (by omega)).trans e4, (key 5 (by omega)).trans ?_⟩
      rw [← hy]
      exact hc.1
  · have hil := (List.getElem?_eq_some_iff.1 hi).1
    have hy : L[i] = y := (List.getElem?_eq_some_iff.1 hi).2
    simp only [hil, dif_pos]
    rw [← hy]
    exact (Classical.choose_spec (hx i L[i] (List.getElem?_eq_getElem hil))).2
end Go.Proofs.YtehjkgfdfihfmaaDoor
