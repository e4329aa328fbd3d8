/- SealRows: plain laws, and a slice of notaries. -/
import Derived.Test.YtlbenmndmoeioaaMerges
namespace Go.Proofs.Ytlbenmndmoeioaa
open Go.RowKit Go.Maps
set_option linter.unusedVariables false

theorem infoPtr : (Try.prog.info? 29).map (fun i => (i.zero, i.size, i.bytes)) = some (some (.pointer none), 1, 8) := by kernel_rfl
theorem Ny.keepOwn {w w' : World} {p b base : Nat} {L : List Nt} {g n c : Nat} {xs : List Value} (h : Ny w p b L) (ho : w.ownsRow base 29 1 (.slice (some ⟨g, 0, none⟩) n c) n xs) (hg : w.grownBy w' (some g)) : Ny w' p b L := by
  rcases ho.2 with ⟨h0, _⟩ | ⟨g', cap, cur, he, _, hh, _⟩
  · cases h0
  · injection he with e1 e2 e3
    injection e1 with e1
    injection e1 with e1
    subst e1
    refine h.kept hg (fun e => ?_) (fun e => ?_)
    · injection e with e
      subst e
      rw [h.cell] at hh
      injection hh with hh
      injection hh with _ hh
      exact absurd hh (by decide)
    · injection e with e
      subst e
      obtain ⟨es, clock, hb, _⟩ := h.own
      rw [hb] at hh
      cases hh
theorem own_ne_b {w : World} {p b base : Nat} {L : List Nt} {g n c : Nat} {xs : List Value} (h : Ny w p b L) (ho : w.ownsRow base 29 1 (.slice (some ⟨g, 0, none⟩) n c) n xs) : g ≠ b := by
  rcases ho.2 with ⟨h0, _⟩ | ⟨g', cap, cur, he, _, hh, _⟩
  · cases h0
  · injection he with e1 e2 e3
    injection e1 with e1
    injection e1 with e1
    subst e1
    rintro rfl
    obtain ⟨es, clock, hb, _⟩ := h.own
    rw [hb] at hh
    cases hh
theorem putAll_rev (l : List Nt) (x : Nt) : putAll (x :: l).reverse = putN (putAll l.reverse) x := by
  unfold putAll; rw [List.reverse_cons, List.foldl_append]; rfl
def seg0 (l : List Nt) (j1 k : Nat) : List Nt := putAll ((l.take j1).drop k).reverse
def seg1 (l : List Nt) (j1 j2 k : Nat) : List Nt := putAll ((l.take j2).drop (max k j1)).reverse
def seg2 (l : List Nt) (j2 k : Nat) : List Nt := putAll (l.drop (max k j2)).reverse
theorem seg0_yes (l : List Nt) (j1 m : Nat) (h : m < l.length) (hj : m < j1) : seg0 l j1 m = putN (seg0 l j1 (m + 1)) l[m] := by
  unfold seg0
  rw [List.drop_eq_getElem_cons (by simp; omega), putAll_rev, List.getElem_take]
theorem seg0_no (l : List Nt) (j1 m : Nat) (hj : j1 ≤ m) : seg0 l j1 m = seg0 l j1 (m + 1) := by
  unfold seg0
  rw [List.drop_eq_nil_of_le (by simp; omega), List.drop_eq_nil_of_le (by simp; omega)]
theorem seg1_yes (l : List Nt) (j1 j2 m : Nat) (h : m < l.length) (h1 : j1 ≤ m) (h2 : m < j2) : seg1 l j1 j2 m = putN (seg1 l j1 j2 (m + 1)) l[m] := by
  unfold seg1
  rw [show max m j1 = m by omega, show max (m + 1) j1 = m + 1 by omega, List.drop_eq_getElem_cons (by simp; omega), putAll_rev, List.getElem_take]
theorem seg1_lo (l : List Nt) (j1 j2 m : Nat) (h : m < j1) : seg1 l j1 j2 m = seg1 l j1 j2 (m + 1) := by
  unfold seg1
  rw [show max m j1 = j1 by omega, show max (m + 1) j1 = j1 by omega]
theorem seg1_hi (l : List Nt) (j1 j2 m : Nat) (h1 : j1 ≤ m) (h : j2 ≤ m) : seg1 l j1 j2 m = seg1 l j1 j2 (m + 1) := by
  unfold seg1
  rw [List.drop_eq_nil_of_le (by simp; omega), List.drop_eq_nil_of_le (by simp; omega)]
theorem seg2_yes (l : List Nt) (j2 m : Nat) (h : m < l.length) (h2 : j2 ≤ m) : seg2 l j2 m = putN (seg2 l j2 (m + 1)) l[m] := by
  unfold seg2
  rw [show max m j2 = m by omega, show max (m + 1) j2 = m + 1 by omega, List.drop_eq_getElem_cons h, putAll_rev]
theorem seg2_no (l : List Nt) (j2 m : Nat) (h : m < j2) : seg2 l j2 m = seg2 l j2 (m + 1) := by
  unfold seg2
  rw [show max m j2 = j2 by omega, show max (m + 1) j2 = j2 by omega]
theorem seg_le (l : List Nt) : (putAll l.reverse).length ≤ l.length := by have := putAll_le l.reverse; simpa using this
theorem seg0_le (l : List Nt) (j1 k : Nat) : (seg0 l j1 k).length ≤ l.length := Nat.le_trans (seg_le _) (by simp; omega)
theorem seg1_le (l : List Nt) (j1 j2 k : Nat) : (seg1 l j1 j2 k).length ≤ l.length := Nat.le_trans (seg_le _) (by simp; omega)
theorem seg2_le (l : List Nt) (j2 k : Nat) : (seg2 l j2 k).length ≤ l.length := Nat.le_trans (seg_le _) (by simp)
theorem segs_mem (l : List Nt) (j1 j2 : Nat) (h1 : j1 ≤ j2) (h2 : j2 ≤ l.length) : ∀ y, (y ∈ seg0 l j1 0 ∨ y ∈ seg1 l j1 j2 0 ∨ y ∈ seg2 l j2 0) ↔ y ∈ putAll l := by
  intro y
  unfold seg0 seg1 seg2
  rw [putAll_mem, putAll_mem, putAll_mem, putAll_mem]
  simp only [List.mem_reverse, List.drop_zero, Nat.zero_max]
  have e1 : l = l.take j1 ++ ((l.take j2).drop j1 ++ l.drop j2) := by
    rw [← List.append_assoc]
    have : l.take j1 ++ (l.take j2).drop j1 = l.take j2 := by
      have := List.take_append_drop j1 (l.take j2)
      rw [List.take_take, Nat.min_eq_left h1] at this
      exact this
    rw [this, List.take_append_drop]
  conv => rhs; rw [e1]
  simp only [List.mem_append]
  constructor
  · rintro (⟨a, b⟩ | ⟨a, b⟩ | ⟨a, b⟩)
    · exact ⟨a, .inl b⟩
    · exact ⟨a, .inr (.inl b)⟩
    · exact ⟨a, .inr (.inr b)⟩
  · rintro ⟨a, b | b | b⟩
    · exact .inl ⟨a, b⟩
    · exact .inr (.inl ⟨a, b⟩)
    · exact .inr (.inr ⟨a, b⟩)
theorem own_cell {w : World} {base g n c : Nat} {xs : List Value} (ho : w.ownsRow base 29 1 (.slice (some ⟨g, 0, none⟩) n c) n xs) (i : Nat) (v : Value) (h : xs[i]? = some v) : w.cell? ⟨g, i, none⟩ = some v := by
  have := ho.cells (g := g) rfl i v h
  by_cases e : i = 0
  · subst e; simpa [Addr.add] using this
  · simpa [Addr.add, e] using this

theorem own43 (W : World) (base : Nat) (hb : base ≤ W.heap.size) : (W.alloc (.cells #[] 29)).ownsRow base 29 1 (.slice (some ⟨W.heap.size, 0, none⟩) 0 0) 0 [] :=
  ⟨rfl, .inr ⟨W.heap.size, 0, #[], rfl, hb, heap_alloc_new W _, Nat.le_refl _, Nat.zero_le _, rfl, rfl⟩⟩

end Go.Proofs.Ytlbenmndmoeioaa
