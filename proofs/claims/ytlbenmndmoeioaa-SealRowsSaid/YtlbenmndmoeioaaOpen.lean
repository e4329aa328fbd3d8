/- The arguments of the laws over notes, opened: a slice of notes, a note. -/
import Derived.Test.YtlbenmndmoeioaaNotes
import Derived.ProofKit
import Derived.OpenShut
import Derived.ShutString
import Derived.ChangeOld
import Derived.Deep.SlicePairs
import Derived.Lib.SmallJoins
namespace Go.Proofs.Ytlbenmndmoeioaa
open Go.ChangeShapes Go.WideShapes Go.ChangeAt Go.RowKit Go.Deep Go.Joins
set_option linter.unusedVariables false

theorem ownN : ownKnob Try.prog.godebug = none := by kernel_rfl
theorem cellsNt : Try.prog.cellsOf 27 = 2 := by kernel_rfl

theorem open_notes {H : Type} {enc : TypeId × Value → H} {W : World} {base : Nat} {v : Value} {d : DataW H} {p : List MemPlace} {spare : Nat → Bool} {held : Bool} {b0 : Nat}
    (hv : Value.okWide Try.prog W .any b0 25 v) (h : DataW.Trod enc Try.prog W base spare held 25 v d p) :
    ∃ (A : Option Addr) (c : Nat) (L : List Nt), v = .slice A L.length c ∧ Rn W W.heap.size A L ∧ (∀ x ∈ L, Small x) ∧ L.length ≤ maxLen := by
  obtain ⟨a0, len, cap, rfl⟩ := okWide_slice Try.underlying25 hv
  obtain ⟨fuel, hf⟩ := h
  rcases open_slice_pairs Try.underlying25 Try.underlying27 cellsNt rfl rfl cellsStr cellsStr hf with ⟨hcs, _⟩ | ⟨a, len', cap', m, n, V0, V1, D0, D1, P0, P1, hcs, _, hl, hm, hmm, _, hc⟩
  · simp [Value.cells] at hcs
    obtain ⟨rfl, rfl, rfl⟩ := hcs
    exact ⟨none, 0, [], rfl, fun h => absurd h (by decide), by simp, by simp [maxLen]⟩
  · simp [Value.cells] at hcs
    obtain ⟨rfl, rfl, rfl⟩ := hcs
    have hlm : len ≤ m := by rw [hmm]; split <;> omega
    have each : ∀ i, i < len → ∃ x : Nt, V0 i = .string x.1 ∧ V1 i = .string x.2 ∧ Small x := by
      intro i hi
      obtain ⟨_, _, t0, t1⟩ := hc i (by omega)
      obtain ⟨s0, e0, _, w0⟩ := DataW.trod_string Try.underlying9 t0
      obtain ⟨s1, e1, _, w1⟩ := DataW.trod_string Try.underlying9 t1
      simp at e0 e1
      exact ⟨(s0, s1), e0, e1, w0, w1⟩
    obtain ⟨f, hf'⟩ : ∃ f : Nat → Nt, ∀ i, i < len → V0 i = .string (f i).1 ∧ V1 i = .string (f i).2 ∧ Small (f i) := by
      refine ⟨fun i => if h : i < len then Classical.choose (each i h) else (ByteArray.empty, ByteArray.empty), fun i hi => ?_⟩
      simp only [hi, dif_pos]
      exact Classical.choose_spec (each i hi)
    refine ⟨some a, cap, (List.range len).map f, by simp, ?_, ?_, by simp; omega⟩
    · intro hlen
      have h0 : 0 < len := by simpa using hlen
      obtain ⟨b, off, spot⟩ := a
      have hspot : spot = none := by
        have := (hc 0 (by omega)).1
        simpa [Addr.add] using World.cell?_spot this
      subst hspot
      have hblk : b < W.heap.size := by
        have := World.block_lt_of_cell? W _ (hc 0 (by omega)).1
        simpa [Addr.add] using this
      refine ⟨b, off, rfl, hblk, fun i x hx => ?_⟩
      have hi : i < len := by have := (List.getElem?_eq_some_iff.1 hx).1; simpa using this
      have hxe : f i = x := by
        rw [List.getElem?_map, List.getElem?_range hi] at hx
        simpa using hx
      obtain ⟨c0, c1, _, _⟩ := hc i (by omega)
      obtain ⟨e0, e1, _⟩ := hf' i hi
      rw [add_plain] at c0 c1
      rw [e0, hxe] at c0
      rw [e1, hxe] at c1
      exact ⟨c0, by rw [Nat.add_assoc]; exact c1⟩
    · intro x hx
      obtain ⟨i, hi, rfl⟩ := List.mem_map.1 hx
      exact (hf' i (List.mem_range.1 hi)).2.2

theorem open_note {H : Type} {enc : TypeId × Value → H} {W : World} {base : Nat} {v : Value} {d : DataW H} {p : List MemPlace} {spare : Nat → Bool} {held : Bool} {b0 : Nat}
    (hv : Value.okWide Try.prog W .any b0 27 v) (h : DataW.Trod enc Try.prog W base spare held 27 v d p) :
    ∃ a t : ByteArray, v = .agg #[.string a, .string t] ∧ Small (a, t) := by
  obtain ⟨v0, v1, y0, y1, n, rfl, _, _, t0, t1⟩ := open_agg2 Try.underlying27 (by kernel_rfl) cellsNt hv h
  obtain ⟨s0, e0, _, w0⟩ := DataW.trod_string Try.underlying9 t0
  obtain ⟨s1, e1, _, w1⟩ := DataW.trod_string Try.underlying9 t1
  simp at e0 e1
  subst e0 e1
  exact ⟨s0, s1, rfl, w0, w1⟩
end Go.Proofs.Ytlbenmndmoeioaa
