/- A slice of uint16 as an argument. -/
import Derived.Test.YtooeelaobmhifaaDoorALaid
import Derived.Test.YtooeelaobmhifaaDoorABegins
import Derived.ChangeSlices
namespace Go.Proofs.YtooeelaobmhifaaDoor
open Go.ChangeShapes Go.WideShapes Go.ChangeAt Go.RowKit Go.Deep Go.Lib
set_option linter.unusedVariables false
set_option maxRecDepth 100000

theorem cellsU16 : Tryd.prog.cellsOf 34 = 1 := by kernel_rfl
theorem wf_u16 {z : Int} (h : (Lit.int .u16 z).wf = true) : 0 ≤ z ∧ z ≤ 65535 := by
  simp [Lit.wf, IntKind.min, IntKind.max, IntKind.signed, IntKind.bits] at h
  exact h
theorem open_u16s {H : Type} {enc : TypeId × Value → H} {W : World} {base : Nat} {v : Value} {d : DataW H} {p : List MemPlace} {spare : Nat → Bool} {held : Bool} {b0 : Nat}
    (hv : Value.okWide Tryd.prog W .any b0 33 v) (h : DataW.Trod enc Tryd.prog W base spare held 33 v d p) :
    ∃ (A : Option Addr) (c : Nat) (L : List Nat), v = .slice A L.length c ∧ Ru W W.heap.size A L ∧ ∀ x ∈ L, x < 65536 := by
  obtain ⟨a0, len, cap, rfl⟩ := okWide_slice Tryd.underlying33 hv
  obtain ⟨fuel, hf⟩ := h
  rcases open_ints Tryd.underlying33 Tryd.underlying34 cellsU16 hf with ⟨hcs, _⟩ | ⟨a, len', cap', zs, hcs, hb, hl, hm, hzl, hx, hc, hw⟩
  · simp [Value.cells] at hcs
    obtain ⟨rfl, rfl, rfl⟩ := hcs
    exact ⟨none, 0, [], rfl, fun h => absurd h (by decide), by simp⟩
  · simp [Value.cells] at hcs
    obtain ⟨rfl, rfl, rfl⟩ := hcs
    have hlz : len ≤ zs.length := by rw [hzl]; split <;> omega
    refine ⟨some a, cap, (zs.take len).map Int.toNat, by simp; omega, ?_, ?_⟩
    · intro hlen
      have h0 : 0 < len := by simp at hlen; omega
      obtain ⟨b, off, spot⟩ := a
      have hspot : spot = none := by
        have := hc 0 (by omega)
        simpa [Addr.add] using World.cell?_spot this
      subst hspot
      have hblk : b < W.heap.size := by
        have := World.block_lt_of_cell? W _ (hc 0 (by omega))
        simpa [Addr.add] using this
      refine ⟨b, off, rfl, hblk, fun i x hx => ?_⟩
      have hi : i < len := by have := (List.getElem?_eq_some_iff.1 hx).1; simp at this; omega
      have hiz : i < zs.length := by omega
      have c0 := hc i hiz
      rw [Lib.add_plain] at c0
      have hg : zs.getD i 0 = zs[i] := by simp [hiz]
      have hxe : x = zs[i].toNat := by
        simp [List.getElem?_take, hi, hiz] at hx
        exact hx.symm
      have hnn := (wf_u16 (hw zs[i] (List.getElem_mem hiz))).1
      rw [hg] at c0
      rw [hxe, Int.toNat_of_nonneg hnn]
      exact c0
    · intro x hx
      obtain ⟨z, hz, rfl⟩ := List.mem_map.1 hx
      have := wf_u16 (hw z (List.mem_of_mem_take hz))
      omega
theorem begins_int (xs : List Nat) (A : Option Addr) (c : Nat) (n more : Int) (w : World) (hx : ∀ x ∈ xs, x < 65536) (hn : (Lit.int .u8 n).wf = true) (hm : (Lit.int .u8 more).wf = true) (hR : Ru w w.heap.size A xs) :
    Calls Tryd.prog 4 #[.slice A xs.length c, .int .u8 n, .int .u8 more] w fun e w' => e = .returned (.bool true) ∧ Below w.heap.size w w' := by
  obtain ⟨n0, n1⟩ := wf_u8 hn
  obtain ⟨m0, m1⟩ := wf_u8 hm
  obtain ⟨n', rfl⟩ := Int.eq_ofNat_of_zero_le n0
  obtain ⟨m', rfl⟩ := Int.eq_ofNat_of_zero_le m0
  exact auditBegins_any xs A c n' m' w hx (by omega) (by omega) hR
end Go.Proofs.YtooeelaobmhifaaDoor
