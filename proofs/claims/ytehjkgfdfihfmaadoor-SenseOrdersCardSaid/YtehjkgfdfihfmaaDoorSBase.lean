/- Slices of texts. -/
import Derived.Test.YtehjkgfdfihfmaaDoorProg
import Derived.Lib.Hide
import Derived.WalkKit
import Derived.WalkSpells
import Derived.WalkLawsBesides
import Derived.Carry
import Derived.Deep.QuietTactic
import Derived.BigQuiet
import Derived.Deep.Cut
import Derived.Maps.OwnSet
import Derived.Test.YtehjkgfdfihfmaaDoorGMap
namespace Go.Proofs.YtehjkgfdfihfmaaDoor
open Go.RowKit Go.Lib
set_option linter.unusedVariables false
set_option maxRecDepth 100000

/-- the slice's elements are the texts L, in blocks below B -/
def Rs (w : World) (B : Nat) (A : Option Addr) (L : List ByteArray) : Prop :=
  0 < L.length → ∃ g off, A = some ⟨g, off, none⟩ ∧ g < B ∧ ∀ i x, L[i]? = some x → w.cell? ⟨g, off + i, none⟩ = some (.string x)
section
variable {w w' : World} {B B' : Nat} {A : Option Addr} {L : List ByteArray}
theorem Rs.below (h : Rs w B A L) (hb : Below B w w') : Rs w' B A L := fun hl => by
  obtain ⟨g, off, e, hg, hc⟩ := h hl
  exact ⟨g, off, e, hg, fun i x hx => (hb.cell (p := ⟨g, off + i, none⟩) hg).trans (hc i x hx)⟩
theorem Rs.more (h : Rs w B A L) (hB : B ≤ B') : Rs w B' A L := fun hl => by
  obtain ⟨g, off, e, hg, hc⟩ := h hl
  exact ⟨g, off, e, by omega, hc⟩
theorem Rs.at_ (h : Rs w B A L) {k : Nat} (hk : k < L.length) : ∃ g off, A = some ⟨g, off, none⟩ ∧ g < B ∧ w.cell? ⟨g, off + k, none⟩ = some (.string L[k]) := by
  obtain ⟨g, off, e, hg, hc⟩ := h (by omega)
  exact ⟨g, off, e, hg, hc k _ (List.getElem?_eq_getElem hk)⟩
end

end Go.Proofs.YtehjkgfdfihfmaaDoor
