/- ref56.Same: two slices of the same texts are told the same. -/
import Derived.Test.YtooeelaobmhifaaGreatDoorAName
import Derived.Deep.QuietTactic
import Derived.BigQuiet
namespace Go.Proofs.YtooeelaobmhifaaGreatDoor
open Go.RowKit Go.Lib
set_option linter.unusedVariables false
set_option maxRecDepth 100000

/-- the slice's elements are the texts L, in blocks below B -/
def Rs (w : World) (B : Nat) (A : Option Addr) (L : List ByteArray) : Prop :=
  0 < L.length → ∃ g off, A = some ⟨g, off, none⟩ ∧ g < B ∧ ∀ i x, L[i]? = some x → w.cell? ⟨g, off + i, none⟩ = some (.string x)
section
variable {w w' : World} {B B' : Nat} {A : Option Addr} {L : List ByteArray}
theorem Rs.below (h : Rs w B A L) (hb : Below B w w') : Rs w' B A L := fun hl => by
  obtain ⟨g, off, e, hg, hc⟩ := h hl
  exact ⟨g, off, e, hg, fun i x hx => (hb.cell (p := ⟨g, off + i, none⟩) hg).trans (hc i x hx)⟩
theorem Rs.more (h : Rs w B A L) (hB : B ≤ B') : Rs w B' A L := fun hl => by
  obtain ⟨g, off, e, hg, hc⟩ := h hl
  exact ⟨g, off, e, by omega, hc⟩
theorem Rs.at_ (h : Rs w B A L) {k : Nat} (hk : k < L.length) : ∃ g off, A = some ⟨g, off, none⟩ ∧ g < B ∧ w.cell? ⟨g, off + k, none⟩ = some (.string L[k]) := by
  obtain ⟨g, off, e, hg, hc⟩ := h (by omega)
  exact ⟨g, off, e, hg, hc k _ (List.getElem?_eq_getElem hk)⟩
end

set_option maxHeartbeats 1000000 in
theorem same_eq (L : List ByteArray) (A1 A2 : Option Addr) (c1 c2 : Nat) (w : World) (h1 : Rs w w.heap.size A1 L) (h2 : Rs w w.heap.size A2 L) (hl : L.length ≤ 1000000) :
    Calls Tryz.prog 10 #[.slice A1 L.length c1, .slice A2 L.length c2] w fun e w' => e = .returned (.bool true) ∧ Below w.heap.size w w' := by
  go_enter Tryz.func10, Tryz.ntmps10
  go_wp2
  go_loopw [5] (fun i wr => ∃ k : Nat, k ≤ L.length ∧ i = .int .i64 k ∧ Hid (Below w.heap.size w wr)) (fun i _ => L.length - (intOf i).toNat)
  case atStart => exact ⟨0, Nat.zero_le _, rfl, Lib.hid (Below.refl _ _)⟩
  case round =>
    obtain ⟨k, hk, rfl, Hb⟩ := hrel
    by_cases hlt : k < L.length
    · obtain ⟨g1, o1, rfl, hg1, hc1⟩ := (h1.below Hb.out).at_ hlt
      obtain ⟨g2, o2, rfl, hg2, hc2⟩ := (h2.below Hb.out).at_ hlt
      generalize L[k] = x at *
      have he : (x.toList == x.toList) = true := by simp
      clear h1 h2
      go_wp2_with fail
      go_quiet (fail)
      go_wp2_with fail
      go_roundw
      case rel => exact ⟨k + 1, by omega, by go_num, Lib.hid ⟨Hb.out.os, Hb.out.tape, Hb.out.output, Hb.out.size, Hb.out.block⟩⟩
      case measure => simp [intOf]; omega
    · go_wp2
      go_ret
      exact ⟨rfl, Hb.out⟩
end Go.Proofs.YtooeelaobmhifaaGreatDoor
