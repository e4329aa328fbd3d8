/- law56.AuditBegins answers true. -/
import Derived.Test.YtooeelaobmhifaaDoorABeginsP
namespace Go.Proofs.YtooeelaobmhifaaDoor
open Go.RowKit Go.Maps Go.Lib
set_option linter.unusedVariables false
set_option maxRecDepth 100000

/-- the slice's elements are the numbers xs, in blocks below B -/
def Ru (w : World) (B : Nat) (A : Option Addr) (xs : List Nat) : Prop :=
  0 < xs.length → ∃ g off, A = some ⟨g, off, none⟩ ∧ g < B ∧ ∀ i x, xs[i]? = some x → w.cell? ⟨g, off + i, none⟩ = some (.int .u16 (x : Nat))
theorem Ru.below {w w' : World} {B : Nat} {A : Option Addr} {xs : List Nat} (h : Ru w B A xs) (hb : Below B w w') : Ru w' B A xs := fun hl => by
  obtain ⟨g, off, e, hg, hc⟩ := h hl
  exact ⟨g, off, e, hg, fun i x hx => (hb.cell (p := ⟨g, off + i, none⟩) hg).trans (hc i x hx)⟩
theorem Ru.at_ {w : World} {B : Nat} {A : Option Addr} {xs : List Nat} (h : Ru w B A xs) {k : Nat} (hk : k < xs.length) : ∃ g off, A = some ⟨g, off, none⟩ ∧ g < B ∧ w.cell? ⟨g, off + k, none⟩ = some (.int .u16 (xs[k] : Nat)) := by
  obtain ⟨g, off, e, hg, hc⟩ := h (by omega)
  exact ⟨g, off, e, hg, hc k _ (List.getElem?_eq_getElem hk)⟩
def redu (xs : List Nat) : List Nat := xs.map (· % 30000)
theorem redu_len (xs : List Nat) : (redu xs).length = xs.length := by simp [redu]
theorem up_fine (xs : List Nat) (k : Nat) : ∀ m ∈ ((redu xs).take k).map upM, m.Fine := by
  intro m hm
  obtain ⟨r, hr, rfl⟩ := List.mem_map.1 hm
  obtain ⟨x, _, rfl⟩ := List.mem_map.1 (List.mem_of_mem_take hr)
  have := Nat.mod_lt x (show 0 < 30000 by omega)
  exact ⟨by simp only [upM]; omega, by simp only [upM]; omega, by simp [upM]⟩
theorem down_fine (xs : List Nat) (k : Nat) : ∀ m ∈ downs (redu xs) k, m.Fine := by
  intro m hm
  obtain ⟨r, hr, rfl⟩ := List.mem_map.1 hm
  obtain ⟨x, _, rfl⟩ := List.mem_map.1 (List.mem_of_mem_take hr)
  have := Nat.mod_lt x (show 0 < 30000 by omega)
  exact ⟨by simp only [downM]; omega, by simp only [downM]; omega, by simp [downM]⟩

set_option maxHeartbeats 4000000 in
theorem begins_off (xs : List Nat) (A : Option Addr) (c : Nat) (n more : Nat) (w : World) (h : 30 < xs.length ∨ xs.length = 0) :
    Calls Tryd.prog 4 #[.slice A xs.length c, .int .u8 n, .int .u8 more] w fun e w' => e = .returned (.bool true) ∧ Below w.heap.size w w' := by
  rcases h with h | h
  · have q1 : decide ((30 : Int) < (xs.length : Int)) = true := by simp; omega
    go_enter Tryd.func4, Tryd.ntmps4
    go_wp2_with fail
    refine (awake_any w).mono ?_
    rintro e w1 ⟨rfl, hb1⟩
    have HB1 := Lib.hid hb1
    clear hb1
    go_wp2_with fail
    refine (awake_any w1).mono ?_
    rintro e w2 ⟨rfl, hb2⟩
    have HB2 := Lib.hid hb2
    clear hb2
    go_wp2
    go_ret
    exact ⟨rfl, HB1.out.trans (HB2.out.mono HB1.out.size)⟩
  · rw [h]
    go_enter Tryd.func4, Tryd.ntmps4
    go_wp2_with fail
    refine (awake_any w).mono ?_
    rintro e w1 ⟨rfl, hb1⟩
    have HB1 := Lib.hid hb1
    clear hb1
    go_wp2_with fail
    refine (awake_any w1).mono ?_
    rintro e w2 ⟨rfl, hb2⟩
    have HB2 := Lib.hid hb2
    clear hb2
    go_wp2
    go_ret
    exact ⟨rfl, HB1.out.trans (HB2.out.mono HB1.out.size)⟩

end Go.Proofs.YtooeelaobmhifaaDoor
