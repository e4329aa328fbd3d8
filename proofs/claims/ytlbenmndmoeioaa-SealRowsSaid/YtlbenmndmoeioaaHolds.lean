/- Notary.Holds, Notary.Count: what they tell of the notes. -/
import Derived.Test.YtlbenmndmoeioaaNotary
import Derived.Deep.RegionHeld3
import Derived.Deep.RegionWith
namespace Go.Proofs.Ytlbenmndmoeioaa
open Go.RowKit Go.Maps

/-- two texts, compared as the program does -/
def eqB (x y : ByteArray) : Bool := x.toList == y.toList
theorem eqB_iff (x y : ByteArray) : eqB x y = true ↔ x = y := by
  unfold eqB
  rw [ByteArray.toList_eq, ByteArray.toList_eq, beq_iff_eq]
  exact ⟨fun h => ByteArray.ext (by simpa using h), fun h => by rw [h]⟩
theorem eqB_self (x : ByteArray) : eqB x x = true := (eqB_iff x x).2 rfl
theorem eqB_false (x y : ByteArray) : eqB x y = false ↔ x ≠ y := by rw [Ne, ← eqB_iff]; simp

set_option maxHeartbeats 400000 in
set_option maxRecDepth 100000 in
theorem holds_no (a t s : ByteArray) (w : World) (p b : Nat) (L : List Nt) (hN : Ny w p b L) (ha : a.size ≤ 5000) (ht : t.size ≤ 5000) (hh : hasN L (a, t) = false) :
    Calls Try.prog 20 #[.pointer (some ⟨p, 0, none⟩), .string a, .string t, .string s] w fun e w' => e = .returned (.bool false) ∧ Below w.heap.size w w' := by
  have hx : Small (a, t) := ⟨by unfold maxLen; simp; omega, by unfold maxLen; simp; omega⟩
  have hc := hN.cell0
  have hpl := hN.plt
  have hlk : ∀ o n, (Instr.lookup 51 (.map (some b)) (.agg #[.string a, .string t]) false).run Try.prog ((w.alloc o).drewN n) = .ok (.bool false) ((w.alloc o).drewN n) := fun o n => by
    have := ((hN.alloc o).drewN n).look (a, t) hx
    rw [hh] at this
    exact this
  clear hh
  go_enter Try.func20, Try.ntmps20
  go_wp2_with fail
  go_quiet (fail)
  go_wp2
  go_ret
  exact ⟨rfl, below_quiet _ _ _⟩

set_option maxHeartbeats 400000 in
set_option maxRecDepth 100000 in
theorem holds_yes (a t s : ByteArray) (w : World) (p b : Nat) (L : List Nt) (hN : Ny w p b L) (ha : a.size ≤ 5000) (ht : t.size ≤ 5000) (hh : hasN L (a, t) = true) :
    Calls Try.prog 20 #[.pointer (some ⟨p, 0, none⟩), .string a, .string t, .string s] w fun e w' => e = .returned (.bool (eqB (signB a t) s)) ∧ Below w.heap.size w w' := by
  have hx : Small (a, t) := ⟨by unfold maxLen; simp; omega, by unfold maxLen; simp; omega⟩
  have hc := hN.cell0
  have hpl := hN.plt
  have hlk : ∀ o, (Instr.lookup 51 (.map (some b)) (.agg #[.string a, .string t]) false).run Try.prog ((w.alloc o).drew) = .ok (.bool true) ((w.alloc o).drew) := fun o => by
    have := ((hN.alloc o).drewN 1).look (a, t) hx
    rw [hh] at this
    exact this
  clear hh
  go_enter Try.func20, Try.ntmps20
  go_wp2_with fail
  go_region_with ((go_at_call 26; refine (sign_any a t _ (by omega) (by omega)).mono ?_; rintro e w1 ⟨rfl, hb1⟩))
  all_goals
    go_wp2
    go_ret
    have hbq := (below_quiet w (.cells #[.string a, .string t] 55) 1)
    exact ⟨rfl, hbq.trans (hb1.mono hbq.size)⟩

theorem holds_any (x : Nt) (s : ByteArray) (w : World) (p b : Nat) (L : List Nt) (hN : Ny w p b L) (ha : x.1.size ≤ 5000) (ht : x.2.size ≤ 5000) :
    Calls Try.prog 20 #[.pointer (some ⟨p, 0, none⟩), .string x.1, .string x.2, .string s] w fun e w' => e = .returned (.bool (hasN L x && eqB (signB x.1 x.2) s)) ∧ Below w.heap.size w w' := by
  cases hh : hasN L x
  · exact (holds_no x.1 x.2 s w p b L hN ha ht hh).mono fun e w' ⟨he, h1⟩ => ⟨by rw [he]; rfl, h1⟩
  · exact (holds_yes x.1 x.2 s w p b L hN ha ht hh).mono fun e w' ⟨he, h1⟩ => ⟨by rw [he]; rfl, h1⟩

end Go.Proofs.Ytlbenmndmoeioaa
