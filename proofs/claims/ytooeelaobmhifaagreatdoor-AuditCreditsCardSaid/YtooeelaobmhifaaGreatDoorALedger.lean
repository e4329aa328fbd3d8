/- The ledger's block; ledger.New. -/
import Derived.Test.YtooeelaobmhifaaGreatDoorAKey
import Derived.Carry
namespace Go.Proofs.YtooeelaobmhifaaGreatDoor
open Go.RowKit Go.Maps Go.Lib
set_option linter.unusedVariables false
set_option maxRecDepth 100000

/-- block p is a ledger: its accounts, in map block b, hold what G says; pv: its posts; hv: its holds -/
structure Lg (w : World) (p b n : Nat) (G : Nt → Option Ac) (pv hv : Value) : Prop where
  cell : w.heap[p]? = some (.cells #[.map (some b), pv, hv] 48 (0, 0))
  acc : Mp keyC acE w b n G
section
variable {w w' : World} {p b n : Nat} {G : Nt → Option Ac} {pv hv : Value}
theorem Lg.plt (h : Lg w p b n G pv hv) : p < w.heap.size := (Array.getElem?_eq_some_iff.1 h.cell).1
theorem Lg.blt (h : Lg w p b n G pv hv) : b < w.heap.size := h.acc.lt
theorem Lg.ne (h : Lg w p b n G pv hv) : p ≠ b := h.acc.neCells h.cell
theorem Lg.kept (h : Lg w p b n G pv hv) {row : Option Nat} (hg : w.grownBy w' row) (hp : some p ≠ row) (hb : some b ≠ row) : Lg w' p b n G pv hv := ⟨(hg.block p h.plt hp).trans h.cell, h.acc.kept hg hb⟩
theorem Lg.below (h : Lg w p b n G pv hv) {B : Nat} (hg : Below B w w') (hp : p < B) (hb : b < B) : Lg w' p b n G pv hv := ⟨(hg.block p hp).trans h.cell, h.acc.below hg hb⟩
theorem Lg.alloc (h : Lg w p b n G pv hv) (o : Obj) : Lg (w.alloc o) p b n G pv hv := h.kept (World.grownBy_alloc w o none) (by simp) (by simp)
theorem Lg.drewN (h : Lg w p b n G pv hv) (m : Nat) : Lg (w.drewN m) p b n G pv hv := ⟨h.cell, h.acc⟩
theorem Lg.c0 (h : Lg w p b n G pv hv) : w.cell? ⟨p, 0, none⟩ = some (.map (some b)) := by have := h.cell; simp [World.cell?, this]
theorem Lg.c1 (h : Lg w p b n G pv hv) : w.cell? ⟨p, 1, none⟩ = some pv := by have := h.cell; simp [World.cell?, this]
theorem Lg.c2 (h : Lg w p b n G pv hv) : w.cell? ⟨p, 2, none⟩ = some hv := by have := h.cell; simp [World.cell?, this]
end

set_option maxHeartbeats 400000 in
theorem new_any (s : ByteArray) (w : World) : Calls Tryz.prog 5 #[.string s] w fun e w' =>
    e = .returned (.pointer (some ⟨w.heap.size + 2, 0, none⟩)) ∧ Lg w' (w.heap.size + 2) w.heap.size 0 (fun _ => none) (.slice none 0 0) (.map (some (w.heap.size + 1))) ∧ Below w.heap.size w w' ∧ w'.heap.size = w.heap.size + 3 := by
  have hmm := @run_makeMap Tryz.prog
  go_enter Tryz.func5, Tryz.ntmps5
  go_wp2
  go_ret
  have h1 : (w.alloc (.map #[] 0)).heap.size = w.heap.size + 1 := by simp
  have h2 : ((w.alloc (.map #[] 0)).alloc (.map #[] 0)).heap.size = w.heap.size + 2 := by simp
  refine ⟨rfl, ⟨?_, ((Mp.made w).alloc _).alloc _⟩, (((Below.refl _ _).alloc (Nat.le_refl _) _).alloc (by rw [h1]; omega) _).alloc (by rw [h2]; omega) _, by simp⟩
  have := (MapKept.heap_alloc ((w.alloc (.map #[] 0)).alloc (.map #[] 0)) (.cells #[.map (some w.heap.size), .slice none 0 0, .map (some (w.heap.size + 1))] 48)).1
  rw [h2] at this
  exact this
end Go.Proofs.YtooeelaobmhifaaGreatDoor
