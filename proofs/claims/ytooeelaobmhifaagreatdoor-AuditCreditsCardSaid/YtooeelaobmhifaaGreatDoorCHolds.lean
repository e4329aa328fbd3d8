/- A ledger with its holds. -/
import Derived.Test.YtooeelaobmhifaaGreatDoorAOpen
import Derived.Test.YtooeelaobmhifaaGreatDoorMG
import Derived.Test.YtooeelaobmhifaaGreatDoorAFree
namespace Go.Proofs.YtooeelaobmhifaaGreatDoor
open Go.RowKit Go.Maps Go.Lib
set_option linter.unusedVariables false
set_option maxRecDepth 100000

theorem zeroHd (W : World) : (zeroValue 56).run Tryz.prog W = .ok (Hd.val ⟨⟨#[]⟩, ⟨#[]⟩, ⟨#[]⟩, 0⟩) W := by kernel_rfl
/-- block p is a ledger: accounts in map block b, holds in map block h -/
structure Lh (w : World) (p b h n m : Nat) (G : Nt → Option Ac) (pv : Value) (F : ByteArray → Option Hd) : Prop where
  lg : Lg w p b n G pv (.map (some h))
  hs : Mp curC hdE w h m F
  ne : b ≠ h
section
variable {w w' : World} {p b h n m : Nat} {G : Nt → Option Ac} {pv : Value} {F : ByteArray → Option Hd}
theorem Lh.hlt (x : Lh w p b h n m G pv F) : h < w.heap.size := x.hs.lt
theorem Lh.ph (x : Lh w p b h n m G pv F) : p ≠ h := x.hs.neCells x.lg.cell
theorem Lh.alloc (x : Lh w p b h n m G pv F) (o : Obj) : Lh (w.alloc o) p b h n m G pv F := ⟨x.lg.alloc o, x.hs.alloc o, x.ne⟩
theorem Lh.drewN (x : Lh w p b h n m G pv F) (k : Nat) : Lh (w.drewN k) p b h n m G pv F := ⟨x.lg.drewN k, x.hs.drewN k, x.ne⟩
theorem Lh.below (x : Lh w p b h n m G pv F) {B : Nat} (hb : Below B w w') (hp : p < B) (hbb : b < B) (hh : h < B) : Lh w' p b h n m G pv F := ⟨x.lg.below hb hp hbb, x.hs.below hb hh, x.ne⟩
theorem Lh.set (x : Lh w p b h n m G pv F) {a : Addr} (hp : a.block ≠ p) (hb : a.block ≠ b) (hh : a.block ≠ h) (u : Value) : Lh (w.setCell a u) p b h n m G pv F :=
  ⟨⟨(heap_setCell_other w a p u (fun e => hp e.symm)).trans x.lg.cell, x.lg.acc.setCell (fun e => hb e.symm) u⟩, x.hs.setCell (fun e => hh e.symm) u, x.ne⟩
theorem Lh.kept (x : Lh w p b h n m G pv F) {row : Option Nat} (hg : w.grownBy w' row) (hp : some p ≠ row) (hb : some b ≠ row) (hh : some h ≠ row) : Lh w' p b h n m G pv F := ⟨x.lg.kept hg hp hb, x.hs.kept hg hh, x.ne⟩
theorem Lh.more (x : Lh w p b h n m G pv F) {m' : Nat} (hm : m ≤ m') : Lh w p b h n m' G pv F := ⟨x.lg, x.hs.mono hm, x.ne⟩
/-- an account is written -/
theorem Lh.putA (x : Lh w p b h n m G pv F) {k : Nt} {a : Ac} (hM : Mp keyC acE w' b (n + 1) (putG G k a)) (ht : w.mapTurned w' b) : Lh w' p b h (n + 1) m (putG G k a) pv F ∧ w.grownBy w' (some b) := by
  have hg := ht.grown
  have hne := x.lg.ne
  exact ⟨⟨⟨(hg.block p x.lg.plt (fun e => hne (by injection e))).trans x.lg.cell, hM⟩, x.hs.kept hg (fun e => x.ne (by injection e with e; exact e.symm)), x.ne⟩, hg⟩
/-- a hold is written -/
theorem Lh.putH (x : Lh w p b h n m G pv F) {k : ByteArray} {a : Hd} (hM : Mp curC hdE w' h (m + 1) (putG F k a)) (ht : w.mapTurned w' h) : Lh w' p b h n (m + 1) G pv (putG F k a) ∧ w.grownBy w' (some h) := by
  have hg := ht.grown
  have hne := x.ph
  exact ⟨⟨⟨(hg.block p x.lg.plt (fun e => hne (by injection e))).trans x.lg.cell, x.lg.acc.kept hg (fun e => x.ne (by injection e))⟩, hM, x.ne⟩, hg⟩
/-- a hold is struck -/
theorem Lh.delH (x : Lh w p b h n m G pv F) {k : ByteArray} (hM : Mp curC hdE w' h m (delG F k)) (ht : w.mapTurned w' h) : Lh w' p b h n m G pv (delG F k) ∧ w.grownBy w' (some h) := by
  have hg := ht.grown
  have hne := x.ph
  exact ⟨⟨⟨(hg.block p x.lg.plt (fun e => hne (by injection e))).trans x.lg.cell, x.lg.acc.kept hg (fun e => x.ne (by injection e))⟩, hM, x.ne⟩, hg⟩
end
end Go.Proofs.YtooeelaobmhifaaGreatDoor
