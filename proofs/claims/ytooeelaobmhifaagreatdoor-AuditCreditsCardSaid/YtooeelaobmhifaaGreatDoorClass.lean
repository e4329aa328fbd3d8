/- A region that draws its order and whose callees make memory: one walk of the lexical order serves, over the class of the worlds that have turned nothing below a block. -/
import Derived.WalkKit
import Derived.Deep.QuietTactic
import Derived.BigQuiet
namespace Go.Proofs.YtooeelaobmhifaaGreatDoor
open Go.RowKit

/-- a world in which nothing below block B has turned since w0 -/
structure WC (B : Nat) (w0 : World) where
  w : World
  h : Below B w0 w

instance WC.some (B : Nat) (w0 : World) : Nonempty (WC B w0) := ⟨⟨w0, Below.refl _ _⟩⟩

theorem below_trans' {B : Nat} {a b c : World} (hB : B ≤ a.heap.size) (h : Below B a b) (k : Below b.heap.size b c) : Below B a c := h.trans (k.mono (Nat.le_trans hB h.size))

theorem wp_region_class {P : Program} {id : Nat} {Q : Exit → Act → World → Prop} {a : Act} {w : World} {l : List Oper} (hm : P.follows .mixedOrders = true) (hB : Region.lexB .any l.toArray = true)
    (h : wpQuiet P l.toArray (fun w' => ∃ n : WC w.heap.size w, w' = n.w) (fun a' => ∀ w', (∃ n : WC w.heap.size w, w' = n.w) → Q .normal a' w') l a) : (Code.region id l.toArray true).wp P Q a w :=
  wp_region_quiet (C := fun w' => ∃ n : WC w.heap.size w, w' = n.w) hm hB ⟨⟨w.drew, (Below.refl _ _).drew⟩, rfl⟩ (by simpa using h)

/-- a callee's contract, in a world of the class -/
theorem Calls.class_of {P : Program} {f : FuncId} {args : Array Value} {w : World} {B : Nat} (hB : B ≤ w.heap.size) {n : WC B w} {v : Value}
    (h : Calls P f args n.w fun e w' => e = .returned v ∧ Below n.w.heap.size n.w w') : Calls P f args n.w fun e w'' => e = .returned v ∧ ∃ m : WC B w, w'' = m.w :=
  h.mono fun _ w' ⟨he, hb⟩ => ⟨he, ⟨w', below_trans' hB n.h hb⟩, rfl⟩
theorem Calls.class_same {P : Program} {f : FuncId} {args : Array Value} {w : World} {B : Nat} {n : WC B w} {v : Value}
    (h : Calls P f args n.w fun e w' => e = .returned v ∧ n.w = w') : Calls P f args n.w fun e w'' => e = .returned v ∧ ∃ m : WC B w, w'' = m.w :=
  h.mono fun _ _ ⟨he, hb⟩ => ⟨he, n, hb.symm⟩
end Go.Proofs.YtooeelaobmhifaaGreatDoor
