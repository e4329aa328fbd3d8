/- A range's step over the two maps that 'changes' makes. -/
import Derived.Test.YtooeelaobmhifaaGreatDoorAChanges
namespace Go.Proofs.YtooeelaobmhifaaGreatDoor
open Go.RowKit Go.Maps Go.Lib
set_option linter.unusedVariables false

section
variable (w : World) {ops : Array Oper} {rest : List Oper} {o : Oper} {a : Act} {Q : Exit → Act → World → Prop}
theorem wpList_next_cur (hg : o.guard = none) (it : Operand) (hop : o.op = Op.next it false) (b r n : Nat) (G : ByteArray → Option Int) (lf : ByteArray → Bool) (cnt : Nat)
    (hit : a.eval it = .pointer (some ⟨r, 0, none⟩)) (h : Rn' curC amtE w b r n G lf cnt)
    (hDone : (∀ x, x.size ≤ maxLen → lf x = false) → wpList Tryz.prog ops Q rest (a.put o.dst (.tuple #[.bool false])) w)
    (hMore : ∀ (x : ByteArray) (v : Int) (w' : World) (cnt' : Nat), x.size ≤ maxLen → lf x = true → G x = some v → Rn' curC amtE w' b r n G (fun z => lf z && !decide (z = x)) cnt' → cnt' < cnt →
      w.grownBy w' (some r) → w'.heap.size = w.heap.size → (Instr.entry (.pointer (some ⟨r, 0, none⟩))).run Tryz.prog w' = .ok (.tuple #[.string x, .int .i64 v]) w' → wpList Tryz.prog ops Q rest (a.put o.dst (.tuple #[.bool true, .string x, .int .i64 v])) w') :
    wpList Tryz.prog ops Q (o :: rest) a w :=
  wpList_next_mp w hg it hop b r n G lf cnt hit h hDone fun x v w' cnt' h1 h2 h3 _ h5 h6 h7 h8 h9 => hMore x v w' cnt' h1 h2 h3 h5 h6 h7 h8 h9
theorem wpList_next_key (hg : o.guard = none) (it : Operand) (hop : o.op = Op.next it false) (b r n : Nat) (G : Nt → Option Int) (lf : Nt → Bool) (cnt : Nat)
    (hit : a.eval it = .pointer (some ⟨r, 0, none⟩)) (h : Rn' keyC amtE w b r n G lf cnt)
    (hDone : (∀ x, Small x → lf x = false) → wpList Tryz.prog ops Q rest (a.put o.dst (.tuple #[.bool false])) w)
    (hMore : ∀ (s t : ByteArray) (v : Int) (w' : World) (cnt' : Nat), Small (s, t) → lf (s, t) = true → G (s, t) = some v → Rn' keyC amtE w' b r n G (fun z => lf z && !decide (z = (s, t))) cnt' → cnt' < cnt →
      w.grownBy w' (some r) → w'.heap.size = w.heap.size → (Instr.entry (.pointer (some ⟨r, 0, none⟩))).run Tryz.prog w' = .ok (.tuple #[.agg #[.string s, .string t], .int .i64 v]) w' → wpList Tryz.prog ops Q rest (a.put o.dst (.tuple #[.bool true, .agg #[.string s, .string t], .int .i64 v])) w') :
    wpList Tryz.prog ops Q (o :: rest) a w :=
  wpList_next_mp w hg it hop b r n G lf cnt hit h hDone fun x v w' cnt' h1 h2 h3 _ h5 h6 h7 h8 h9 => hMore x.1 x.2 v w' cnt' h1 h2 h3 h5 h6 h7 h8 h9
end
end Go.Proofs.YtooeelaobmhifaaGreatDoor
