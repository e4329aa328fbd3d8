/- Codings of this program's maps: texts as keys; texts and numbers as elements. -/
import Derived.Test.YtehjkgfdfihfmaaDoorSBase
import Derived.Test.YtehjkgfdfihfmaaDoorGCode
import Derived.Maps.StringElems
namespace Go.Proofs.YtehjkgfdfihfmaaDoor
open Go.RowKit Go.Maps Go.Lib
set_option linter.unusedVariables false
set_option maxRecDepth 100000

instance decBA : DecidableEq ByteArray := fun a b => decidable_of_iff (a.data = b.data) ⟨fun h => ByteArray.ext h, fun h => by rw [h]⟩
/-- elements of type string -/
def strE (P : Program) (e : TypeId) (he : P.underlying e = some .string) : ElC ByteArray where
  mk a := .string a
  dat a := .lit (.string a.data.toList)
  ok a := a.size ≤ maxLen
  R := plainElem P e
  of v hv := plainElem_string he hv
  inv x z h := by obtain ⟨a, h1, h2, h3⟩ := plainElem_string_inv he h; exact ⟨a, h1, h2, h3⟩
  inj u v h := by
    injection h with h
    injection h with h
    exact ByteArray.ext (Array.toList_inj.1 h)
noncomputable def amtE : ElC Int := intE Tryd.prog 2 Tryd.underlying2
noncomputable def curC : KeyC Tryd.prog 9 ByteArray := strC Tryd.underlying9
noncomputable def txtE : ElC ByteArray := strE Tryd.prog 9 Tryd.underlying9
theorem zeroI64 (w : World) : (zeroValue 2).run Tryd.prog w = .ok (.int .i64 0) w := by kernel_rfl
theorem zeroStr (w : World) : (zeroValue 9).run Tryd.prog w = .ok (.string ⟨#[]⟩) w := by kernel_rfl
theorem i64_ok {a : Int} (h0 : -9223372036854775808 ≤ a) (h1 : a ≤ 9223372036854775807) : amtE.ok a := by
  show (Lit.int .i64 a).wf = true
  simp [Lit.wf, IntKind.min, IntKind.max, IntKind.signed, IntKind.bits]
  omega
section
variable (w : World) {ops : Array Oper} {rest : List Oper} {o : Oper} {a : Act} {Q : Exit → Act → World → Prop}
theorem wpList_next_cur (hg : o.guard = none) (it : Operand) (hop : o.op = Op.next it false) (b r n : Nat) (G : ByteArray → Option Int) (lf : ByteArray → Bool) (cnt : Nat)
    (hit : a.eval it = .pointer (some ⟨r, 0, none⟩)) (h : Rn' curC amtE w b r n G lf cnt)
    (hDone : (∀ x, x.size ≤ maxLen → lf x = false) → wpList Tryd.prog ops Q rest (a.put o.dst (.tuple #[.bool false])) w)
    (hMore : ∀ (x : ByteArray) (v : Int) (w' : World) (cnt' : Nat), x.size ≤ maxLen → lf x = true → G x = some v → Rn' curC amtE w' b r n G (fun z => lf z && !decide (z = x)) cnt' → cnt' < cnt →
      w.grownBy w' (some r) → w'.heap.size = w.heap.size → (Instr.entry (.pointer (some ⟨r, 0, none⟩))).run Tryd.prog w' = .ok (.tuple #[.string x, .int .i64 v]) w' → wpList Tryd.prog ops Q rest (a.put o.dst (.tuple #[.bool true, .string x, .int .i64 v])) w') :
    wpList Tryd.prog ops Q (o :: rest) a w :=
  wpList_next_mp w hg it hop b r n G lf cnt hit h hDone fun x v w' cnt' h1 h2 h3 _ h5 h6 h7 h8 h9 => hMore x v w' cnt' h1 h2 h3 h5 h6 h7 h8 h9
end
end Go.Proofs.YtehjkgfdfihfmaaDoor
