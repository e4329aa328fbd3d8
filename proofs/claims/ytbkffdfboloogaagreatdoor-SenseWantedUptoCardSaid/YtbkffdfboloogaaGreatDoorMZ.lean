/- Codings: strings as keys; integers, bools and structs of integers as elements. Codings of this program's maps: texts as keys; texts and numbers as elements. -/
import Derived.Test.YtbkffdfboloogaaGreatDoorGMap
import Derived.StringKeys
import Derived.Test.YtbkffdfboloogaaGreatDoorMB
import Derived.Maps.StringElems
namespace Go.Proofs.YtbkffdfboloogaaGreatDoor
open Go.RowKit Go.Maps
set_option linter.unusedVariables false

/-- the keys of type string -/
def strC {P : Program} {k : TypeId} (hk : P.underlying k = some .string) : KeyC P k ByteArray where
  law := string_keyed hk
  mk := .string
  lit s := .string s.data.toList
  ok s := s.size ≤ maxLen
  of s hs := WideMaps.keyOf_string_mk hk hs
  inv key kl h := by
    unfold keyOf at h
    rw [hk] at h
    simp only [mapKey, hk] at h
    cases key <;> simp at h
    exact ⟨_, rfl, h.2.symm, h.1⟩
  inj x y h := by injection h

/-- elements of type int64 -/
def intE (P : Program) (e : TypeId) (he : P.underlying e = some (.int .i64)) : ElC Int where
  mk a := .int .i64 a
  dat a := .lit (.int .i64 a)
  ok a := (Lit.int .i64 a).wf = true
  R := plainElem P e
  of v hv := plainElem_int he hv
  inv x z h := by obtain ⟨a, h1, h2, h3⟩ := plainElem_int_inv he h; exact ⟨a, h1, h2, h3⟩
  inj u v h := by injection h with h; injection h
/-- elements of type bool -/
def boolE (P : Program) (e : TypeId) (he : P.underlying e = some .bool) : ElC Bool where
  mk a := .bool a
  dat a := .lit (.bool a)
  ok _ := True
  R := plainElem P e
  of v _ := plainElem_bool he v
  inv x z h := by
    unfold plainElem at h
    rw [he] at h
    cases x <;> simp at h
    exact ⟨_, rfl, h.symm, trivial⟩
  inj u v h := by injection h with h; injection h

/-- how an account stands: floor, balance, held -/
structure Ac where
  floor : Int
  bal : Int
  held : Int
def Ac.val (a : Ac) : Value := .agg #[.int .i64 a.floor, .int .i64 a.bal, .int .i64 a.held]
def Ac.dat (a : Ac) : DataW Unit := .agg [.lit (.int .i64 a.floor), .lit (.int .i64 a.bal), .lit (.int .i64 a.held)]
def acR : Value → Option (DataW Unit × List MemPlace)
  | .agg ⟨[.int .i64 f, .int .i64 b, .int .i64 h]⟩ => some ((Ac.mk f b h).dat, [])
  | _ => none
def acE : ElC Ac where
  mk := Ac.val
  dat := Ac.dat
  ok _ := True
  R := acR
  of v _ := rfl
  inv x z h := by
    unfold acR at h
    split at h
    · cases h; exact ⟨⟨_, _, _⟩, rfl, rfl, trivial⟩
    · cases h
  inj u v h := by
    obtain ⟨a, b, c⟩ := u
    obtain ⟨a', b', c'⟩ := v
    simp [Ac.dat] at h
    simp [h]
end Go.Proofs.YtbkffdfboloogaaGreatDoor
namespace Go.Proofs.YtbkffdfboloogaaGreatDoor
open Go.RowKit Go.Maps Go.Lib
set_option linter.unusedVariables false
set_option maxRecDepth 100000

instance decBA : DecidableEq ByteArray := fun a b => decidable_of_iff (a.data = b.data) ⟨fun h => ByteArray.ext h, fun h => by rw [h]⟩
/-- elements of type string -/
def strE (P : Program) (e : TypeId) (he : P.underlying e = some .string) : ElC ByteArray where
  mk a := .string a
  dat a := .lit (.string a.data.toList)
  ok a := a.size ≤ maxLen
  R := plainElem P e
  of v hv := plainElem_string he hv
  inv x z h := by obtain ⟨a, h1, h2, h3⟩ := plainElem_string_inv he h; exact ⟨a, h1, h2, h3⟩
  inj u v h := by
    injection h with h
    injection h with h
    exact ByteArray.ext (Array.toList_inj.1 h)
noncomputable def amtE : ElC Int := intE Tryz.prog 2 Tryz.underlying2
noncomputable def curC : KeyC Tryz.prog 9 ByteArray := strC Tryz.underlying9
noncomputable def txtE : ElC ByteArray := strE Tryz.prog 9 Tryz.underlying9
theorem zeroI64 (w : World) : (zeroValue 2).run Tryz.prog w = .ok (.int .i64 0) w := by kernel_rfl
theorem zeroStr (w : World) : (zeroValue 9).run Tryz.prog w = .ok (.string ⟨#[]⟩) w := by kernel_rfl
theorem i64_ok {a : Int} (h0 : -9223372036854775808 ≤ a) (h1 : a ≤ 9223372036854775807) : amtE.ok a := by
  show (Lit.int .i64 a).wf = true
  simp [Lit.wf, IntKind.min, IntKind.max, IntKind.signed, IntKind.bits]
  omega
section
variable (w : World) {ops : Array Oper} {rest : List Oper} {o : Oper} {a : Act} {Q : Exit → Act → World → Prop}
theorem wpList_next_cur (hg : o.guard = none) (it : Operand) (hop : o.op = Op.next it false) (b r n : Nat) (G : ByteArray → Option Int) (lf : ByteArray → Bool) (cnt : Nat)
    (hit : a.eval it = .pointer (some ⟨r, 0, none⟩)) (h : Rn' curC amtE w b r n G lf cnt)
    (hDone : (∀ x, x.size ≤ maxLen → lf x = false) → wpList Tryz.prog ops Q rest (a.put o.dst (.tuple #[.bool false])) w)
    (hMore : ∀ (x : ByteArray) (v : Int) (w' : World) (cnt' : Nat), x.size ≤ maxLen → lf x = true → G x = some v → Rn' curC amtE w' b r n G (fun z => lf z && !decide (z = x)) cnt' → cnt' < cnt →
      w.grownBy w' (some r) → w'.heap.size = w.heap.size → (Instr.entry (.pointer (some ⟨r, 0, none⟩))).run Tryz.prog w' = .ok (.tuple #[.string x, .int .i64 v]) w' → wpList Tryz.prog ops Q rest (a.put o.dst (.tuple #[.bool true, .string x, .int .i64 v])) w') :
    wpList Tryz.prog ops Q (o :: rest) a w :=
  wpList_next_mp w hg it hop b r n G lf cnt hit h hDone fun x v w' cnt' h1 h2 h3 _ h5 h6 h7 h8 h9 => hMore x v w' cnt' h1 h2 h3 h5 h6 h7 h8 h9
end
end Go.Proofs.YtbkffdfboloogaaGreatDoor
