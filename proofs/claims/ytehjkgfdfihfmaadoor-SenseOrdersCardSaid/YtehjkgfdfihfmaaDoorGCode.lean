/- Codings: strings as keys; integers, bools and structs of integers as elements. -/
import Derived.Test.YtehjkgfdfihfmaaDoorGMap
import Derived.StringKeys
namespace Go.Proofs.YtehjkgfdfihfmaaDoor
open Go.RowKit Go.Maps
set_option linter.unusedVariables false

/-- the keys of type string -/
def strC {P : Program} {k : TypeId} (hk : P.underlying k = some .string) : KeyC P k ByteArray where
  law := string_keyed hk
  mk := .string
  lit s := .string s.data.toList
  ok s := s.size ≤ maxLen
  of s hs := WideMaps.keyOf_string_mk hk hs
  inv key kl h := by
    unfold keyOf at h
    rw [hk] at h
    simp only [mapKey, hk] at h
    cases key <;> simp at h
    exact ⟨_, rfl, h.2.symm, h.1⟩
  inj x y h := by injection h

/-- elements of type int64 -/
def intE (P : Program) (e : TypeId) (he : P.underlying e = some (.int .i64)) : ElC Int where
  mk a := .int .i64 a
  dat a := .lit (.int .i64 a)
  ok a := (Lit.int .i64 a).wf = true
  R := plainElem P e
  of v hv := plainElem_int he hv
  inv x z h := by obtain ⟨a, h1, h2, h3⟩ := plainElem_int_inv he h; exact ⟨a, h1, h2, h3⟩
  inj u v h := by injection h with h; injection h
/-- elements of type bool -/
def boolE (P : Program) (e : TypeId) (he : P.underlying e = some .bool) : ElC Bool where
  mk a := .bool a
  dat a := .lit (.bool a)
  ok _ := True
  R := plainElem P e
  of v _ := plainElem_bool he v
  inv x z h := by
    unfold plainElem at h
    rw [he] at h
    cases x <;> simp at h
    exact ⟨_, rfl, h.symm, trivial⟩
  inj u v h := by injection h with h; injection h

/-- how an account stands: floor, balance, held -/
structure Ac where
  floor : Int
  bal : Int
  held : Int
def Ac.val (a : Ac) : Value := .agg #[.int .i64 a.floor, .int .i64 a.bal, .int .i64 a.held]
def Ac.dat (a : Ac) : DataW Unit := .agg [.lit (.int .i64 a.floor), .lit (.int .i64 a.bal), .lit (.int .i64 a.held)]
def acR : Value → Option (DataW Unit × List MemPlace)
  | .agg ⟨[.int .i64 f, .int .i64 b, .int .i64 h]⟩ => some ((Ac.mk f b h).dat, [])
  | _ => none
def acE : ElC Ac where
  mk := Ac.val
  dat := Ac.dat
  ok _ := True
  R := acR
  of v _ := rfl
  inv x z h := by
    unfold acR at h
    split at h
    · cases h; exact ⟨⟨_, _, _⟩, rfl, rfl, trivial⟩
    · cases h
  inj u v h := by
    obtain ⟨a, b, c⟩ := u
    obtain ⟨a', b', c'⟩ := v
    simp [Ac.dat] at h
    simp [h]
end Go.Proofs.YtehjkgfdfihfmaaDoor
