/- sense.Check's maps: faults as keys, numbers as keys. -/
import Derived.Test.YtbkffdfboloogaaGreatDoorMZ
import Derived.Test.YtbkffdfboloogaaGreatDoorMB
import Derived.WideKeyEntry
import Derived.DeepKeys4
namespace Go.Proofs.YtbkffdfboloogaaGreatDoor
open Go.RowKit Go.Maps Go.Lib
set_option linter.unusedVariables false
set_option maxRecDepth 100000

theorem laidOutK : laidOutB Tryz.prog = true := by kernel_rfl
theorem rowFault : (52 : TypeId) < Tryz.prog.types.size := of_decide_eq_true (by kernel_rfl)
theorem wideFault : (match Tryz.prog.underlying 52 with | some (.array _ _) | some (.struct _) => true | _ => false) = true := by kernel_rfl
theorem lawFault : Keyed Tryz.prog 52 := Keyed.of_law (deep_law_laid laidOutK (m := 4) (by omega) rowFault (by kernel_rfl) wideFault)
theorem cellsFault : Tryz.prog.cellsOf 52 = 4 := by kernel_rfl
theorem cellsStrK : Tryz.prog.cellsOf 9 = 1 := by kernel_rfl
theorem cellsIntK : Tryz.prog.cellsOf 3 = 1 := by kernel_rfl
theorem keyFault : Tryz.prog.keyType 52 = true := by kernel_rfl

/-- a fault: paper, kind, field, why -/
abbrev Ft := Int × Int × ByteArray × Int
def fcs (x : Ft) : Array Value := #[.int .i64 x.1, .int .i64 x.2.1, .string x.2.2.1, .int .i64 x.2.2.2]
def fval (x : Ft) : Value := .agg #[.int .i64 x.1, .int .i64 x.2.1, .string x.2.2.1, .int .i64 x.2.2.2]
def fkey (x : Ft) : Lit := .string (keyBytes [.int .i64 x.1, .int .i64 x.2.1, .string x.2.2.1.data.toList, .int .i64 x.2.2.2])
def FtOk (x : Ft) : Prop := (Lit.int .i64 x.1).wf = true ∧ (Lit.int .i64 x.2.1).wf = true ∧ x.2.2.1.size ≤ maxLen ∧ (Lit.int .i64 x.2.2.2).wf = true
theorem wfK {a : Int} (h0 : -9223372036854775808 ≤ a) (h1 : a ≤ 9223372036854775807) : (Lit.int .i64 a).wf = true := by
  simp [Lit.wf, IntKind.min, IntKind.max, IntKind.signed, IntKind.bits]
  omega

theorem keyLits_int (m : Nat) (a : Int) (ha : (Lit.int .i64 a).wf = true) : Tryz.prog.keyLits (m + 1) 3 [.int .i64 a] = some [.int .i64 a] := by
  simp [Program.keyLits, Tryz.underlying3, ha]
theorem keyLits_str (m : Nat) (a : ByteArray) (ha : a.size ≤ maxLen) : Tryz.prog.keyLits (m + 1) 9 [.string a] = some [.string a.data.toList] := by
  simp [Program.keyLits, Tryz.underlying9, ha]
theorem keyLits_eq (m : Nat) (c0 c1 c2 c3 : Value) : Tryz.prog.keyLits (m + 2) 52 [c0, c1, c2, c3] = ((Tryz.prog.keyLits (m + 1) 3 [c0]).bind fun x => (Tryz.prog.keyLits (m + 1) 3 [c1]).bind fun y => (Tryz.prog.keyLits (m + 1) 9 [c2]).bind fun z => (Tryz.prog.keyLits (m + 1) 3 [c3]).bind fun u => some (x ++ (y ++ (z ++ u)))) := by
  conv => lhs; unfold Program.keyLits
  simp only [Tryz.underlying52]
  generalize hk : Tryz.prog.keyLits (m + 1) = F
  simp [cellsFault, cellsStrK, cellsIntK]
  cases F 3 [c0] <;> simp
  cases F 3 [c1] <;> simp
  cases F 9 [c2] <;> simp
  cases F 3 [c3] <;> simp
theorem keyLits_fault (m : Nat) (x : Ft) (h : FtOk x) : Tryz.prog.keyLits (m + 2) 52 [.int .i64 x.1, .int .i64 x.2.1, .string x.2.2.1, .int .i64 x.2.2.2] = some [.int .i64 x.1, .int .i64 x.2.1, .string x.2.2.1.data.toList, .int .i64 x.2.2.2] := by
  rw [keyLits_eq, keyLits_int m _ h.1, keyLits_int m _ h.2.1, keyLits_str m _ h.2.2.1, keyLits_int m _ h.2.2.2]
  rfl
theorem sizeTypesK : ∃ m, Tryz.prog.types.size + 1 = m + 2 := by
  have h : (52 : Nat) < Tryz.prog.types.size := rowFault
  exact ⟨Tryz.prog.types.size - 1, by omega⟩
theorem keyOf_fault (x : Ft) (h : FtOk x) : keyOf Tryz.prog 52 (fval x) = some (fkey x) := by
  obtain ⟨m, hm⟩ := sizeTypesK
  have hl := keyLits_fault m x h
  unfold keyOf
  rw [Tryz.underlying52]
  simp only [hm]
  simp [keyFault, fval, fkey, Value.formed, Tryz.underlying52, cellsFault, Value.cells, hl]
theorem keyLits_int_inv (m : Nat) (c : Value) (ls : List Lit) (h : Tryz.prog.keyLits (m + 1) 3 [c] = some ls) : ∃ a : Int, c = .int .i64 a ∧ (Lit.int .i64 a).wf = true := by
  cases c <;> simp [Program.keyLits, Tryz.underlying3] at h
  obtain ⟨⟨rfl, h2⟩, _⟩ := h
  exact ⟨_, rfl, h2⟩
theorem keyLits_str_inv (m : Nat) (c : Value) (ls : List Lit) (h : Tryz.prog.keyLits (m + 1) 9 [c] = some ls) : ∃ a : ByteArray, c = .string a ∧ a.size ≤ maxLen := by
  cases c <;> simp [Program.keyLits, Tryz.underlying9] at h
  exact ⟨_, rfl, h.1⟩
theorem keyOf_fault_inv {key : Value} {kl : Lit} (h : keyOf Tryz.prog 52 key = some kl) : ∃ x : Ft, key = fval x ∧ kl = fkey x ∧ FtOk x := by
  have h0 := h
  obtain ⟨m, hm⟩ := sizeTypesK
  unfold keyOf at h
  rw [Tryz.underlying52] at h
  simp only [hm] at h
  split at h
  · rename_i hc
    simp only [Bool.and_eq_true] at hc
    have hf := hc.2
    cases key <;> simp [Value.formed, Tryz.underlying52, cellsFault] at hf
    rename_i cs
    obtain ⟨l⟩ := cs
    match l, hf with
    | [c0, c1, c2, c3], _ =>
      simp only [Value.cells] at h
      obtain ⟨ls, hls, _⟩ := Option.map_eq_some_iff.1 h
      rw [keyLits_eq] at hls
      obtain ⟨l0, h0', hls⟩ := Option.bind_eq_some_iff.1 hls
      obtain ⟨l1, h1', hls⟩ := Option.bind_eq_some_iff.1 hls
      obtain ⟨l2, h2', hls⟩ := Option.bind_eq_some_iff.1 hls
      obtain ⟨l3, h3', hls⟩ := Option.bind_eq_some_iff.1 hls
      obtain ⟨a, rfl, ha⟩ := keyLits_int_inv m _ _ h0'
      obtain ⟨b, rfl, hb⟩ := keyLits_int_inv m _ _ h1'
      obtain ⟨c, rfl, hc'⟩ := keyLits_str_inv m _ _ h2'
      obtain ⟨d, rfl, hd⟩ := keyLits_int_inv m _ _ h3'
      have h1 := keyOf_fault (a, b, c, d) ⟨ha, hb, hc', hd⟩
      have h2 : keyOf Tryz.prog 52 (fval (a, b, c, d)) = some kl := h0
      rw [h1] at h2
      exact ⟨(a, b, c, d), rfl, (Option.some.inj h2).symm, ha, hb, hc', hd⟩
  · cases h
theorem fval_inj {x y : Ft} (h : fval x = fval y) : x = y := by
  obtain ⟨a, b, c, d⟩ := x
  obtain ⟨a', b', c', d'⟩ := y
  simp only [fval] at h
  injection h with h
  simp at h
  simp [h]
noncomputable def faultC : KeyC Tryz.prog 52 Ft where
  law := lawFault
  mk := fval
  lit := fkey
  ok := FtOk
  of := keyOf_fault
  inv _ _ h := keyOf_fault_inv h
  inj _ _ := fval_inj
/-- the keys of type int -/
noncomputable def numC : KeyC Tryz.prog 3 Int where
  law := int_keyed Tryz.underlying3
  mk a := .int .i64 a
  lit a := .int .i64 a
  ok a := (Lit.int .i64 a).wf = true
  of a ha := by
    unfold keyOf
    rw [Tryz.underlying3]
    simp only [mapKey, Tryz.underlying3]
    simp [ha]
  inv key kl h := by
    unfold keyOf at h
    rw [Tryz.underlying3] at h
    simp only [mapKey, Tryz.underlying3] at h
    cases key <;> simp at h
    obtain ⟨⟨rfl, h2⟩, h3⟩ := h
    exact ⟨_, rfl, h3.symm, h2⟩
  inj x y h := by injection h
noncomputable def yesE : ElC Bool := boolE Tryz.prog 4 Tryz.underlying4
theorem zeroBool (w : World) : (zeroValue 4).run Tryz.prog w = .ok (.bool false) w := by kernel_rfl
end Go.Proofs.YtbkffdfboloogaaGreatDoor
