/- The ledger's keys: a name and a currency. -/
import Derived.Test.YtooeelaobmhifaaGreatDoorAName
namespace Go.Proofs.YtooeelaobmhifaaGreatDoor
open Go.RowKit Go.Maps
set_option linter.unusedVariables false
set_option maxRecDepth 100000

theorem laidOut : laidOutB Tryz.prog = true := by kernel_rfl
theorem rowNote : (51 : TypeId) < Tryz.prog.types.size := of_decide_eq_true (by kernel_rfl)
theorem wideNote : (match Tryz.prog.underlying 51 with | some (.array _ _) | some (.struct _) => true | _ => false) = true := by kernel_rfl
theorem lawNote : Keyed Tryz.prog 51 := Keyed.of_law (deep_law_laid laidOut (m := 2) (by omega) rowNote (by kernel_rfl) wideNote)
theorem cellsNote : Tryz.prog.cellsOf 51 = 2 := by kernel_rfl
theorem cellsStr : Tryz.prog.cellsOf 9 = 1 := by kernel_rfl
theorem keyNote : Tryz.prog.keyType 51 = true := by kernel_rfl

abbrev Nt := ByteArray × ByteArray
def nval (x : Nt) : Value := .agg #[.string x.1, .string x.2]
def nkey (x : Nt) : Lit := .string (keyBytes [.string x.1.data.toList, .string x.2.data.toList])
def Small (x : Nt) : Prop := x.1.size ≤ maxLen ∧ x.2.size ≤ maxLen

theorem keyLits_note (m : Nat) (a b : ByteArray) (ha : a.size ≤ maxLen) (hb : b.size ≤ maxLen) : Tryz.prog.keyLits (m + 2) 51 [.string a, .string b] = some [.string a.data.toList, .string b.data.toList] := by
  simp [Program.keyLits, Tryz.underlying51, cellsNote, Tryz.underlying9, cellsStr, ha, hb]
theorem sizeTypes : ∃ m, Tryz.prog.types.size + 1 = m + 2 := by
  have h : (51 : Nat) < Tryz.prog.types.size := rowNote
  exact ⟨Tryz.prog.types.size - 1, by omega⟩

theorem keyOf_note (x : Nt) (h : Small x) : keyOf Tryz.prog 51 (nval x) = some (nkey x) := by
  obtain ⟨m, hm⟩ := sizeTypes
  have hl := keyLits_note m x.1 x.2 h.1 h.2
  unfold keyOf
  rw [Tryz.underlying51]
  simp only [hm]
  simp [keyNote, nval, nkey, Value.formed, Tryz.underlying51, cellsNote, Value.cells, hl]

theorem keyLits_note_inv (m : Nat) (c0 c1 : Value) (ls : List Lit) (h : Tryz.prog.keyLits (m + 2) 51 [c0, c1] = some ls) : ∃ a b : ByteArray, c0 = .string a ∧ c1 = .string b ∧ a.size ≤ maxLen ∧ b.size ≤ maxLen := by
  have e0 : ∀ c ls', Tryz.prog.keyLits (m + 1) 9 [c] = some ls' → ∃ a : ByteArray, c = .string a ∧ a.size ≤ maxLen := by
    intro c ls' h
    cases c <;> simp [Program.keyLits, Tryz.underlying9] at h
    exact ⟨_, rfl, h.1⟩
  have e1 : Tryz.prog.keyLits (m + 2) 51 [c0, c1] = ((Tryz.prog.keyLits (m + 1) 9 [c0]).bind fun x => (Tryz.prog.keyLits (m + 1) 9 [c1]).bind fun y => some (x ++ y)) := by
    conv => lhs; unfold Program.keyLits
    simp only [Tryz.underlying51]
    generalize hk : Tryz.prog.keyLits (m + 1) = F
    simp [cellsNote, cellsStr]
    cases F 9 [c0] <;> simp
    cases F 9 [c1] <;> simp
  rw [e1] at h
  obtain ⟨l0, h0, h⟩ := Option.bind_eq_some_iff.1 h
  obtain ⟨l1, h1, _⟩ := Option.bind_eq_some_iff.1 h
  obtain ⟨a, rfl, ha⟩ := e0 _ _ h0
  obtain ⟨b, rfl, hb⟩ := e0 _ _ h1
  exact ⟨a, b, rfl, rfl, ha, hb⟩

theorem keyOf_note_inv {key : Value} {kl : Lit} (h : keyOf Tryz.prog 51 key = some kl) : ∃ x : Nt, key = nval x ∧ kl = nkey x ∧ Small x := by
  have h0 := h
  obtain ⟨m, hm⟩ := sizeTypes
  unfold keyOf at h
  rw [Tryz.underlying51] at h
  simp only [hm] at h
  split at h
  · rename_i hc
    simp only [Bool.and_eq_true] at hc
    have hf := hc.2
    cases key <;> simp [Value.formed, Tryz.underlying51, cellsNote] at hf
    rename_i cs
    obtain ⟨l⟩ := cs
    match l, hf with
    | [c0, c1], _ =>
      simp only [Value.cells] at h
      obtain ⟨ls, hls, _⟩ := Option.map_eq_some_iff.1 h
      obtain ⟨a, b, rfl, rfl, ha, hb⟩ := keyLits_note_inv m c0 c1 ls hls
      have h1 := keyOf_note (a, b) ⟨ha, hb⟩
      have h2 : keyOf Tryz.prog 51 (nval (a, b)) = some kl := h0
      rw [h1] at h2
      exact ⟨(a, b), rfl, (Option.some.inj h2).symm, ha, hb⟩
  · cases h

theorem nval_inj {x y : Nt} (h : nval x = nval y) : x = y := by
  obtain ⟨a, b⟩ := x
  obtain ⟨c, d⟩ := y
  simp only [nval] at h
  injection h with h
  simp at h
  simp [h]
theorem nkey_inj {x y : Nt} (hx : Small x) (hy : Small y) (h : nkey x = nkey y) : x = y :=
  nval_inj (lawNote.inj (keyOf_note x hx) (by rw [h]; exact keyOf_note y hy))


instance decBA : DecidableEq ByteArray := fun a b => decidable_of_iff (a.data = b.data) ⟨fun h => ByteArray.ext h, fun h => by rw [h]⟩
noncomputable def keyC : KeyC Tryz.prog 51 Nt where
  law := lawNote
  mk := nval
  lit := nkey
  ok := Small
  of := keyOf_note
  inv _ _ h := keyOf_note_inv h
  inj _ _ := nval_inj
theorem zeroAc (w : World) : (zeroValue 53).run Tryz.prog w = .ok (acE.mk ⟨0, 0, 0⟩) w := by kernel_rfl
theorem zeroI64 (w : World) : (zeroValue 2).run Tryz.prog w = .ok (.int .i64 0) w := by kernel_rfl
noncomputable def amtE : ElC Int := intE Tryz.prog 2 Tryz.underlying2
noncomputable def curC : KeyC Tryz.prog 9 ByteArray := strC Tryz.underlying9
end Go.Proofs.YtooeelaobmhifaaGreatDoor
