/- The ledger's keys: a name and a currency. -/
import Derived.Test.YtooeelaobmhifaaDoorAName
namespace Go.Proofs.YtooeelaobmhifaaDoor
open Go.RowKit Go.Maps
set_option linter.unusedVariables false
set_option maxRecDepth 100000

theorem laidOut : laidOutB Tryd.prog = true := by kernel_rfl
theorem rowNote : (66 : TypeId) < Tryd.prog.types.size := of_decide_eq_true (by kernel_rfl)
theorem wideNote : (match Tryd.prog.underlying 66 with | some (.array _ _) | some (.struct _) => true | _ => false) = true := by kernel_rfl
theorem lawNote : Keyed Tryd.prog 66 := Keyed.of_law (deep_law_laid laidOut (m := 2) (by omega) rowNote (by kernel_rfl) wideNote)
theorem cellsNote : Tryd.prog.cellsOf 66 = 2 := by kernel_rfl
theorem cellsStr : Tryd.prog.cellsOf 9 = 1 := by kernel_rfl
theorem keyNote : Tryd.prog.keyType 66 = true := by kernel_rfl

abbrev Nt := ByteArray × ByteArray
def nval (x : Nt) : Value := .agg #[.string x.1, .string x.2]
def nkey (x : Nt) : Lit := .string (keyBytes [.string x.1.data.toList, .string x.2.data.toList])
def Small (x : Nt) : Prop := x.1.size ≤ maxLen ∧ x.2.size ≤ maxLen

theorem keyLits_note (m : Nat) (a b : ByteArray) (ha : a.size ≤ maxLen) (hb : b.size ≤ maxLen) : Tryd.prog.keyLits (m + 2) 66 [.string a, .string b] = some [.string a.data.toList, .string b.data.toList] := by
  simp [Program.keyLits, Tryd.underlying66, cellsNote, Tryd.underlying9, cellsStr, ha, hb]
theorem sizeTypes : ∃ m, Tryd.prog.types.size + 1 = m + 2 := by
  have h : (66 : Nat) < Tryd.prog.types.size := rowNote
  exact ⟨Tryd.prog.types.size - 1, by omega⟩

theorem keyOf_note (x : Nt) (h : Small x) : keyOf Tryd.prog 66 (nval x) = some (nkey x) := by
  obtain ⟨m, hm⟩ := sizeTypes
  have hl := keyLits_note m x.1 x.2 h.1 h.2
  unfold keyOf
  rw [Tryd.underlying66]
  simp only [hm]
  simp [keyNote, nval, nkey, Value.formed, Tryd.underlying66, cellsNote, Value.cells, hl]

theorem keyLits_note_inv (m : Nat) (c0 c1 : Value) (ls : List Lit) (h : Tryd.prog.keyLits (m + 2) 66 [c0, c1] = some ls) : ∃ a b : ByteArray, c0 = .string a ∧ c1 = .string b ∧ a.size ≤ maxLen ∧ b.size ≤ maxLen := by
  have e0 : ∀ c ls', Tryd.prog.keyLits (m + 1) 9 [c] = some ls' → ∃ a : ByteArray, c = .string a ∧ a.size ≤ maxLen := by
    intro c ls' h
    cases c <;> simp [Program.keyLits, Tryd.underlying9] at h
    exact ⟨_, rfl, h.1⟩
  have e1 : Tryd.prog.keyLits (m + 2) 66 [c0, c1] = ((Tryd.prog.keyLits (m + 1) 9 [c0]).bind fun x => (Tryd.prog.keyLits (m + 1) 9 [c1]).bind fun y => some (x ++ y)) := by
    conv => lhs; unfold Program.keyLits
    simp only [Tryd.underlying66]
    generalize hk : Tryd.prog.keyLits (m + 1) = F
    simp [cellsNote, cellsStr]
    cases F 9 [c0] <;> simp
    cases F 9 [c1] <;> simp
  rw [e1] at h
  obtain ⟨l0, h0, h⟩ := Option.bind_eq_some_iff.1 h
  obtain ⟨l1, h1, _⟩ := Option.bind_eq_some_iff.1 h
  obtain ⟨a, rfl, ha⟩ := e0 _ _ h0
  obtain ⟨b, rfl, hb⟩ := e0 _ _ h1
  exact ⟨a, b, rfl, rfl, ha, hb⟩

theorem keyOf_note_inv {key : Value} {kl : Lit} (h : keyOf Tryd.prog 66 key = some kl) : ∃ x : Nt, key = nval x ∧ kl = nkey x ∧ Small x := by
  have h0 := h
  obtain ⟨m, hm⟩ := sizeTypes
  unfold keyOf at h
  rw [Tryd.underlying66] at h
  simp only [hm] at h
  split at h
  · rename_i hc
    simp only [Bool.and_eq_true] at hc
    have hf := hc.2
    cases key <;> simp [Value.formed, Tryd.underlying66, cellsNote] at hf
    rename_i cs
    obtain ⟨l⟩ := cs
    match l, hf with
    | [c0, c1], _ =>
      simp only [Value.cells] at h
      obtain ⟨ls, hls, _⟩ := Option.map_eq_some_iff.1 h
      obtain ⟨a, b, rfl, rfl, ha, hb⟩ := keyLits_note_inv m c0 c1 ls hls
      have h1 := keyOf_note (a, b) ⟨ha, hb⟩
      have h2 : keyOf Tryd.prog 66 (nval (a, b)) = some kl := h0
      rw [h1] at h2
      exact ⟨(a, b), rfl, (Option.some.inj h2).symm, ha, hb⟩
  · cases h

theorem nval_inj {x y : Nt} (h : nval x = nval y) : x = y := by
  obtain ⟨a, b⟩ := x
  obtain ⟨c, d⟩ := y
  simp only [nval] at h
  injection h with h
  simp at h
  simp [h]
theorem nkey_inj {x y : Nt} (hx : Small x) (hy : Small y) (h : nkey x = nkey y) : x = y :=
  nval_inj (lawNote.inj (keyOf_note x hx) (by rw [h]; exact keyOf_note y hy))


instance decBA : DecidableEq ByteArray := fun a b => decidable_of_iff (a.data = b.data) ⟨fun h => ByteArray.ext h, fun h => by rw [h]⟩
noncomputable def keyC : KeyC Tryd.prog 66 Nt where
  law := lawNote
  mk := nval
  lit := nkey
  ok := Small
  of := keyOf_note
  inv _ _ h := keyOf_note_inv h
  inj _ _ := nval_inj
theorem zeroAc (w : World) : (zeroValue 68).run Tryd.prog w = .ok (acE.mk ⟨0, 0, 0⟩) w := by kernel_rfl
theorem zeroI64 (w : World) : (zeroValue 2).run Tryd.prog w = .ok (.int .i64 0) w := by kernel_rfl
noncomputable def amtE : ElC Int := intE Tryd.prog 2 Tryd.underlying2
noncomputable def curC : KeyC Tryd.prog 9 ByteArray := strC Tryd.underlying9
end Go.Proofs.YtooeelaobmhifaaDoor
