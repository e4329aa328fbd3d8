/- The ledger's keys: a name and a currency. The ledger's block; ledger.New. Ledger.Open, of an account that is not there yet. -/
import Derived.Test.YtdinloecgaapaaaGreatDoorMGCode
import Derived.Carry
import Derived.Deep.QuietTactic
import Derived.BigQuiet
namespace Go.Proofs.YtdinloecgaapaaaGreatDoor
open Go.RowKit Go.Maps
set_option linter.unusedVariables false
set_option maxRecDepth 100000

theorem laidOut : laidOutB Tryz.prog = true := by kernel_rfl
theorem rowNote : (147 : TypeId) < Tryz.prog.types.size := of_decide_eq_true (by kernel_rfl)
theorem wideNote : (match Tryz.prog.underlying 147 with | some (.array _ _) | some (.struct _) => true | _ => false) = true := by kernel_rfl
theorem lawNote : Keyed Tryz.prog 147 := Keyed.of_law (deep_law_laid laidOut (m := 2) (by omega) rowNote (by kernel_rfl) wideNote)
theorem cellsNote : Tryz.prog.cellsOf 147 = 2 := by kernel_rfl
theorem cellsStr : Tryz.prog.cellsOf 9 = 1 := by kernel_rfl
theorem keyNote : Tryz.prog.keyType 147 = true := by kernel_rfl

abbrev Nt := ByteArray × ByteArray
def nval (x : Nt) : Value := .agg #[.string x.1, .string x.2]
def nkey (x : Nt) : Lit := .string (keyBytes [.string x.1.data.toList, .string x.2.data.toList])
def Small (x : Nt) : Prop := x.1.size ≤ maxLen ∧ x.2.size ≤ maxLen

theorem keyLits_note (m : Nat) (a b : ByteArray) (ha : a.size ≤ maxLen) (hb : b.size ≤ maxLen) : Tryz.prog.keyLits (m + 2) 147 [.string a, .string b] = some [.string a.data.toList, .string b.data.toList] := by
  simp [Program.keyLits, Tryz.underlying147, cellsNote, Tryz.underlying9, cellsStr, ha, hb]
theorem sizeTypes : ∃ m, Tryz.prog.types.size + 1 = m + 2 := by
  have h : (147 : Nat) < Tryz.prog.types.size := rowNote
  exact ⟨Tryz.prog.types.size - 1, by omega⟩

theorem keyOf_note (x : Nt) (h : Small x) : keyOf Tryz.prog 147 (nval x) = some (nkey x) := by
  obtain ⟨m, hm⟩ := sizeTypes
  have hl := keyLits_note m x.1 x.2 h.1 h.2
  unfold keyOf
  rw [Tryz.underlying147]
  simp only [hm]
  simp [keyNote, nval, nkey, Value.formed, Tryz.underlying147, cellsNote, Value.cells, hl]

theorem keyLits_note_inv (m : Nat) (c0 c1 : Value) (ls : List Lit) (h : Tryz.prog.keyLits (m + 2) 147 [c0, c1] = some ls) : ∃ a b : ByteArray, c0 = .string a ∧ c1 = .string b ∧ a.size ≤ maxLen ∧ b.size ≤ maxLen := by
  have e0 : ∀ c ls', Tryz.prog.keyLits (m + 1) 9 [c] = some ls' → ∃ a : ByteArray, c = .string a ∧ a.size ≤ maxLen := by
    intro c ls' h
    cases c <;> simp [Program.keyLits, Tryz.underlying9] at h
    exact ⟨_, rfl, h.1⟩
  have e1 : Tryz.prog.keyLits (m + 2) 147 [c0, c1] = ((Tryz.prog.keyLits (m + 1) 9 [c0]).bind fun x => (Tryz.prog.keyLits (m + 1) 9 [c1]).bind fun y => some (x ++ y)) := by
    conv => lhs; unfold Program.keyLits
    simp only [Tryz.underlying147]
    generalize hk : Tryz.prog.keyLits (m + 1) = F
    simp [cellsNote, cellsStr]
    cases F 9 [c0] <;> simp
    cases F 9 [c1] <;> simp
  rw [e1] at h
  obtain ⟨l0, h0, h⟩ := Option.bind_eq_some_iff.1 h
  obtain ⟨l1, h1, _⟩ := Option.bind_eq_some_iff.1 h
  obtain ⟨a, rfl, ha⟩ := e0 _ _ h0
  obtain ⟨b, rfl, hb⟩ := e0 _ _ h1
  exact ⟨a, b, rfl, rfl, ha, hb⟩

theorem keyOf_note_inv {key : Value} {kl : Lit} (h : keyOf Tryz.prog 147 key = some kl) : ∃ x : Nt, key = nval x ∧ kl = nkey x ∧ Small x := by
  have h0 := h
  obtain ⟨m, hm⟩ := sizeTypes
  unfold keyOf at h
  rw [Tryz.underlying147] at h
  simp only [hm] at h
  split at h
  · rename_i hc
    simp only [Bool.and_eq_true] at hc
    have hf := hc.2
    cases key <;> simp [Value.formed, Tryz.underlying147, cellsNote] at hf
    rename_i cs
    obtain ⟨l⟩ := cs
    match l, hf with
    | [c0, c1], _ =>
      simp only [Value.cells] at h
      obtain ⟨ls, hls, _⟩ := Option.map_eq_some_iff.1 h
      obtain ⟨a, b, rfl, rfl, ha, hb⟩ := keyLits_note_inv m c0 c1 ls hls
      have h1 := keyOf_note (a, b) ⟨ha, hb⟩
      have h2 : keyOf Tryz.prog 147 (nval (a, b)) = some kl := h0
      rw [h1] at h2
      exact ⟨(a, b), rfl, (Option.some.inj h2).symm, ha, hb⟩
  · cases h

theorem nval_inj {x y : Nt} (h : nval x = nval y) : x = y := by
  obtain ⟨a, b⟩ := x
  obtain ⟨c, d⟩ := y
  simp only [nval] at h
  injection h with h
  simp at h
  simp [h]
theorem nkey_inj {x y : Nt} (hx : Small x) (hy : Small y) (h : nkey x = nkey y) : x = y :=
  nval_inj (lawNote.inj (keyOf_note x hx) (by rw [h]; exact keyOf_note y hy))

instance decBA : DecidableEq ByteArray := fun a b => decidable_of_iff (a.data = b.data) ⟨fun h => ByteArray.ext h, fun h => by rw [h]⟩
noncomputable def keyC : KeyC Tryz.prog 147 Nt where
  law := lawNote
  mk := nval
  lit := nkey
  ok := Small
  of := keyOf_note
  inv _ _ h := keyOf_note_inv h
  inj _ _ := nval_inj
theorem zeroAc (w : World) : (zeroValue 149).run Tryz.prog w = .ok (acE.mk ⟨0, 0, 0⟩) w := by kernel_rfl
theorem zeroI64 (w : World) : (zeroValue 2).run Tryz.prog w = .ok (.int .i64 0) w := by kernel_rfl
noncomputable def amtE : ElC Int := intE Tryz.prog 2 Tryz.underlying2
noncomputable def curC : KeyC Tryz.prog 9 ByteArray := strC Tryz.underlying9
end Go.Proofs.YtdinloecgaapaaaGreatDoor
namespace Go.Proofs.YtdinloecgaapaaaGreatDoor
open Go.RowKit Go.Maps Go.Lib
set_option linter.unusedVariables false
set_option maxRecDepth 100000

/-- block p is a ledger: its accounts, in map block b, hold what G says; pv: its posts; hv: its holds -/
structure Lg (w : World) (p b n : Nat) (G : Nt → Option Ac) (pv hv : Value) : Prop where
  cell : w.heap[p]? = some (.cells #[.map (some b), pv, hv] 145 (0, 0))
  acc : Mp keyC acE w b n G
section
variable {w w' : World} {p b n : Nat} {G : Nt → Option Ac} {pv hv : Value}
theorem Lg.plt (h : Lg w p b n G pv hv) : p < w.heap.size := (Array.getElem?_eq_some_iff.1 h.cell).1
theorem Lg.blt (h : Lg w p b n G pv hv) : b < w.heap.size := h.acc.lt
theorem Lg.ne (h : Lg w p b n G pv hv) : p ≠ b := h.acc.neCells h.cell
theorem Lg.kept (h : Lg w p b n G pv hv) {row : Option Nat} (hg : w.grownBy w' row) (hp : some p ≠ row) (hb : some b ≠ row) : Lg w' p b n G pv hv := ⟨(hg.block p h.plt hp).trans h.cell, h.acc.kept hg hb⟩
theorem Lg.below (h : Lg w p b n G pv hv) {B : Nat} (hg : Below B w w') (hp : p < B) (hb : b < B) : Lg w' p b n G pv hv := ⟨(hg.block p hp).trans h.cell, h.acc.below hg hb⟩
theorem Lg.alloc (h : Lg w p b n G pv hv) (o : Obj) : Lg (w.alloc o) p b n G pv hv := h.kept (World.grownBy_alloc w o none) (by simp) (by simp)
theorem Lg.drewN (h : Lg w p b n G pv hv) (m : Nat) : Lg (w.drewN m) p b n G pv hv := ⟨h.cell, h.acc⟩
theorem Lg.c0 (h : Lg w p b n G pv hv) : w.cell? ⟨p, 0, none⟩ = some (.map (some b)) := by have := h.cell; simp [World.cell?, this]
theorem Lg.c1 (h : Lg w p b n G pv hv) : w.cell? ⟨p, 1, none⟩ = some pv := by have := h.cell; simp [World.cell?, this]
theorem Lg.c2 (h : Lg w p b n G pv hv) : w.cell? ⟨p, 2, none⟩ = some hv := by have := h.cell; simp [World.cell?, this]
end

set_option maxHeartbeats 400000 in
theorem new_any (s : ByteArray) (w : World) : Calls Tryz.prog 44 #[.string s] w fun e w' =>
    e = .returned (.pointer (some ⟨w.heap.size + 2, 0, none⟩)) ∧ Lg w' (w.heap.size + 2) w.heap.size 0 (fun _ => none) (.slice none 0 0) (.map (some (w.heap.size + 1))) ∧ Below w.heap.size w w' ∧ w'.heap.size = w.heap.size + 3 := by
  have hmm := @run_makeMap Tryz.prog
  go_enter Tryz.func44, Tryz.ntmps44
  go_wp2
  go_ret
  have h1 : (w.alloc (.map #[] 0)).heap.size = w.heap.size + 1 := by simp
  have h2 : ((w.alloc (.map #[] 0)).alloc (.map #[] 0)).heap.size = w.heap.size + 2 := by simp
  refine ⟨rfl, ⟨?_, ((Mp.made w).alloc _).alloc _⟩, (((Below.refl _ _).alloc (Nat.le_refl _) _).alloc (by rw [h1]; omega) _).alloc (by rw [h2]; omega) _, by simp⟩
  have := (MapKept.heap_alloc ((w.alloc (.map #[] 0)).alloc (.map #[] 0)) (.cells #[.map (some w.heap.size), .slice none 0 0, .map (some (w.heap.size + 1))] 145)).1
  rw [h2] at this
  exact this
end Go.Proofs.YtdinloecgaapaaaGreatDoor
namespace Go.Proofs.YtdinloecgaapaaaGreatDoor
open Go.RowKit Go.Maps Go.Lib
set_option linter.unusedVariables false
set_option maxRecDepth 100000

theorem below_drewN {B : Nat} {a w : World} (h : Below B a w) (n : Nat) : Below B a (w.drewN n) := ⟨h.os, h.tape, h.output, h.size, h.block⟩
theorem small_of {a c : ByteArray} (hN : GoodName a) (hC : GoodCur c) : Small (a, c) := ⟨by have := hN.le; unfold maxLen; simp; omega, by have := hC.len; unfold maxLen; simp; omega⟩
def keyObj (a c : ByteArray) : Obj := .cells #[.string a, .string c] 147
def acObj (x y z : Int) : Obj := .cells #[.int .i64 x, .int .i64 y, .int .i64 z] 149

set_option maxHeartbeats 1000000 in
theorem open_new (a c : ByteArray) (f : Int) (w : World) (p b n : Nat) (G : Nt → Option Ac) (pv hv : Value) (hL : Lg w p b n G pv hv) (hN : GoodName a) (hC : GoodCur c) (hf0 : -1099511627776 ≤ f) (hf1 : f ≤ 0) (hG : G (a, c) = none) (hn : n < 4096) :
    Calls Tryz.prog 45 #[.pointer (some ⟨p, 0, none⟩), .string a, .string c, .int .i64 f] w fun e w' =>
      e = .returned (.int .i64 0) ∧ Lg w' p b (n + 1) (putG G (a, c) ⟨f, 0, 0⟩) pv hv ∧ w.grownBy w' (some b) := by
  have hx := small_of hN hC
  have hpl := hL.plt
  have hbl := hL.blt
  have hpb := hL.ne
  have hc0 := hL.c0
  go_enter Tryz.func45, Tryz.ntmps45
  go_wp2_with (first
    | (go_at_call 70; refine (isName_good _ _ hN).mono ?_; rintro e w' ⟨rfl, rfl⟩)
    | (go_at_call 71; refine (isCurrency_good _ _ hC).mono ?_; rintro e w' ⟨rfl, rfl⟩))
  have hL1 := hL.alloc (.cells #[.string a, .string c] 147)
  have hs1 : (w.alloc (.cells #[.string a, .string c] 147)).heap.size = w.heap.size + 1 := by simp
  have k0 : (w.alloc (.cells #[.string a, .string c] 147)).cell? ⟨w.heap.size, 0, none⟩ = some (.string a) := by simp
  have k1 : (w.alloc (.cells #[.string a, .string c] 147)).cell? ⟨w.heap.size, 1, none⟩ = some (.string c) := by simp
  have HB1 := Lib.hid ((Below.refl w.heap.size w).alloc (Nat.le_refl _) (.cells #[.string a, .string c] 147))
  generalize w.alloc (.cells #[.string a, .string c] 147) = W at *
  have cp := hL1.c0
  have hlk : (Instr.lookup 141 (.map (some b)) (.agg #[.string a, .string c]) true).run Tryz.prog W.drew = .ok (.tuple #[.agg #[.int .i64 0, .int .i64 0, .int .i64 0], .bool false]) W.drew := by
    have := (hL1.drewN 1).acc.look_ok Tryz.underlying141 (zeroAc _) trivial (x := (a, c)) hx
    rw [hG] at this
    exact this
  have hlk2 : (Instr.lookup 141 (.map (some b)) (.agg #[.string a, .string c]) true).run Tryz.prog (W.alloc (.cells #[.int .i64 0, .int .i64 0, .int .i64 0] 149)).drew = .ok (.tuple #[.agg #[.int .i64 0, .int .i64 0, .int .i64 0], .bool false]) (W.alloc (.cells #[.int .i64 0, .int .i64 0, .int .i64 0] 149)).drew := by
    have := ((hL1.alloc (.cells #[.int .i64 0, .int .i64 0, .int .i64 0] 149)).drewN 1).acc.look_ok Tryz.underlying141 (zeroAc _) trivial (x := (a, c)) hx
    rw [hG] at this
    exact this
  have HL := Lib.hid hL1
  clear hc0 hL1 hL
  have Hs1 := Lib.hid hs1
  have Hne : Hid (w.heap.size ≠ b) := Lib.hid (by omega)
  go_region
  all_goals
    clear hlk hlk2
    have hL2 := (HL.out.alloc (.cells #[.int .i64 0, .int .i64 0, .int .i64 0] 149)).drewN 1
    have HB2 := Lib.hid (below_drewN (HB1.out.alloc (B := w.heap.size) (by have := Hs1.out; omega) (.cells #[.int .i64 0, .int .i64 0, .int .i64 0] 149)) 1)
    have j0 : (W.alloc (.cells #[.int .i64 0, .int .i64 0, .int .i64 0] 149)).drew.cell? ⟨w.heap.size, 0, none⟩ = some (.string a) := Lib.cell?_alloc_some _ k0
    have j1 : (W.alloc (.cells #[.int .i64 0, .int .i64 0, .int .i64 0] 149)).drew.cell? ⟨w.heap.size, 1, none⟩ = some (.string c) := Lib.cell?_alloc_some _ k1
    have hsz : w.heap.size < (W.alloc (.cells #[.int .i64 0, .int .i64 0, .int .i64 0] 149)).drew.heap.size := by have := Hs1.out; simp; omega
    clear k0 k1 hs1 cp
    change Hid (Below w.heap.size w (W.alloc (.cells #[.int .i64 0, .int .i64 0, .int .i64 0] 149)).drew) at HB2
    change Lg (W.alloc (.cells #[.int .i64 0, .int .i64 0, .int .i64 0] 149)).drew p b n G pv hv at hL2
    generalize (W.alloc (.cells #[.int .i64 0, .int .i64 0, .int .i64 0] 149)).drew = V at *
    have Hsz := Lib.hid hsz
    clear hsz
    have cp := hL2.c0
    obtain ⟨m, hm, hln⟩ := hL2.acc.len Tryz.underlying141
    have hln' := hln 3
    have hnl := run_eql_map_nil (P := Tryz.prog) V 141 147 149 (some b) Tryz.underlying141
    obtain ⟨w2, hrun, hM2, ht2⟩ := (hL2.drewN 1).acc.store Tryz.underlying141 (by unfold maxLen; omega) (x := (a, c)) hx (v := ⟨f, 0, 0⟩) trivial
    have hrun' : (Instr.mapUpdate 141 (.map (some b)) (.agg #[.string a, .string c]) (.agg #[.int .i64 f, .int .i64 0, .int .i64 0])).run Tryz.prog V.drew = .ok () w2 := hrun
    have hg2 := ht2.grown
    have HL2 := Lib.hid (show Lg w2 p b (n + 1) (putG G (a, c) ⟨f, 0, 0⟩) pv hv from ⟨(hg2.block p hL2.plt (fun e => hpb (by injection e))).trans hL2.cell, hM2⟩)
    have HG2 := Lib.hid (show V.grownBy w2 (some b) from ⟨hg2.os, hg2.tape, hg2.output, hg2.size, hg2.block⟩)
    clear hrun hM2 ht2 hg2 hL2 hln
    go_wp2_with fail
    go_region
    all_goals
      go_wp2
      go_ret
      refine ⟨rfl, HL2.out, ?_⟩
      have h1 := HB2.out
      have h2 := HG2.out
      exact ⟨h2.os.trans h1.os, h2.tape.trans h1.tape, h2.output.trans h1.output, Nat.le_trans h1.size h2.size, fun i hi hne => (h2.block i (Nat.lt_of_lt_of_le hi h1.size) hne).trans (h1.block i hi)⟩
end Go.Proofs.YtdinloecgaapaaaGreatDoor
