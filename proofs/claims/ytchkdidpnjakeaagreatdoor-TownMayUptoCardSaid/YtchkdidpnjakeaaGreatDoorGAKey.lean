/- The ledger's keys: a name and a currency. The ledger's block; ledger.New. Ledger.Open, of an account that is not there yet. 'm[k] op= v' of a map that is said as a function: the entry is found, then written. Entries: their rows in memory, what they sum to for each account and each currency. -/
import Derived.Test.YtchkdidpnjakeaaGreatDoorGWReg
import Derived.Carry
import Derived.Deep.QuietTactic
import Derived.BigQuiet
import Derived.Test.YtchkdidpnjakeaaGreatDoorGGMap
import Derived.WideKeyEntry
namespace Go.Proofs.YtchkdidpnjakeaaGreatDoor.Led
open Go.RowKit Go.Maps
set_option linter.unusedVariables false
set_option maxRecDepth 100000

theorem rf0 : ((List.range' 0 60).all (rowFine Tryz.prog)) = true := by kernel_rfl
theorem rf1 : ((List.range' 60 60).all (rowFine Tryz.prog)) = true := by kernel_rfl
theorem rf2 : ((List.range' 120 60).all (rowFine Tryz.prog)) = true := by kernel_rfl
theorem rf3 : ((List.range' 180 60).all (rowFine Tryz.prog)) = true := by kernel_rfl
theorem rf4 : ((List.range' 240 60).all (rowFine Tryz.prog)) = true := by kernel_rfl
theorem rf5 : ((List.range' 300 60).all (rowFine Tryz.prog)) = true := by kernel_rfl
theorem rf6 : ((List.range' 360 60).all (rowFine Tryz.prog)) = true := by kernel_rfl
theorem rf7 : ((List.range' 420 60).all (rowFine Tryz.prog)) = true := by kernel_rfl
theorem rf8 : ((List.range' 480 60).all (rowFine Tryz.prog)) = true := by kernel_rfl
theorem rf9 : ((List.range' 540 60).all (rowFine Tryz.prog)) = true := by kernel_rfl
theorem rf10 : ((List.range' 600 60).all (rowFine Tryz.prog)) = true := by kernel_rfl
theorem rf11 : ((List.range' 660 24).all (rowFine Tryz.prog)) = true := by kernel_rfl
theorem rfG : Tryz.prog.globals.all (fun g => decide (g.type < Tryz.prog.types.size)) = true := by kernel_rfl
theorem rfP : Tryz.prog.funcs.all (fun f => f.params.all fun t => decide (t < Tryz.prog.types.size)) = true := by kernel_rfl
theorem rfN : Tryz.prog.types.size = 684 := by kernel_rfl
theorem laidOut : laidOutB Tryz.prog = true := by
  unfold laidOutB
  rw [rfG, rfP, rfN, List.range_eq_range', show List.range' 0 684 = List.range' 0 60 ++ (List.range' 60 60 ++ (List.range' 120 60 ++ (List.range' 180 60 ++ (List.range' 240 60 ++ (List.range' 300 60 ++ (List.range' 360 60 ++ (List.range' 420 60 ++ (List.range' 480 60 ++ (List.range' 540 60 ++ (List.range' 600 60 ++ List.range' 660 24)))))))))) from rfl]
  simp only [List.all_append, rf0, rf1, rf2, rf3, rf4, rf5, rf6, rf7, rf8, rf9, rf10, rf11, Bool.and_true]
theorem rowNote : (302 : TypeId) < Tryz.prog.types.size := of_decide_eq_true (by kernel_rfl)
theorem wideNote : (match Tryz.prog.underlying 302 with | some (.array _ _) | some (.struct _) => true | _ => false) = true := by kernel_rfl
theorem lawNote : Keyed Tryz.prog 302 := Keyed.of_law (deep_law_laid laidOut (m := 2) (by omega) rowNote (by kernel_rfl) wideNote)
theorem cellsNote : Tryz.prog.cellsOf 302 = 2 := by kernel_rfl
theorem cellsStr : Tryz.prog.cellsOf 9 = 1 := by kernel_rfl
theorem keyNote : Tryz.prog.keyType 302 = true := by kernel_rfl

abbrev Nt := ByteArray × ByteArray
def nval (x : Nt) : Value := .agg #[.string x.1, .string x.2]
def nkey (x : Nt) : Lit := .string (keyBytes [.string x.1.data.toList, .string x.2.data.toList])
def Small (x : Nt) : Prop := x.1.size ≤ maxLen ∧ x.2.size ≤ maxLen

theorem keyLits_note (m : Nat) (a b : ByteArray) (ha : a.size ≤ maxLen) (hb : b.size ≤ maxLen) : Tryz.prog.keyLits (m + 2) 302 [.string a, .string b] = some [.string a.data.toList, .string b.data.toList] := by
  simp [Program.keyLits, Tryz.underlying302, cellsNote, Tryz.underlying9, cellsStr, ha, hb]
theorem sizeTypes : ∃ m, Tryz.prog.types.size + 1 = m + 2 := by
  have h : (302 : Nat) < Tryz.prog.types.size := rowNote
  exact ⟨Tryz.prog.types.size - 1, by omega⟩

theorem keyOf_note (x : Nt) (h : Small x) : keyOf Tryz.prog 302 (nval x) = some (nkey x) := by
  obtain ⟨m, hm⟩ := sizeTypes
  have hl := keyLits_note m x.1 x.2 h.1 h.2
  unfold keyOf
  rw [Tryz.underlying302]
  simp only [hm]
  simp [keyNote, nval, nkey, Value.formed, Tryz.underlying302, cellsNote, Value.cells, hl]

theorem keyLits_note_inv (m : Nat) (c0 c1 : Value) (ls : List Lit) (h : Tryz.prog.keyLits (m + 2) 302 [c0, c1] = some ls) : ∃ a b : ByteArray, c0 = .string a ∧ c1 = .string b ∧ a.size ≤ maxLen ∧ b.size ≤ maxLen := by
  have e0 : ∀ c ls', Tryz.prog.keyLits (m + 1) 9 [c] = some ls' → ∃ a : ByteArray, c = .string a ∧ a.size ≤ maxLen := by
    intro c ls' h
    cases c <;> simp [Program.keyLits, Tryz.underlying9] at h
    exact ⟨_, rfl, h.1⟩
  have e1 : Tryz.prog.keyLits (m + 2) 302 [c0, c1] = ((Tryz.prog.keyLits (m + 1) 9 [c0]).bind fun x => (Tryz.prog.keyLits (m + 1) 9 [c1]).bind fun y => some (x ++ y)) := by
    conv => lhs; unfold Program.keyLits
    simp only [Tryz.underlying302]
    generalize hk : Tryz.prog.keyLits (m + 1) = F
    simp [cellsNote, cellsStr]
    cases F 9 [c0] <;> simp
    cases F 9 [c1] <;> simp
  rw [e1] at h
  obtain ⟨l0, h0, h⟩ := Option.bind_eq_some_iff.1 h
  obtain ⟨l1, h1, _⟩ := Option.bind_eq_some_iff.1 h
  obtain ⟨a, rfl, ha⟩ := e0 _ _ h0
  obtain ⟨b, rfl, hb⟩ := e0 _ _ h1
  exact ⟨a, b, rfl, rfl, ha, hb⟩

theorem keyOf_note_inv {key : Value} {kl : Lit} (h : keyOf Tryz.prog 302 key = some kl) : ∃ x : Nt, key = nval x ∧ kl = nkey x ∧ Small x := by
  have h0 := h
  obtain ⟨m, hm⟩ := sizeTypes
  unfold keyOf at h
  rw [Tryz.underlying302] at h
  simp only [hm] at h
  split at h
  · rename_i hc
    simp only [Bool.and_eq_true] at hc
    have hf := hc.2
    cases key <;> simp [Value.formed, Tryz.underlying302, cellsNote] at hf
    rename_i cs
    obtain ⟨l⟩ := cs
    match l, hf with
    | [c0, c1], _ =>
      simp only [Value.cells] at h
      obtain ⟨ls, hls, _⟩ := Option.map_eq_some_iff.1 h
      obtain ⟨a, b, rfl, rfl, ha, hb⟩ := keyLits_note_inv m c0 c1 ls hls
      have h1 := keyOf_note (a, b) ⟨ha, hb⟩
      have h2 : keyOf Tryz.prog 302 (nval (a, b)) = some kl := h0
      rw [h1] at h2
      exact ⟨(a, b), rfl, (Option.some.inj h2).symm, ha, hb⟩
  · cases h

theorem nval_inj {x y : Nt} (h : nval x = nval y) : x = y := by
  obtain ⟨a, b⟩ := x
  obtain ⟨c, d⟩ := y
  simp only [nval] at h
  injection h with h
  simp at h
  simp [h]
instance decBA : DecidableEq ByteArray := fun a b => decidable_of_iff (a.data = b.data) ⟨fun h => ByteArray.ext h, fun h => by rw [h]⟩
noncomputable def keyC : KeyC Tryz.prog 302 Nt where
  law := lawNote
  mk := nval
  lit := nkey
  ok := Small
  of := keyOf_note
  inv _ _ h := keyOf_note_inv h
  inj _ _ := nval_inj
theorem zeroAc (w : World) : (zeroValue 304).run Tryz.prog w = .ok (acE.mk ⟨0, 0, 0⟩) w := by kernel_rfl
theorem zeroI64 (w : World) : (zeroValue 2).run Tryz.prog w = .ok (.int .i64 0) w := by kernel_rfl
noncomputable def amtE : ElC Int := intE Tryz.prog 2 Tryz.underlying2
noncomputable def curC : KeyC Tryz.prog 9 ByteArray := strC Tryz.underlying9
end Go.Proofs.YtchkdidpnjakeaaGreatDoor.Led
namespace Go.Proofs.YtchkdidpnjakeaaGreatDoor.Led
open Go.RowKit Go.Maps Go.Lib
set_option linter.unusedVariables false
set_option maxRecDepth 100000

/-- block p is a ledger: its accounts, in map block b, hold what G says; pv: its posts; hv: its holds -/
structure Lg (w : World) (p b n : Nat) (G : Nt → Option Ac) (pv hv : Value) : Prop where
  cell : w.heap[p]? = some (.cells #[.map (some b), pv, hv] 267 (0, 0))
  acc : Mp keyC acE w b n G
section
variable {w w' : World} {p b n : Nat} {G : Nt → Option Ac} {pv hv : Value}
theorem Lg.plt (h : Lg w p b n G pv hv) : p < w.heap.size := (Array.getElem?_eq_some_iff.1 h.cell).1
theorem Lg.blt (h : Lg w p b n G pv hv) : b < w.heap.size := h.acc.lt
theorem Lg.ne (h : Lg w p b n G pv hv) : p ≠ b := h.acc.neCells h.cell
theorem Lg.kept (h : Lg w p b n G pv hv) {row : Option Nat} (hg : w.grownBy w' row) (hp : some p ≠ row) (hb : some b ≠ row) : Lg w' p b n G pv hv := ⟨(hg.block p h.plt hp).trans h.cell, h.acc.kept hg hb⟩
theorem Lg.below (h : Lg w p b n G pv hv) {B : Nat} (hg : Below B w w') (hp : p < B) (hb : b < B) : Lg w' p b n G pv hv := ⟨(hg.block p hp).trans h.cell, h.acc.below hg hb⟩
theorem Lg.alloc (h : Lg w p b n G pv hv) (o : Obj) : Lg (w.alloc o) p b n G pv hv := h.kept (World.grownBy_alloc w o none) (by simp) (by simp)
theorem Lg.drewN (h : Lg w p b n G pv hv) (m : Nat) : Lg (w.drewN m) p b n G pv hv := ⟨h.cell, h.acc⟩
theorem Lg.c0 (h : Lg w p b n G pv hv) : w.cell? ⟨p, 0, none⟩ = some (.map (some b)) := by have := h.cell; simp [World.cell?, this]
theorem Lg.c1 (h : Lg w p b n G pv hv) : w.cell? ⟨p, 1, none⟩ = some pv := by have := h.cell; simp [World.cell?, this]
end

set_option maxHeartbeats 400000 in
theorem new_any (s : ByteArray) (w : World) : Calls Tryz.prog 146 #[.string s] w fun e w' =>
    e = .returned (.pointer (some ⟨w.heap.size + 2, 0, none⟩)) ∧ Lg w' (w.heap.size + 2) w.heap.size 0 (fun _ => none) (.slice none 0 0) (.map (some (w.heap.size + 1))) ∧ Below w.heap.size w w' ∧ w'.heap.size = w.heap.size + 3 := by
  have hmm := @run_makeMap Tryz.prog
  go_enter Tryz.func146, Tryz.ntmps146
  go_wp2
  go_ret
  have h1 : (w.alloc (.map #[] 0)).heap.size = w.heap.size + 1 := by simp
  have h2 : ((w.alloc (.map #[] 0)).alloc (.map #[] 0)).heap.size = w.heap.size + 2 := by simp
  refine ⟨rfl, ⟨?_, ((Mp.made w).alloc _).alloc _⟩, (((Below.refl _ _).alloc (Nat.le_refl _) _).alloc (by rw [h1]; omega) _).alloc (by rw [h2]; omega) _, by simp⟩
  have := (MapKept.heap_alloc ((w.alloc (.map #[] 0)).alloc (.map #[] 0)) (.cells #[.map (some w.heap.size), .slice none 0 0, .map (some (w.heap.size + 1))] 267)).1
  rw [h2] at this
  exact this
end Go.Proofs.YtchkdidpnjakeaaGreatDoor.Led
namespace Go.Proofs.YtchkdidpnjakeaaGreatDoor.Led
open Go.RowKit Go.Maps Go.Lib
set_option linter.unusedVariables false
set_option maxRecDepth 100000

theorem below_drewN {B : Nat} {a w : World} (h : Below B a w) (n : Nat) : Below B a (w.drewN n) := ⟨h.os, h.tape, h.output, h.size, h.block⟩
theorem small_of {a c : ByteArray} (hN : GoodName a) (hC : GoodCur c) : Small (a, c) := ⟨by have := hN.le; unfold maxLen; simp; omega, by have := hC.len; unfold maxLen; simp; omega⟩
set_option maxHeartbeats 1000000 in
theorem open_new (a c : ByteArray) (f : Int) (w : World) (p b n : Nat) (G : Nt → Option Ac) (pv hv : Value) (hL : Lg w p b n G pv hv) (hN : GoodName a) (hC : GoodCur c) (hf0 : -1099511627776 ≤ f) (hf1 : f ≤ 0) (hG : G (a, c) = none) (hn : n < 4096) :
    Calls Tryz.prog 183 #[.pointer (some ⟨p, 0, none⟩), .string a, .string c, .int .i64 f] w fun e w' =>
      e = .returned (.int .i64 0) ∧ Lg w' p b (n + 1) (putG G (a, c) ⟨f, 0, 0⟩) pv hv ∧ w.grownBy w' (some b) := by
  have hx := small_of hN hC
  have hpl := hL.plt
  have hbl := hL.blt
  have hpb := hL.ne
  have hc0 := hL.c0
  go_enter Tryz.func183, Tryz.ntmps183
  go_wp2_with (first
    | (go_at_call 209; refine (isName_good _ _ hN).mono ?_; rintro e w' ⟨rfl, rfl⟩)
    | (go_at_call 210; refine (isCurrency_good _ _ hC).mono ?_; rintro e w' ⟨rfl, rfl⟩))
  have hL1 := hL.alloc (.cells #[.string a, .string c] 302)
  have hs1 : (w.alloc (.cells #[.string a, .string c] 302)).heap.size = w.heap.size + 1 := by simp
  have k0 : (w.alloc (.cells #[.string a, .string c] 302)).cell? ⟨w.heap.size, 0, none⟩ = some (.string a) := by simp
  have k1 : (w.alloc (.cells #[.string a, .string c] 302)).cell? ⟨w.heap.size, 1, none⟩ = some (.string c) := by simp
  have HB1 := Lib.hid ((Below.refl w.heap.size w).alloc (Nat.le_refl _) (.cells #[.string a, .string c] 302))
  generalize w.alloc (.cells #[.string a, .string c] 302) = W at *
  have cp := hL1.c0
  have hlk : (Instr.lookup 263 (.map (some b)) (.agg #[.string a, .string c]) true).run Tryz.prog W.drew = .ok (.tuple #[.agg #[.int .i64 0, .int .i64 0, .int .i64 0], .bool false]) W.drew := by
    have := (hL1.drewN 1).acc.look_ok Tryz.underlying263 (zeroAc _) trivial (x := (a, c)) hx
    rw [hG] at this
    exact this
  have hlk2 : (Instr.lookup 263 (.map (some b)) (.agg #[.string a, .string c]) true).run Tryz.prog (W.alloc (.cells #[.int .i64 0, .int .i64 0, .int .i64 0] 304)).drew = .ok (.tuple #[.agg #[.int .i64 0, .int .i64 0, .int .i64 0], .bool false]) (W.alloc (.cells #[.int .i64 0, .int .i64 0, .int .i64 0] 304)).drew := by
    have := ((hL1.alloc (.cells #[.int .i64 0, .int .i64 0, .int .i64 0] 304)).drewN 1).acc.look_ok Tryz.underlying263 (zeroAc _) trivial (x := (a, c)) hx
    rw [hG] at this
    exact this
  have HL := Lib.hid hL1
  clear hc0 hL1 hL
  have Hs1 := Lib.hid hs1
  have Hne : Hid (w.heap.size ≠ b) := Lib.hid (by omega)
  go_region
  all_goals
    clear hlk hlk2
    have hL2 := (HL.out.alloc (.cells #[.int .i64 0, .int .i64 0, .int .i64 0] 304)).drewN 1
    have HB2 := Lib.hid (below_drewN (HB1.out.alloc (B := w.heap.size) (by have := Hs1.out; omega) (.cells #[.int .i64 0, .int .i64 0, .int .i64 0] 304)) 1)
    have j0 : (W.alloc (.cells #[.int .i64 0, .int .i64 0, .int .i64 0] 304)).drew.cell? ⟨w.heap.size, 0, none⟩ = some (.string a) := Lib.cell?_alloc_some _ k0
    have j1 : (W.alloc (.cells #[.int .i64 0, .int .i64 0, .int .i64 0] 304)).drew.cell? ⟨w.heap.size, 1, none⟩ = some (.string c) := Lib.cell?_alloc_some _ k1
    have hsz : w.heap.size < (W.alloc (.cells #[.int .i64 0, .int .i64 0, .int .i64 0] 304)).drew.heap.size := by have := Hs1.out; simp; omega
    clear k0 k1 hs1 cp
    change Hid (Below w.heap.size w (W.alloc (.cells #[.int .i64 0, .int .i64 0, .int .i64 0] 304)).drew) at HB2
    change Lg (W.alloc (.cells #[.int .i64 0, .int .i64 0, .int .i64 0] 304)).drew p b n G pv hv at hL2
    generalize (W.alloc (.cells #[.int .i64 0, .int .i64 0, .int .i64 0] 304)).drew = V at *
    have Hsz := Lib.hid hsz
    clear hsz
    have cp := hL2.c0
    obtain ⟨m, hm, hln⟩ := hL2.acc.len Tryz.underlying263
    have hln' := hln 3
    have hnl := run_eql_map_nil (P := Tryz.prog) V 263 302 304 (some b) Tryz.underlying263
    obtain ⟨w2, hrun, hM2, ht2⟩ := (hL2.drewN 1).acc.store Tryz.underlying263 (by unfold maxLen; omega) (x := (a, c)) hx (v := ⟨f, 0, 0⟩) trivial
    have hrun' : (Instr.mapUpdate 263 (.map (some b)) (.agg #[.string a, .string c]) (.agg #[.int .i64 f, .int .i64 0, .int .i64 0])).run Tryz.prog V.drew = .ok () w2 := hrun
    have hg2 := ht2.grown
    have HL2 := Lib.hid (show Lg w2 p b (n + 1) (putG G (a, c) ⟨f, 0, 0⟩) pv hv from ⟨(hg2.block p hL2.plt (fun e => hpb (by injection e))).trans hL2.cell, hM2⟩)
    have HG2 := Lib.hid (show V.grownBy w2 (some b) from ⟨hg2.os, hg2.tape, hg2.output, hg2.size, hg2.block⟩)
    clear hrun hM2 ht2 hg2 hL2 hln
    go_wp2_with fail
    go_region
    all_goals
      go_wp2
      go_ret
      refine ⟨rfl, HL2.out, ?_⟩
      have h1 := HB2.out
      have h2 := HG2.out
      exact ⟨h2.os.trans h1.os, h2.tape.trans h1.tape, h2.output.trans h1.output, Nat.le_trans h1.size h2.size, fun i hi hne => (h2.block i (Nat.lt_of_lt_of_le hi h1.size) hne).trans (h1.block i hi)⟩
end Go.Proofs.YtchkdidpnjakeaaGreatDoor.Led
namespace Go.Proofs.YtchkdidpnjakeaaGreatDoor
open Go.RowKit Go.Maps Go.ChangeMaps Go.MapKept Go.WideElems Go.WideMaps
set_option linter.unusedVariables false

/-- finding an entry is storing what it holds -/
theorem entry_as_store {H : Type} {P : Program} {w : World} {t k e : TypeId} {R : Value → Option (DataW H × List MemPlace)} {b : Nat} {es : Array MapEntry} {clock : Nat} (K : KeyLaw P k) (ht : P.underlying t = some (.map k e)) {z : Value} (hz : ∀ u : World, (zeroValue e).run P u = .ok z u) (hb : w.heap[b]? = some (.map es clock)) (F : Fit P k R es clock)
    {key : Value} {kl : Lit} (hkey : keyOf P k key = some kl) : ∃ (v0 : Value) (st : Nat) (w2 : World), (Instr.mapEntry t (.map (some b)) key).run P w = .ok (.tuple #[v0, goInt st]) w2 ∧ (Instr.mapUpdate t (.map (some b)) key v0).run P w = .ok () w2 := by
  rcases K.find w hkey es.toList F.keys with ⟨h1, h2⟩ | ⟨j, e0, h1, h2, h3⟩
  · refine ⟨z, clock, setBlock w b (.map (es.push ⟨key, z, clock⟩) (clock + 1)), ?_, ?_⟩
    · simp [Instr.mapEntry, run_underlying ht, MapKept.run_getObj_map hb, K.check w false hkey, h1, hz, MapKept.run_setObj_map _ hb, Result.andThen, setBlock]
    · simp [Instr.mapUpdate, run_underlying ht, MapKept.run_getObj_map hb, K.check w false hkey, h1, MapKept.run_setObj_map _ hb, Result.andThen, setBlock]
  · have hj : es[j]? = some e0 := by simpa using h2
    have hsame : es.modify j (fun e => { e with key := key }) = es := by
      apply Array.ext'
      rw [Array.toList_modify, modify_eq_set _ _ _ _ h2]
      have : ({ e0 with key := key } : MapEntry) = e0 := by rw [← h3]
      rw [this]
      exact set_self _ _ _ h2
    have hsame2 : es.modify j (fun e => { e with key := key, val := e0.val }) = es := by
      apply Array.ext'
      rw [Array.toList_modify, modify_eq_set _ _ _ _ h2]
      have : ({ e0 with key := key, val := e0.val } : MapEntry) = e0 := by rw [← h3]
      rw [this]
      exact set_self _ _ _ h2
    refine ⟨e0.val, e0.born, setBlock w b (.map es clock), ?_, ?_⟩
    · simp [Instr.mapEntry, run_underlying ht, MapKept.run_getObj_map hb, K.check w false hkey, h1, hj, h3, K.stays w hkey, hsame, MapKept.run_setObj_map _ hb, Result.andThen, setBlock]
    · simp [Instr.mapUpdate, run_underlying ht, MapKept.run_getObj_map hb, K.check w false hkey, h1, hj, h3, K.stays w hkey, hsame2, MapKept.run_setObj_map _ hb, Result.andThen, setBlock]

theorem Mp.entry {P : Program} {k : TypeId} {α β : Type} {C : KeyC P k α} {E : ElC β} [DecidableEq α] {w : World} {b n : Nat} {G : α → Option β} (KL : KeyLaw P k) {t e : TypeId} (h : Mp C E w b n G) (ht : P.underlying t = some (.map k e))
    {z : β} (hz : ∀ u : World, (zeroValue e).run P u = .ok (E.mk z) u) (hzo : E.ok z) (hn : n < maxLen) {x : α} (hx : C.ok x) (hold : ∀ u, G x = some u → E.ok u) {v : β} (hv : E.ok v) :
    ∃ (v0 : Value) (st : Nat) (w2 w3 : World), (Instr.mapEntry t (.map (some b)) (C.mk x)).run P w = .ok (.tuple #[v0, .int .i64 (st : Nat)]) w2 ∧ (Instr.entryStore t (.map (some b)) (.int .i64 (st : Nat)) (E.mk v)).run P w2 = .ok () w3 ∧
      (Instr.lookup t (.map (some b)) (C.mk x) false).run P w2 = .ok (E.mk ((G x).getD z)) w2 ∧ Mp C E w3 b (n + 1) (putG G x v) ∧ w.mapTurned w3 b := by
  have h0 := h
  obtain ⟨w', hrun, hM, hT⟩ := h.store ht hn hx hv
  have hlk := h.look ht (hz w) hzo hx
  obtain ⟨D, ⟨es, clock, hb, F, hs, hD⟩, hR⟩ := h
  obtain ⟨v0, st, es1, clock1, hE, hcase, hS⟩ := entry_then_store KL ht hz hb F (C.of x hx)
  obtain ⟨es', clock', h1, h2⟩ := hS (setBlock w b (.map es1 clock1)) (E.mk v) (heap_setBlock_same hb _)
  rw [hrun] at h2
  injection h2 with _ h2
  have e1 : setBlock (setBlock w b (.map es1 clock1)) b (.map es' clock') = w' := by rw [h2]; simp [setBlock]
  obtain ⟨v1, st1, w2, g1, g2⟩ := entry_as_store KL ht hz hb F (C.of x hx)
  rw [hE] at g1
  injection g1 with g1 g3
  have hv1 : v0 = v1 := by simp at g1; exact g1.1
  have hv0 : v0 = E.mk ((G x).getD z) := by
    rcases hcase with ⟨e0, hm0, hk0, rfl⟩ | ⟨hno, rfl⟩
    · obtain ⟨y, hy⟩ := F.reads e0 hm0
      obtain ⟨d, hd, _⟩ := rd_val hy
      have hat := atKey_some KL F (C.of x hx) hm0 hk0 hd (E.dat z)
      obtain ⟨u, hu, hdu, _⟩ := E.inv _ _ hd
      rw [← hD, hR.at_ x hx, hdu] at hat
      rw [hu]
      cases hG : G x with
      | none => rw [hG] at hat; rw [← E.inj _ _ hat]; rfl
      | some c => rw [hG] at hat; rw [← E.inj _ _ hat]; rfl
    · have hat := atKey_none KL F (C.of x hx) hno .nil
      have hat2 := atKey_none KL F (C.of x hx) hno (.agg [])
      rw [← hD, hR.at_ x hx] at hat hat2
      cases hG : G x with
      | none => rfl
      | some c => rw [hG] at hat hat2; simp only at hat hat2; rw [hat] at hat2; cases hat2
  have hok : E.ok ((G x).getD z) := by
    cases hG : G x with
    | none => exact hzo
    | some c => exact hold c hG
  obtain ⟨w5, f1, f2, _⟩ := h0.store ht hn hx hok
  rw [← hv1, hv0, f1] at g2
  injection g2 with _ g2
  subst g2
  have hl2 := f2.look ht (hz w5) hzo hx
  rw [putG_same] at hl2
  refine ⟨v0, st, _, w', hE, by rw [← e1]; exact h1, ?_, hM, hT⟩
  rw [g3]
  exact hl2
end Go.Proofs.YtchkdidpnjakeaaGreatDoor
namespace Go.Proofs.YtchkdidpnjakeaaGreatDoor.Led
open Go.RowKit Go.Maps Go.Lib
set_option linter.unusedVariables false
set_option maxRecDepth 100000

structure Ent where
  acc : ByteArray
  cur : ByteArray
  n : Int
def Ent.key (e : Ent) : Nt := (e.acc, e.cur)
structure Ent.Fine (e : Ent) : Prop where
  acc : e.acc.size ≤ maxLen
  cur : e.cur.size ≤ maxLen
  lo : -1099511627776 ≤ e.n
  hi : e.n ≤ 1099511627776
theorem Ent.Fine.small {e : Ent} (h : e.Fine) : Small e.key := ⟨h.acc, h.cur⟩

/-- the slice's elements are the entries es, in blocks below B -/
def Re (w : World) (B : Nat) (A : Option Addr) (es : List Ent) : Prop :=
  0 < es.length → ∃ g off, A = some ⟨g, off, none⟩ ∧ g < B ∧ ∀ i e, es[i]? = some e → w.cell? ⟨g, off + i * 3, none⟩ = some (.string e.acc) ∧ w.cell? ⟨g, off + i * 3 + 1, none⟩ = some (.string e.cur) ∧ w.cell? ⟨g, off + i * 3 + 2, none⟩ = some (.int .i64 e.n)
section
variable {w w' : World} {B B' : Nat} {A : Option Addr} {T : List Ent}
theorem Re.keep (h : Re w B A T) (hk : ∀ p : Addr, p.block < B → w'.cell? p = w.cell? p) : Re w' B A T := fun hl => by
  obtain ⟨g, off, e, hg, hc⟩ := h hl
  exact ⟨g, off, e, hg, fun i x hx => ⟨(hk _ hg).trans (hc i x hx).1, (hk _ hg).trans (hc i x hx).2.1, (hk _ hg).trans (hc i x hx).2.2⟩⟩
theorem Re.more (h : Re w B A T) (hB : B ≤ B') : Re w B' A T := fun hl => by
  obtain ⟨g, off, e, hg, hc⟩ := h hl
  exact ⟨g, off, e, by omega, hc⟩
theorem Re.below (h : Re w B A T) (hb : Below B w w') : Re w' B A T := h.keep fun _ hp => hb.cell hp
theorem Re.at_ (h : Re w B A T) {k : Nat} (hk : k < T.length) : ∃ g off, A = some ⟨g, off, none⟩ ∧ g < B ∧ w.cell? ⟨g, off + k * 3, none⟩ = some (.string T[k].acc) ∧ w.cell? ⟨g, off + k * 3 + 1, none⟩ = some (.string T[k].cur) ∧ w.cell? ⟨g, off + k * 3 + 2, none⟩ = some (.int .i64 T[k].n) := by
  obtain ⟨g, off, e, hg, hc⟩ := h (by omega)
  have := hc k _ (List.getElem?_eq_getElem hk)
  exact ⟨g, off, e, hg, this.1, this.2.1, this.2.2⟩
end

/-- what entries sum to, by a key of theirs -/
theorem List.reverseRecOn' {α : Type} {motive : List α → Prop} (nil : motive []) (snoc : ∀ l a, motive l → motive (l ++ [a])) (l : List α) : motive l := by
  suffices h : ∀ l : List α, motive l.reverse by simpa using h l.reverse
  intro l
  induction l with
  | nil => exact nil
  | cons a l ih => rw [List.reverse_cons]; exact snoc _ _ ih
def sumBy {α : Type} [DecidableEq α] (key : Ent → α) (es : List Ent) : α → Option Int := es.foldl (fun G e => putG G (key e) ((G (key e)).getD 0 + e.n)) (fun _ => none)
section
variable {α : Type} [DecidableEq α] (key : Ent → α)
theorem sumBy_snoc (es : List Ent) (e : Ent) : sumBy key (es ++ [e]) = putG (sumBy key es) (key e) ((sumBy key es (key e)).getD 0 + e.n) := by simp [sumBy]
theorem sumBy_step (es : List Ent) (k : Nat) (h : k < es.length) : sumBy key (es.take (k + 1)) = putG (sumBy key (es.take k)) (key es[k]) ((sumBy key (es.take k) (key es[k])).getD 0 + es[k].n) := by
  rw [List.take_succ_eq_append_getElem h, sumBy_snoc]
theorem sumBy_bound : ∀ (es : List Ent), (∀ e ∈ es, e.Fine) → ∀ x, -(es.length * 1099511627776 : Int) ≤ (sumBy key es x).getD 0 ∧ (sumBy key es x).getD 0 ≤ (es.length * 1099511627776 : Int) := by
  intro es
  induction es using List.reverseRecOn' with
  | nil => intro _ x; simp [sumBy]
  | snoc es e ih =>
    intro h x
    have h1 := ih (fun y hy => h y (by simp [hy]))
    have he := h e (by simp)
    rw [sumBy_snoc]
    have l1 := he.lo
    have l2 := he.hi
    by_cases hx : x = key e
    · subst hx
      rw [putG_same]
      have := h1 (key e)
      simp only [List.length_append, List.length_singleton, Option.getD_some]
      omega
    · rw [putG_other _ _ hx]
      have := h1 x
      simp only [List.length_append, List.length_singleton]
      omega
end
end Go.Proofs.YtchkdidpnjakeaaGreatDoor.Led
