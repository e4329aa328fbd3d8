/- town.dealMay: its closures. -/
import Derived.Test.YtchkdidpnjakeaaGreatDoorGMParT
import Derived.Shelf.Abstract
namespace Go.Proofs.YtchkdidpnjakeaaGreatDoor
open Go.RowKit Go.Maps Go.Lib
set_option linter.unusedVariables false
set_option maxRecDepth 100000

def isB (l : List Py) (s : ByteArray) (k : Int) : Bool := match parF l s with | some y => y.kd == k | none => false
theorem isB_iff {l : List Py} {s : ByteArray} {k : Int} : isB l s k = true ↔ IsK l s k := by
  unfold isB IsK
  cases parF l s with
  | none => simp
  | some y => simp
theorem isB_no {l : List Py} {s : ByteArray} {k : Int} (h : ¬ isB l s k = true) : ¬ IsK l s k := fun h2 => h (isB_iff.2 h2)
/-- a deal's texts are texts -/
def DlSz (d : Dl) : Prop := ∀ s ∈ [d.num, d.sel, d.buy, d.car, d.iss, d.hou, d.ins, d.frm, d.dst, d.cur], s.size ≤ maxLen
/-- what stands when a deal is asked of -/
structure DM (w : World) (bd bp bi mb n : Nat) (l : List Py) (d : Dl) (A : Option Addr) (c : Nat) : Prop where
  deal : w.heap[bd]? = some (.cells (dlA d A c) 72 (0, 0))
  par : w.heap[bp]? = some (.cells #[.map (some mb)] 66 (0, 0))
  is : w.heap[bi]? = some (.cells #[.func (.func 53) #[] #[.pointer (some ⟨bp, 0, none⟩)]] 117 (0, 0))
  map : Mp curC pyE w mb n (parF l)
section
variable {w w' : World} {bd bp bi mb n c : Nat} {l : List Py} {d : Dl} {A : Option Addr}
theorem DM.below (h : DM w bd bp bi mb n l d A c) (hb : Below w.heap.size w w') : DM w' bd bp bi mb n l d A c :=
  ⟨(hb.block _ (Array.getElem?_eq_some_iff.1 h.deal).1).trans h.deal, (hb.block _ (Array.getElem?_eq_some_iff.1 h.par).1).trans h.par, (hb.block _ (Array.getElem?_eq_some_iff.1 h.is).1).trans h.is, h.map.below hb h.map.lt⟩
theorem DM.cell (h : DM w bd bp bi mb n l d A c) (j : Nat) (v : Value) (hv : (dlA d A c)[j]? = some v) : w.cell? ⟨bd, j, none⟩ = some v := by
  simp only [World.cell?, h.deal]
  exact hv
theorem DM.pc (h : DM w bd bp bi mb n l d A c) : w.cell? ⟨bp, 0, none⟩ = some (.map (some mb)) := by simp [World.cell?, h.par]
theorem DM.ic (h : DM w bd bp bi mb n l d A c) : w.cell? ⟨bi, 0, none⟩ = some (.func (.func 53) #[] #[.pointer (some ⟨bp, 0, none⟩)]) := by simp [World.cell?, h.is]
theorem DM.look (h : DM w bd bp bi mb n l d A c) {s : ByteArray} (hs : s.size ≤ maxLen) : (Instr.lookup 66 (.map (some mb)) (.string s) true).run Tryz.prog w = .ok (.tuple #[Py.val ((parF l s).getD ⟨⟨#[]⟩, ⟨#[]⟩, 0⟩), .bool (parF l s).isSome]) w :=
  h.map.look_ok Tryz.underlying66 (zeroPy w) trivial hs
theorem DM.look1 (h : DM w bd bp bi mb n l d A c) {s : ByteArray} (hs : s.size ≤ maxLen) : (Instr.lookup 66 (.map (some mb)) (.string s) false).run Tryz.prog w = .ok (Py.val ((parF l s).getD ⟨⟨#[]⟩, ⟨#[]⟩, 0⟩)) w :=
  h.map.look Tryz.underlying66 (zeroPy w) trivial hs
theorem field_bkM (x y : ByteArray) (z : Int) (W : World) : (Instr.field 38 (.agg #[.string x, .string y, .int .i64 z]) 1).run Tryz.prog W = .ok (.string y) W := by kernel_rfl
theorem bankD (l : List Py) (s : ByteArray) : ((parF l s).getD ⟨⟨#[]⟩, ⟨#[]⟩, 0⟩).bk = bankF l s := by
  unfold bankF
  cases parF l s <;> rfl
set_option maxHeartbeats 2000000 in
theorem is_m (h : DM w bd bp bi mb n l d A c) (s : ByteArray) (k : Int) (hs : s.size ≤ maxLen) :
    Calls Tryz.prog 53 #[.string s, .int .i64 k, .pointer (some ⟨bp, 0, none⟩)] w fun e w' => e = .returned (.bool (isB l s k)) ∧ Below w.heap.size w w' := by
  have pc := h.pc
  have r1 := h.look hs
  clear h
  have HQ := Lib.hid (show isB l s k = match parF l s with | some y => y.kd == k | none => false from rfl)
  generalize isB l s k = q at *
  cases hp : parF l s with
  | none =>
    rw [hp] at r1 HQ
    have r2 : (Instr.lookup 66 (.map (some mb)) (.string s) true).run Tryz.prog w = .ok (.tuple #[.agg #[.string ⟨#[]⟩, .string ⟨#[]⟩, .int .i64 0], .bool false]) w := r1
    have HX : Hid (∀ v, (Ending.returned (.bool false) : Ending) = .returned (.bool q) ∧ Below w.heap.size w (w.alloc (.cells v 38))) := Lib.hid fun v => ⟨by rw [HQ.out], (Below.refl _ _).alloc (Nat.le_refl _) _⟩
    clear r1 HQ hp
    go_enter Tryz.func53, Tryz.ntmps53
    go_wp2_with fail
    first
      | exact HX.out _
      | (go_ret; exact HX.out _)
  | some y =>
    rw [hp] at r1 HQ
    have r2 : (Instr.lookup 66 (.map (some mb)) (.string s) true).run Tryz.prog w = .ok (.tuple #[.agg #[.string y.nm, .string y.bk, .int .i64 y.kd], .bool true]) w := r1
    have HX : Hid (∀ v, (Ending.returned (.bool (y.kd == k)) : Ending) = .returned (.bool q) ∧ Below w.heap.size w (w.alloc (.cells v 38))) := Lib.hid fun v => ⟨by rw [HQ.out], (Below.refl _ _).alloc (Nat.le_refl _) _⟩
    clear r1 HQ hp
    go_enter Tryz.func53, Tryz.ntmps53
    go_wp2_with fail
    first
      | exact HX.out _
      | (go_ret; exact HX.out _)
/-- what the closures ask -/
def DH (l : List Py) (d : Dl) : Nat → Prop
  | 0 => nmOk d.num ∧ d.num.size ≤ 13
  | 1 => d.sel ≠ d.buy ∧ IsK l d.sel 0 ∧ IsK l d.buy 0
  | 2 => IsK l d.car 1
  | 3 => IsK l d.iss 2 ∧ bankF l d.buy = d.iss
  | 4 => d.hou.size = 0 ∨ IsK l d.hou 3
  | 5 => d.ins.size = 0 ∨ IsK l d.ins 4
  | 6 => nmOk d.frm ∧ nmOk d.dst
  | 7 => curOk d.cur ∧ 1 ≤ d.amt ∧ d.amt ≤ 1073741824
  | 8 => 0 ≤ d.trm ∧ d.trm ≤ 7
  | 9 => (0 ≤ d.lat ∧ d.lat ≤ 1048576) ∧ d.lat ≤ d.exp ∧ d.exp ≤ 1048576
  | 10 => (0 ≤ d.ten ∧ d.ten ≤ 1000) ∧ 0 ≤ d.dut ∧ d.dut ≤ 1000
  | _ => True
theorem dh_all (h : ∀ j, j < 11 → DH l d j) : DealOk l d :=
  ⟨h 0 (by omega), h 1 (by omega), h 2 (by omega), h 3 (by omega), h 4 (by omega), h 5 (by omega), h 6 (by omega), h 7 (by omega), h 8 (by omega), ⟨(h 9 (by omega)).1.1, (h 9 (by omega)).2.1, (h 9 (by omega)).2.2⟩, ⟨(h 10 (by omega)).1.1, (h 10 (by omega)).1.2, (h 10 (by omega)).2⟩⟩
theorem dh_of (h : DealOk l d) : ∀ j, DH l d j := fun j => by
  match j with
  | 0 => exact h.num
  | 1 => exact h.who
  | 2 => exact h.car
  | 3 => exact h.iss
  | 4 => exact h.hou
  | 5 => exact h.ins
  | 6 => exact h.at_
  | 7 => exact h.price
  | 8 => exact h.trm
  | 9 => exact ⟨⟨h.days.1, by have := h.days; omega⟩, h.days.2⟩
  | 10 => exact ⟨⟨h.rest.1, h.rest.2.1⟩, h.rest.2.2⟩
  | n + 11 => exact trivial
set_option maxHeartbeats 2000000 in
theorem cl0_m (h : DM w bd bp bi mb n l d A c) (hz : DlSz d) : Calls Tryz.prog 54 #[.pointer (some ⟨bd, 0, none⟩)] w fun e w' => BoolQ (DH l d 0) w e w' := by
  have HN : Hid (¬ DH l d 0 → ∀ X, Below w.heap.size w X → BoolQ (DH l d 0) w (.returned (.bool false)) X) := Lib.hid fun h X hX => BoolQ.no h hX
  have HY : Hid (DH l d 0 → ∀ X, Below w.heap.size w X → BoolQ (DH l d 0) w (.returned (.bool true)) X) := Lib.hid fun h X hX => BoolQ.yes h hX
  generalize BoolQ (DH l d 0) w = CP at *
  have HD := Lib.hid (fun X (hX : Below w.heap.size w X) => h.below hX)
  have hzl : ∀ s ∈ [d.num, d.sel, d.buy, d.car, d.iss, d.hou, d.ins, d.frm, d.dst, d.cur], s.size ≤ maxLen := hz
  have e0 : w.cell? ⟨bd, 0, none⟩ = some (.string d.num) := h.cell 0 _ rfl
  have HC := Lib.hid (fun X => markName_any d.num X (hzl d.num (by simp)))
  clear h hz hzl
  by_cases h1 : nameB d.num.data.toList = true
  · rw [h1] at HC
    by_cases h2 : d.num.size ≤ 13
    · have b2 : decide ((d.num.size : Int) ≤ 13) = true := by simp; omega
      have HX := Lib.hid (HY.out ⟨h1, h2⟩ w (Below.refl _ _))
      clear HN HY
      go_enter Tryz.func54, Tryz.ntmps54
      go_wp2_with (first
        | (go_at_call 52; (with_reducible refine (HC.out _).mono ?_); rintro e w' ⟨rfl, h⟩; subst h)
        | fail)
      first
        | exact HX.out
        | (go_ret; exact HX.out)
    · have b2 : decide ((d.num.size : Int) ≤ 13) = false := by simp; omega
      have HX := Lib.hid (HN.out (fun h => h2 h.2) w (Below.refl _ _))
      clear HN HY
      go_enter Tryz.func54, Tryz.ntmps54
      go_wp2_with (first
        | (go_at_call 52; (with_reducible refine (HC.out _).mono ?_); rintro e w' ⟨rfl, h⟩; subst h)
        | fail)
      first
        | exact HX.out
        | (go_ret; exact HX.out)
  · rw [Bool.not_eq_true] at h1
    rw [h1] at HC
    have HX := Lib.hid (HN.out (fun h => by have := h.1; unfold nmOk at this; rw [h1] at this; cases this) w (Below.refl _ _))
    clear HN HY
    go_enter Tryz.func54, Tryz.ntmps54
    go_wp2_with (first
      | (go_at_call 52; (with_reducible refine (HC.out _).mono ?_); rintro e w' ⟨rfl, h⟩; subst h)
      | fail)
    first
      | exact HX.out
      | (go_ret; exact HX.out)
set_option maxHeartbeats 2000000 in
theorem cl1_m (h : DM w bd bp bi mb n l d A c) (hz : DlSz d) : Calls Tryz.prog 55 #[.pointer (some ⟨bd, 0, none⟩), .pointer (some ⟨bi, 0, none⟩)] w fun e w' => BoolQ (DH l d 1) w e w' := by
  have HN : Hid (¬ DH l d 1 → ∀ X, Below w.heap.size w X → BoolQ (DH l d 1) w (.returned (.bool false)) X) := Lib.hid fun h X hX => BoolQ.no h hX
  have HY : Hid (DH l d 1 → ∀ X, Below w.heap.size w X → BoolQ (DH l d 1) w (.returned (.bool true)) X) := Lib.hid fun h X hX => BoolQ.yes h hX
  generalize BoolQ (DH l d 1) w = CP at *
  have HD := Lib.hid (fun X (hX : Below w.heap.size w X) => h.below hX)
  have hzl : ∀ s ∈ [d.num, d.sel, d.buy, d.car, d.iss, d.hou, d.ins, d.frm, d.dst, d.cur], s.size ≤ maxLen := hz
  have e1 : w.cell? ⟨bd, 1, none⟩ = some (.string d.sel) := h.cell 1 _ rfl
  have e2 : w.cell? ⟨bd, 2, none⟩ = some (.string d.buy) := h.cell 2 _ rfl
  have ic := h.ic
  have HB := Lib.hid (Below.refl w.heap.size w)
  clear h hzl
  by_cases h1 : d.sel = d.buy
  · have b1 : (d.sel.toList != d.buy.toList) = false := by rw [h1]; simp
    have b1' : (d.sel.toList == d.buy.toList) = true := by rw [h1]; simp
    have HX := Lib.hid (HN.out (fun h => h.1 h1))
    clear HN HY h1
    go_enter Tryz.func55, Tryz.ntmps55
    go_wp2_with fail
    first
      | exact HX.out _ (by first | exact HB.out | exact Below.refl _ _)
      | (go_ret; exact HX.out _ (by first | exact HB.out | exact Below.refl _ _))
  · have b1' : (d.sel.toList == d.buy.toList) = false := by rw [ba_beq]; simp [h1]
    have b1 : (d.sel.toList != d.buy.toList) = true := by rw [bne, b1']; rfl
    have b1'' : ¬ d.sel.toList = d.buy.toList := by simpa using b1'
    cases h2 : isB l d.sel 0 with
    | false =>
      have HX := Lib.hid (HN.out (fun h => isB_no (by rw [h2]; simp) h.2.1))
      clear HN HY
      go_enter Tryz.func55, Tryz.ntmps55
      go_wp2_with fail
      refine (is_m (HD.out _ HB.out) d.sel 0 (hz _ (by simp))).mono ?_
      rintro e w2 ⟨rfl, hb⟩
      have HB2 := Lib.hid (HB.out.trans (hb.mono HB.out.size))
      clear hb HB
      have HB := HB2
      clear HB2
      rw [h2]
      go_wp2_with fail
      first
        | exact HX.out _ (by first | exact HB.out | exact Below.refl _ _)
        | (go_ret; exact HX.out _ (by first | exact HB.out | exact Below.refl _ _))
    | true =>
      cases h3 : isB l d.buy 0 with
      | false =>
        have HX := Lib.hid (HN.out (fun h => isB_no (by rw [h3]; simp) h.2.2))
        clear HN HY
        go_enter Tryz.func55, Tryz.ntmps55
        go_wp2_with fail
        refine (is_m (HD.out _ HB.out) d.sel 0 (hz _ (by simp))).mono ?_
        rintro e w2 ⟨rfl, hb⟩
        have HB2 := Lib.hid (HB.out.trans (hb.mono HB.out.size))
        clear hb HB
        have HB := HB2
        clear HB2
        rw [h2]
        clear ic e1 e2
        have ic := (HD.out _ HB.out).ic
        have e1 := (HD.out _ HB.out).cell 1 _ (show (dlA d A c)[1]? = some (.string d.sel) from rfl)
        have e2 := (HD.out _ HB.out).cell 2 _ (show (dlA d A c)[2]? = some (.string d.buy) from rfl)
        go_wp2_with fail
        refine (is_m (HD.out _ HB.out) d.buy 0 (hz _ (by simp))).mono ?_
        rintro e w2 ⟨rfl, hb⟩
        have HB2 := Lib.hid (HB.out.trans (hb.mono HB.out.size))
        clear hb HB
        have HB := HB2
        clear HB2
        rw [h3]
        go_wp2_with fail
        first
          | exact HX.out _ (by first | exact HB.out | exact Below.refl _ _)
          | (go_ret; exact HX.out _ (by first | exact HB.out | exact Below.refl _ _))
      | true =>
        have HX := Lib.hid (HY.out ⟨h1, isB_iff.1 h2, isB_iff.1 h3⟩)
        clear HN HY
        go_enter Tryz.func55, Tryz.ntmps55
        go_wp2_with fail
        refine (is_m (HD.out _ HB.out) d.sel 0 (hz _ (by simp))).mono ?_
        rintro e w2 ⟨rfl, hb⟩
        have HB2 := Lib.hid (HB.out.trans (hb.mono HB.out.size))
        clear hb HB
        have HB := HB2
        clear HB2
        rw [h2]
        clear ic e1 e2
        have ic := (HD.out _ HB.out).ic
        have e1 := (HD.out _ HB.out).cell 1 _ (show (dlA d A c)[1]? = some (.string d.sel) from rfl)
        have e2 := (HD.out _ HB.out).cell 2 _ (show (dlA d A c)[2]? = some (.string d.buy) from rfl)
        go_wp2_with fail
        refine (is_m (HD.out _ HB.out) d.buy 0 (hz _ (by simp))).mono ?_
        rintro e w2 ⟨rfl, hb⟩
        have HB2 := Lib.hid (HB.out.trans (hb.mono HB.out.size))
        clear hb HB
        have HB := HB2
        clear HB2
        rw [h3]
        go_wp2_with fail
        first
          | exact HX.out _ (by first | exact HB.out | exact Below.refl _ _)
          | (go_ret; exact HX.out _ (by first | exact HB.out | exact Below.refl _ _))
set_option maxHeartbeats 2000000 in
theorem cl2_m (h : DM w bd bp bi mb n l d A c) (hz : DlSz d) : Calls Tryz.prog 56 #[.pointer (some ⟨bi, 0, none⟩), .pointer (some ⟨bd, 0, none⟩)] w fun e w' => BoolQ (DH l d 2) w e w' := by
  have HN : Hid (¬ DH l d 2 → ∀ X, Below w.heap.size w X → BoolQ (DH l d 2) w (.returned (.bool false)) X) := Lib.hid fun h X hX => BoolQ.no h hX
  have HY : Hid (DH l d 2 → ∀ X, Below w.heap.size w X → BoolQ (DH l d 2) w (.returned (.bool true)) X) := Lib.hid fun h X hX => BoolQ.yes h hX
  generalize BoolQ (DH l d 2) w = CP at *
  have HD := Lib.hid (fun X (hX : Below w.heap.size w X) => h.below hX)
  have hzl : ∀ s ∈ [d.num, d.sel, d.buy, d.car, d.iss, d.hou, d.ins, d.frm, d.dst, d.cur], s.size ≤ maxLen := hz
  have e3 : w.cell? ⟨bd, 3, none⟩ = some (.string d.car) := h.cell 3 _ rfl
  have ic := h.ic
  have HB := Lib.hid (Below.refl w.heap.size w)
  clear h hzl
  cases h2 : isB l d.car 1 with
  | false =>
    have HX := Lib.hid (HN.out (fun h => isB_no (by rw [h2]; simp) h))
    clear HN HY
    go_enter Tryz.func56, Tryz.ntmps56
    go_wp2_with fail
    refine (is_m (HD.out _ HB.out) d.car 1 (hz _ (by simp))).mono ?_
    rintro e w2 ⟨rfl, hb⟩
    have HB2 := Lib.hid (HB.out.trans (hb.mono HB.out.size))
    clear hb HB
    have HB := HB2
    clear HB2
    rw [h2]
    go_wp2_with fail
    first
      | exact HX.out _ (by first | exact HB.out | exact Below.refl _ _)
      | (go_ret; exact HX.out _ (by first | exact HB.out | exact Below.refl _ _))
  | true =>
    have HX := Lib.hid (HY.out (isB_iff.1 h2))
    clear HN HY
    go_enter Tryz.func56, Tryz.ntmps56
    go_wp2_with fail
    refine (is_m (HD.out _ HB.out) d.car 1 (hz _ (by simp))).mono ?_
    rintro e w2 ⟨rfl, hb⟩
    have HB2 := Lib.hid (HB.out.trans (hb.mono HB.out.size))
    clear hb HB
    have HB := HB2
    clear HB2
    rw [h2]
    go_wp2_with fail
    first
      | exact HX.out _ (by first | exact HB.out | exact Below.refl _ _)
      | (go_ret; exact HX.out _ (by first | exact HB.out | exact Below.refl _ _))
set_option maxHeartbeats 2000000 in
theorem cl3_m (h : DM w bd bp bi mb n l d A c) (hz : DlSz d) : Calls Tryz.prog 57 #[.pointer (some ⟨bi, 0, none⟩), .pointer (some ⟨bd, 0, none⟩), .pointer (some ⟨bp, 0, none⟩)] w fun e w' => BoolQ (DH l d 3) w e w' := by
  have HN : Hid (¬ DH l d 3 → ∀ X, Below w.heap.size w X → BoolQ (DH l d 3) w (.returned (.bool false)) X) := Lib.hid fun h X hX => BoolQ.no h hX
  have HY : Hid (DH l d 3 → ∀ X, Below w.heap.size w X → BoolQ (DH l d 3) w (.returned (.bool true)) X) := Lib.hid fun h X hX => BoolQ.yes h hX
  generalize BoolQ (DH l d 3) w = CP at *
  have HD := Lib.hid (fun X (hX : Below w.heap.size w X) => h.below hX)
  have hzl : ∀ s ∈ [d.num, d.sel, d.buy, d.car, d.iss, d.hou, d.ins, d.frm, d.dst, d.cur], s.size ≤ maxLen := hz
  have e4 : w.cell? ⟨bd, 4, none⟩ = some (.string d.iss) := h.cell 4 _ rfl
  have e2 : w.cell? ⟨bd, 2, none⟩ = some (.string d.buy) := h.cell 2 _ rfl
  have ic := h.ic
  have HB := Lib.hid (Below.refl w.heap.size w)
  have pc := h.pc
  have hfd := fun W => field_bkM ((parF l d.buy).getD ⟨⟨#[]⟩, ⟨#[]⟩, 0⟩).nm (bankF l d.buy) ((parF l d.buy).getD ⟨⟨#[]⟩, ⟨#[]⟩, 0⟩).kd W
  have HL : Hid (∀ X, Below w.heap.size w X → (Instr.lookup 66 (.map (some mb)) (.string d.buy) false).run Tryz.prog X = .ok (.agg #[.string ((parF l d.buy).getD ⟨⟨#[]⟩, ⟨#[]⟩, 0⟩).nm, .string (bankF l d.buy), .int .i64 ((parF l d.buy).getD ⟨⟨#[]⟩, ⟨#[]⟩, 0⟩).kd]) X) := Lib.hid fun X hX => by
    rw [← bankD]
    exact (h.below hX).look1 (hz _ (by simp))
  clear h hzl
  cases h2 : isB l d.iss 2 with
  | false =>
    have HX := Lib.hid (HN.out (fun h => isB_no (by rw [h2]; simp) h.1))
    clear HN HY HL
    go_enter Tryz.func57, Tryz.ntmps57
    go_wp2_with fail
    refine (is_m (HD.out _ HB.out) d.iss 2 (hz _ (by simp))).mono ?_
    rintro e w2 ⟨rfl, hb⟩
    have HB2 := Lib.hid (HB.out.trans (hb.mono HB.out.size))
    clear hb HB
    have HB := HB2
    clear HB2
    rw [h2]
    go_wp2_with fail
    first
      | exact HX.out _ (by first | exact HB.out | exact Below.refl _ _)
      | (go_ret; exact HX.out _ (by first | exact HB.out | exact Below.refl _ _))
  | true =>
    by_cases h3 : bankF l d.buy = d.iss
    · have b3 : ((bankF l d.buy).toList == d.iss.toList) = true := by rw [h3]; simp
      have HX := Lib.hid (HY.out ⟨isB_iff.1 h2, h3⟩)
      clear HN HY h3
      go_enter Tryz.func57, Tryz.ntmps57
      go_wp2_with fail
      refine (is_m (HD.out _ HB.out) d.iss 2 (hz _ (by simp))).mono ?_
      rintro e w2 ⟨rfl, hb⟩
      have HB2 := Lib.hid (HB.out.trans (hb.mono HB.out.size))
      clear hb HB
      have HB := HB2
      clear HB2
      rw [h2]
      have r1 := HL.out _ HB.out
      have hf2 := hfd w2
      clear hfd
      clear HL pc
      have pc := (HD.out _ HB.out).pc
      clear ic e4 e2
      have ic := (HD.out _ HB.out).ic
      have e4 := (HD.out _ HB.out).cell 4 _ (show (dlA d A c)[4]? = some (.string d.iss) from rfl)
      have e2 := (HD.out _ HB.out).cell 2 _ (show (dlA d A c)[2]? = some (.string d.buy) from rfl)
      generalize bankF l d.buy = bf at *
      go_wp2_with fail
      first
        | exact HX.out _ (by first | exact HB.out | exact Below.refl _ _)
        | (go_ret; exact HX.out _ (by first | exact HB.out | exact Below.refl _ _))
    · have b3 : ((bankF l d.buy).toList == d.iss.toList) = false := by rw [ba_beq]; simp [h3]
      have HX := Lib.hid (HN.out (fun h => h3 h.2))
      clear HN HY h3
      go_enter Tryz.func57, Tryz.ntmps57
      go_wp2_with fail
      refine (is_m (HD.out _ HB.out) d.iss 2 (hz _ (by simp))).mono ?_
      rintro e w2 ⟨rfl, hb⟩
      have HB2 := Lib.hid (HB.out.trans (hb.mono HB.out.size))
      clear hb HB
      have HB := HB2
      clear HB2
      rw [h2]
      have r1 := HL.out _ HB.out
      have hf2 := hfd w2
      clear hfd
      clear HL pc
      have pc := (HD.out _ HB.out).pc
      clear ic e4 e2
      have ic := (HD.out _ HB.out).ic
      have e4 := (HD.out _ HB.out).cell 4 _ (show (dlA d A c)[4]? = some (.string d.iss) from rfl)
      have e2 := (HD.out _ HB.out).cell 2 _ (show (dlA d A c)[2]? = some (.string d.buy) from rfl)
      generalize bankF l d.buy = bf at *
      go_wp2_with fail
      first
        | exact HX.out _ (by first | exact HB.out | exact Below.refl _ _)
        | (go_ret; exact HX.out _ (by first | exact HB.out | exact Below.refl _ _))
set_option maxHeartbeats 2000000 in
theorem cl4_m (h : DM w bd bp bi mb n l d A c) (hz : DlSz d) : Calls Tryz.prog 58 #[.pointer (some ⟨bd, 0, none⟩), .pointer (some ⟨bi, 0, none⟩)] w fun e w' => BoolQ (DH l d 4) w e w' := by
  have HN : Hid (¬ DH l d 4 → ∀ X, Below w.heap.size w X → BoolQ (DH l d 4) w (.returned (.bool false)) X) := Lib.hid fun h X hX => BoolQ.no h hX
  have HY : Hid (DH l d 4 → ∀ X, Below w.heap.size w X → BoolQ (DH l d 4) w (.returned (.bool true)) X) := Lib.hid fun h X hX => BoolQ.yes h hX
  generalize BoolQ (DH l d 4) w = CP at *
  have HD := Lib.hid (fun X (hX : Below w.heap.size w X) => h.below hX)
  have hzl : ∀ s ∈ [d.num, d.sel, d.buy, d.car, d.iss, d.hou, d.ins, d.frm, d.dst, d.cur], s.size ≤ maxLen := hz
  have e5 : w.cell? ⟨bd, 5, none⟩ = some (.string d.hou) := h.cell 5 _ rfl
  have ic := h.ic
  have HB := Lib.hid (Below.refl w.heap.size w)
  clear h hzl
  by_cases h1 : d.hou.size = 0
  · have b1 : (d.hou.toList == []) = true := by rw [size0.1 h1]; rfl
    have HX := Lib.hid (HY.out (.inl h1))
    clear HN HY h1
    go_enter Tryz.func58, Tryz.ntmps58
    go_wp2_with fail
    first
      | exact HX.out _ (by first | exact HB.out | exact Below.refl _ _)
      | (go_ret; exact HX.out _ (by first | exact HB.out | exact Below.refl _ _))
  · have b1 : (d.hou.toList == []) = false := by
      rw [beq_eq_false_iff_ne]
      exact fun h => h1 (size0.2 h)
    cases h2 : isB l d.hou 3 with
    | false =>
      have HX := Lib.hid (HN.out (fun h => h.elim h1 (isB_no (by rw [h2]; simp))))
      clear HN HY h1
      go_enter Tryz.func58, Tryz.ntmps58
      go_wp2_with fail
      refine (is_m (HD.out _ HB.out) d.hou 3 (hz _ (by simp))).mono ?_
      rintro e w2 ⟨rfl, hb⟩
      have HB2 := Lib.hid (HB.out.trans (hb.mono HB.out.size))
      clear hb HB
      have HB := HB2
      clear HB2
      rw [h2]
      go_wp2_with fail
      first
        | exact HX.out _ (by first | exact HB.out | exact Below.refl _ _)
        | (go_ret; exact HX.out _ (by first | exact HB.out | exact Below.refl _ _))
    | true =>
      have HX := Lib.hid (HY.out (.inr (isB_iff.1 h2)))
      clear HN HY h1
      go_enter Tryz.func58, Tryz.ntmps58
      go_wp2_with fail
      refine (is_m (HD.out _ HB.out) d.hou 3 (hz _ (by simp))).mono ?_
      rintro e w2 ⟨rfl, hb⟩
      have HB2 := Lib.hid (HB.out.trans (hb.mono HB.out.size))
      clear hb HB
      have HB := HB2
      clear HB2
      rw [h2]
      go_wp2_with fail
      first
        | exact HX.out _ (by first | exact HB.out | exact Below.refl _ _)
        | (go_ret; exact HX.out _ (by first | exact HB.out | exact Below.refl _ _))
set_option maxHeartbeats 2000000 in
theorem cl5_m (h : DM w bd bp bi mb n l d A c) (hz : DlSz d) : Calls Tryz.prog 59 #[.pointer (some ⟨bd, 0, none⟩), .pointer (some ⟨bi, 0, none⟩)] w fun e w' => BoolQ (DH l d 5) w e w' := by
  have HN : Hid (¬ DH l d 5 → ∀ X, Below w.heap.size w X → BoolQ (DH l d 5) w (.returned (.bool false)) X) := Lib.hid fun h X hX => BoolQ.no h hX
  have HY : Hid (DH l d 5 → ∀ X, Below w.heap.size w X → BoolQ (DH l d 5) w (.returned (.bool true)) X) := Lib.hid fun h X hX => BoolQ.yes h hX
  generalize BoolQ (DH l d 5) w = CP at *
  have HD := Lib.hid (fun X (hX : Below w.heap.size w X) => h.below hX)
  have hzl : ∀ s ∈ [d.num, d.sel, d.buy, d.car, d.iss, d.hou, d.ins, d.frm, d.dst, d.cur], s.size ≤ maxLen := hz
  have e6 : w.cell? ⟨bd, 6, none⟩ = some (.string d.ins) := h.cell 6 _ rfl
  have ic := h.ic
  have HB := Lib.hid (Below.refl w.heap.size w)
  clear h hzl
  by_cases h1 : d.ins.size = 0
  · have b1 : (d.ins.toList == []) = true := by rw [size0.1 h1]; rfl
    have HX := Lib.hid (HY.out (.inl h1))
    clear HN HY h1
    go_enter Tryz.func59, Tryz.ntmps59
    go_wp2_with fail
    first
      | exact HX.out _ (by first | exact HB.out | exact Below.refl _ _)
      | (go_ret; exact HX.out _ (by first | exact HB.out | exact Below.refl _ _))
  · have b1 : (d.ins.toList == []) = false := by
      rw [beq_eq_false_iff_ne]
      exact fun h => h1 (size0.2 h)
    cases h2 : isB l d.ins 4 with
    | false =>
      have HX := Lib.hid (HN.out (fun h => h.elim h1 (isB_no (by rw [h2]; simp))))
      clear HN HY h1
      go_enter Tryz.func59, Tryz.ntmps59
      go_wp2_with fail
      refine (is_m (HD.out _ HB.out) d.ins 4 (hz _ (by simp))).mono ?_
      rintro e w2 ⟨rfl, hb⟩
      have HB2 := Lib.hid (HB.out.trans (hb.mono HB.out.size))
      clear hb HB
      have HB := HB2
      clear HB2
      rw [h2]
      go_wp2_with fail
      first
        | exact HX.out _ (by first | exact HB.out | exact Below.refl _ _)
        | (go_ret; exact HX.out _ (by first | exact HB.out | exact Below.refl _ _))
    | true =>
      have HX := Lib.hid (HY.out (.inr (isB_iff.1 h2)))
      clear HN HY h1
      go_enter Tryz.func59, Tryz.ntmps59
      go_wp2_with fail
      refine (is_m (HD.out _ HB.out) d.ins 4 (hz _ (by simp))).mono ?_
      rintro e w2 ⟨rfl, hb⟩
      have HB2 := Lib.hid (HB.out.trans (hb.mono HB.out.size))
      clear hb HB
      have HB := HB2
      clear HB2
      rw [h2]
      go_wp2_with fail
      first
        | exact HX.out _ (by first | exact HB.out | exact Below.refl _ _)
        | (go_ret; exact HX.out _ (by first | exact HB.out | exact Below.refl _ _))
set_option maxHeartbeats 2000000 in
theorem cl6_m (h : DM w bd bp bi mb n l d A c) (hz : DlSz d) : Calls Tryz.prog 60 #[.pointer (some ⟨bd, 0, none⟩)] w fun e w' => BoolQ (DH l d 6) w e w' := by
  have HN : Hid (¬ DH l d 6 → ∀ X, Below w.heap.size w X → BoolQ (DH l d 6) w (.returned (.bool false)) X) := Lib.hid fun h X hX => BoolQ.no h hX
  have HY : Hid (DH l d 6 → ∀ X, Below w.heap.size w X → BoolQ (DH l d 6) w (.returned (.bool true)) X) := Lib.hid fun h X hX => BoolQ.yes h hX
  generalize BoolQ (DH l d 6) w = CP at *
  have HD := Lib.hid (fun X (hX : Below w.heap.size w X) => h.below hX)
  have hzl : ∀ s ∈ [d.num, d.sel, d.buy, d.car, d.iss, d.hou, d.ins, d.frm, d.dst, d.cur], s.size ≤ maxLen := hz
  have e7 : w.cell? ⟨bd, 7, none⟩ = some (.string d.frm) := h.cell 7 _ rfl
  have e8 : w.cell? ⟨bd, 8, none⟩ = some (.string d.dst) := h.cell 8 _ rfl
  have HC := Lib.hid (fun X => markName_any d.frm X (hzl d.frm (by simp)))
  have HC2 := Lib.hid (fun X => markName_any d.dst X (hzl d.dst (by simp)))
  clear h hz hzl
  by_cases h1 : nameB d.frm.data.toList = true
  · rw [h1] at HC
    by_cases h2 : nameB d.dst.data.toList = true
    · rw [h2] at HC2
      have HX := Lib.hid (HY.out ⟨h1, h2⟩ w (Below.refl _ _))
      clear HN HY
      go_enter Tryz.func60, Tryz.ntmps60
      go_wp2_with (first
        | (go_at_call 52; (with_reducible refine (HC.out _).mono ?_); rintro e w' ⟨rfl, h⟩; subst h)
        | (go_at_call 52; (with_reducible refine (HC2.out _).mono ?_); rintro e w' ⟨rfl, h⟩; subst h)
        | fail)
      first
        | exact HX.out
        | (go_ret; exact HX.out)
    · rw [Bool.not_eq_true] at h2
      rw [h2] at HC2
      have HX := Lib.hid (HN.out (fun h => by have := h.2; unfold nmOk at this; rw [h2] at this; cases this) w (Below.refl _ _))
      clear HN HY
      go_enter Tryz.func60, Tryz.ntmps60
      go_wp2_with (first
        | (go_at_call 52; (with_reducible refine (HC.out _).mono ?_); rintro e w' ⟨rfl, h⟩; subst h)
        | (go_at_call 52; (with_reducible refine (HC2.out _).mono ?_); rintro e w' ⟨rfl, h⟩; subst h)
        | fail)
      first
        | exact HX.out
        | (go_ret; exact HX.out)
  · rw [Bool.not_eq_true] at h1
    rw [h1] at HC
    have HX := Lib.hid (HN.out (fun h => by have := h.1; unfold nmOk at this; rw [h1] at this; cases this) w (Below.refl _ _))
    clear HN HY
    go_enter Tryz.func60, Tryz.ntmps60
    go_wp2_with (first
      | (go_at_call 52; (with_reducible refine (HC.out _).mono ?_); rintro e w' ⟨rfl, h⟩; subst h)
      | fail)
    first
      | exact HX.out
      | (go_ret; exact HX.out)
set_option maxHeartbeats 2000000 in
theorem cl7_m (h : DM w bd bp bi mb n l d A c) (hz : DlSz d) : Calls Tryz.prog 61 #[.pointer (some ⟨bd, 0, none⟩)] w fun e w' => BoolQ (DH l d 7) w e w' := by
  have HN : Hid (¬ DH l d 7 → ∀ X, Below w.heap.size w X → BoolQ (DH l d 7) w (.returned (.bool false)) X) := Lib.hid fun h X hX => BoolQ.no h hX
  have HY : Hid (DH l d 7 → ∀ X, Below w.heap.size w X → BoolQ (DH l d 7) w (.returned (.bool true)) X) := Lib.hid fun h X hX => BoolQ.yes h hX
  generalize BoolQ (DH l d 7) w = CP at *
  have HD := Lib.hid (fun X (hX : Below w.heap.size w X) => h.below hX)
  have hzl : ∀ s ∈ [d.num, d.sel, d.buy, d.car, d.iss, d.hou, d.ins, d.frm, d.dst, d.cur], s.size ≤ maxLen := hz
  have e9 : w.cell? ⟨bd, 9, none⟩ = some (.string d.cur) := h.cell 9 _ rfl
  have e10 : w.cell? ⟨bd, 10, none⟩ = some (.int .i64 d.amt) := h.cell 10 _ rfl
  have HC := Lib.hid (money_m d.cur d.amt w (hzl d.cur (by simp)))
  clear h hz hzl
  go_enter Tryz.func61, Tryz.ntmps61
  go_wp2_with fail
  refine HC.out.mono ?_
  rintro e w2 ⟨r, rfl, hr, hb⟩
  have HB := Lib.hid hb
  have HR := Lib.hid hr
  clear hr hb HC e9 e10
  have e10 := (HD.out _ HB.out).cell 10 _ (show (dlA d A c)[10]? = some (.int .i64 d.amt) from rfl)
  cases r with
  | false =>
    have HX := Lib.hid (HN.out fun h => by
      obtain ⟨g1, g2, g3⟩ := h
      have := HR.out.2 ⟨g1, by omega, by omega⟩
      cases this)
    clear HN HY
    go_wp2_with fail
    first
      | exact HX.out _ (by first | exact HB.out | exact Below.refl _ _)
      | (go_ret; exact HX.out _ (by first | exact HB.out | exact Below.refl _ _))
  | true =>
    by_cases h1 : 1 ≤ d.amt
    · have b1 : decide (1 ≤ d.amt) = true := decide_eq_true h1
      by_cases h2 : d.amt ≤ 1073741824
      · have b2 : decide (d.amt ≤ 1073741824) = true := decide_eq_true h2
        have HX := Lib.hid (HY.out ⟨(HR.out.1 rfl).1, h1, h2⟩)
        clear HN HY
        go_wp2_with fail
        first
          | exact HX.out _ (by first | exact HB.out | exact Below.refl _ _)
          | (go_ret; exact HX.out _ (by first | exact HB.out | exact Below.refl _ _))
      · have b2 : decide (d.amt ≤ 1073741824) = false := decide_eq_false h2
        have HX := Lib.hid (HN.out fun h => h2 h.2.2)
        clear HN HY
        go_wp2_with fail
        first
          | exact HX.out _ (by first | exact HB.out | exact Below.refl _ _)
          | (go_ret; exact HX.out _ (by first | exact HB.out | exact Below.refl _ _))
    · have b1 : decide (1 ≤ d.amt) = false := decide_eq_false h1
      have HX := Lib.hid (HN.out fun h => h1 h.2.1)
      clear HN HY
      go_wp2_with fail
      first
        | exact HX.out _ (by first | exact HB.out | exact Below.refl _ _)
        | (go_ret; exact HX.out _ (by first | exact HB.out | exact Below.refl _ _))
set_option maxHeartbeats 2000000 in
theorem cl8_m (h : DM w bd bp bi mb n l d A c) (hz : DlSz d) : Calls Tryz.prog 63 #[.pointer (some ⟨bd, 0, none⟩)] w fun e w' => BoolQ (DH l d 8) w e w' := by
  have HN : Hid (¬ DH l d 8 → ∀ X, Below w.heap.size w X → BoolQ (DH l d 8) w (.returned (.bool false)) X) := Lib.hid fun h X hX => BoolQ.no h hX
  have HY : Hid (DH l d 8 → ∀ X, Below w.heap.size w X → BoolQ (DH l d 8) w (.returned (.bool true)) X) := Lib.hid fun h X hX => BoolQ.yes h hX
  generalize BoolQ (DH l d 8) w = CP at *
  have HD := Lib.hid (fun X (hX : Below w.heap.size w X) => h.below hX)
  have hzl : ∀ s ∈ [d.num, d.sel, d.buy, d.car, d.iss, d.hou, d.ins, d.frm, d.dst, d.cur], s.size ≤ maxLen := hz
  have e12 : w.cell? ⟨bd, 12, none⟩ = some (.int .i64 d.trm) := h.cell 12 _ rfl
  have HC := Lib.hid (among_m d.trm 0 7)
  clear h hz hzl
  by_cases h1 : 0 ≤ d.trm ∧ d.trm ≤ 7
  · rw [decide_eq_true h1] at HC
    have HX := Lib.hid (HY.out h1 w (Below.refl _ _))
    clear HN HY
    go_enter Tryz.func63, Tryz.ntmps63
    go_wp2_with (first
      | (go_at_call 51; (with_reducible refine (HC.out _).mono ?_); rintro e w' ⟨rfl, h⟩; subst h)
      | fail)
    first
      | exact HX.out
      | (go_ret; exact HX.out)
  · rw [decide_eq_false h1] at HC
    have HX := Lib.hid (HN.out (fun h => h1 h) w (Below.refl _ _))
    clear HN HY
    go_enter Tryz.func63, Tryz.ntmps63
    go_wp2_with (first
      | (go_at_call 51; (with_reducible refine (HC.out _).mono ?_); rintro e w' ⟨rfl, h⟩; subst h)
      | fail)
    first
      | exact HX.out
      | (go_ret; exact HX.out)
set_option maxHeartbeats 2000000 in
theorem cl9_m (h : DM w bd bp bi mb n l d A c) (hz : DlSz d) : Calls Tryz.prog 64 #[.pointer (some ⟨bd, 0, none⟩)] w fun e w' => BoolQ (DH l d 9) w e w' := by
  have HN : Hid (¬ DH l d 9 → ∀ X, Below w.heap.size w X → BoolQ (DH l d 9) w (.returned (.bool false)) X) := Lib.hid fun h X hX => BoolQ.no h hX
  have HY : Hid (DH l d 9 → ∀ X, Below w.heap.size w X → BoolQ (DH l d 9) w (.returned (.bool true)) X) := Lib.hid fun h X hX => BoolQ.yes h hX
  generalize BoolQ (DH l d 9) w = CP at *
  have HD := Lib.hid (fun X (hX : Below w.heap.size w X) => h.below hX)
  have hzl : ∀ s ∈ [d.num, d.sel, d.buy, d.car, d.iss, d.hou, d.ins, d.frm, d.dst, d.cur], s.size ≤ maxLen := hz
  have e13 : w.cell? ⟨bd, 13, none⟩ = some (.int .i64 d.lat) := h.cell 13 _ rfl
  have e14 : w.cell? ⟨bd, 14, none⟩ = some (.int .i64 d.exp) := h.cell 14 _ rfl
  have HC := Lib.hid (among_m d.lat 0 1048576)
  have HC2 := Lib.hid (among_m d.exp d.lat 1048576)
  clear h hz hzl
  by_cases h1 : 0 ≤ d.lat ∧ d.lat ≤ 1048576
  · rw [decide_eq_true h1] at HC
    by_cases h2 : d.lat ≤ d.exp ∧ d.exp ≤ 1048576
    · rw [decide_eq_true h2] at HC2
      have HX := Lib.hid (HY.out ⟨h1, h2⟩ w (Below.refl _ _))
      clear HN HY
      clear h1 h2
      go_enter Tryz.func64, Tryz.ntmps64
      go_wp2_with (first
        | (go_at_call 51; (with_reducible refine (HC.out _).mono ?_); rintro e w' ⟨rfl, h⟩; subst h)
        | (go_at_call 51; (with_reducible refine (HC2.out _).mono ?_); rintro e w' ⟨rfl, h⟩; subst h)
        | fail)
      first
        | exact HX.out
        | (go_ret; exact HX.out)
    · rw [decide_eq_false h2] at HC2
      have HX := Lib.hid (HN.out (fun h => h2 h.2) w (Below.refl _ _))
      clear HN HY
      clear h1 h2
      go_enter Tryz.func64, Tryz.ntmps64
      go_wp2_with (first
        | (go_at_call 51; (with_reducible refine (HC.out _).mono ?_); rintro e w' ⟨rfl, h⟩; subst h)
        | (go_at_call 51; (with_reducible refine (HC2.out _).mono ?_); rintro e w' ⟨rfl, h⟩; subst h)
        | fail)
      first
        | exact HX.out
        | (go_ret; exact HX.out)
  · rw [decide_eq_false h1] at HC
    have HX := Lib.hid (HN.out (fun h => h1 h.1) w (Below.refl _ _))
    clear HN HY
    clear h1
    go_enter Tryz.func64, Tryz.ntmps64
    go_wp2_with (first
      | (go_at_call 51; (with_reducible refine (HC.out _).mono ?_); rintro e w' ⟨rfl, h⟩; subst h)
      | fail)
    first
      | exact HX.out
      | (go_ret; exact HX.out)
set_option maxHeartbeats 2000000 in
theorem cl10_m (h : DM w bd bp bi mb n l d A c) (hz : DlSz d) : Calls Tryz.prog 65 #[.pointer (some ⟨bd, 0, none⟩)] w fun e w' => BoolQ (DH l d 10) w e w' := by
  have HN : Hid (¬ DH l d 10 → ∀ X, Below w.heap.size w X → BoolQ (DH l d 10) w (.returned (.bool false)) X) := Lib.hid fun h X hX => BoolQ.no h hX
  have HY : Hid (DH l d 10 → ∀ X, Below w.heap.size w X → BoolQ (DH l d 10) w (.returned (.bool true)) X) := Lib.hid fun h X hX => BoolQ.yes h hX
  generalize BoolQ (DH l d 10) w = CP at *
  have HD := Lib.hid (fun X (hX : Below w.heap.size w X) => h.below hX)
  have hzl : ∀ s ∈ [d.num, d.sel, d.buy, d.car, d.iss, d.hou, d.ins, d.frm, d.dst, d.cur], s.size ≤ maxLen := hz
  have e15 : w.cell? ⟨bd, 15, none⟩ = some (.int .i64 d.ten) := h.cell 15 _ rfl
  have e16 : w.cell? ⟨bd, 16, none⟩ = some (.int .i64 d.dut) := h.cell 16 _ rfl
  have HC := Lib.hid (among_m d.ten 0 1000)
  have HC2 := Lib.hid (among_m d.dut 0 1000)
  clear h hz hzl
  by_cases h1 : 0 ≤ d.ten ∧ d.ten ≤ 1000
  · rw [decide_eq_true h1] at HC
    by_cases h2 : 0 ≤ d.dut ∧ d.dut ≤ 1000
    · rw [decide_eq_true h2] at HC2
      have HX := Lib.hid (HY.out ⟨h1, h2⟩ w (Below.refl _ _))
      clear HN HY
      clear h1 h2
      go_enter Tryz.func65, Tryz.ntmps65
      go_wp2_with (first
        | (go_at_call 51; (with_reducible refine (HC.out _).mono ?_); rintro e w' ⟨rfl, h⟩; subst h)
        | (go_at_call 51; (with_reducible refine (HC2.out _).mono ?_); rintro e w' ⟨rfl, h⟩; subst h)
        | fail)
      first
        | exact HX.out
        | (go_ret; exact HX.out)
    · rw [decide_eq_false h2] at HC2
      have HX := Lib.hid (HN.out (fun h => h2 h.2) w (Below.refl _ _))
      clear HN HY
      clear h1 h2
      go_enter Tryz.func65, Tryz.ntmps65
      go_wp2_with (first
        | (go_at_call 51; (with_reducible refine (HC.out _).mono ?_); rintro e w' ⟨rfl, h⟩; subst h)
        | (go_at_call 51; (with_reducible refine (HC2.out _).mono ?_); rintro e w' ⟨rfl, h⟩; subst h)
        | fail)
      first
        | exact HX.out
        | (go_ret; exact HX.out)
  · rw [decide_eq_false h1] at HC
    have HX := Lib.hid (HN.out (fun h => h1 h.1) w (Below.refl _ _))
    clear HN HY
    clear h1
    go_enter Tryz.func65, Tryz.ntmps65
    go_wp2_with (first
      | (go_at_call 51; (with_reducible refine (HC.out _).mono ?_); rintro e w' ⟨rfl, h⟩; subst h)
      | fail)
    first
      | exact HX.out
      | (go_ret; exact HX.out)
end
end Go.Proofs.YtchkdidpnjakeaaGreatDoor
