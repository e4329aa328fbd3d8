/- A region that draws its order and whose callees make memory: one walk of the lexical order serves, over the class of the worlds that have turned nothing below a block. sense.Check's maps: faults as keys, numbers as keys. Own slices of faults, and what append makes of them. examine: a day too late; what the closures of an invoice and of a bill find wrong. The small functions on bytes. The reserved words: the package's own table; a number's digits. Of which kind a run is: a number, a word, a name; and what is wrong with it. mark.Name and the document's Name are one function of a text's bytes. The words: the document's list. A builder that is written: what a write adds, what it keeps. What is wrong with a credit, plain. examine: an invoice, a bill of lading. examine: what a paper has that is not as the papers ahead have it. sense.Check: a round over the needs, its pieces. The package's variables, all that the bank reads; examine.Fine. -/
import Derived.WalkKit
import Derived.Deep.QuietTactic
import Derived.BigQuiet
import Derived.Test.YtchkdidpnjakeaaGreatDoorGGMap
import Derived.WideKeyEntry
import Derived.DeepKeys4
import Derived.Maps.AppendAt
import Derived.Deep.RegionLaw
import Derived.Deep.AppendLies
import Derived.Lib.AppendZeros
import Derived.Lib.AppendZerosOnto
import Derived.Deep.Cut
import Derived.Lib.SliceRun
import Derived.Lib.ConvBytes
import Derived.Deep.RegionWith
import Derived.Lib.Hide
import Derived.WalkSpells
import Derived.WalkLawsBesides
import Derived.Carry
import Derived.Maps.OwnSet
import Derived.Lib.MinMax
import Derived.Shelf.Abstract
import Derived.ChangeKeysEq
import Derived.Laws.ResultCell
import Derived.Laws.Tables
import Derived.Deep.MidRow
import Derived.Laws.Rows
import Derived.Test.YtchkdidpnjakeaaGreatDoorProg
import Derived.Lib.LaidTab
import Derived.Deep.LoopGhost
import Derived.Outline
import Derived.Laws.RangeString
import Derived.Shelf.Small.Bits
import Derived.Shelf.Small.Wraps
import Derived.Shelf.Strconv.Itoa0
import Derived.Shelf.Strconv.Itoa1
import Derived.Shelf.LaysM
import Derived.Shelf.Strconv.Itoa2
import Derived.Shelf.Strconv.Itoa3
import Derived.RegionTactic
import Derived.BigRegion
import Derived.Maps.Range
import Derived.Lib.OthersKept
import Derived.Deep.RegionHeld3
import Derived.Deep.CutRange
namespace Go.Proofs.YtchkdidpnjakeaaGreatDoor.Led
open Go.RowKit

/-- a world in which nothing below block B has turned since w0 -/
structure WC (B : Nat) (w0 : World) where
  w : World
  h : Below B w0 w

instance WC.some (B : Nat) (w0 : World) : Nonempty (WC B w0) := ⟨⟨w0, Below.refl _ _⟩⟩

theorem below_trans' {B : Nat} {a b c : World} (hB : B ≤ a.heap.size) (h : Below B a b) (k : Below b.heap.size b c) : Below B a c := h.trans (k.mono (Nat.le_trans hB h.size))

theorem wp_region_class {P : Program} {id : Nat} {Q : Exit → Act → World → Prop} {a : Act} {w : World} {l : List Oper} (hm : P.follows .mixedOrders = true) (hB : Region.lexB .any l.toArray = true)
    (h : wpQuiet P l.toArray (fun w' => ∃ n : WC w.heap.size w, w' = n.w) (fun a' => ∀ w', (∃ n : WC w.heap.size w, w' = n.w) → Q .normal a' w') l a) : (Code.region id l.toArray true).wp P Q a w :=
  wp_region_quiet (C := fun w' => ∃ n : WC w.heap.size w, w' = n.w) hm hB ⟨⟨w.drew, (Below.refl _ _).drew⟩, rfl⟩ (by simpa using h)

/-- a callee's contract, in a world of the class -/
theorem Calls.class_of {P : Program} {f : FuncId} {args : Array Value} {w : World} {B : Nat} (hB : B ≤ w.heap.size) {n : WC B w} {v : Value}
    (h : Calls P f args n.w fun e w' => e = .returned v ∧ Below n.w.heap.size n.w w') : Calls P f args n.w fun e w'' => e = .returned v ∧ ∃ m : WC B w, w'' = m.w :=
  h.mono fun _ w' ⟨he, hb⟩ => ⟨he, ⟨w', below_trans' hB n.h hb⟩, rfl⟩
end Go.Proofs.YtchkdidpnjakeaaGreatDoor.Led
namespace Go.Proofs.YtchkdidpnjakeaaGreatDoor
open Go.RowKit Go.Maps Go.Lib
set_option linter.unusedVariables false
set_option maxRecDepth 100000

/-- a fault: paper, kind, field, why -/
abbrev Ft := Int × Int × ByteArray × Int
noncomputable def yesE : ElC Bool := boolE Tryz.prog 4 Tryz.underlying4
end Go.Proofs.YtchkdidpnjakeaaGreatDoor
namespace Go.Proofs.YtchkdidpnjakeaaGreatDoor
open Go.RowKit Go.Maps Go.Lib
set_option linter.unusedVariables false
set_option maxRecDepth 100000

/-- the cells of a fault -/
def fl (x : Ft) : List Value := [.int .i64 x.1, .int .i64 x.2.1, .string x.2.2.1, .int .i64 x.2.2.2]
def fls (L : List Ft) : List Value := L.flatMap fl
def z4 : List Value := [.int .i64 0, .int .i64 0, .string ⟨#[]⟩, .int .i64 0]
/-- v is a slice of its own, in a block from base on, of the faults L -/
def Fw (w : World) (base : Nat) (v : Value) (L : List Ft) : Prop := w.ownsRow base 594 4 v L.length (fls L)
section
variable {w w' : World} {base : Nat} {v : Value} {L : List Ft}
end
end Go.Proofs.YtchkdidpnjakeaaGreatDoor
namespace Go.Proofs.YtchkdidpnjakeaaGreatDoor
open Go.RowKit Go.Lib
set_option linter.unusedVariables false
set_option maxRecDepth 100000

/-- an examiner -/
structure Xr where
  c : Cr
  A : Option Addr
  cp : Nat
  DA : Option Addr
  dc : Nat
  D : List Dc
  day : Int
  tb : Nat
  fb : Nat
namespace Xr
def cells (x : Xr) : Array Value := #[.string x.c.num, .string x.c.app, .string x.c.ben, .string x.c.iss, .string x.c.con, .string x.c.frm, .string x.c.dst, .string x.c.cur, .int .i64 x.c.amt, .int .i64 x.c.abo, .int .i64 x.c.bel, .int .i64 x.c.lat, .int .i64 x.c.exp, .int .i64 x.c.wit, .int .i64 x.c.ten, .bool x.c.par, .bool x.c.chg, .slice x.A x.c.needs.length x.cp,
  .slice x.DA x.D.length x.dc, .int .i64 x.day, .func (.func 588) #[] #[.pointer (some ⟨x.tb, 0, none⟩), .pointer (some ⟨x.fb, 0, none⟩)]]
end Xr
end Go.Proofs.YtchkdidpnjakeaaGreatDoor
namespace Go.Proofs.YtchkdidpnjakeaaGreatDoor
open Go.RowKit
set_option linter.unusedVariables false

theorem u8le (a b : UInt8) : (a ≤ b) ↔ a.toNat ≤ b.toNat := UInt8.le_iff_toNat_le
theorem blank_nat (c : UInt8) : blank c = (decide (c.toNat = 32) || decide (c.toNat = 10)) := by
  rw [Bool.eq_iff_iff]; simp [blank, ← UInt8.toNat_inj]
theorem digit_nat (c : UInt8) : digit c = (decide (48 ≤ c.toNat) && decide (c.toNat ≤ 57)) := by
  rw [Bool.eq_iff_iff]; simp [digit, u8le]
theorem small_nat (c : UInt8) : small c = ((decide (97 ≤ c.toNat) && decide (c.toNat ≤ 122)) || (decide (48 ≤ c.toNat) && decide (c.toNat ≤ 57)) || decide (c.toNat = 45)) := by
  rw [Bool.eq_iff_iff]; simp [small, digit_nat, u8le, ← UInt8.toNat_inj]
end Go.Proofs.YtchkdidpnjakeaaGreatDoor
namespace Go.Proofs.YtchkdidpnjakeaaGreatDoor
open Go.RowKit Go.Lib
set_option linter.unusedVariables false

def wordCells : Array Value := (words.map fun l => Value.string ⟨l.toArray⟩).toArray
/-- the table of words stands -/
structure Wd (w : World) : Prop where
  blk : ∃ t fr, w.heap[9]? = some (.cells wordCells t fr)
section
variable {w w' : World}
theorem Wd.below (h : Wd w) {B : Nat} (hb : Below B w w') (hB : 9 < B) : Wd w' := by obtain ⟨t, fr, h⟩ := h.blk; exact ⟨t, fr, (hb.block 9 hB).trans h⟩
end

end Go.Proofs.YtchkdidpnjakeaaGreatDoor
namespace Go.Proofs.YtchkdidpnjakeaaGreatDoor
open Go.RowKit Go.Lib
set_option linter.unusedVariables false

theorem take_snoc (s : ByteArray) (k : Nat) (h : k < s.size) : s.data.toList.take (k + 1) = s.data.toList.take k ++ [s[k]] := by
  rw [List.take_succ_eq_append_getElem (by simpa using h)]; rfl
theorem all_snoc (s : ByteArray) (k : Nat) (h : k < s.size) : (s.data.toList.take (k + 1)).all small = ((s.data.toList.take k).all small && small s[k]) := by
  rw [take_snoc s k h]; simp
theorem byte_ways (n : Nat) : n < 45 ∨ (45 ≤ n ∧ n ≤ 45) ∨ (45 < n ∧ n < 48) ∨ (48 ≤ n ∧ n ≤ 57) ∨ (57 < n ∧ n < 97) ∨ (97 ≤ n ∧ n ≤ 122) ∨ 122 < n := by omega

end Go.Proofs.YtchkdidpnjakeaaGreatDoor
namespace Go.Proofs.YtchkdidpnjakeaaGreatDoor
open Go.RowKit Go.Lib
set_option linter.unusedVariables false

theorem all_bad (s : ByteArray) (k : Nat) (h : k < s.size) (hn : small s[k] = false) : s.data.toList.all small = false := by
  rw [List.all_eq_false]
  exact ⟨s[k], by show s.data[k] ∈ s.data.toList; simp, by simp [hn]⟩
theorem all_whole (s : ByteArray) (k : Nat) (h : s.size ≤ k) : (s.data.toList.take k).all small = s.data.toList.all small := by
  rw [List.take_of_length_le (by simpa using h)]

set_option maxHeartbeats 800000 in
theorem markName_any (s : ByteArray) (w : World) (hs : s.size ≤ maxLen) :
    Calls Tryz.prog 52 #[.string s] w fun e w' => e = .returned (.bool (nameB s.data.toList)) ∧ w = w' := by
  unfold maxLen at hs
  have hlen : s.data.toList.length = s.size := by simp
  by_cases h1 : s.size < 1
  · go_enter Tryz.func52, Tryz.ntmps52
    go_wp2
    go_ret
    exact ⟨by simp [nameB]; omega, rfl⟩
  by_cases h2 : 16 < s.size
  · go_enter Tryz.func52, Tryz.ntmps52
    go_wp2
    go_ret
    exact ⟨by simp [nameB]; omega, rfl⟩
  have Hl := Lib.hid hlen
  clear hlen
  go_enter Tryz.func52, Tryz.ntmps52
  go_wp2
  go_loop [14] (fun i => ∃ k : Nat, k ≤ s.size ∧ i = .int .i64 k ∧ Hid ((s.data.toList.take k).all small = true)) (fun i => s.size - (RowKit.intOf i).toNat)
  case atStart => exact ⟨0, Nat.zero_le _, rfl, Lib.hid (by simp)⟩
  case round =>
    obtain ⟨k, hk, rfl, Hk⟩ := hrel
    by_cases hlt : k < s.size
    · have HS := Lib.hid (all_snoc s k hlt)
      have HB := Lib.hid (all_bad s k hlt)
      have Hc := Lib.hid (small_nat s[k])
      rcases byte_ways s[k].toNat with h | h | h | h | h | h | h
      all_goals
        first
          | have e45 : ((s[k].toNat : Int) != 45) = true := by simp; omega
          | have e45 : ((s[k].toNat : Int) != 45) = false := by simp; omega
        first
          | have d57 : decide ((s[k].toNat : Int) ≤ 57) = true := by simp; omega
          | have d57 : decide ((s[k].toNat : Int) ≤ 57) = false := by simp; omega
        first
          | have d122 : decide ((s[k].toNat : Int) ≤ 122) = true := by simp; omega
          | have d122 : decide ((s[k].toNat : Int) ≤ 122) = false := by simp; omega
        go_wp2
        first
          | (go_round
             case rel => exact ⟨k + 1, by omega, by go_num, Lib.hid (by rw [HS.out, Hk.out, Hc.out]; simp; omega)⟩
             case measure => simp [RowKit.intOf]; omega)
          | (go_ret
             exact ⟨by rw [nameB, HB.out (by rw [Hc.out]; simp; omega)]; simp, rfl⟩)
    · go_wp2
      go_ret
      exact ⟨by rw [nameB, ← all_whole s k (by omega), Hk.out, Hl.out]; simp; omega, rfl⟩

end Go.Proofs.YtchkdidpnjakeaaGreatDoor
namespace Go.Proofs.YtchkdidpnjakeaaGreatDoor
open Go.RowKit Go.Lib
set_option linter.unusedVariables false

theorem grown_of_below {w w' : World} (hb : Below w.heap.size w w') (row : Option Nat) : w.grownBy w' row := ⟨hb.os, hb.tape, hb.output, hb.size, fun k hk _ => hb.block k hk⟩
theorem below_trans' {B : Nat} {a b c : World} (hB : B ≤ a.heap.size) (h : Below B a b) (k : Below b.heap.size b c) : Below B a c := h.trans (k.mono (Nat.le_trans hB h.size))
end Go.Proofs.YtchkdidpnjakeaaGreatDoor
namespace Go.Proofs.YtchkdidpnjakeaaGreatDoor
open Go.RowKit Go.Lib
set_option linter.unusedVariables false
set_option maxRecDepth 100000

end Go.Proofs.YtchkdidpnjakeaaGreatDoor
namespace Go.Proofs.YtchkdidpnjakeaaGreatDoor
set_option linter.unusedVariables false

/-- what is wrong with an atom, by what has been asked: is the field there, the atom's kind, the field's type, is the text a value, is there such a need, has it such a field, of which type -/
def wr (h1 : Bool) (k t : Int) (ok an h2 : Bool) (t2 : Int) : Int :=
  if h1 = false then 1
  else if k = 5 ∨ k = 6 then (if t = 0 then 3 else 0)
  else if k = 3 then (if t ≠ 0 ∧ ok = false then 3 else 0)
  else if k = 7 then (if an = false ∨ h2 = false then 1 else if t2 ≠ t then 3 else 0)
  else 0
section
variable {k t t2 : Int} {ok an h2 : Bool}
end
end Go.Proofs.YtchkdidpnjakeaaGreatDoor
namespace Go.Proofs.YtchkdidpnjakeaaGreatDoor
open Go.RowKit Go.Maps Go.Lib
set_option linter.unusedVariables false
set_option maxRecDepth 100000

def sSeller : ByteArray := ⟨#[115, 101, 108, 108, 101, 114]⟩
def sCurrency : ByteArray := ⟨#[99, 117, 114, 114, 101, 110, 99, 121]⟩
end Go.Proofs.YtchkdidpnjakeaaGreatDoor
namespace Go.Proofs.YtchkdidpnjakeaaGreatDoor
open Go.RowKit Go.Maps Go.Lib
set_option linter.unusedVariables false
set_option maxRecDepth 100000

section
variable {w w' w2 : World} {fb mb ab : Nat} {v v' v2 : Value}
end
/-- the map of fields ahead -/
abbrev Ga := ByteArray → Option ByteArray
def sFrom : ByteArray := ⟨#[102, 114, 111, 109]⟩
def sTo : ByteArray := ⟨#[116, 111]⟩
def sBoxes : ByteArray := ⟨#[98, 111, 120, 101, 115]⟩
def sMarks : ByteArray := ⟨#[109, 97, 114, 107, 115]⟩
def alikes : List ByteArray := [sSeller, sFrom, sTo, sCurrency, sBoxes, sMarks]
/-- the package's list of fields -/
def Al (w : World) : Prop := ∀ k (h : k < 6), w.cell? ⟨2, k, none⟩ = some (.string (alikes[k]'h))
theorem Al.low {w w' : World} {B : Nat} (h : Al w) (hb : Below B w w') (hB : 12 ≤ B) : Al w' := fun k hk => (hb.cell (p := ⟨2, k, none⟩) (by show 2 < B; omega)).trans (h k hk)
end Go.Proofs.YtchkdidpnjakeaaGreatDoor
namespace Go.Proofs.YtchkdidpnjakeaaGreatDoor
open Go.RowKit Go.Maps Go.Lib
set_option linter.unusedVariables false
set_option maxRecDepth 100000

section
variable (w : World) (c : Cr) (A : Option Addr) (cp : Nat)
theorem alloc_old (W : World) (o : Obj) (q : Nat) (hq : q < W.heap.size) {x : Option Obj} (h : W.heap[q]? = x) : (W.alloc o).heap[q]? = x := by
  first
    | exact (heap_alloc_old _ _ hq).trans h
    | exact (heap_alloc_old _ _ _ hq).trans h
end
section
variable {w : World} {c : Cr} {A : Option Addr} {cp K : Nat} {P : Prop} {W W' : World}
variable {x : Nd} {A' : Option Addr} {c' k ab bi bn m : Nat} {f : Int → Bool}
end
end Go.Proofs.YtchkdidpnjakeaaGreatDoor
namespace Go.Proofs.YtchkdidpnjakeaaGreatDoor
open Go.RowKit Go.Maps Go.Lib
set_option linter.unusedVariables false
set_option maxRecDepth 100000

/-- nothing is asked of the package's variables -/
structure Gb (w : World) : Prop where
  t : True
theorem Gb.low {w w' : World} {B : Nat} (h : Gb w) (hb : Below B w w') (hB : 12 ≤ B) : Gb w' := ⟨trivial⟩
end Go.Proofs.YtchkdidpnjakeaaGreatDoor
