/- audit.sums, ref56.Moved: what was sent, or got, by posts. ref56.Put: a text at its place, once. Texts that rise: what Put makes of them; two such rows of the same texts are one. slices.Sorted(maps.Keys(..)): a map's keys, rising (began as XCKeys). bank.remit: a sum from another bank. bank.look: what it does, in plain. bank.begin: what it opens, what it posts, in plain; nothing comes from nowhere. slices.Sorted(maps.Keys(..)): the keys of a map of yes and no, rising. The credit language's parser, plain: of the tokens from a place on, what is taken, and the place behind it; or none. The parser in memory: place, fail, ask, sees, take. The parser's head: the states that it goes through, plain. The credit language's parser: begin, Parse. bank.issue: the region of three calls. bank.begin: the ledger's calls as the bank makes them; what its loops keep. -/
import Derived.Test.YtchkdidpnjakeaaGreatDoorGGHold
import Derived.Laws.OwnMore
import Derived.Maps.AppendAt
import Derived.Deep.RegionHeld3
import Derived.Deep.QuietTactic
import Derived.BigQuiet
import Derived.Deep.RegionLaw
import Derived.Deep.AppendLies
import Derived.OneCell
import Derived.Shelf.Small.Bits
import Derived.Shelf.Small.Wraps
import Derived.Shelf.Strconv.Itoa0
import Derived.Shelf.Strconv.Itoa1
import Derived.Shelf.LaysM
import Derived.Shelf.Strconv.Itoa2
import Derived.Shelf.Strconv.Itoa3
import Derived.Sort.Walk0
import Derived.Deep.Cut
import Derived.Test.YtchkdidpnjakeaaGreatDoorGBLz
import Derived.Test.YtchkdidpnjakeaaGreatDoorGBOfs
import Derived.Test.YtchkdidpnjakeaaGreatDoorGBCloneI
import Derived.Deep.CutRange
import Derived.OpenShut
import Derived.Deep.RegionWith
import Derived.Lib.ConvBytes
import Derived.Lib.AppendZeros
import Derived.Lib.AppendZerosOnto
import Derived.Lib.SliceRun
import Derived.Lib.Hide
import Derived.WalkKit
import Derived.WalkSpells
import Derived.WalkLawsBesides
import Derived.Carry
import Derived.Maps.OwnSet
import Derived.Laws.Rows
import Derived.Shelf.Abstract
import Derived.Laws.MakeOwn
import Derived.RegionTactic
import Derived.BigRegion
import Derived.Laws.ResultCell
import Derived.Laws.Tables
import Derived.Maps.Range
import Derived.Lib.ParseIntB
import Derived.Test.YtchkdidpnjakeaaGreatDoorGClass
import Derived.Test.YtchkdidpnjakeaaGreatDoorGGMap
import Derived.OwnWalk
import Derived.Lib.MinMax
import Derived.Deep.MidRow
import Derived.ChangeKeysEq
namespace Go.Proofs.YtchkdidpnjakeaaGreatDoor.Led
open Go.RowKit Go.Maps Go.Lib
set_option linter.unusedVariables false
set_option maxRecDepth 100000

structure Mo where
  cur : ByteArray
  n : Int
def Mo.cells (x : Mo) : List Value := [.string x.cur, .int .i64 x.n]
def cellsM (T : List Mo) : List Value := T.flatMap Mo.cells
section
variable {w w' w1 wr : World} {base B : Nat} {v : Value} {L : List Pl}
/-- the sums so far -/
structure Su (w1 wr : World) (v : Value) (T : List Mo) : Prop where
  row : wr.ownsRow w1.heap.size 69 2 v T.length (cellsM T)
  bel : Below w1.heap.size w1 wr
end
end Go.Proofs.YtchkdidpnjakeaaGreatDoor.Led
namespace Go.Proofs.YtchkdidpnjakeaaGreatDoor.Led
open Go.RowKit Go.Maps Go.Lib
set_option linter.unusedVariables false
set_option maxRecDepth 100000

def ltS (x s : ByteArray) : Bool := Op.bytesLess x.toList s.toList
end Go.Proofs.YtchkdidpnjakeaaGreatDoor.Led
namespace Go.Proofs.YtchkdidpnjakeaaGreatDoor.Led
open Go.RowKit Go.Maps Go.Lib
set_option linter.unusedVariables false

theorem ltS_iff (x y : ByteArray) : ltS x y = true ↔ x.toList < y.toList := by
  unfold ltS
  rw [bytesLess_eq, decide_eq_true_iff]
def Srt (L : List ByteArray) : Prop := L.Pairwise fun a b => ltS a b = true
end Go.Proofs.YtchkdidpnjakeaaGreatDoor.Led
namespace Go.Proofs.YtchkdidpnjakeaaGreatDoor
open Go.RowKit Go.Maps Go.Lib Go.Sort Led
set_option linter.unusedVariables false
set_option maxRecDepth 100000

def toBAk (l : List UInt8) : ByteArray := ⟨l.toArray⟩
theorem toBA_list (l : List UInt8) : (toBAk l).toList = l := by rw [ByteArray.toList_eq]; simp [toBAk]
theorem toBA_of (x : ByteArray) : toBAk x.data.toList = x := by apply ByteArray.ext; simp [toBAk]
theorem strKeys_has {H : Type} {P : Program} {k : TypeId} {R : Value → Option (DataW H × List MemPlace)} {w : World} {b n : Nat} {D : DataW H} (hown : w.ownsMap P k R b n D) (K : Keyed P k) (hk : P.underlying k = some .string) : (strKeys D).Nodup ∧ ∀ x, x ∈ strKeys D ↔ Maps.has D (.string x) = true := by
  obtain ⟨es, hD, hpw, _⟩ := hown.entries K
  obtain ⟨es', hD', hko⟩ := hown.keysOf
  obtain rfl : es = es' := by rw [hD] at hD'; simpa using hD'
  subst hD
  have hs : ∀ p ∈ es, ∃ x, p.1 = .string x := fun p hp => by obtain ⟨v, hv⟩ := hko p hp; obtain ⟨x, _, hx, _⟩ := Maps.keyOf_str hk hv; exact ⟨x, hx⟩
  constructor
  · show (es.map fun p => strOf p.1).Nodup
    refine List.pairwise_map.2 (hpw.imp_of_mem fun {p q} hp' hq' hne e => hne ?_)
    obtain ⟨a, ha⟩ := hs p hp'
    obtain ⟨b, hb⟩ := hs q hq'
    rw [ha, hb] at e ⊢
    exact congrArg _ e
  · intro x
    rw [has_eq, List.any_eq_true]
    show x ∈ es.map (fun p => strOf p.1) ↔ _
    rw [List.mem_map]
    constructor
    · rintro ⟨p, hp', rfl⟩
      obtain ⟨a, ha⟩ := hs p hp'
      exact ⟨p, hp', by rw [ha]; simp [Lit.sameKey, strOf]⟩
    · rintro ⟨p, hp', hx⟩
      obtain ⟨a, ha⟩ := hs p hp'
      rw [ha] at hx
      exact ⟨p, hp', by rw [ha]; simpa [Lit.sameKey, strOf] using hx⟩
theorem sorted_srt (ss : List (List UInt8)) (h : ss.Nodup) : Led.Srt ((ss.mergeSort leB).map toBAk) := by
  have tr : ∀ a b c : List UInt8, leB a b = true → leB b c = true → leB a c = true := fun a b c h1 h2 => by simp only [leB, decide_eq_true_eq] at *; exact List.le_trans h1 h2
  have to' : ∀ a b : List UInt8, (leB a b || leB b a) = true := fun a b => by simp only [leB, Bool.or_eq_true, decide_eq_true_eq]; exact List.le_total a b
  have h1 := List.pairwise_mergeSort tr to' ss
  have h2 : (ss.mergeSort leB).Nodup := (List.mergeSort_perm ss leB).nodup_iff.2 h
  unfold Led.Srt
  rw [List.pairwise_map]
  refine (h1.and h2).imp fun {a b} hab => ?_
  obtain ⟨ha, hb⟩ := hab
  rw [Led.ltS_iff, toBA_list, toBA_list]
  simp only [leB, decide_eq_true_eq] at ha
  by_cases e : a < b
  · exact e
  · exact absurd (List.le_antisymm ha (List.not_lt.1 e)) hb

/-- a row of keys -/
def Ky (w : World) (base : Nat) (v : Value) (L : List ByteArray) : Prop := w.ownsRow base 9 1 v L.length (L.map Value.string)
theorem Ky.cell {w : World} {base g c : Nat} {L : List ByteArray} (h : Ky w base (.slice (some ⟨g, 0, none⟩) L.length c) L) {i : Nat} {s : ByteArray} (hi : L[i]? = some s) : w.cell? ⟨g, i, none⟩ = some (.string s) ∧ ∃ cs fr, w.heap[g]? = some (.cells cs 9 fr) := by
  have h' : w.ownsRow base 9 1 (.slice (some ⟨g, 0, none⟩) L.length c) L.length (L.map Value.string) := h
  refine ⟨?_, ?_⟩
  · rw [World.ownsRow.cellAt h' i (by rw [Nat.mul_one]; exact (List.getElem?_eq_some_iff.1 hi).1), List.getElem?_map, hi]
    rfl
  · rcases h'.2 with ⟨h1, hn⟩ | ⟨g', cap', cur, he, h2, h3, _⟩
    · cases h1
    · injection he with e1 _ _
      injection e1 with e1
      injection e1 with e1
      subst e1
      exact ⟨cur, _, h3⟩
end Go.Proofs.YtchkdidpnjakeaaGreatDoor
namespace Go.Proofs.YtchkdidpnjakeaaGreatDoor
open Go.RowKit Go.Maps Go.Lib
set_option linter.unusedVariables false
set_option maxRecDepth 100000

def nostro (s : ByteArray) : ByteArray := (⟨#[110, 111, 115, 116, 114, 111, 58]⟩ : ByteArray) ++ s
end Go.Proofs.YtchkdidpnjakeaaGreatDoor
namespace Go.Proofs.YtchkdidpnjakeaaGreatDoor
open Go.RowKit Go.Maps Go.Lib
set_option linter.unusedVariables false

def lookD (x : Dst) (F : List Ft) : Dst := { x with h0 := false, h1 := false, h2 := false, ft := F }
end Go.Proofs.YtchkdidpnjakeaaGreatDoor
namespace Go.Proofs.YtchkdidpnjakeaaGreatDoor
open Go.RowKit Go.Maps Go.Lib
set_option linter.unusedVariables false
set_option maxRecDepth 100000

def capital : ByteArray := ⟨#[58, 99, 97, 112, 105, 116, 97, 108]⟩
/-- an account is opened, if that can be -/
noncomputable def openG (G : Led.Nt → Option Ac) (a c : ByteArray) (f : Int) : Led.Nt → Option Ac := @ite _ (Led.CanOpen G a c) (Classical.propDecidable _) (putG G (a, c) ⟨f, 0, 0⟩) G
noncomputable def custG (K : Kk) (c : ByteArray) (G : Led.Nt → Option Ac) (p : Py) : Led.Nt → Option Ac := if custB K p.nm then openG G p.nm c 0 else G
noncomputable def othrG (K : Kk) (c : ByteArray) (G : Led.Nt → Option Ac) (p : Py) : Led.Nt → Option Ac := if otherB K p.nm then openG (openG G (nostro p.nm) c (-1099511627776)) (vostro p.nm) c 0 else G
/-- the accounts of a currency -/
noncomputable def openC (K : Kk) (ps : List Py) (G : Led.Nt → Option Ac) (c : ByteArray) : Led.Nt → Option Ac := ps.foldl (othrG K c) (ps.foldl (custG K c) (openG G capital c (-1099511627776)))
def lessE (e : Led.Ent) : Led.Ent := ⟨capital, e.cur, IntKind.i64.wrap (-e.n)⟩
noncomputable def postG (G : Led.Nt → Option Ac) (es : List Led.Ent) : Led.Nt → Option Ac := @ite _ (Led.FitsA G es) (Classical.propDecidable _) (Led.bump G (Led.eachG es)) G
noncomputable def fundG (K : Kk) (G : Led.Nt → Option Ac) (e : Led.Ent) : Led.Nt → Option Ac := if custB K e.acc then postG G [e, lessE e] else G
noncomputable def beginG (K : Kk) (ps : List Py) (cs : List ByteArray) (fd : List Led.Ent) : Led.Nt → Option Ac := fd.foldl (fundG K) (cs.foldl (openC K ps) (fun _ => none))
/-- the currencies of funds and prices -/
def CurOf (u : Su) (c : ByteArray) : Prop := (∃ e ∈ u.fd, e.cur = c) ∨ ∃ d ∈ u.dl, d.cur = c
theorem openG_yes {G : Led.Nt → Option Ac} {a c : ByteArray} (f : Int) (h : Led.CanOpen G a c) : openG G a c f = putG G (a, c) ⟨f, 0, 0⟩ := by unfold openG; rw [if_pos h]
theorem openG_no {G : Led.Nt → Option Ac} {a c : ByteArray} (f : Int) (h : ¬ Led.CanOpen G a c) : openG G a c f = G := by unfold openG; rw [if_neg h]
theorem postG_yes {G : Led.Nt → Option Ac} {es : List Led.Ent} (h : Led.FitsA G es) : postG G es = Led.bump G (Led.eachG es) := by unfold postG; rw [if_pos h]
theorem postG_no {G : Led.Nt → Option Ac} {es : List Led.Ent} (h : ¬ Led.FitsA G es) : postG G es = G := by unfold postG; rw [if_neg h]
end Go.Proofs.YtchkdidpnjakeaaGreatDoor
namespace Go.Proofs.YtchkdidpnjakeaaGreatDoor
open Go.RowKit Go.Maps Go.Lib Go.Sort Led
set_option linter.unusedVariables false
set_option maxRecDepth 100000

theorem keys_fnB (mb : Option Nat) (W : World) : Calls Tryz.prog 182 #[.map mb] W fun e w' => e = .returned (.func (.func 208) #[] #[.pointer (some ⟨W.heap.size, 0, none⟩)]) ∧ w' = W.alloc (.cells #[.map mb] 67) :=
  callsIn_wide.1 (Tryz.maps_Keys_182 mb W)
theorem sortedKeysB_any (w : World) (b nn : Nat) (F : ByteArray → Option Bool) (hM : Mp curC yesE w b nn F) (hN : nn ≤ 1000000) :
    Calls Tryz.prog 181 #[.func (.func 208) #[] #[.pointer (some ⟨w.heap.size, 0, none⟩)]] (w.alloc (.cells #[.map (some b)] 67)) fun e w' =>
      ∃ A c keys, e = .returned (.slice A (List.length keys) c) ∧ Led.Srt keys ∧ (∀ x ∈ keys, curC.ok x) ∧ (∀ x, curC.ok x → (x ∈ keys ↔ (F x).isSome = true)) ∧ keys.length ≤ nn ∧ Ky w' w.heap.size (.slice A (List.length keys) c) keys ∧ Below w.heap.size w w' := by
  obtain ⟨D, hown, hR⟩ := hM
  have hsz := hown.size_le
  obtain ⟨hnd, hmem⟩ := strKeys_has hown curC.law Tryz.underlying9
  refine (callsIn_wide.1 (Tryz.slices_Sorted_keys_181_182 b nn D _ w hown (by unfold maxLen; omega) (by omega))).mono ?_
  rintro e w' ⟨v, ss, rfl, hP, hrow, hnil, hb⟩
  have hssn : ss.Nodup := hP.nodup_iff.2 hnd
  have hkl : ((ss.mergeSort leB).map toBAk).length = ss.length := by simp
  have hmm : ∀ x, x ∈ (ss.mergeSort leB).map toBAk ↔ x.data.toList ∈ strKeys D := by
    intro x
    rw [List.mem_map]
    constructor
    · rintro ⟨y, hy, rfl⟩
      have := hP.mem_iff.1 ((List.mergeSort_perm ss leB).mem_iff.1 hy)
      simpa [toBAk] using this
    · intro hx
      exact ⟨x.data.toList, (List.mergeSort_perm ss leB).mem_iff.2 (hP.mem_iff.2 hx), toBA_of x⟩
  have hbb : Below w.heap.size w w' := ((Below.refl _ w).alloc (Nat.le_refl _) _).trans (hb.mono (by simp))
  have hln : ss.length ≤ nn := by
    have h1 : ss.length = (strKeys D).length := hP.length_eq
    have h2 : (strKeys D).length = Maps.size D := by
      obtain ⟨es, rfl⟩ := hR.isMap
      show (es.map fun p => strOf p.1).length = _
      simp [Maps.size]
    omega
  have hrow' : w'.ownsRow (w.alloc (.cells #[.map (some b)] 67)).heap.size 9 1 v ((ss.mergeSort leB).map toBAk).length (((ss.mergeSort leB).map toBAk).map Value.string) := by
    rw [hkl, List.map_map]
    exact hrow
  refine ⟨(match v with | .slice A _ _ => A | _ => none), (match v with | .slice _ _ c => c | _ => 0), (ss.mergeSort leB).map toBAk, ?_, sorted_srt ss hssn, ?_, ?_, by rw [hkl]; exact hln, ?_, hbb⟩
  · rcases hrow'.2 with ⟨rfl, h0⟩ | ⟨g, cap, cur, rfl, _⟩
    · simp only [h0]
    · rfl
  · intro x hx
    have := strKeys_le hown Tryz.underlying9 _ ((hmm x).1 hx)
    show x.size ≤ maxLen
    rw [Array.length_toList] at this
    exact this
  · intro x hx
    rw [hmm x, hmem]
    have := hR.has x hx
    exact ⟨fun h => this.symm.trans h, fun h => this.trans h⟩
  · have hz : w.heap.size ≤ (w.alloc (.cells #[.map (some b)] 67)).heap.size := by simp
    refine ⟨hrow'.1, ?_⟩
    rcases hrow'.2 with ⟨rfl, h0⟩ | ⟨g, cap, cur, rfl, h2, h3⟩
    · exact .inl ⟨by simp only [h0], h0⟩
    · exact .inr ⟨g, cap, cur, rfl, by omega, h3⟩
end Go.Proofs.YtchkdidpnjakeaaGreatDoor
namespace Go.Proofs.YtchkdidpnjakeaaGreatDoor
open Go.RowKit Go.Lib
set_option linter.unusedVariables false

/-- is it one of some words? one of some signs? -/
def okWord (l : List Bs) (t : Tok) : Bool := decide (t.kind = 0) && l.contains t.text
def okSign (l : List Bs) (t : Tok) : Bool := decide (t.kind = 5) && l.contains t.text
def okKind (k : Nat) (t : Tok) : Bool := decide (t.kind = k)
def okNamed (t : Tok) : Bool := decide (t.kind ≤ 2)
section
variable (T : List Tok)
def seesP (p : Tok → Bool) (n : Nat) : Bool := match T[n]? with
  | some t => p t
  | none => false
def takeP (p : Tok → Bool) (n : Nat) : Option (Bs × Nat) := match T[n]? with
  | some t => if p t then some (t.text, n + 1) else none
  | none => none
def numP (lo hi : Int) (n : Nat) : Option (Int × Nat) := (takeP T (okKind 2) n).bind fun x => match Lib.parseIntB 64 x.1 with
  | .ok v => if lo ≤ v ∧ v ≤ hi then some (v, x.2) else none
  | _ => none
def endP (n : Nat) : Option Nat := (takeP T (okSign [([59] : Bs)]) n).map (·.2)
def wordP (s : Bs) (n : Nat) : Option Nat := (takeP T (okWord [s]) n).map (·.2)
def lineP (s : Bs) (n : Nat) : Option (Bs × Nat) := (wordP T s n).bind fun a => (takeP T okNamed a).bind fun x => (endP T x.2).map fun c => (x.1, c)
def dayP (s : Bs) (n : Nat) : Option (Int × Nat) := (wordP T s n).bind fun a => (numP T 0 1048576 a).bind fun x => (endP T x.2).map fun c => (x.1, c)
def sumP (n : Nat) : Option ((Bs × Int × Int × Int) × Nat) := (wordP T (([115, 117, 109] : Bs)) n).bind fun a => (takeP T (okKind 4) a).bind fun x => (numP T 1 1099511627776 x.2).bind fun y => (wordP T (([97, 98, 111, 118, 101] : Bs)) y.2).bind fun b => (numP T 0 1000 b).bind fun u => (wordP T (([98, 101, 108, 111, 119] : Bs)) u.2).bind fun d => (numP T 0 1000 d).bind fun v => (endP T v.2).map fun c => ((x.1, y.1, u.1, v.1), c)
end
section
variable (T : List Tok)
end
end Go.Proofs.YtchkdidpnjakeaaGreatDoor
namespace Go.Proofs.YtchkdidpnjakeaaGreatDoor
open Go.RowKit Go.Lib
set_option linter.unusedVariables false
set_option maxRecDepth 100000

/-- a parser's tokens, and where all of it lies: below B; the parser's block is pb -/
structure Pv where
  B : Nat
  pb : Nat
  c : Nat
  A : Option Addr
  T : List Tok
  sz : Int
  lt : pb < B
  np : 0 < T.length → ∀ g off, A = some ⟨g, off, none⟩ → g ≠ pb
  l12 : 12 ≤ pb
section
variable {E : Pv} {w w' : World} {nx : Nat} {at_ cd : Int}
end
end Go.Proofs.YtchkdidpnjakeaaGreatDoor
namespace Go.Proofs.YtchkdidpnjakeaaGreatDoor
open Go.RowKit Go.Lib
set_option linter.unusedVariables false

/-- a confirmer, or none -/
def confP (T : List Tok) (n : Nat) : Option (Bs × Nat) := if seesP T (okWord [[99, 111, 110, 102, 105, 114, 109, 101, 114]]) n then lineP T [99, 111, 110, 102, 105, 114, 109, 101, 114] n else some ([], n)
section
variable (T : List Tok) (st : Option Nat)
def hs1 : Option Nat := st.bind fun n => (lineP T [99, 114, 101, 100, 105, 116] n).map (·.2)
def hs2 : Option Nat := (hs1 T st).bind fun n => (lineP T [97, 112, 112, 108, 105, 99, 97, 110, 116] n).map (·.2)
def hs3 : Option Nat := (hs2 T st).bind fun n => (lineP T [98, 101, 110, 101, 102, 105, 99, 105, 97, 114, 121] n).map (·.2)
def hs4 : Option Nat := (hs3 T st).bind fun n => (lineP T [105, 115, 115, 117, 101, 114] n).map (·.2)
def hs5 : Option Nat := (hs4 T st).bind fun n => (confP T n).map (·.2)
def hs6 : Option Nat := (hs5 T st).bind fun n => (lineP T [102, 114, 111, 109] n).map (·.2)
def hs7 : Option Nat := (hs6 T st).bind fun n => (lineP T [116, 111] n).map (·.2)
def hs8 : Option Nat := (hs7 T st).bind fun n => (sumP T n).map (·.2)
def hs9 : Option Nat := (hs8 T st).bind fun n => (dayP T [108, 97, 116, 101, 115, 116] n).map (·.2)
end
section
variable {T : List Tok} {f g : Nat} {L : List Nd} {n : Nat}
end
end Go.Proofs.YtchkdidpnjakeaaGreatDoor
namespace Go.Proofs.YtchkdidpnjakeaaGreatDoor
open Go.RowKit Go.Maps Go.Lib
set_option linter.unusedVariables false
set_option maxRecDepth 100000

theorem setRow_allocB (W : World) (cs ds : Array Value) (t : TypeId) : (W.alloc (.cells cs t)).setRow W.heap.size ds = W.alloc (.cells ds t) := by
  unfold World.setRow World.alloc
  simp only
  congr 1
  apply Array.ext
  · simp
  · intro i h1 h2
    rw [Array.getElem_modify]
    by_cases hi : W.heap.size = i
    · subst hi; simp
    · have hlt : i < W.heap.size := by simp at h1; omega
      simp [hi, Array.getElem_push, hlt]
end Go.Proofs.YtchkdidpnjakeaaGreatDoor
namespace Go.Proofs.YtchkdidpnjakeaaGreatDoor
open Go.RowKit Go.Maps Go.Lib
set_option linter.unusedVariables false
set_option maxRecDepth 100000

theorem infoDl17 : (Tryz.prog.info? 72).map (·.size) = some 17 := by kernel_rfl
end Go.Proofs.YtchkdidpnjakeaaGreatDoor
namespace Go.Proofs.YtchkdidpnjakeaaGreatDoor
open Go.RowKit Go.Maps Go.Lib
set_option linter.unusedVariables false
set_option maxRecDepth 100000

theorem Bk.open_ {w w1 : World} {K : Kk} {n m l : Nat} {S : Sb} (x : Bk w K n m l S) (hb : Below w.heap.size w w1) (a c : ByteArray) (f : Int) (ha : a.size ≤ maxLen) (hc : c.size ≤ maxLen) (hf0 : -1099511627776 ≤ f) (hf1 : f ≤ 0) (hn : n < 4096) :
    Calls Tryz.prog 183 #[.pointer (some ⟨K.p, 0, none⟩), .string a, .string c, .int .i64 f] w1 fun e w' => ∃ code : Int, e = .returned (.int .i64 code) ∧ Fk K w w' ∧ Bk w' K (n + 1) m l ⟨openG S.G a c f, S.H, S.D⟩ := by
  have x1 := x.below hb
  refine (Led.open_z a c f w1 K.base K.eb K.p K.b K.h n m l S.G S.H x1.led ⟨ha, hc⟩ hf0 hf1 hn).mono ?_
  rintro e w' ⟨code, rfl, hf, hh⟩
  have hk : Fk K w w' := (Fk.of_below x hb).trans (Fk.of_fl hf)
  rcases hh with ⟨hco, _, hz⟩ | ⟨hco, _, hz⟩
  · exact ⟨code, rfl, hk, by rw [openG_yes f hco]; exact x1.led_ hf hz⟩
  · exact ⟨code, rfl, hk, by rw [openG_no f hco]; exact x1.led_ hf hz⟩
/-- parties, in a block that stands -/
def PyT (w : World) (A : Option Addr) (L : List Py) : Prop := 0 < L.length → ∃ g off, A = some ⟨g, off, none⟩ ∧ ImB w g ∧ ∀ i x, L[i]? = some x → w.cell? ⟨g, off + i * 3, none⟩ = some (.string x.nm) ∧ w.cell? ⟨g, off + i * 3 + 1, none⟩ = some (.string x.bk) ∧ w.cell? ⟨g, off + i * 3 + 2, none⟩ = some (.int .i64 x.kd)
theorem PyT.keep {w w' : World} {A : Option Addr} {L : List Py} (h : PyT w A L) (hi : Im w w') : PyT w' A L := fun h0 => by
  obtain ⟨g, off, e, hg, hc⟩ := h h0
  obtain ⟨hg', hk⟩ := hg.keep hi
  exact ⟨g, off, e, hg', fun i x hx => ⟨(hk _).trans (hc i x hx).1, (hk _).trans (hc i x hx).2.1, (hk _).trans (hc i x hx).2.2⟩⟩
theorem PyT.at_ {w : World} {A : Option Addr} {L : List Py} (h : PyT w A L) {k : Nat} {y : Py} (hk : L[k]? = some y) : ∃ g off, A = some ⟨g, off, none⟩ ∧ g < w.heap.size ∧ w.cell? ⟨g, off + k * 3, none⟩ = some (.string y.nm) ∧ w.cell? ⟨g, off + k * 3 + 1, none⟩ = some (.string y.bk) ∧ w.cell? ⟨g, off + k * 3 + 2, none⟩ = some (.int .i64 y.kd) := by
  obtain ⟨g, off, e, hg, hc⟩ := h (by have := (List.getElem?_eq_some_iff.1 hk).1; omega)
  exact ⟨g, off, e, hg.lt, hc k y hk⟩
theorem foldl_take {α β : Type} (f : β → α → β) (b : β) (l : List α) {k : Nat} {a : α} (h : l[k]? = some a) : (l.take (k + 1)).foldl f b = f ((l.take k).foldl f b) a := by
  have e : l.take (k + 1) = l.take k ++ [a] := by rw [List.take_add_one, h]; rfl
  rw [e, List.foldl_append]
  rfl
/-- currencies are gathered -/
def CuI (w wr : World) (V : Array Value) (k : Nat) (Q : ByteArray → Prop) : Prop := Below w.heap.size w wr ∧ wr.heap[w.heap.size]? = some (.cells V 29 (0, 0)) ∧ ∃ F, Mp curC yesE wr (w.heap.size + 1) k F ∧ ∀ c, (F c).isSome = true ↔ Q c
theorem CuI.low {w wr : World} {V : Array Value} {k : Nat} {Q : ByteArray → Prop} (h : CuI w wr V k Q) : w.heap.size + 1 < wr.heap.size := by
  obtain ⟨_, _, F, hM, _⟩ := h
  exact hM.lt
theorem CuI.step {w wr : World} {V : Array Value} {k : Nat} {Q : ByteArray → Prop} (h : CuI w wr V k Q) (hk : k ≤ 1000) (o : Obj) {c : ByteArray} (hc : c.size ≤ maxLen) {Q' : ByteArray → Prop} (hQ : ∀ x, Q' x ↔ (Q x ∨ c = x)) :
    ∃ w', (Instr.mapUpdate 67 (.map (some (w.heap.size + 1))) (.string c) (.bool true)).run Tryz.prog (wr.alloc o) = .ok () w' ∧ CuI w w' V (k + 1) Q' := by
  have hl := h.low
  obtain ⟨hb, hs, F, hM, hF⟩ := h
  obtain ⟨w', h1, h2, h3⟩ := (hM.alloc o).store Tryz.underlying67 (by unfold maxLen; omega) (x := c) (show curC.ok c from hc) (v := true) trivial
  have hba : Below w.heap.size w (wr.alloc o) := hb.alloc (by omega) o
  refine ⟨w', h1, turned_below hba h3 (by omega) (by simp; omega), ?_, _, h2, fun x => ?_⟩
  · have hg := h3.grown
    rw [hg.block w.heap.size (by simp; omega) (fun e => by injection e with e; omega)]
    first
      | exact (heap_alloc_old wr o (by omega)).trans hs
      | exact (heap_alloc_old wr _ _ (by omega)).trans hs
  · rw [hQ, ← hF x]
    unfold putG
    by_cases e : x = c
    · subst e; simp
    · rw [if_neg e]
      exact ⟨.inl, fun h => h.elim id fun h => absurd h.symm e⟩
theorem take_ex {α : Type} {l : List α} {k : Nat} {a : α} (h : l[k]? = some a) (P : α → Prop) : (∃ e ∈ l.take (k + 1), P e) ↔ ((∃ e ∈ l.take k, P e) ∨ P a) := by
  have e : l.take (k + 1) = l.take k ++ [a] := by rw [List.take_add_one, h]; rfl
  rw [e]
  simp only [List.mem_append, List.mem_singleton]
  constructor
  · rintro ⟨x, hx | rfl, hp⟩
    · exact .inl ⟨x, hx, hp⟩
    · exact .inr hp
  · rintro (⟨x, hx, hp⟩ | hp)
    · exact ⟨x, .inl hx, hp⟩
    · exact ⟨a, .inr rfl, hp⟩
/-- the accounts as far as they are opened -/
def BgI (K : Kk) (D : ByteArray → Dst) (w wr : World) (n l : Nat) (G : Led.Nt → Option Ac) : Prop := Bk wr K n 0 l ⟨G, [], D⟩ ∧ Fk K w wr
section
variable {K : Kk} {D : ByteArray → Dst} {w wr : World} {n l : Nat} {G : Led.Nt → Option Ac}
theorem BgI.below (h : BgI K D w wr n l G) {X : World} (hX : Below wr.heap.size wr X) : BgI K D w X n l G := ⟨h.1.below hX, h.2.trans (Fk.of_below h.1 hX)⟩
theorem BgI.bb (h : BgI K D w wr n l G) : wr.cell? ⟨K.bb, 3, none⟩ = some (.pointer (some ⟨K.p, 0, none⟩)) ∧ K.bb < wr.heap.size := ⟨h.1.cell.2.2.2.1, (Array.getElem?_eq_some_iff.1 h.1.bank).1⟩
/-- a block of three cells -/
def Row3c (X : World) (z : Nat) (s : ByteArray) (v1 v2 : Value) (t : TypeId) : Prop := X.heap[z]? = some (.cells #[.string s, v1, v2] t (0, 0)) ∧ ImT t
theorem Row3c.cell {X : World} {z : Nat} {s : ByteArray} {v1 v2 : Value} {t : TypeId} (h : Row3c X z s v1 v2 t) : X.cell? ⟨z, 0, none⟩ = some (.string s) ∧ X.cell? ⟨z, 1, none⟩ = some v1 ∧ X.cell? ⟨z, 2, none⟩ = some v2 ∧ z < X.heap.size := by
  refine ⟨?_, ?_, ?_, (Array.getElem?_eq_some_iff.1 h.1).1⟩ <;> simp [World.cell?, h.1]
theorem Row3c.below {X Y : World} {z : Nat} {s : ByteArray} {v1 v2 : Value} {t : TypeId} (h : Row3c X z s v1 v2 t) (hb : Below X.heap.size X Y) : Row3c Y z s v1 v2 t := ⟨(hb.block z h.cell.2.2.2).trans h.1, h.2⟩
theorem BgI.open_ (h : BgI K D w wr n l G) {Y : World} (hY : Below wr.heap.size wr Y) (a c : ByteArray) (f : Int) (ha : a.size ≤ maxLen) (hc : c.size ≤ maxLen) (hf0 : -1099511627776 ≤ f) (hf1 : f ≤ 0) (hn : n < 4096) :
    Calls Tryz.prog 183 #[.pointer (some ⟨K.p, 0, none⟩), .string a, .string c, .int .i64 f] Y fun e w' => ∃ code : Int, e = .returned (.int .i64 code) ∧ Hid (BgI K D w w' (n + 1) l (openG G a c f) ∧ (∀ z s v1 v2 t, Row3c wr z s v1 v2 t → Row3c w' z s v1 v2 t)) ∧ w'.cell? ⟨K.bb, 3, none⟩ = some (.pointer (some ⟨K.p, 0, none⟩)) ∧ K.bb < w'.heap.size := by
  refine (h.1.open_ hY a c f ha hc hf0 hf1 hn).mono ?_
  rintro e w' ⟨code, rfl, hk, hx⟩
  have hI : BgI K D w w' (n + 1) l (openG G a c f) := ⟨hx, h.2.trans hk⟩
  exact ⟨code, rfl, Lib.hid ⟨hI, fun z s v1 v2 t hz => ⟨hk.im h.1 _ _ _ _ hz.1 hz.2, hz.2⟩⟩, hI.bb⟩
theorem BgI.cust (h : BgI K D w wr n l G) (s : ByteArray) (v1 v2 : Value) (t : TypeId) (ht : ImT t) (hs : s.size ≤ maxLen) :
    Calls Tryz.prog 184 #[.pointer (some ⟨K.bb, 0, none⟩), .string s] (wr.alloc (.cells #[.string s, v1, v2] t)) fun e w' => e = .returned (.bool (custB K s)) ∧ Hid (BgI K D w w' n l G) ∧ Hid (Row3c w' wr.heap.size s v1 v2 t) ∧ w'.cell? ⟨K.bb, 3, none⟩ = some (.pointer (some ⟨K.p, 0, none⟩)) ∧ K.bb < w'.heap.size := by
  have h1 := h.below ((Below.refl _ _).alloc (Nat.le_refl _) (.cells #[.string s, v1, v2] t))
  refine (cust_any h1.1 s hs).mono ?_
  rintro e w' ⟨rfl, hb⟩
  have h2 := h1.below hb
  exact ⟨rfl, Lib.hid h2, Lib.hid (Row3c.below ⟨heap_alloc_new _ _, ht⟩ hb), h2.bb⟩
theorem BgI.other (h : BgI K D w wr n l G) (s : ByteArray) (v1 v2 : Value) (t : TypeId) (ht : ImT t) (hs : s.size ≤ maxLen) :
    Calls Tryz.prog 185 #[.pointer (some ⟨K.bb, 0, none⟩), .string s] (wr.alloc (.cells #[.string s, v1, v2] t)) fun e w' => e = .returned (.bool (otherB K s)) ∧ Hid (BgI K D w w' n l G) ∧ Hid (Row3c w' wr.heap.size s v1 v2 t) ∧ w'.cell? ⟨K.bb, 3, none⟩ = some (.pointer (some ⟨K.p, 0, none⟩)) ∧ K.bb < w'.heap.size := by
  have h1 := h.below ((Below.refl _ _).alloc (Nat.le_refl _) (.cells #[.string s, v1, v2] t))
  refine (other_any h1.1 s hs).mono ?_
  rintro e w' ⟨rfl, hb⟩
  have h2 := h1.below hb
  exact ⟨rfl, Lib.hid h2, Lib.hid (Row3c.below ⟨heap_alloc_new _ _, ht⟩ hb), h2.bb⟩
theorem BgI.mono (h : BgI K D w wr n l G) {n' l' : Nat} (hn : n ≤ n') (hl : l ≤ l') : BgI K D w wr n' l' G := ⟨h.1.mono hn (Nat.le_refl _) hl, h.2⟩
theorem BgI.post (h : BgI K D w wr n l G) {Y : World} (hY : Below wr.heap.size wr Y) {txt : ByteArray} {A : Option Addr} (e : Led.Ent) (hR : Led.Re Y Y.heap.size A [e, lessE e]) (h1 : e.acc.size ≤ maxLen) (h3 : e.cur.size ≤ maxLen) (hn : n < 4096) (hl : l < 4096) (ht : txt.size ≤ 4096) :
    Calls Tryz.prog 186 #[.pointer (some ⟨K.p, 0, none⟩), .string txt, .slice A 2 2] Y fun r w' => ∃ y code : Int, r = .returned (.tuple #[.int .i64 y, .int .i64 code]) ∧ Hid (BgI K D w w' (n + 2) (l + 1) (postG G [e, lessE e]) ∧ (∀ z s v1 v2 t, Row3c wr z s v1 v2 t → Row3c w' z s v1 v2 t)) ∧ w'.cell? ⟨K.bb, 3, none⟩ = some (.pointer (some ⟨K.p, 0, none⟩)) ∧ K.bb < w'.heap.size := by
  have hcm : capital.size ≤ maxLen := by decide
  refine (h.1.post hY (txt := txt) (a1 := e.acc) (a2 := capital) (c := e.cur) (v1 := e.n) (v2 := IntKind.i64.wrap (-e.n)) hR h1 hcm h3 (by omega) (by omega) ht).mono ?_
  rintro r w' ⟨y, code, rfl, ⟨_, _, hk, hh⟩, hfl⟩
  have hI : BgI K D w w' (n + 2) (l + 1) (postG G [e, lessE e]) := by
    refine ⟨?_, h.2.trans hk⟩
    rcases hh with ⟨_, hf, hx⟩ | ⟨_, hf, hx⟩
    · have e2 : postG G [e, lessE e] = Led.bump G (Led.eachG [e, lessE e]) := postG_yes hf
      rw [e2]; exact hx
    · have e2 : postG G [e, lessE e] = G := postG_no hf
      rw [e2]; exact hx
  exact ⟨y, code, rfl, Lib.hid ⟨hI, fun z s v1 v2 t hz => ⟨hk.im h.1 _ _ _ _ hz.1 hz.2, hz.2⟩⟩, hI.bb⟩
end
end Go.Proofs.YtchkdidpnjakeaaGreatDoor
