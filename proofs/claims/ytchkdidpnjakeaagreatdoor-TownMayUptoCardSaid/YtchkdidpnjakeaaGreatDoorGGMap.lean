/- Maps that a call has made, said as functions: what each key holds. No program in sight: keys and elements by their codings. Rules: their trees, how they lie in memory, how many cases they have. Own rows of fields, and append to them. field.Number: the number whose digits a text is. The tokens of a text, as plain functions on lists of bytes. Names of the language and codes, plain. Rules that may be, and a credit's text, plain. Papers in memory; a field of the first paper of a kind; a rule over a field. Codings: strings as keys; integers, bools and structs of integers as elements. Codings of this program's maps: texts as keys; texts and numbers as elements. sense.clashes' closure, and slices.ContainsFunc of it. Whether rules, needs are one: syntax.sameRule, syntax.sameNeed. -/
import Derived.Maps.RangeWalk
import Derived.Maps.OwnSet
import Derived.DeepKeys4
import Derived.Deep.Draws
import Derived.Test.YtchkdidpnjakeaaGreatDoorProg
import Derived.Lib.Hide
import Derived.WalkKit
import Derived.WalkSpells
import Derived.WalkLawsBesides
import Derived.Carry
import Derived.Deep.QuietTactic
import Derived.BigQuiet
import Derived.Deep.Cut
import Derived.Maps.AppendAt
import Derived.Laws.OwnMore
import Derived.OwnWalk
import Derived.Lib.AppendZerosOnto
import Derived.Lib.AppendZeros
import Derived.Lib.SliceRun
import Derived.Lib.SmallJoins
import Derived.Shelf.Small.Bits
import Derived.Shelf.Small.Wraps
import Derived.Shelf.Strconv.Itoa0
import Derived.Shelf.Strconv.Itoa1
import Derived.Shelf.LaysM
import Derived.Shelf.Strconv.Itoa2
import Derived.Shelf.Strconv.Itoa3
import Derived.Shelf.Abstract
import Derived.StringKeys
import Derived.Maps.StringElems
import Derived.Lib.ConvBytes
import Derived.Deep.RegionWith
import Derived.Deep.RegionLaw
import Derived.Deep.AppendLies
namespace Go.Proofs.YtchkdidpnjakeaaGreatDoor
open Go.RowKit Go.Maps
set_option linter.unusedVariables false

/-- how the keys of a type look -/
structure KeyC (P : Program) (k : TypeId) (α : Type) where build ::
  law : Keyed P k
  mk : α → Value
  lit : α → Lit
  ok : α → Prop
  of : ∀ x, ok x → keyOf P k (mk x) = some (lit x)
  inv : ∀ key kl, keyOf P k key = some kl → ∃ x, key = mk x ∧ kl = lit x ∧ ok x
  inj : ∀ x y, mk x = mk y → x = y

/-- how the elements look -/
structure ElC (β : Type) where build ::
  mk : β → Value
  dat : β → DataW Unit
  ok : β → Prop
  R : Value → Option (DataW Unit × List MemPlace)
  of : ∀ v, ok v → R (mk v) = some (dat v, [])
  inv : ∀ x z, R x = some z → ∃ v, x = mk v ∧ z = (dat v, []) ∧ ok v
  inj : ∀ u v, dat u = dat v → u = v

section
variable {P : Program} {k : TypeId} {α β : Type} (C : KeyC P k α) (E : ElC β)

theorem KeyC.isKey {x : α} (h : C.ok x) : WideAt.IsKeyLit (C.lit x) := C.law.key (C.of x h)
theorem KeyC.litInj {x y : α} (hx : C.ok x) (hy : C.ok y) (h : C.lit x = C.lit y) : x = y :=
  C.inj x y (C.law.inj (C.of x hx) (by rw [h]; exact C.of y hy))

/-- the datum reads as the function -/
structure Rd (D : DataW Unit) (G : α → Option β) : Prop where
  has : ∀ x, C.ok x → Maps.has D (C.lit x) = (G x).isSome
  at_ : ∀ x, C.ok x → ∀ z, D.atKey (C.lit x) z = match G x with | some v => E.dat v | none => z
  isMap : IsMap D

def putG [DecidableEq α] (G : α → Option β) (x : α) (v : β) : α → Option β := fun y => if y = x then some v else G y
theorem putG_same [DecidableEq α] (G : α → Option β) (x : α) (v : β) : putG G x v x = some v := by simp [putG]
theorem putG_other [DecidableEq α] (G : α → Option β) {x y : α} (v : β) (h : y ≠ x) : putG G x v y = G y := by simp [putG, h]
variable {C E}
theorem Rd.empty : Rd C E (.map []) (fun _ => none) := ⟨fun _ _ => rfl, fun _ _ _ => by simp [DataW.atKey], isMap_empty⟩
theorem Rd.put [DecidableEq α] {D : DataW Unit} {G : α → Option β} (h : Rd C E D G) {x : α} (hx : C.ok x) (v : β) : Rd C E (D.put (C.lit x) (E.dat v)) (putG G x v) := by
  refine ⟨fun y hy => ?_, fun y hy z => ?_, h.isMap.put _ _⟩
  · by_cases e : y = x
    · subst e; rw [has_put_same h.isMap (C.isKey hx)]; simp [putG]
    · rw [has_put_other (fun h' => e (C.litInj hy hx h')), h.has y hy, putG_other _ _ e]
  · by_cases e : y = x
    · subst e; rw [atKey_put_same h.isMap (C.isKey hx)]; simp [putG]
    · rw [atKey_put_other (fun h' => e (C.litInj hy hx h')), h.at_ y hy, putG_other _ _ e]
variable (C E)
/-- block b is a map of at most n entries that holds what G says -/
def Mp (w : World) (b n : Nat) (G : α → Option β) : Prop := ∃ D, w.ownsMap P k E.R b n D ∧ Rd C E D G
/-- a range over it, under way at block r; lf: what is still to come -/
def Rn' (w : World) (b r n : Nat) (G : α → Option β) (lf : α → Bool) (cnt : Nat) : Prop :=
  ∃ D left, w.ranges P k E.R b r n D left cnt ∧ Rd C E D G ∧ (∀ x, C.ok x → left (C.lit x) = lf x) ∧ (∀ x, C.ok x → lf x = true → (G x).isSome = true)
variable {C E}
variable {w w' : World} {b r n cnt : Nat} {G : α → Option β} {lf : α → Bool}

theorem Mp.made (w : World) : Mp C E (w.alloc (.map #[] 0)) w.heap.size 0 (fun _ => none) := ⟨_, World.ownsMap_made w P k E.R, Rd.empty⟩
theorem Mp.lt (h : Mp C E w b n G) : b < w.heap.size := by obtain ⟨D, h, _⟩ := h; exact h.lt
theorem Mp.kept (h : Mp C E w b n G) {row : Option Nat} (hg : w.grownBy w' row) (hb : some b ≠ row) : Mp C E w' b n G := by
  obtain ⟨D, h, hR⟩ := h; exact ⟨D, h.kept hg hb, hR⟩
theorem Mp.alloc (h : Mp C E w b n G) (o : Obj) : Mp C E (w.alloc o) b n G := h.kept (World.grownBy_alloc w o none) (by simp)
theorem Mp.drewN (h : Mp C E w b n G) (m : Nat) : Mp C E (w.drewN m) b n G := h
theorem Mp.setCell (h : Mp C E w b n G) {a : Addr} (ha : b ≠ a.block) (u : Value) : Mp C E (w.setCell a u) b n G := by
  obtain ⟨D, h, hR⟩ := h; exact ⟨D, h.setCell ha u, hR⟩
theorem Mp.below (h : Mp C E w b n G) {B : Nat} (hg : Below B w w') (hb : b < B) : Mp C E w' b n G := by
  obtain ⟨D, ⟨es, clock, h2, h3⟩, hR⟩ := h
  exact ⟨D, ⟨es, clock, (hg.block b hb).trans h2, h3⟩, hR⟩
theorem Mp.mono (h : Mp C E w b n G) {m : Nat} (hm : n ≤ m) : Mp C E w b m G := by obtain ⟨D, h, hR⟩ := h; exact ⟨D, h.mono hm, hR⟩
theorem Mp.map? (h : Mp C E w b n G) : ∃ es clock, w.heap[b]? = some (.map es clock) := by obtain ⟨D, ⟨es, clock, h, _⟩, _⟩ := h; exact ⟨es, clock, h⟩
theorem Mp.neCells (h : Mp C E w b n G) {p : Nat} {cs : Array Value} {t : TypeId} {fr : Nat × Nat} (hp : w.heap[p]? = some (.cells cs t fr)) : p ≠ b := by
  rintro rfl
  obtain ⟨es, clock, h⟩ := h.map?
  rw [hp] at h
  cases h

theorem Mp.look {t e : TypeId} (h : Mp C E w b n G) (ht : P.underlying t = some (.map k e)) {z : β} (hz : (zeroValue e).run P w = .ok (E.mk z) w) (hok : E.ok z) {x : α} (hx : C.ok x) :
    (Instr.lookup t (.map (some b)) (C.mk x) false).run P w = .ok (E.mk ((G x).getD z)) w := by
  obtain ⟨D, h, hR⟩ := h
  obtain ⟨v, ps, hrun, hv⟩ := h.lookup C.law ht hz (E.of z hok) (C.of x hx)
  obtain ⟨u, rfl, hu, _⟩ := E.inv _ _ hv
  rw [hrun]
  have e1 : D.atKey (C.lit x) (E.dat z) = E.dat u := congrArg Prod.fst hu
  rw [hR.at_ x hx] at e1
  cases hG : G x with
  | none => rw [hG] at e1; rw [E.inj _ _ e1]; rfl
  | some c => rw [hG] at e1; rw [← E.inj _ _ e1]; rfl
theorem Mp.look_ok {t e : TypeId} (h : Mp C E w b n G) (ht : P.underlying t = some (.map k e)) {z : β} (hz : (zeroValue e).run P w = .ok (E.mk z) w) (hok : E.ok z) {x : α} (hx : C.ok x) :
    (Instr.lookup t (.map (some b)) (C.mk x) true).run P w = .ok (.tuple #[E.mk ((G x).getD z), .bool (G x).isSome]) w := by
  obtain ⟨D, h, hR⟩ := h
  obtain ⟨v, ps, hrun, hv⟩ := h.look_ok C.law ht hz (E.of z hok) (C.of x hx)
  obtain ⟨u, rfl, hu, _⟩ := E.inv _ _ hv
  rw [hrun, hR.has x hx]
  have e1 : D.atKey (C.lit x) (E.dat z) = E.dat u := congrArg Prod.fst hu
  rw [hR.at_ x hx] at e1
  cases hG : G x with
  | none => rw [hG] at e1; rw [E.inj _ _ e1]; rfl
  | some c => rw [hG] at e1; rw [← E.inj _ _ e1]; rfl
theorem Mp.len {t e : TypeId} (h : Mp C E w b n G) (ht : P.underlying t = some (.map k e)) : ∃ m : Nat, m ≤ n ∧ ∀ ty, (Builtin.len_ #[t] ty #[.map (some b)]).run P w = .ok (.int .i64 (m : Nat)) w := by
  obtain ⟨D, h, hR⟩ := h
  exact ⟨Maps.size D, h.size_le, fun ty => h.len ht ty⟩
theorem Mp.store [DecidableEq α] {t e : TypeId} (h : Mp C E w b n G) (ht : P.underlying t = some (.map k e)) (hn : n < maxLen) {x : α} (hx : C.ok x) {v : β} (hv : E.ok v) :
    ∃ w', (Instr.mapUpdate t (.map (some b)) (C.mk x) (E.mk v)).run P w = .ok () w' ∧ Mp C E w' b (n + 1) (putG G x v) ∧ w.mapTurned w' b := by
  obtain ⟨D, h, hR⟩ := h
  obtain ⟨w', h1, h2, h3⟩ := h.store C.law ht hn (C.of x hx) (E.of v hv)
  exact ⟨w', h1, ⟨_, h2, hR.put hx v⟩, h3⟩
theorem Rn'.kept (h : Rn' C E w b r n G lf cnt) {row : Option Nat} (hg : w.grownBy w' row) (hb : some b ≠ row) (hr : some r ≠ row) : Rn' C E w' b r n G lf cnt := by
  obtain ⟨D, left, h, h1, h2, h3⟩ := h; exact ⟨D, left, h.kept hg hb hr, h1, h2, h3⟩
theorem Rn'.alloc (h : Rn' C E w b r n G lf cnt) (o : Obj) : Rn' C E (w.alloc o) b r n G lf cnt := h.kept (World.grownBy_alloc w o none) (by simp) (by simp)
theorem Rn'.left_eq (h : Rn' C E w b r n G lf cnt) : w.rangeLeft b r = cnt := by obtain ⟨D, left, h, _⟩ := h; exact h.left_eq
theorem Rn'.mp (h : Rn' C E w b r n G lf cnt) : Mp C E w b n G := by obtain ⟨D, left, h, h1, _⟩ := h; exact ⟨D, h.owns, h1⟩

section
variable (w) {ops : Array Oper} {rest : List Oper} {o : Oper} {a : Act} {Q : Exit → Act → World → Prop}
theorem wpList_range_mp (hg : o.guard = none) (m : Operand) (t : TypeId) (hop : o.op = Op.range t m) (e : TypeId) (ht : P.underlying t = some (.map k e)) (b n : Nat) (G : α → Option β)
    (hm : a.eval m = .map (some b)) (hown : Mp C E w b n G)
    (hK : ∀ w', (∃ cnt, Rn' C E w' b w.heap.size n G (fun x => (G x).isSome) cnt) → w.grownBy w' none → w'.heap.size = w.heap.size + 1 → wpList P ops Q rest (a.put o.dst (.pointer (some ⟨w.heap.size, 0, none⟩))) w') :
    wpList P ops Q (o :: rest) a w := by
  obtain ⟨D, h, hR⟩ := hown
  exact wpList_range_own w hg m t hop k e C.law ht E.R b n D hm h fun w' h1 h2 h3 => hK w' ⟨_, D, _, h1, hR, hR.has, fun x _ h => h⟩ h2 h3
theorem wpList_next_mp [DecidableEq α] (hg : o.guard = none) (it : Operand) (hop : o.op = Op.next it false) (b r n : Nat) (G : α → Option β) (lf : α → Bool) (cnt : Nat)
    (hit : a.eval it = .pointer (some ⟨r, 0, none⟩)) (h : Rn' C E w b r n G lf cnt)
    (hDone : (∀ x, C.ok x → lf x = false) → wpList P ops Q rest (a.put o.dst (.tuple #[.bool false])) w)
    (hMore : ∀ (x : α) (v : β) (w' : World) (cnt' : Nat), C.ok x → lf x = true → G x = some v → E.ok v → Rn' C E w' b r n G (fun z => lf z && !decide (z = x)) cnt' → cnt' < cnt →
      w.grownBy w' (some r) → w'.heap.size = w.heap.size → (Instr.entry (.pointer (some ⟨r, 0, none⟩))).run P w' = .ok (.tuple #[C.mk x, E.mk v]) w' → wpList P ops Q rest (a.put o.dst (.tuple #[.bool true, C.mk x, E.mk v])) w') :
    wpList P ops Q (o :: rest) a w := by
  obtain ⟨D, left, h, hR, hl, hs⟩ := h
  refine wpList_next_ranges w hg it hop k C.law E.R C.mk E.mk (fun key kl hk => by obtain ⟨x, hx, _⟩ := C.inv key kl hk; exact ⟨x, hx⟩) (fun v y hv => by obtain ⟨c, hc, _⟩ := E.inv v y hv; exact ⟨c, hc⟩) b r n D left cnt hit h (fun _ h0 => hDone fun x hx => by rw [← hl x hx]; exact h0 _) ?_
  intro x v kl y w1 cnt1 hkey hlx hv hat hrg1 hlt hg1 hs1 hen
  obtain ⟨x', hx', rfl, hxo⟩ := C.inv _ _ hkey
  obtain rfl := C.inj _ _ hx'
  obtain ⟨v', hv', rfl, hvo⟩ := E.inv _ _ hv
  have hlf : lf x = true := by rw [← hl x hxo]; exact hlx
  have hso := hs x hxo hlf
  cases hG : G x with
  | none => rw [hG] at hso; cases hso
  | some c =>
    have hcv : c = v' := by
      have := hat (E.dat v')
      rw [hR.at_ x hxo, hG] at this
      exact E.inj _ _ this
    subst hcv
    rw [hv'] at hen ⊢
    refine hMore x c w1 cnt1 hxo hlf hG hvo ⟨D, _, hrg1, hR, ?_, ?_⟩ hlt hg1 hs1 hen
    · intro z hz
      simp only [hl z hz]
      by_cases e : z = x
      · subst e; simp [WideAt.sameKey_self (C.isKey hz)]
      · simp [sameKey_ne (fun h' => e (C.litInj hz hxo h')), e]
    · intro z hz hz'
      simp at hz'
      exact hs z hz hz'.1
end
end
end Go.Proofs.YtchkdidpnjakeaaGreatDoor
namespace Go.Proofs.YtchkdidpnjakeaaGreatDoor
open Go.RowKit Go.Maps Go.Lib
set_option linter.unusedVariables false
set_option maxRecDepth 100000

inductive Rl where
  | mk (k p : Int) (f t : ByteArray) (n : Int) (l : List Rl)
namespace Rl
def k : Rl → Int | ⟨k, _, _, _, _, _⟩ => k
def p : Rl → Int | ⟨_, p, _, _, _, _⟩ => p
def f : Rl → ByteArray | ⟨_, _, f, _, _, _⟩ => f
def t : Rl → ByteArray | ⟨_, _, _, t, _, _⟩ => t
def n : Rl → Int | ⟨_, _, _, _, n, _⟩ => n
def l : Rl → List Rl | ⟨_, _, _, _, _, l⟩ => l
def val (x : Rl) (A : Option Addr) (c : Nat) : Value := .agg #[.int .i64 x.k, .int .i64 x.p, .string x.f, .string x.t, .int .i64 x.n, .slice A x.l.length c]
end Rl
section
variable {w w' : World} {B B' : Nat} {A : Option Addr} {l : List Rl}
end

mutual
/-- how many cases a rule has, and whether that can be told -/
def cnt : Rl → Nat × Bool
  | ⟨k, p, f, t, n, l⟩ => if k = 0 then prodL l 1 false else if k = 1 then sumL l 0 else (1, true)
def prodL : List Rl → Nat → Bool → Nat × Bool
  | [], times, z => if z then (0, true) else (times, decide (times ≤ 4096))
  | x :: l, times, z => if (cnt x).2 = false then (0, false) else if (cnt x).1 = 0 then prodL l times true else prodL l (min (times * (cnt x).1) 4097) z
def sumL : List Rl → Nat → Nat × Bool
  | [], s => (s, true)
  | x :: l, s => if (cnt x).2 = false ∨ 4096 < s + (cnt x).1 then (0, false) else sumL l (s + (cnt x).1)
end
end Go.Proofs.YtchkdidpnjakeaaGreatDoor
namespace Go.Proofs.YtchkdidpnjakeaaGreatDoor
open Go.RowKit Go.Maps Go.Lib
set_option linter.unusedVariables false
set_option maxRecDepth 100000

abbrev Fp := ByteArray × ByteArray
/-- the fields l stand from off on in block g -/
def FpAt (w : World) (g off : Nat) (l : List Fp) : Prop := ∀ i x, l[i]? = some x → w.cell? ⟨g, off + i * 2, none⟩ = some (.string x.1) ∧ w.cell? ⟨g, off + i * 2 + 1, none⟩ = some (.string x.2)
section
variable {w w' : World} {B B' : Nat} {A : Option Addr} {l : List Fp}
end
def fc (x : Fp) : List Value := [.string x.1, .string x.2]
def fpcs (L : List Fp) : List Value := L.flatMap fc
/-- v is a slice of its own, in a block from base on, of the fields L -/
def Pw (w : World) (base : Nat) (v : Value) (L : List Fp) : Prop := w.ownsRow base 134 2 v L.length (fpcs L)
section
variable {w w' : World} {base : Nat} {v : Value} {L : List Fp}
theorem Pw.form (h : Pw w base v L) : ∃ A c, v = .slice A L.length c ∧ (A = none → c = 0) := by
  rcases h.2 with ⟨h1, h2⟩ | ⟨g, cap, cur, h1, _⟩
  · exact ⟨none, 0, by rw [h1, h2], fun _ => rfl⟩
  · exact ⟨_, _, h1, fun h => (by cases h)⟩
end
end Go.Proofs.YtchkdidpnjakeaaGreatDoor
namespace Go.Proofs.YtchkdidpnjakeaaGreatDoor
open Go.RowKit Go.Maps Go.Lib
set_option linter.unusedVariables false
set_option maxRecDepth 100000

/-- what is read of the package variables -/
structure Gl (w : World) : Prop where
  e1 : ∃ te pe, w.cell? ⟨10, 0, none⟩ = some (.iface te pe)
  e2 : ∃ te pe, w.cell? ⟨11, 0, none⟩ = some (.iface te pe)
  tab : Lib.TabIs Tryz.prog w "internal/strconv.uint64pow10" .u64 Lib.pow10Tab
  ml : ∃ m, w.cell? ⟨4, 0, none⟩ = some (.int .i64 m)
end Go.Proofs.YtchkdidpnjakeaaGreatDoor
namespace Go.Proofs.YtchkdidpnjakeaaGreatDoor

abbrev Bs := List UInt8
def blank (c : UInt8) : Bool := c == 32 || c == 10
def digit (c : UInt8) : Bool := 48 ≤ c && c ≤ 57
def large (c : UInt8) : Bool := 65 ≤ c && c ≤ 90
def small (c : UInt8) : Bool := (97 ≤ c && c ≤ 122) || digit c || c == 45
def quotd (c : UInt8) : Bool := c != 34 && 32 ≤ c && c ≤ 126
def signy (c : UInt8) : Bool := [40, 41, 44, 59, 58, 46, 61, 126].contains c
structure Tok where
  kind : Nat
  place : Nat
  text : Bs
deriving DecidableEq, Repr
/-- what stands at the head of a text: an error, or a token's kind, its text, and how many bytes it takes -/
inductive R1 where
  | bad (e : Nat)
  | tok (kind : Nat) (text : Bs) (len : Nat)
deriving DecidableEq, Repr
def num (t : Bs) : Nat := t.foldl (fun n c => n * 10 + (c.toNat - 48)) 0
def words : List Bs := [[97, 98, 111, 118, 101],
  [97, 108, 108],
  [97, 110, 100],
  [97, 110, 121],
  [97, 112, 112, 108, 105, 99, 97, 110, 116],
  [98, 101, 108, 111, 119],
  [98, 101, 110, 101, 102, 105, 99, 105, 97, 114, 121],
  [99, 104, 97, 110, 103, 101],
  [99, 111, 110, 102, 105, 114, 109, 101, 114],
  [99, 111, 112, 105, 101, 115],
  [99, 114, 101, 100, 105, 116],
  [100, 97, 121, 115],
  [100, 114, 97, 102, 116],
  [101, 120, 112, 105, 114, 121],
  [102, 114, 111, 109],
  [105, 110, 115, 117, 114, 97, 110, 99, 101],
  [105, 110, 118, 111, 105, 99, 101],
  [105, 115, 115, 117, 101, 114],
  [108, 97, 100, 105, 110, 103],
  [108, 97, 116, 101, 115, 116],
  [110, 111],
  [110, 111, 116],
  [111, 102],
  [111, 114],
  [111, 114, 105, 103, 105, 110],
  [112, 97, 99, 107, 105, 110, 103],
  [112, 97, 114, 116, 105, 97, 108],
  [115, 105, 103, 104, 116],
  [115, 117, 109],
  [116, 101, 110, 111, 114],
  [116, 111],
  [119, 97, 110, 116, 115],
  [119, 105, 116, 104],
  [119, 105, 116, 104, 105, 110],
  [121, 101, 115]]
def ranked (t : Bs) : R1 :=
  if t.all digit then
    if 1 < t.length ∧ t.head? = some 48 then .bad 2 else if 1099511627776 < num t then .bad 3 else .tok 2 t t.length
  else if words.contains t then .tok 0 t t.length
  else if 16 < t.length then .bad 2 else .tok 1 t t.length
def one : Bs → R1
  | [] => .bad 2
  | c :: r =>
    if small c then ranked ((c :: r).takeWhile small)
    else if large c then
      let t := (c :: r).takeWhile large
      if t.length = 3 then .tok 4 t 3 else .bad 2
    else if c == 34 then
      let t := r.takeWhile quotd
      if (r.drop t.length).head? = some 34 then .tok 3 t (t.length + 2) else .bad 2
    else if signy c then .tok 5 [c] 1
    else if (c == 60 || c == 62) ∧ r.head? = some 61 then .tok 5 [c, 61] 2
    else .bad 2
def never (_ : UInt8) : Bool := false
end Go.Proofs.YtchkdidpnjakeaaGreatDoor
namespace Go.Proofs.YtchkdidpnjakeaaGreatDoor
set_option linter.unusedVariables false

def nameB (l : Bs) : Bool := decide (1 ≤ l.length ∧ l.length ≤ 16) && l.all small
/-- three large letters -/
def codeB (s : ByteArray) : Bool := decide (s.data.toList.length = 3) && s.data.toList.all large
end Go.Proofs.YtchkdidpnjakeaaGreatDoor
namespace Go.Proofs.YtchkdidpnjakeaaGreatDoor
open Go.Lib
set_option linter.unusedVariables false

/-- a need -/
structure Nd where
  k : Int
  c : Int
  r : Rl
/-- a credit -/
structure Cr where
  num : ByteArray
  app : ByteArray
  ben : ByteArray
  iss : ByteArray
  con : ByteArray
  frm : ByteArray
  dst : ByteArray
  cur : ByteArray
  amt : Int
  abo : Int
  bel : Int
  lat : Int
  exp : Int
  wit : Int
  ten : Int
  par : Bool
  chg : Bool
  needs : List Nd
/-- a paper's word -/
def wordL (k : Int) : Bs := if k = 0 then [105, 110, 118, 111, 105, 99, 101] else if k = 1 then [112, 97, 99, 107, 105, 110, 103] else if k = 2 then [108, 97, 100, 105, 110, 103] else if k = 3 then [105, 110, 115, 117, 114, 97, 110, 99, 101] else if k = 4 then [111, 114, 105, 103, 105, 110] else if k = 5 then [100, 114, 97, 102, 116] else []
end Go.Proofs.YtchkdidpnjakeaaGreatDoor
namespace Go.Proofs.YtchkdidpnjakeaaGreatDoor
open Go.RowKit Go.Lib
set_option linter.unusedVariables false
set_option maxRecDepth 100000

/-- a paper -/
structure Dc where
  k : Int
  num : ByteArray
  iss : ByteArray
  fs : List Fp
structure D4 (w : World) (g o : Nat) (x : Dc) (A : Option Addr) (c : Nat) : Prop where
  d0 : w.cell? ⟨g, o, none⟩ = some (.int .i64 x.k)
  d1 : w.cell? ⟨g, o + 1, none⟩ = some (.string x.num)
  d2 : w.cell? ⟨g, o + 2, none⟩ = some (.string x.iss)
  d3 : w.cell? ⟨g, o + 3, none⟩ = some (.slice A x.fs.length c)
section
variable {w w' : World} {B B' : Nat} {A : Option Addr} {L : List Dc}
end
end Go.Proofs.YtchkdidpnjakeaaGreatDoor
namespace Go.Proofs.YtchkdidpnjakeaaGreatDoor
open Go.RowKit Go.Maps
set_option linter.unusedVariables false

/-- the keys of type string -/
def strC {P : Program} {k : TypeId} (hk : P.underlying k = some .string) : KeyC P k ByteArray where
  law := string_keyed hk
  mk := .string
  lit s := .string s.data.toList
  ok s := s.size ≤ maxLen
  of s hs := WideMaps.keyOf_string_mk hk hs
  inv key kl h := by
    unfold keyOf at h
    rw [hk] at h
    simp only [mapKey, hk] at h
    cases key <;> simp at h
    exact ⟨_, rfl, h.2.symm, h.1⟩
  inj x y h := by injection h

/-- elements of type int64 -/
def intE (P : Program) (e : TypeId) (he : P.underlying e = some (.int .i64)) : ElC Int where
  mk a := .int .i64 a
  dat a := .lit (.int .i64 a)
  ok a := (Lit.int .i64 a).wf = true
  R := plainElem P e
  of v hv := plainElem_int he hv
  inv x z h := by obtain ⟨a, h1, h2, h3⟩ := plainElem_int_inv he h; exact ⟨a, h1, h2, h3⟩
  inj u v h := by injection h with h; injection h
/-- elements of type bool -/
def boolE (P : Program) (e : TypeId) (he : P.underlying e = some .bool) : ElC Bool where
  mk a := .bool a
  dat a := .lit (.bool a)
  ok _ := True
  R := plainElem P e
  of v _ := plainElem_bool he v
  inv x z h := by
    unfold plainElem at h
    rw [he] at h
    cases x <;> simp at h
    exact ⟨_, rfl, h.symm, trivial⟩
  inj u v h := by injection h with h; injection h

/-- how an account stands: floor, balance, held -/
structure Ac where
  floor : Int
  bal : Int
  held : Int
def Ac.val (a : Ac) : Value := .agg #[.int .i64 a.floor, .int .i64 a.bal, .int .i64 a.held]
def Ac.dat (a : Ac) : DataW Unit := .agg [.lit (.int .i64 a.floor), .lit (.int .i64 a.bal), .lit (.int .i64 a.held)]
def acR : Value → Option (DataW Unit × List MemPlace)
  | .agg ⟨[.int .i64 f, .int .i64 b, .int .i64 h]⟩ => some ((Ac.mk f b h).dat, [])
  | _ => none
def acE : ElC Ac where
  mk := Ac.val
  dat := Ac.dat
  ok _ := True
  R := acR
  of v _ := rfl
  inv x z h := by
    unfold acR at h
    split at h
    · cases h; exact ⟨⟨_, _, _⟩, rfl, rfl, trivial⟩
    · cases h
  inj u v h := by
    obtain ⟨a, b, c⟩ := u
    obtain ⟨a', b', c'⟩ := v
    simp [Ac.dat] at h
    simp [h]
end Go.Proofs.YtchkdidpnjakeaaGreatDoor
namespace Go.Proofs.YtchkdidpnjakeaaGreatDoor
open Go.RowKit Go.Maps Go.Lib
set_option linter.unusedVariables false
set_option maxRecDepth 100000

instance decBA : DecidableEq ByteArray := fun a b => decidable_of_iff (a.data = b.data) ⟨fun h => ByteArray.ext h, fun h => by rw [h]⟩
noncomputable def amtE : ElC Int := intE Tryz.prog 2 Tryz.underlying2
noncomputable def curC : KeyC Tryz.prog 9 ByteArray := strC Tryz.underlying9
theorem zeroI64 (w : World) : (zeroValue 2).run Tryz.prog w = .ok (.int .i64 0) w := by kernel_rfl
theorem i64_ok {a : Int} (h0 : -9223372036854775808 ≤ a) (h1 : a ≤ 9223372036854775807) : amtE.ok a := by
  show (Lit.int .i64 a).wf = true
  simp [Lit.wf, IntKind.min, IntKind.max, IntKind.signed, IntKind.bits]
  omega
section
variable (w : World) {ops : Array Oper} {rest : List Oper} {o : Oper} {a : Act} {Q : Exit → Act → World → Prop}
theorem wpList_next_cur (hg : o.guard = none) (it : Operand) (hop : o.op = Op.next it false) (b r n : Nat) (G : ByteArray → Option Int) (lf : ByteArray → Bool) (cnt : Nat)
    (hit : a.eval it = .pointer (some ⟨r, 0, none⟩)) (h : Rn' curC amtE w b r n G lf cnt)
    (hDone : (∀ x, x.size ≤ maxLen → lf x = false) → wpList Tryz.prog ops Q rest (a.put o.dst (.tuple #[.bool false])) w)
    (hMore : ∀ (x : ByteArray) (v : Int) (w' : World) (cnt' : Nat), x.size ≤ maxLen → lf x = true → G x = some v → Rn' curC amtE w' b r n G (fun z => lf z && !decide (z = x)) cnt' → cnt' < cnt →
      w.grownBy w' (some r) → w'.heap.size = w.heap.size → (Instr.entry (.pointer (some ⟨r, 0, none⟩))).run Tryz.prog w' = .ok (.tuple #[.string x, .int .i64 v]) w' → wpList Tryz.prog ops Q rest (a.put o.dst (.tuple #[.bool true, .string x, .int .i64 v])) w') :
    wpList Tryz.prog ops Q (o :: rest) a w :=
  wpList_next_mp w hg it hop b r n G lf cnt hit h hDone fun x v w' cnt' h1 h2 h3 _ h5 h6 h7 h8 h9 => hMore x v w' cnt' h1 h2 h3 h5 h6 h7 h8 h9
end
end Go.Proofs.YtchkdidpnjakeaaGreatDoor
namespace Go.Proofs.YtchkdidpnjakeaaGreatDoor
open Go.RowKit Go.Maps Go.Lib
set_option linter.unusedVariables false
set_option maxRecDepth 100000

/-- the cells of an atom -/
structure A6 (w : World) (g o : Nat) (a : Rl) (A5 : Option Addr) (c5' : Nat) : Prop where
  c0 : w.cell? ⟨g, o, none⟩ = some (.int .i64 a.k)
  c1 : w.cell? ⟨g, o + 1, none⟩ = some (.int .i64 a.p)
  c2 : w.cell? ⟨g, o + 2, none⟩ = some (.string a.f)
  c3 : w.cell? ⟨g, o + 3, none⟩ = some (.string a.t)
  c4 : w.cell? ⟨g, o + 4, none⟩ = some (.int .i64 a.n)
  c5 : w.cell? ⟨g, o + 5, none⟩ = some (.slice A5 a.l.length c5')
section
variable {w w' : World} {B B' : Nat} {A : Option Addr} {L : List Rl} {l : List Nat}
end
end Go.Proofs.YtchkdidpnjakeaaGreatDoor
namespace Go.Proofs.YtchkdidpnjakeaaGreatDoor
open Go.RowKit Go.Lib
set_option linter.unusedVariables false
set_option maxRecDepth 100000

theorem ba_beq (a b : ByteArray) : (a.toList == b.toList) = decide (a = b) := by
  rw [Bool.eq_iff_iff, beq_iff_eq, decide_eq_true_iff, ByteArray.toList_eq, ByteArray.toList_eq]
  exact ⟨fun h => ByteArray.ext (Array.toList_inj.1 h), fun h => by rw [h]⟩
end Go.Proofs.YtchkdidpnjakeaaGreatDoor
