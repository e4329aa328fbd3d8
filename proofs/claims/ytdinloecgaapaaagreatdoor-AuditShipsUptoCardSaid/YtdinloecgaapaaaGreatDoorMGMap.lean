/- Maps that a call has made, said as functions: what each key holds. No program in sight: keys and elements by their codings. Codings: strings as keys; integers, bools and structs of integers as elements. The ledger's names and currencies: what they answer where all bytes are right. The ledger's keys: a name and a currency. -/
import Derived.Maps.RangeWalk
import Derived.Maps.OwnSet
import Derived.DeepKeys4
import Derived.Deep.Draws
import Derived.StringKeys
import Derived.Test.YtdinloecgaapaaaGreatDoorRows
import Derived.WalkKit
import Derived.WalkSpells
import Derived.WalkLawsBesides
import Derived.Lib.Hide
namespace Go.Proofs.YtdinloecgaapaaaGreatDoor
open Go.RowKit Go.Maps
set_option linter.unusedVariables false

/-- how the keys of a type look -/
structure KeyC (P : Program) (k : TypeId) (α : Type) where build ::
  law : Keyed P k
  mk : α → Value
  lit : α → Lit
  ok : α → Prop
  of : ∀ x, ok x → keyOf P k (mk x) = some (lit x)
  inv : ∀ key kl, keyOf P k key = some kl → ∃ x, key = mk x ∧ kl = lit x ∧ ok x
  inj : ∀ x y, mk x = mk y → x = y

/-- how the elements look -/
structure ElC (β : Type) where build ::
  mk : β → Value
  dat : β → DataW Unit
  ok : β → Prop
  R : Value → Option (DataW Unit × List MemPlace)
  of : ∀ v, ok v → R (mk v) = some (dat v, [])
  inv : ∀ x z, R x = some z → ∃ v, x = mk v ∧ z = (dat v, []) ∧ ok v
  inj : ∀ u v, dat u = dat v → u = v

section
variable {P : Program} {k : TypeId} {α β : Type} (C : KeyC P k α) (E : ElC β)

theorem KeyC.isKey {x : α} (h : C.ok x) : WideAt.IsKeyLit (C.lit x) := C.law.key (C.of x h)
theorem KeyC.litInj {x y : α} (hx : C.ok x) (hy : C.ok y) (h : C.lit x = C.lit y) : x = y :=
  C.inj x y (C.law.inj (C.of x hx) (by rw [h]; exact C.of y hy))

/-- the datum reads as the function -/
structure Rd (D : DataW Unit) (G : α → Option β) : Prop where
  has : ∀ x, C.ok x → Maps.has D (C.lit x) = (G x).isSome
  at_ : ∀ x, C.ok x → ∀ z, D.atKey (C.lit x) z = match G x with | some v => E.dat v | none => z
  isMap : IsMap D

def putG [DecidableEq α] (G : α → Option β) (x : α) (v : β) : α → Option β := fun y => if y = x then some v else G y
theorem putG_same [DecidableEq α] (G : α → Option β) (x : α) (v : β) : putG G x v x = some v := by simp [putG]
theorem putG_other [DecidableEq α] (G : α → Option β) {x y : α} (v : β) (h : y ≠ x) : putG G x v y = G y := by simp [putG, h]
def delG [DecidableEq α] (G : α → Option β) (x : α) : α → Option β := fun y => if y = x then none else G y

variable {C E}
theorem Rd.empty : Rd C E (.map []) (fun _ => none) := ⟨fun _ _ => rfl, fun _ _ _ => by simp [DataW.atKey], isMap_empty⟩
theorem Rd.put [DecidableEq α] {D : DataW Unit} {G : α → Option β} (h : Rd C E D G) {x : α} (hx : C.ok x) (v : β) : Rd C E (D.put (C.lit x) (E.dat v)) (putG G x v) := by
  refine ⟨fun y hy => ?_, fun y hy z => ?_, h.isMap.put _ _⟩
  · by_cases e : y = x
    · subst e; rw [has_put_same h.isMap (C.isKey hx)]; simp [putG]
    · rw [has_put_other (fun h' => e (C.litInj hy hx h')), h.has y hy, putG_other _ _ e]
  · by_cases e : y = x
    · subst e; rw [atKey_put_same h.isMap (C.isKey hx)]; simp [putG]
    · rw [atKey_put_other (fun h' => e (C.litInj hy hx h')), h.at_ y hy, putG_other _ _ e]
theorem Rd.del [DecidableEq α] {D : DataW Unit} {G : α → Option β} (h : Rd C E D G) {x : α} (hx : C.ok x) : Rd C E (D.del (C.lit x)) (delG G x) := by
  refine ⟨fun y hy => ?_, fun y hy z => ?_, h.isMap.del _⟩
  · by_cases e : y = x
    · subst e; rw [has_del_same]; simp [delG]
    · rw [has_del_other (fun h' => e (C.litInj hy hx h')), h.has y hy]; simp [delG, e]
  · by_cases e : y = x
    · subst e; rw [atKey_del_same]; simp [delG]
    · rw [atKey_del_other (fun h' => e (C.litInj hy hx h')), h.at_ y hy]; simp [delG, e]

variable (C E)
/-- block b is a map of at most n entries that holds what G says -/
def Mp (w : World) (b n : Nat) (G : α → Option β) : Prop := ∃ D, w.ownsMap P k E.R b n D ∧ Rd C E D G
/-- a range over it, under way at block r; lf: what is still to come -/
def Rn' (w : World) (b r n : Nat) (G : α → Option β) (lf : α → Bool) (cnt : Nat) : Prop :=
  ∃ D left, w.ranges P k E.R b r n D left cnt ∧ Rd C E D G ∧ (∀ x, C.ok x → left (C.lit x) = lf x) ∧ (∀ x, C.ok x → lf x = true → (G x).isSome = true)
variable {C E}
variable {w w' : World} {b r n cnt : Nat} {G : α → Option β} {lf : α → Bool}

theorem Mp.made (w : World) : Mp C E (w.alloc (.map #[] 0)) w.heap.size 0 (fun _ => none) := ⟨_, World.ownsMap_made w P k E.R, Rd.empty⟩
theorem Mp.lt (h : Mp C E w b n G) : b < w.heap.size := by obtain ⟨D, h, _⟩ := h; exact h.lt
theorem Mp.kept (h : Mp C E w b n G) {row : Option Nat} (hg : w.grownBy w' row) (hb : some b ≠ row) : Mp C E w' b n G := by
  obtain ⟨D, h, hR⟩ := h; exact ⟨D, h.kept hg hb, hR⟩
theorem Mp.alloc (h : Mp C E w b n G) (o : Obj) : Mp C E (w.alloc o) b n G := h.kept (World.grownBy_alloc w o none) (by simp)
theorem Mp.drewN (h : Mp C E w b n G) (m : Nat) : Mp C E (w.drewN m) b n G := h
theorem Mp.setCell (h : Mp C E w b n G) {a : Addr} (ha : b ≠ a.block) (u : Value) : Mp C E (w.setCell a u) b n G := by
  obtain ⟨D, h, hR⟩ := h; exact ⟨D, h.setCell ha u, hR⟩
theorem Mp.below (h : Mp C E w b n G) {B : Nat} (hg : Below B w w') (hb : b < B) : Mp C E w' b n G := by
  obtain ⟨D, ⟨es, clock, h2, h3⟩, hR⟩ := h
  exact ⟨D, ⟨es, clock, (hg.block b hb).trans h2, h3⟩, hR⟩
theorem Mp.mono (h : Mp C E w b n G) {m : Nat} (hm : n ≤ m) : Mp C E w b m G := by obtain ⟨D, h, hR⟩ := h; exact ⟨D, h.mono hm, hR⟩
theorem Mp.map? (h : Mp C E w b n G) : ∃ es clock, w.heap[b]? = some (.map es clock) := by obtain ⟨D, ⟨es, clock, h, _⟩, _⟩ := h; exact ⟨es, clock, h⟩
theorem Mp.neCells (h : Mp C E w b n G) {p : Nat} {cs : Array Value} {t : TypeId} {fr : Nat × Nat} (hp : w.heap[p]? = some (.cells cs t fr)) : p ≠ b := by
  rintro rfl
  obtain ⟨es, clock, h⟩ := h.map?
  rw [hp] at h
  cases h

theorem Mp.look {t e : TypeId} (h : Mp C E w b n G) (ht : P.underlying t = some (.map k e)) {z : β} (hz : (zeroValue e).run P w = .ok (E.mk z) w) (hok : E.ok z) {x : α} (hx : C.ok x) :
    (Instr.lookup t (.map (some b)) (C.mk x) false).run P w = .ok (E.mk ((G x).getD z)) w := by
  obtain ⟨D, h, hR⟩ := h
  obtain ⟨v, ps, hrun, hv⟩ := h.lookup C.law ht hz (E.of z hok) (C.of x hx)
  obtain ⟨u, rfl, hu, _⟩ := E.inv _ _ hv
  rw [hrun]
  have e1 : D.atKey (C.lit x) (E.dat z) = E.dat u := congrArg Prod.fst hu
  rw [hR.at_ x hx] at e1
  cases hG : G x with
  | none => rw [hG] at e1; rw [E.inj _ _ e1]; rfl
  | some c => rw [hG] at e1; rw [← E.inj _ _ e1]; rfl
theorem Mp.look_ok {t e : TypeId} (h : Mp C E w b n G) (ht : P.underlying t = some (.map k e)) {z : β} (hz : (zeroValue e).run P w = .ok (E.mk z) w) (hok : E.ok z) {x : α} (hx : C.ok x) :
    (Instr.lookup t (.map (some b)) (C.mk x) true).run P w = .ok (.tuple #[E.mk ((G x).getD z), .bool (G x).isSome]) w := by
  obtain ⟨D, h, hR⟩ := h
  obtain ⟨v, ps, hrun, hv⟩ := h.look_ok C.law ht hz (E.of z hok) (C.of x hx)
  obtain ⟨u, rfl, hu, _⟩ := E.inv _ _ hv
  rw [hrun, hR.has x hx]
  have e1 : D.atKey (C.lit x) (E.dat z) = E.dat u := congrArg Prod.fst hu
  rw [hR.at_ x hx] at e1
  cases hG : G x with
  | none => rw [hG] at e1; rw [E.inj _ _ e1]; rfl
  | some c => rw [hG] at e1; rw [← E.inj _ _ e1]; rfl
theorem Mp.len {t e : TypeId} (h : Mp C E w b n G) (ht : P.underlying t = some (.map k e)) : ∃ m : Nat, m ≤ n ∧ ∀ ty, (Builtin.len_ #[t] ty #[.map (some b)]).run P w = .ok (.int .i64 (m : Nat)) w := by
  obtain ⟨D, h, hR⟩ := h
  exact ⟨Maps.size D, h.size_le, fun ty => h.len ht ty⟩
theorem Mp.store [DecidableEq α] {t e : TypeId} (h : Mp C E w b n G) (ht : P.underlying t = some (.map k e)) (hn : n < maxLen) {x : α} (hx : C.ok x) {v : β} (hv : E.ok v) :
    ∃ w', (Instr.mapUpdate t (.map (some b)) (C.mk x) (E.mk v)).run P w = .ok () w' ∧ Mp C E w' b (n + 1) (putG G x v) ∧ w.mapTurned w' b := by
  obtain ⟨D, h, hR⟩ := h
  obtain ⟨w', h1, h2, h3⟩ := h.store C.law ht hn (C.of x hx) (E.of v hv)
  exact ⟨w', h1, ⟨_, h2, hR.put hx v⟩, h3⟩
theorem Mp.drop [DecidableEq α] {t e : TypeId} (h : Mp C E w b n G) (ht : P.underlying t = some (.map k e)) {x : α} (hx : C.ok x) (ty : TypeId) :
    ∃ w', (Builtin.delete_ #[t, k] ty #[.map (some b), C.mk x]).run P w = .ok (.tuple #[]) w' ∧ Mp C E w' b n (delG G x) ∧ w.mapTurned w' b := by
  obtain ⟨D, h, hR⟩ := h
  obtain ⟨w', h1, h2, h3⟩ := h.drop C.law ht (C.of x hx) ty
  exact ⟨w', h1, ⟨_, h2, hR.del hx⟩, h3⟩

theorem Rn'.kept (h : Rn' C E w b r n G lf cnt) {row : Option Nat} (hg : w.grownBy w' row) (hb : some b ≠ row) (hr : some r ≠ row) : Rn' C E w' b r n G lf cnt := by
  obtain ⟨D, left, h, h1, h2, h3⟩ := h; exact ⟨D, left, h.kept hg hb hr, h1, h2, h3⟩
theorem Rn'.alloc (h : Rn' C E w b r n G lf cnt) (o : Obj) : Rn' C E (w.alloc o) b r n G lf cnt := h.kept (World.grownBy_alloc w o none) (by simp) (by simp)
theorem Rn'.left_eq (h : Rn' C E w b r n G lf cnt) : w.rangeLeft b r = cnt := by obtain ⟨D, left, h, _⟩ := h; exact h.left_eq
theorem Rn'.lt (h : Rn' C E w b r n G lf cnt) : r < w.heap.size := by obtain ⟨D, left, h, _⟩ := h; exact h.lt
theorem Rn'.ne (h : Rn' C E w b r n G lf cnt) : r ≠ b := by obtain ⟨D, left, h, _⟩ := h; exact h.ne
theorem Rn'.mp (h : Rn' C E w b r n G lf cnt) : Mp C E w b n G := by obtain ⟨D, left, h, h1, _⟩ := h; exact ⟨D, h.owns, h1⟩

section
variable (w) {ops : Array Oper} {rest : List Oper} {o : Oper} {a : Act} {Q : Exit → Act → World → Prop}
theorem wpList_range_mp (hg : o.guard = none) (m : Operand) (t : TypeId) (hop : o.op = Op.range t m) (e : TypeId) (ht : P.underlying t = some (.map k e)) (b n : Nat) (G : α → Option β)
    (hm : a.eval m = .map (some b)) (hown : Mp C E w b n G)
    (hK : ∀ w', (∃ cnt, Rn' C E w' b w.heap.size n G (fun x => (G x).isSome) cnt) → w.grownBy w' none → w'.heap.size = w.heap.size + 1 → wpList P ops Q rest (a.put o.dst (.pointer (some ⟨w.heap.size, 0, none⟩))) w') :
    wpList P ops Q (o :: rest) a w := by
  obtain ⟨D, h, hR⟩ := hown
  exact wpList_range_own w hg m t hop k e C.law ht E.R b n D hm h fun w' h1 h2 h3 => hK w' ⟨_, D, _, h1, hR, hR.has, fun x _ h => h⟩ h2 h3
theorem wpList_next_mp [DecidableEq α] (hg : o.guard = none) (it : Operand) (hop : o.op = Op.next it false) (b r n : Nat) (G : α → Option β) (lf : α → Bool) (cnt : Nat)
    (hit : a.eval it = .pointer (some ⟨r, 0, none⟩)) (h : Rn' C E w b r n G lf cnt)
    (hDone : (∀ x, C.ok x → lf x = false) → wpList P ops Q rest (a.put o.dst (.tuple #[.bool false])) w)
    (hMore : ∀ (x : α) (v : β) (w' : World) (cnt' : Nat), C.ok x → lf x = true → G x = some v → E.ok v → Rn' C E w' b r n G (fun z => lf z && !decide (z = x)) cnt' → cnt' < cnt →
      w.grownBy w' (some r) → w'.heap.size = w.heap.size → (Instr.entry (.pointer (some ⟨r, 0, none⟩))).run P w' = .ok (.tuple #[C.mk x, E.mk v]) w' → wpList P ops Q rest (a.put o.dst (.tuple #[.bool true, C.mk x, E.mk v])) w') :
    wpList P ops Q (o :: rest) a w := by
  obtain ⟨D, left, h, hR, hl, hs⟩ := h
  refine wpList_next_ranges w hg it hop k C.law E.R C.mk E.mk (fun key kl hk => by obtain ⟨x, hx, _⟩ := C.inv key kl hk; exact ⟨x, hx⟩) (fun v y hv => by obtain ⟨c, hc, _⟩ := E.inv v y hv; exact ⟨c, hc⟩) b r n D left cnt hit h (fun _ h0 => hDone fun x hx => by rw [← hl x hx]; exact h0 _) ?_
  intro x v kl y w1 cnt1 hkey hlx hv hat hrg1 hlt hg1 hs1 hen
  obtain ⟨x', hx', rfl, hxo⟩ := C.inv _ _ hkey
  obtain rfl := C.inj _ _ hx'
  obtain ⟨v', hv', rfl, hvo⟩ := E.inv _ _ hv
  have hlf : lf x = true := by rw [← hl x hxo]; exact hlx
  have hso := hs x hxo hlf
  cases hG : G x with
  | none => rw [hG] at hso; cases hso
  | some c =>
    have hcv : c = v' := by
      have := hat (E.dat v')
      rw [hR.at_ x hxo, hG] at this
      exact E.inj _ _ this
    subst hcv
    rw [hv'] at hen ⊢
    refine hMore x c w1 cnt1 hxo hlf hG hvo ⟨D, _, hrg1, hR, ?_, ?_⟩ hlt hg1 hs1 hen
    · intro z hz
      simp only [hl z hz]
      by_cases e : z = x
      · subst e; simp [WideAt.sameKey_self (C.isKey hz)]
      · simp [sameKey_ne (fun h' => e (C.litInj hz hxo h')), e]
    · intro z hz hz'
      simp at hz'
      exact hs z hz hz'.1
end
end
end Go.Proofs.YtdinloecgaapaaaGreatDoor
namespace Go.Proofs.YtdinloecgaapaaaGreatDoor
open Go.RowKit Go.Maps
set_option linter.unusedVariables false

/-- the keys of type string -/
def strC {P : Program} {k : TypeId} (hk : P.underlying k = some .string) : KeyC P k ByteArray where
  law := string_keyed hk
  mk := .string
  lit s := .string s.data.toList
  ok s := s.size ≤ maxLen
  of s hs := WideMaps.keyOf_string_mk hk hs
  inv key kl h := by
    unfold keyOf at h
    rw [hk] at h
    simp only [mapKey, hk] at h
    cases key <;> simp at h
    exact ⟨_, rfl, h.2.symm, h.1⟩
  inj x y h := by injection h

/-- elements of type int64 -/
def intE (P : Program) (e : TypeId) (he : P.underlying e = some (.int .i64)) : ElC Int where
  mk a := .int .i64 a
  dat a := .lit (.int .i64 a)
  ok a := (Lit.int .i64 a).wf = true
  R := plainElem P e
  of v hv := plainElem_int he hv
  inv x z h := by obtain ⟨a, h1, h2, h3⟩ := plainElem_int_inv he h; exact ⟨a, h1, h2, h3⟩
  inj u v h := by injection h with h; injection h
/-- elements of type bool -/
def boolE (P : Program) (e : TypeId) (he : P.underlying e = some .bool) : ElC Bool where
  mk a := .bool a
  dat a := .lit (.bool a)
  ok _ := True
  R := plainElem P e
  of v _ := plainElem_bool he v
  inv x z h := by
    unfold plainElem at h
    rw [he] at h
    cases x <;> simp at h
    exact ⟨_, rfl, h.symm, trivial⟩
  inj u v h := by injection h with h; injection h

/-- how an account stands: floor, balance, held -/
structure Ac where
  floor : Int
  bal : Int
  held : Int
def Ac.val (a : Ac) : Value := .agg #[.int .i64 a.floor, .int .i64 a.bal, .int .i64 a.held]
def Ac.dat (a : Ac) : DataW Unit := .agg [.lit (.int .i64 a.floor), .lit (.int .i64 a.bal), .lit (.int .i64 a.held)]
def acR : Value → Option (DataW Unit × List MemPlace)
  | .agg ⟨[.int .i64 f, .int .i64 b, .int .i64 h]⟩ => some ((Ac.mk f b h).dat, [])
  | _ => none
def acE : ElC Ac where
  mk := Ac.val
  dat := Ac.dat
  ok _ := True
  R := acR
  of v _ := rfl
  inv x z h := by
    unfold acR at h
    split at h
    · cases h; exact ⟨⟨_, _, _⟩, rfl, rfl, trivial⟩
    · cases h
  inj u v h := by
    obtain ⟨a, b, c⟩ := u
    obtain ⟨a', b', c'⟩ := v
    simp [Ac.dat] at h
    simp [h]
end Go.Proofs.YtdinloecgaapaaaGreatDoor
namespace Go.Proofs.YtdinloecgaapaaaGreatDoor
open Go.RowKit Go.Lib
set_option linter.unusedVariables false

def goodC (c : UInt8) : Prop := (97 ≤ c.toNat ∧ c.toNat ≤ 122) ∨ (48 ≤ c.toNat ∧ c.toNat ≤ 57) ∨ c.toNat = 45 ∨ c.toNat = 58
instance (c : UInt8) : Decidable (goodC c) := by unfold goodC; infer_instance
structure GoodName (s : ByteArray) : Prop where
  pos : 1 ≤ s.size
  le : s.size ≤ 32
  all : ∀ k (h : k < s.size), goodC s[k]
structure GoodCur (s : ByteArray) : Prop where
  len : s.size = 3
  all : ∀ k (h : k < s.size), 65 ≤ s[k].toNat ∧ s[k].toNat ≤ 90

set_option maxHeartbeats 800000 in
theorem isName_good (s : ByteArray) (w : World) (hG : GoodName s) :
    Calls Tryz.prog 70 #[.string s] w fun e w' => e = .returned (.bool true) ∧ w = w' := by
  have h1 := hG.pos
  have h2 := hG.le
  have Ha := Lib.hid hG.all
  clear hG
  go_enter Tryz.func70, Tryz.ntmps70
  go_wp2
  go_loop [15] (fun i => ∃ k : Nat, k ≤ s.size ∧ i = .int .i64 k) (fun i => s.size - (intOf i).toNat)
  case atStart => exact ⟨0, Nat.zero_le _, rfl⟩
  case round =>
    obtain ⟨k, hk, rfl⟩ := hrel
    by_cases hlt : k < s.size
    · have hc := Ha.out k hlt
      unfold goodC at hc
      rcases hc with h | h | h | h
      all_goals
        first
          | have e45 : ((s[k].toNat : Int) != 45) = true := by simp; omega
          | have e45 : ((s[k].toNat : Int) != 45) = false := by simp; omega
        first
          | have e58 : ((s[k].toNat : Int) != 58) = true := by simp; omega
          | have e58 : ((s[k].toNat : Int) != 58) = false := by simp; omega
        go_wp2
        go_round
        case rel => exact ⟨k + 1, by omega, by go_num⟩
        case measure => simp [intOf]; omega
    · go_wp2
      go_ret
      exact ⟨rfl, rfl⟩

set_option maxHeartbeats 800000 in
theorem isCurrency_good (s : ByteArray) (w : World) (hG : GoodCur s) :
    Calls Tryz.prog 71 #[.string s] w fun e w' => e = .returned (.bool true) ∧ w = w' := by
  have h1 := hG.len
  have Ha := Lib.hid hG.all
  clear hG
  go_enter Tryz.func71, Tryz.ntmps71
  go_wp2
  go_loop [9] (fun i => ∃ k : Nat, k ≤ s.size ∧ i = .int .i64 k) (fun i => s.size - (intOf i).toNat)
  case atStart => exact ⟨0, Nat.zero_le _, rfl⟩
  case round =>
    obtain ⟨k, hk, rfl⟩ := hrel
    by_cases hlt : k < s.size
    · have hc := Ha.out k hlt
      go_wp2
      go_round
      case rel => exact ⟨k + 1, by omega, by go_num⟩
      case measure => simp [intOf]; omega
    · go_wp2
      go_ret
      exact ⟨rfl, rfl⟩
end Go.Proofs.YtdinloecgaapaaaGreatDoor
namespace Go.Proofs.YtdinloecgaapaaaGreatDoor
open Go.RowKit Go.Maps
set_option linter.unusedVariables false
set_option maxRecDepth 100000

theorem laidOut : laidOutB Tryz.prog = true := by kernel_rfl
theorem rowNote : (147 : TypeId) < Tryz.prog.types.size := of_decide_eq_true (by kernel_rfl)
theorem wideNote : (match Tryz.prog.underlying 147 with | some (.array _ _) | some (.struct _) => true | _ => false) = true := by kernel_rfl
theorem lawNote : Keyed Tryz.prog 147 := Keyed.of_law (deep_law_laid laidOut (m := 2) (by omega) rowNote (by kernel_rfl) wideNote)
theorem cellsNote : Tryz.prog.cellsOf 147 = 2 := by kernel_rfl
theorem cellsStr : Tryz.prog.cellsOf 9 = 1 := by kernel_rfl
theorem keyNote : Tryz.prog.keyType 147 = true := by kernel_rfl

abbrev Nt := ByteArray × ByteArray
def nval (x : Nt) : Value := .agg #[.string x.1, .string x.2]
def nkey (x : Nt) : Lit := .string (keyBytes [.string x.1.data.toList, .string x.2.data.toList])
def Small (x : Nt) : Prop := x.1.size ≤ maxLen ∧ x.2.size ≤ maxLen

theorem keyLits_note (m : Nat) (a b : ByteArray) (ha : a.size ≤ maxLen) (hb : b.size ≤ maxLen) : Tryz.prog.keyLits (m + 2) 147 [.string a, .string b] = some [.string a.data.toList, .string b.data.toList] := by
  simp [Program.keyLits, Tryz.underlying147, cellsNote, Tryz.underlying9, cellsStr, ha, hb]
theorem sizeTypes : ∃ m, Tryz.prog.types.size + 1 = m + 2 := by
  have h : (147 : Nat) < Tryz.prog.types.size := rowNote
  exact ⟨Tryz.prog.types.size - 1, by omega⟩

theorem keyOf_note (x : Nt) (h : Small x) : keyOf Tryz.prog 147 (nval x) = some (nkey x) := by
  obtain ⟨m, hm⟩ := sizeTypes
  have hl := keyLits_note m x.1 x.2 h.1 h.2
  unfold keyOf
  rw [Tryz.underlying147]
  simp only [hm]
  simp [keyNote, nval, nkey, Value.formed, Tryz.underlying147, cellsNote, Value.cells, hl]

theorem keyLits_note_inv (m : Nat) (c0 c1 : Value) (ls : List Lit) (h : Tryz.prog.keyLits (m + 2) 147 [c0, c1] = some ls) : ∃ a b : ByteArray, c0 = .string a ∧ c1 = .string b ∧ a.size ≤ maxLen ∧ b.size ≤ maxLen := by
  have e0 : ∀ c ls', Tryz.prog.keyLits (m + 1) 9 [c] = some ls' → ∃ a : ByteArray, c = .string a ∧ a.size ≤ maxLen := by
    intro c ls' h
    cases c <;> simp [Program.keyLits, Tryz.underlying9] at h
    exact ⟨_, rfl, h.1⟩
  have e1 : Tryz.prog.keyLits (m + 2) 147 [c0, c1] = ((Tryz.prog.keyLits (m + 1) 9 [c0]).bind fun x => (Tryz.prog.keyLits (m + 1) 9 [c1]).bind fun y => some (x ++ y)) := by
    conv => lhs; unfold Program.keyLits
    simp only [Tryz.underlying147]
    generalize hk : Tryz.prog.keyLits (m + 1) = F
    simp [cellsNote, cellsStr]
    cases F 9 [c0] <;> simp
    cases F 9 [c1] <;> simp
  rw [e1] at h
  obtain ⟨l0, h0, h⟩ := Option.bind_eq_some_iff.1 h
  obtain ⟨l1, h1, _⟩ := Option.bind_eq_some_iff.1 h
  obtain ⟨a, rfl, ha⟩ := e0 _ _ h0
  obtain ⟨b, rfl, hb⟩ := e0 _ _ h1
  exact ⟨a, b, rfl, rfl, ha, hb⟩

theorem keyOf_note_inv {key : Value} {kl : Lit} (h : keyOf Tryz.prog 147 key = some kl) : ∃ x : Nt, key = nval x ∧ kl = nkey x ∧ Small x := by
  have h0 := h
  obtain ⟨m, hm⟩ := sizeTypes
  unfold keyOf at h
  rw [Tryz.underlying147] at h
  simp only [hm] at h
  split at h
  · rename_i hc
    simp only [Bool.and_eq_true] at hc
    have hf := hc.2
    cases key <;> simp [Value.formed, Tryz.underlying147, cellsNote] at hf
    rename_i cs
    obtain ⟨l⟩ := cs
    match l, hf with
    | [c0, c1], _ =>
      simp only [Value.cells] at h
      obtain ⟨ls, hls, _⟩ := Option.map_eq_some_iff.1 h
      obtain ⟨a, b, rfl, rfl, ha, hb⟩ := keyLits_note_inv m c0 c1 ls hls
      have h1 := keyOf_note (a, b) ⟨ha, hb⟩
      have h2 : keyOf Tryz.prog 147 (nval (a, b)) = some kl := h0
      rw [h1] at h2
      exact ⟨(a, b), rfl, (Option.some.inj h2).symm, ha, hb⟩
  · cases h

theorem nval_inj {x y : Nt} (h : nval x = nval y) : x = y := by
  obtain ⟨a, b⟩ := x
  obtain ⟨c, d⟩ := y
  simp only [nval] at h
  injection h with h
  simp at h
  simp [h]
theorem nkey_inj {x y : Nt} (hx : Small x) (hy : Small y) (h : nkey x = nkey y) : x = y :=
  nval_inj (lawNote.inj (keyOf_note x hx) (by rw [h]; exact keyOf_note y hy))

instance decBA : DecidableEq ByteArray := fun a b => decidable_of_iff (a.data = b.data) ⟨fun h => ByteArray.ext h, fun h => by rw [h]⟩
noncomputable def keyC : KeyC Tryz.prog 147 Nt where
  law := lawNote
  mk := nval
  lit := nkey
  ok := Small
  of := keyOf_note
  inv _ _ h := keyOf_note_inv h
  inj _ _ := nval_inj
theorem zeroAc (w : World) : (zeroValue 149).run Tryz.prog w = .ok (acE.mk ⟨0, 0, 0⟩) w := by kernel_rfl
theorem zeroI64 (w : World) : (zeroValue 2).run Tryz.prog w = .ok (.int .i64 0) w := by kernel_rfl
noncomputable def amtE : ElC Int := intE Tryz.prog 2 Tryz.underlying2
noncomputable def curC : KeyC Tryz.prog 9 ByteArray := strC Tryz.underlying9
end Go.Proofs.YtdinloecgaapaaaGreatDoor
