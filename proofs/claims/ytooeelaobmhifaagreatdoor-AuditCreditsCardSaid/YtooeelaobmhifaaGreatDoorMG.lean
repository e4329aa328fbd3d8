/- Maps that a call has made, said as functions: what each key holds. No program in sight: keys and elements by their codings. Codings: strings as keys; integers, bools and structs of integers as elements. 'm[k] op= v' of a map that is said as a function: the entry is found, then written. A coding: holds as elements of a map. -/
import Derived.Maps.RangeWalk
import Derived.Maps.OwnSet
import Derived.DeepKeys4
import Derived.Deep.Draws
import Derived.StringKeys
import Derived.WideKeyEntry
namespace Go.Proofs.YtooeelaobmhifaaGreatDoor
open Go.RowKit Go.Maps
set_option linter.unusedVariables false

/-- how the keys of a type look -/
structure KeyC (P : Program) (k : TypeId) (α : Type) where build ::
  law : Keyed P k
  mk : α → Value
  lit : α → Lit
  ok : α → Prop
  of : ∀ x, ok x → keyOf P k (mk x) = some (lit x)
  inv : ∀ key kl, keyOf P k key = some kl → ∃ x, key = mk x ∧ kl = lit x ∧ ok x
  inj : ∀ x y, mk x = mk y → x = y

/-- how the elements look -/
structure ElC (β : Type) where build ::
  mk : β → Value
  dat : β → DataW Unit
  ok : β → Prop
  R : Value → Option (DataW Unit × List MemPlace)
  of : ∀ v, ok v → R (mk v) = some (dat v, [])
  inv : ∀ x z, R x = some z → ∃ v, x = mk v ∧ z = (dat v, []) ∧ ok v
  inj : ∀ u v, dat u = dat v → u = v

section
variable {P : Program} {k : TypeId} {α β : Type} (C : KeyC P k α) (E : ElC β)

theorem KeyC.isKey {x : α} (h : C.ok x) : WideAt.IsKeyLit (C.lit x) := C.law.key (C.of x h)
theorem KeyC.litInj {x y : α} (hx : C.ok x) (hy : C.ok y) (h : C.lit x = C.lit y) : x = y :=
  C.inj x y (C.law.inj (C.of x hx) (by rw [h]; exact C.of y hy))

/-- the datum reads as the function -/
structure Rd (D : DataW Unit) (G : α → Option β) : Prop where
  has : ∀ x, C.ok x → Maps.has D (C.lit x) = (G x).isSome
  at_ : ∀ x, C.ok x → ∀ z, D.atKey (C.lit x) z = match G x with | some v => E.dat v | none => z
  isMap : IsMap D

def putG [DecidableEq α] (G : α → Option β) (x : α) (v : β) : α → Option β := fun y => if y = x then some v else G y
theorem putG_same [DecidableEq α] (G : α → Option β) (x : α) (v : β) : putG G x v x = some v := by simp [putG]
theorem putG_other [DecidableEq α] (G : α → Option β) {x y : α} (v : β) (h : y ≠ x) : putG G x v y = G y := by simp [putG, h]
def delG [DecidableEq α] (G : α → Option β) (x : α) : α → Option β := fun y => if y = x then none else G y

variable {C E}
theorem Rd.empty : Rd C E (.map []) (fun _ => none) := ⟨fun _ _ => rfl, fun _ _ _ => by simp [DataW.atKey], isMap_empty⟩
theorem Rd.put [DecidableEq α] {D : DataW Unit} {G : α → Option β} (h : Rd C E D G) {x : α} (hx : C.ok x) (v : β) : Rd C E (D.put (C.lit x) (E.dat v)) (putG G x v) := by
  refine ⟨fun y hy => ?_, fun y hy z => ?_, h.isMap.put _ _⟩
  · by_cases e : y = x
    · subst e; rw [has_put_same h.isMap (C.isKey hx)]; simp [putG]
    · rw [has_put_other (fun h' => e (C.litInj hy hx h')), h.has y hy, putG_other _ _ e]
  · by_cases e : y = x
    · subst e; rw [atKey_put_same h.isMap (C.isKey hx)]; simp [putG]
    · rw [atKey_put_other (fun h' => e (C.litInj hy hx h')), h.at_ y hy, putG_other _ _ e]
theorem Rd.del [DecidableEq α] {D : DataW Unit} {G : α → Option β} (h : Rd C E D G) {x : α} (hx : C.ok x) : Rd C E (D.del (C.lit x)) (delG G x) := by
  refine ⟨fun y hy => ?_, fun y hy z => ?_, h.isMap.del _⟩
  · by_cases e : y = x
    · subst e; rw [has_del_same]; simp [delG]
    · rw [has_del_other (fun h' => e (C.litInj hy hx h')), h.has y hy]; simp [delG, e]
  · by_cases e : y = x
    · subst e; rw [atKey_del_same]; simp [delG]
    · rw [atKey_del_other (fun h' => e (C.litInj hy hx h')), h.at_ y hy]; simp [delG, e]

variable (C E)
/-- block b is a map of at most n entries that holds what G says -/
def Mp (w : World) (b n : Nat) (G : α → Option β) : Prop := ∃ D, w.ownsMap P k E.R b n D ∧ Rd C E D G
/-- a range over it, under way at block r; lf: what is still to come -/
def Rn' (w : World) (b r n : Nat) (G : α → Option β) (lf : α → Bool) (cnt : Nat) : Prop :=
  ∃ D left, w.ranges P k E.R b r n D left cnt ∧ Rd C E D G ∧ (∀ x, C.ok x → left (C.lit x) = lf x) ∧ (∀ x, C.ok x → lf x = true → (G x).isSome = true)
variable {C E}
variable {w w' : World} {b r n cnt : Nat} {G : α → Option β} {lf : α → Bool}

theorem Mp.made (w : World) : Mp C E (w.alloc (.map #[] 0)) w.heap.size 0 (fun _ => none) := ⟨_, World.ownsMap_made w P k E.R, Rd.empty⟩
theorem Mp.lt (h : Mp C E w b n G) : b < w.heap.size := by obtain ⟨D, h, _⟩ := h; exact h.lt
theorem Mp.kept (h : Mp C E w b n G) {row : Option Nat} (hg : w.grownBy w' row) (hb : some b ≠ row) : Mp C E w' b n G := by
  obtain ⟨D, h, hR⟩ := h; exact ⟨D, h.kept hg hb, hR⟩
theorem Mp.alloc (h : Mp C E w b n G) (o : Obj) : Mp C E (w.alloc o) b n G := h.kept (World.grownBy_alloc w o none) (by simp)
theorem Mp.drewN (h : Mp C E w b n G) (m : Nat) : Mp C E (w.drewN m) b n G := h
theorem Mp.setCell (h : Mp C E w b n G) {a : Addr} (ha : b ≠ a.block) (u : Value) : Mp C E (w.setCell a u) b n G := by
  obtain ⟨D, h, hR⟩ := h; exact ⟨D, h.setCell ha u, hR⟩
theorem Mp.below (h : Mp C E w b n G) {B : Nat} (hg : Below B w w') (hb : b < B) : Mp C E w' b n G := by
  obtain ⟨D, ⟨es, clock, h2, h3⟩, hR⟩ := h
  exact ⟨D, ⟨es, clock, (hg.block b hb).trans h2, h3⟩, hR⟩
theorem Mp.mono (h : Mp C E w b n G) {m : Nat} (hm : n ≤ m) : Mp C E w b m G := by obtain ⟨D, h, hR⟩ := h; exact ⟨D, h.mono hm, hR⟩
theorem Mp.map? (h : Mp C E w b n G) : ∃ es clock, w.heap[b]? = some (.map es clock) := by obtain ⟨D, ⟨es, clock, h, _⟩, _⟩ := h; exact ⟨es, clock, h⟩
theorem Mp.neCells (h : Mp C E w b n G) {p : Nat} {cs : Array Value} {t : TypeId} {fr : Nat × Nat} (hp : w.heap[p]? = some (.cells cs t fr)) : p ≠ b := by
  rintro rfl
  obtain ⟨es, clock, h⟩ := h.map?
  rw [hp] at h
  cases h

theorem Mp.look {t e : TypeId} (h : Mp C E w b n G) (ht : P.underlying t = some (.map k e)) {z : β} (hz : (zeroValue e).run P w = .ok (E.mk z) w) (hok : E.ok z) {x : α} (hx : C.ok x) :
    (Instr.lookup t (.map (some b)) (C.mk x) false).run P w = .ok (E.mk ((G x).getD z)) w := by
  obtain ⟨D, h, hR⟩ := h
  obtain ⟨v, ps, hrun, hv⟩ := h.lookup C.law ht hz (E.of z hok) (C.of x hx)
  obtain ⟨u, rfl, hu, _⟩ := E.inv _ _ hv
  rw [hrun]
  have e1 : D.atKey (C.lit x) (E.dat z) = E.dat u := congrArg Prod.fst hu
  rw [hR.at_ x hx] at e1
  cases hG : G x with
  | none => rw [hG] at e1; rw [E.inj _ _ e1]; rfl
  | some c => rw [hG] at e1; rw [← E.inj _ _ e1]; rfl
theorem Mp.look_ok {t e : TypeId} (h : Mp C E w b n G) (ht : P.underlying t = some (.map k e)) {z : β} (hz : (zeroValue e).run P w = .ok (E.mk z) w) (hok : E.ok z) {x : α} (hx : C.ok x) :
    (Instr.lookup t (.map (some b)) (C.mk x) true).run P w = .ok (.tuple #[E.mk ((G x).getD z), .bool (G x).isSome]) w := by
  obtain ⟨D, h, hR⟩ := h
  obtain ⟨v, ps, hrun, hv⟩ := h.look_ok C.law ht hz (E.of z hok) (C.of x hx)
  obtain ⟨u, rfl, hu, _⟩ := E.inv _ _ hv
  rw [hrun, hR.has x hx]
  have e1 : D.atKey (C.lit x) (E.dat z) = E.dat u := congrArg Prod.fst hu
  rw [hR.at_ x hx] at e1
  cases hG : G x with
  | none => rw [hG] at e1; rw [E.inj _ _ e1]; rfl
  | some c => rw [hG] at e1; rw [← E.inj _ _ e1]; rfl
theorem Mp.len {t e : TypeId} (h : Mp C E w b n G) (ht : P.underlying t = some (.map k e)) : ∃ m : Nat, m ≤ n ∧ ∀ ty, (Builtin.len_ #[t] ty #[.map (some b)]).run P w = .ok (.int .i64 (m : Nat)) w := by
  obtain ⟨D, h, hR⟩ := h
  exact ⟨Maps.size D, h.size_le, fun ty => h.len ht ty⟩
theorem Mp.store [DecidableEq α] {t e : TypeId} (h : Mp C E w b n G) (ht : P.underlying t = some (.map k e)) (hn : n < maxLen) {x : α} (hx : C.ok x) {v : β} (hv : E.ok v) :
    ∃ w', (Instr.mapUpdate t (.map (some b)) (C.mk x) (E.mk v)).run P w = .ok () w' ∧ Mp C E w' b (n + 1) (putG G x v) ∧ w.mapTurned w' b := by
  obtain ⟨D, h, hR⟩ := h
  obtain ⟨w', h1, h2, h3⟩ := h.store C.law ht hn (C.of x hx) (E.of v hv)
  exact ⟨w', h1, ⟨_, h2, hR.put hx v⟩, h3⟩
theorem Mp.drop [DecidableEq α] {t e : TypeId} (h : Mp C E w b n G) (ht : P.underlying t = some (.map k e)) {x : α} (hx : C.ok x) (ty : TypeId) :
    ∃ w', (Builtin.delete_ #[t, k] ty #[.map (some b), C.mk x]).run P w = .ok (.tuple #[]) w' ∧ Mp C E w' b n (delG G x) ∧ w.mapTurned w' b := by
  obtain ⟨D, h, hR⟩ := h
  obtain ⟨w', h1, h2, h3⟩ := h.drop C.law ht (C.of x hx) ty
  exact ⟨w', h1, ⟨_, h2, hR.del hx⟩, h3⟩

theorem Rn'.kept (h : Rn' C E w b r n G lf cnt) {row : Option Nat} (hg : w.grownBy w' row) (hb : some b ≠ row) (hr : some r ≠ row) : Rn' C E w' b r n G lf cnt := by
  obtain ⟨D, left, h, h1, h2, h3⟩ := h; exact ⟨D, left, h.kept hg hb hr, h1, h2, h3⟩
theorem Rn'.alloc (h : Rn' C E w b r n G lf cnt) (o : Obj) : Rn' C E (w.alloc o) b r n G lf cnt := h.kept (World.grownBy_alloc w o none) (by simp) (by simp)
theorem Rn'.left_eq (h : Rn' C E w b r n G lf cnt) : w.rangeLeft b r = cnt := by obtain ⟨D, left, h, _⟩ := h; exact h.left_eq
theorem Rn'.lt (h : Rn' C E w b r n G lf cnt) : r < w.heap.size := by obtain ⟨D, left, h, _⟩ := h; exact h.lt
theorem Rn'.ne (h : Rn' C E w b r n G lf cnt) : r ≠ b := by obtain ⟨D, left, h, _⟩ := h; exact h.ne
theorem Rn'.mp (h : Rn' C E w b r n G lf cnt) : Mp C E w b n G := by obtain ⟨D, left, h, h1, _⟩ := h; exact ⟨D, h.owns, h1⟩

section
variable (w) {ops : Array Oper} {rest : List Oper} {o : Oper} {a : Act} {Q : Exit → Act → World → Prop}
theorem wpList_range_mp (hg : o.guard = none) (m : Operand) (t : TypeId) (hop : o.op = Op.range t m) (e : TypeId) (ht : P.underlying t = some (.map k e)) (b n : Nat) (G : α → Option β)
    (hm : a.eval m = .map (some b)) (hown : Mp C E w b n G)
    (hK : ∀ w', (∃ cnt, Rn' C E w' b w.heap.size n G (fun x => (G x).isSome) cnt) → w.grownBy w' none → w'.heap.size = w.heap.size + 1 → wpList P ops Q rest (a.put o.dst (.pointer (some ⟨w.heap.size, 0, none⟩))) w') :
    wpList P ops Q (o :: rest) a w := by
  obtain ⟨D, h, hR⟩ := hown
  exact wpList_range_own w hg m t hop k e C.law ht E.R b n D hm h fun w' h1 h2 h3 => hK w' ⟨_, D, _, h1, hR, hR.has, fun x _ h => h⟩ h2 h3
theorem wpList_next_mp [DecidableEq α] (hg : o.guard = none) (it : Operand) (hop : o.op = Op.next it false) (b r n : Nat) (G : α → Option β) (lf : α → Bool) (cnt : Nat)
    (hit : a.eval it = .pointer (some ⟨r, 0, none⟩)) (h : Rn' C E w b r n G lf cnt)
    (hDone : (∀ x, C.ok x → lf x = false) → wpList P ops Q rest (a.put o.dst (.tuple #[.bool false])) w)
    (hMore : ∀ (x : α) (v : β) (w' : World) (cnt' : Nat), C.ok x → lf x = true → G x = some v → E.ok v → Rn' C E w' b r n G (fun z => lf z && !decide (z = x)) cnt' → cnt' < cnt →
      w.grownBy w' (some r) → w'.heap.size = w.heap.size → (Instr.entry (.pointer (some ⟨r, 0, none⟩))).run P w' = .ok (.tuple #[C.mk x, E.mk v]) w' → wpList P ops Q rest (a.put o.dst (.tuple #[.bool true, C.mk x, E.mk v])) w') :
    wpList P ops Q (o :: rest) a w := by
  obtain ⟨D, left, h, hR, hl, hs⟩ := h
  refine wpList_next_ranges w hg it hop k C.law E.R C.mk E.mk (fun key kl hk => by obtain ⟨x, hx, _⟩ := C.inv key kl hk; exact ⟨x, hx⟩) (fun v y hv => by obtain ⟨c, hc, _⟩ := E.inv v y hv; exact ⟨c, hc⟩) b r n D left cnt hit h (fun _ h0 => hDone fun x hx => by rw [← hl x hx]; exact h0 _) ?_
  intro x v kl y w1 cnt1 hkey hlx hv hat hrg1 hlt hg1 hs1 hen
  obtain ⟨x', hx', rfl, hxo⟩ := C.inv _ _ hkey
  obtain rfl := C.inj _ _ hx'
  obtain ⟨v', hv', rfl, hvo⟩ := E.inv _ _ hv
  have hlf : lf x = true := by rw [← hl x hxo]; exact hlx
  have hso := hs x hxo hlf
  cases hG : G x with
  | none => rw [hG] at hso; cases hso
  | some c =>
    have hcv : c = v' := by
      have := hat (E.dat v')
      rw [hR.at_ x hxo, hG] at this
      exact E.inj _ _ this
    subst hcv
    rw [hv'] at hen ⊢
    refine hMore x c w1 cnt1 hxo hlf hG hvo ⟨D, _, hrg1, hR, ?_, ?_⟩ hlt hg1 hs1 hen
    · intro z hz
      simp only [hl z hz]
      by_cases e : z = x
      · subst e; simp [WideAt.sameKey_self (C.isKey hz)]
      · simp [sameKey_ne (fun h' => e (C.litInj hz hxo h')), e]
    · intro z hz hz'
      simp at hz'
      exact hs z hz hz'.1
end
end
end Go.Proofs.YtooeelaobmhifaaGreatDoor
namespace Go.Proofs.YtooeelaobmhifaaGreatDoor
open Go.RowKit Go.Maps
set_option linter.unusedVariables false

/-- the keys of type string -/
def strC {P : Program} {k : TypeId} (hk : P.underlying k = some .string) : KeyC P k ByteArray where
  law := string_keyed hk
  mk := .string
  lit s := .string s.data.toList
  ok s := s.size ≤ maxLen
  of s hs := WideMaps.keyOf_string_mk hk hs
  inv key kl h := by
    unfold keyOf at h
    rw [hk] at h
    simp only [mapKey, hk] at h
    cases key <;> simp at h
    exact ⟨_, rfl, h.2.symm, h.1⟩
  inj x y h := by injection h

/-- elements of type int64 -/
def intE (P : Program) (e : TypeId) (he : P.underlying e = some (.int .i64)) : ElC Int where
  mk a := .int .i64 a
  dat a := .lit (.int .i64 a)
  ok a := (Lit.int .i64 a).wf = true
  R := plainElem P e
  of v hv := plainElem_int he hv
  inv x z h := by obtain ⟨a, h1, h2, h3⟩ := plainElem_int_inv he h; exact ⟨a, h1, h2, h3⟩
  inj u v h := by injection h with h; injection h
/-- elements of type bool -/
def boolE (P : Program) (e : TypeId) (he : P.underlying e = some .bool) : ElC Bool where
  mk a := .bool a
  dat a := .lit (.bool a)
  ok _ := True
  R := plainElem P e
  of v _ := plainElem_bool he v
  inv x z h := by
    unfold plainElem at h
    rw [he] at h
    cases x <;> simp at h
    exact ⟨_, rfl, h.symm, trivial⟩
  inj u v h := by injection h with h; injection h

/-- how an account stands: floor, balance, held -/
structure Ac where
  floor : Int
  bal : Int
  held : Int
def Ac.val (a : Ac) : Value := .agg #[.int .i64 a.floor, .int .i64 a.bal, .int .i64 a.held]
def Ac.dat (a : Ac) : DataW Unit := .agg [.lit (.int .i64 a.floor), .lit (.int .i64 a.bal), .lit (.int .i64 a.held)]
def acR : Value → Option (DataW Unit × List MemPlace)
  | .agg ⟨[.int .i64 f, .int .i64 b, .int .i64 h]⟩ => some ((Ac.mk f b h).dat, [])
  | _ => none
def acE : ElC Ac where
  mk := Ac.val
  dat := Ac.dat
  ok _ := True
  R := acR
  of v _ := rfl
  inv x z h := by
    unfold acR at h
    split at h
    · cases h; exact ⟨⟨_, _, _⟩, rfl, rfl, trivial⟩
    · cases h
  inj u v h := by
    obtain ⟨a, b, c⟩ := u
    obtain ⟨a', b', c'⟩ := v
    simp [Ac.dat] at h
    simp [h]
end Go.Proofs.YtooeelaobmhifaaGreatDoor
namespace Go.Proofs.YtooeelaobmhifaaGreatDoor
open Go.RowKit Go.Maps Go.ChangeMaps Go.MapKept Go.WideElems Go.WideMaps
set_option linter.unusedVariables false

/-- finding an entry is storing what it holds -/
theorem entry_as_store {H : Type} {P : Program} {w : World} {t k e : TypeId} {R : Value → Option (DataW H × List MemPlace)} {b : Nat} {es : Array MapEntry} {clock : Nat} (K : KeyLaw P k) (ht : P.underlying t = some (.map k e)) {z : Value} (hz : ∀ u : World, (zeroValue e).run P u = .ok z u) (hb : w.heap[b]? = some (.map es clock)) (F : Fit P k R es clock)
    {key : Value} {kl : Lit} (hkey : keyOf P k key = some kl) : ∃ (v0 : Value) (st : Nat) (w2 : World), (Instr.mapEntry t (.map (some b)) key).run P w = .ok (.tuple #[v0, goInt st]) w2 ∧ (Instr.mapUpdate t (.map (some b)) key v0).run P w = .ok () w2 := by
  rcases K.find w hkey es.toList F.keys with ⟨h1, h2⟩ | ⟨j, e0, h1, h2, h3⟩
  · refine ⟨z, clock, setBlock w b (.map (es.push ⟨key, z, clock⟩) (clock + 1)), ?_, ?_⟩
    · simp [Instr.mapEntry, run_underlying ht, MapKept.run_getObj_map hb, K.check w false hkey, h1, hz, MapKept.run_setObj_map _ hb, Result.andThen, setBlock]
    · simp [Instr.mapUpdate, run_underlying ht, MapKept.run_getObj_map hb, K.check w false hkey, h1, MapKept.run_setObj_map _ hb, Result.andThen, setBlock]
  · have hj : es[j]? = some e0 := by simpa using h2
    have hsame : es.modify j (fun e => { e with key := key }) = es := by
      apply Array.ext'
      rw [Array.toList_modify, modify_eq_set _ _ _ _ h2]
      have : ({ e0 with key := key } : MapEntry) = e0 := by rw [← h3]
      rw [this]
      exact set_self _ _ _ h2
    have hsame2 : es.modify j (fun e => { e with key := key, val := e0.val }) = es := by
      apply Array.ext'
      rw [Array.toList_modify, modify_eq_set _ _ _ _ h2]
      have : ({ e0 with key := key, val := e0.val } : MapEntry) = e0 := by rw [← h3]
      rw [this]
      exact set_self _ _ _ h2
    refine ⟨e0.val, e0.born, setBlock w b (.map es clock), ?_, ?_⟩
    · simp [Instr.mapEntry, run_underlying ht, MapKept.run_getObj_map hb, K.check w false hkey, h1, hj, h3, K.stays w hkey, hsame, MapKept.run_setObj_map _ hb, Result.andThen, setBlock]
    · simp [Instr.mapUpdate, run_underlying ht, MapKept.run_getObj_map hb, K.check w false hkey, h1, hj, h3, K.stays w hkey, hsame2, MapKept.run_setObj_map _ hb, Result.andThen, setBlock]

theorem Mp.entry {P : Program} {k : TypeId} {α β : Type} {C : KeyC P k α} {E : ElC β} [DecidableEq α] {w : World} {b n : Nat} {G : α → Option β} (KL : KeyLaw P k) {t e : TypeId} (h : Mp C E w b n G) (ht : P.underlying t = some (.map k e))
    {z : β} (hz : ∀ u : World, (zeroValue e).run P u = .ok (E.mk z) u) (hzo : E.ok z) (hn : n < maxLen) {x : α} (hx : C.ok x) (hold : ∀ u, G x = some u → E.ok u) {v : β} (hv : E.ok v) :
    ∃ (v0 : Value) (st : Nat) (w2 w3 : World), (Instr.mapEntry t (.map (some b)) (C.mk x)).run P w = .ok (.tuple #[v0, .int .i64 (st : Nat)]) w2 ∧ (Instr.entryStore t (.map (some b)) (.int .i64 (st : Nat)) (E.mk v)).run P w2 = .ok () w3 ∧
      (Instr.lookup t (.map (some b)) (C.mk x) false).run P w2 = .ok (E.mk ((G x).getD z)) w2 ∧ Mp C E w3 b (n + 1) (putG G x v) ∧ w.mapTurned w3 b := by
  have h0 := h
  obtain ⟨w', hrun, hM, hT⟩ := h.store ht hn hx hv
  have hlk := h.look ht (hz w) hzo hx
  obtain ⟨D, ⟨es, clock, hb, F, hs, hD⟩, hR⟩ := h
  obtain ⟨v0, st, es1, clock1, hE, hcase, hS⟩ := entry_then_store KL ht hz hb F (C.of x hx)
  obtain ⟨es', clock', h1, h2⟩ := hS (setBlock w b (.map es1 clock1)) (E.mk v) (heap_setBlock_same hb _)
  rw [hrun] at h2
  injection h2 with _ h2
  have e1 : setBlock (setBlock w b (.map es1 clock1)) b (.map es' clock') = w' := by rw [h2]; simp [setBlock]
  obtain ⟨v1, st1, w2, g1, g2⟩ := entry_as_store KL ht hz hb F (C.of x hx)
  rw [hE] at g1
  injection g1 with g1 g3
  have hv1 : v0 = v1 := by simp at g1; exact g1.1
  have hv0 : v0 = E.mk ((G x).getD z) := by
    rcases hcase with ⟨e0, hm0, hk0, rfl⟩ | ⟨hno, rfl⟩
    · obtain ⟨y, hy⟩ := F.reads e0 hm0
      obtain ⟨d, hd, _⟩ := rd_val hy
      have hat := atKey_some KL F (C.of x hx) hm0 hk0 hd (E.dat z)
      obtain ⟨u, hu, hdu, _⟩ := E.inv _ _ hd
      rw [← hD, hR.at_ x hx, hdu] at hat
      rw [hu]
      cases hG : G x with
      | none => rw [hG] at hat; rw [← E.inj _ _ hat]; rfl
      | some c => rw [hG] at hat; rw [← E.inj _ _ hat]; rfl
    · have hat := atKey_none KL F (C.of x hx) hno .nil
      have hat2 := atKey_none KL F (C.of x hx) hno (.agg [])
      rw [← hD, hR.at_ x hx] at hat hat2
      cases hG : G x with
      | none => rfl
      | some c => rw [hG] at hat hat2; simp only at hat hat2; rw [hat] at hat2; cases hat2
  have hok : E.ok ((G x).getD z) := by
    cases hG : G x with
    | none => exact hzo
    | some c => exact hold c hG
  obtain ⟨w5, f1, f2, _⟩ := h0.store ht hn hx hok
  rw [← hv1, hv0, f1] at g2
  injection g2 with _ g2
  subst g2
  have hl2 := f2.look ht (hz w5) hzo hx
  rw [putG_same] at hl2
  refine ⟨v0, st, _, w', hE, by rw [← e1]; exact h1, ?_, hM, hT⟩
  rw [g3]
  exact hl2
end Go.Proofs.YtooeelaobmhifaaGreatDoor
namespace Go.Proofs.YtooeelaobmhifaaGreatDoor
open Go.RowKit Go.Maps
set_option linter.unusedVariables false

structure Hd where
  id : ByteArray
  acc : ByteArray
  cur : ByteArray
  n : Int
def Hd.val (a : Hd) : Value := .agg #[.string a.id, .string a.acc, .string a.cur, .int .i64 a.n]
def Hd.dat (a : Hd) : DataW Unit := .agg [.lit (.string a.id.data.toList), .lit (.string a.acc.data.toList), .lit (.string a.cur.data.toList), .lit (.int .i64 a.n)]
def hdR : Value → Option (DataW Unit × List MemPlace)
  | .agg ⟨[.string i, .string a, .string c, .int .i64 n]⟩ => some ((Hd.mk i a c n).dat, [])
  | _ => none
theorem ba_inj {x y : ByteArray} (h : x.data.toList = y.data.toList) : x = y := ByteArray.ext (Array.ext' h)
def hdE : ElC Hd where
  mk := Hd.val
  dat := Hd.dat
  ok _ := True
  R := hdR
  of v _ := rfl
  inv x z h := by
    unfold hdR at h
    split at h
    · cases h; exact ⟨⟨_, _, _, _⟩, rfl, rfl, trivial⟩
    · cases h
  inj u v h := by
    obtain ⟨a, b, c, d⟩ := u
    obtain ⟨a', b', c', d'⟩ := v
    simp only [Hd.dat, DataW.agg.injEq, List.cons.injEq, DataW.lit.injEq, Lit.string.injEq, Lit.int.injEq, true_and, and_true] at h
    obtain ⟨h1, h2, h3, h4⟩ := h
    rw [ba_inj h1, ba_inj h2, ba_inj h3, h4]
end Go.Proofs.YtooeelaobmhifaaGreatDoor
