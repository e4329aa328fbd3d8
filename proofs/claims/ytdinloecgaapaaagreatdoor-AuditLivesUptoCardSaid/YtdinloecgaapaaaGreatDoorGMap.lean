/- Maps that a call has made, said as functions: what each key holds. No program in sight: keys and elements by their codings. -/
import Derived.Maps.RangeWalk
import Derived.Maps.OwnSet
import Derived.DeepKeys4
import Derived.Deep.Draws
namespace Go.Proofs.YtdinloecgaapaaaGreatDoor
open Go.RowKit Go.Maps
set_option linter.unusedVariables false

/-- how the keys of a type look -/
structure KeyC (P : Program) (k : TypeId) (α : Type) where build ::
  law : Keyed P k
  mk : α → Value
  lit : α → Lit
  ok : α → Prop
  of : ∀ x, ok x → keyOf P k (mk x) = some (lit x)
  inv : ∀ key kl, keyOf P k key = some kl → ∃ x, key = mk x ∧ kl = lit x ∧ ok x
  inj : ∀ x y, mk x = mk y → x = y

/-- how the elements look -/
structure ElC (β : Type) where build ::
  mk : β → Value
  dat : β → DataW Unit
  ok : β → Prop
  R : Value → Option (DataW Unit × List MemPlace)
  of : ∀ v, ok v → R (mk v) = some (dat v, [])
  inv : ∀ x z, R x = some z → ∃ v, x = mk v ∧ z = (dat v, []) ∧ ok v
  inj : ∀ u v, dat u = dat v → u = v

section
variable {P : Program} {k : TypeId} {α β : Type} (C : KeyC P k α) (E : ElC β)

theorem KeyC.isKey {x : α} (h : C.ok x) : WideAt.IsKeyLit (C.lit x) := C.law.key (C.of x h)
theorem KeyC.litInj {x y : α} (hx : C.ok x) (hy : C.ok y) (h : C.lit x = C.lit y) : x = y :=
  C.inj x y (C.law.inj (C.of x hx) (by rw [h]; exact C.of y hy))

/-- the datum reads as the function -/
structure Rd (D : DataW Unit) (G : α → Option β) : Prop where
  has : ∀ x, C.ok x → Maps.has D (C.lit x) = (G x).isSome
  at_ : ∀ x, C.ok x → ∀ z, D.atKey (C.lit x) z = match G x with | some v => E.dat v | none => z
  isMap : IsMap D

def putG [DecidableEq α] (G : α → Option β) (x : α) (v : β) : α → Option β := fun y => if y = x then some v else G y
theorem putG_same [DecidableEq α] (G : α → Option β) (x : α) (v : β) : putG G x v x = some v := by simp [putG]
theorem putG_other [DecidableEq α] (G : α → Option β) {x y : α} (v : β) (h : y ≠ x) : putG G x v y = G y := by simp [putG, h]
def delG [DecidableEq α] (G : α → Option β) (x : α) : α → Option β := fun y => if y = x then none else G y

variable {C E}
theorem Rd.empty : Rd C E (.map []) (fun _ => none) := ⟨fun _ _ => rfl, fun _ _ _ => by simp [DataW.atKey], isMap_empty⟩
theorem Rd.put [DecidableEq α] {D : DataW Unit} {G : α → Option β} (h : Rd C E D G) {x : α} (hx : C.ok x) (v : β) : Rd C E (D.put (C.lit x) (E.dat v)) (putG G x v) := by
  refine ⟨fun y hy => ?_, fun y hy z => ?_, h.isMap.put _ _⟩
  · by_cases e : y = x
    · subst e; rw [has_put_same h.isMap (C.isKey hx)]; simp [putG]
    · rw [has_put_other (fun h' => e (C.litInj hy hx h')), h.has y hy, putG_other _ _ e]
  · by_cases e : y = x
    · subst e; rw [atKey_put_same h.isMap (C.isKey hx)]; simp [putG]
    · rw [atKey_put_other (fun h' => e (C.litInj hy hx h')), h.at_ y hy, putG_other _ _ e]
theorem Rd.del [DecidableEq α] {D : DataW Unit} {G : α → Option β} (h : Rd C E D G) {x : α} (hx : C.ok x) : Rd C E (D.del (C.lit x)) (delG G x) := by
  refine ⟨fun y hy => ?_, fun y hy z => ?_, h.isMap.del _⟩
  · by_cases e : y = x
    · subst e; rw [has_del_same]; simp [delG]
    · rw [has_del_other (fun h' => e (C.litInj hy hx h')), h.has y hy]; simp [delG, e]
  · by_cases e : y = x
    · subst e; rw [atKey_del_same]; simp [delG]
    · rw [atKey_del_other (fun h' => e (C.litInj hy hx h')), h.at_ y hy]; simp [delG, e]

variable (C E)
/-- block b is a map of at most n entries that holds what G says -/
def Mp (w : World) (b n : Nat) (G : α → Option β) : Prop := ∃ D, w.ownsMap P k E.R b n D ∧ Rd C E D G
/-- a range over it, under way at block r; lf: what is still to come -/
def Rn' (w : World) (b r n : Nat) (G : α → Option β) (lf : α → Bool) (cnt : Nat) : Prop :=
  ∃ D left, w.ranges P k E.R b r n D left cnt ∧ Rd C E D G ∧ (∀ x, C.ok x → left (C.lit x) = lf x) ∧ (∀ x, C.ok x → lf x = true → (G x).isSome = true)
variable {C E}
variable {w w' : World} {b r n cnt : Nat} {G : α → Option β} {lf : α → Bool}

theorem Mp.made (w : World) : Mp C E (w.alloc (.map #[] 0)) w.heap.size 0 (fun _ => none) := ⟨_, World.ownsMap_made w P k E.R, Rd.empty⟩
theorem Mp.lt (h : Mp C E w b n G) : b < w.heap.size := by obtain ⟨D, h, _⟩ := h; exact h.lt
theorem Mp.kept (h : Mp C E w b n G) {row : Option Nat} (hg : w.grownBy w' row) (hb : some b ≠ row) : Mp C E w' b n G := by
  obtain ⟨D, h, hR⟩ := h; exact ⟨D, h.kept hg hb, hR⟩
theorem Mp.alloc (h : Mp C E w b n G) (o : Obj) : Mp C E (w.alloc o) b n G := h.kept (World.grownBy_alloc w o none) (by simp)
theorem Mp.drewN (h : Mp C E w b n G) (m : Nat) : Mp C E (w.drewN m) b n G := h
theorem Mp.setCell (h : Mp C E w b n G) {a : Addr} (ha : b ≠ a.block) (u : Value) : Mp C E (w.setCell a u) b n G := by
  obtain ⟨D, h, hR⟩ := h; exact ⟨D, h.setCell ha u, hR⟩
theorem Mp.below (h : Mp C E w b n G) {B : Nat} (hg : Below B w w') (hb : b < B) : Mp C E w' b n G := by
  obtain ⟨D, ⟨es, clock, h2, h3⟩, hR⟩ := h
  exact ⟨D, ⟨es, clock, (hg.block b hb).trans h2, h3⟩, hR⟩
theorem Mp.mono (h : Mp C E w b n G) {m : Nat} (hm : n ≤ m) : Mp C E w b m G := by obtain ⟨D, h, hR⟩ := h; exact ⟨D, h.mono hm, hR⟩
theorem Mp.map? (h : Mp C E w b n G) : ∃ es clock, w.heap[b]? = some (.map es clock) := by obtain ⟨D, ⟨es, clock, h, _⟩, _⟩ := h; exact ⟨es, clock, h⟩
theorem Mp.neCells (h : Mp C E w b n G) {p : Nat} {cs : Array Value} {t : TypeId} {fr : Nat × Nat} (hp : w.heap[p]? = some (.cells cs t fr)) : p ≠ b := by
  rintro rfl
  obtain ⟨es, clock, h⟩ := h.map?
  rw [hp] at h
  cases h

theorem Mp.look {t e : TypeId} (h : Mp C E w b n G) (ht : P.underlying t = some (.map k e)) {z : β} (hz : (zeroValue e).run P w = .ok (E.mk z) w) (hok : E.ok z) {x : α} (hx : C.ok x) :
    (Instr.lookup t (.map (some b)) (C.mk x) false).run P w = .ok (E.mk ((G x).getD z)) w := by
  obtain ⟨D, h, hR⟩ := h
  obtain ⟨v, ps, hrun, hv⟩ := h.lookup C.law ht hz (E.of z hok) (C.of x hx)
  obtain ⟨u, rfl, hu, _⟩ := E.inv _ _ hv
  rw [hrun]
  have e1 : D.atKey (C.lit x) (E.dat z) = E.dat u := congrArg Prod.fst hu
  rw [hR.at_ x hx] at e1
  cases hG : G x with
  | none => rw [hG] at e1; rw [E.inj _ _ e1]; rfl
  | some c => rw [hG] at e1; rw [← E.inj _ _ e1]; rfl
theorem Mp.look_ok {t e : TypeId} (h : Mp C E w b n G) (ht : P.underlying t = some (.map k e)) {z : β} (hz : (zeroValue e).run P w = .ok (E.mk z) w) (hok : E.ok z) {x : α} (hx : C.ok x) :
    (Instr.lookup t (.map (some b)) (C.mk x) true).run P w = .ok (.tuple #[E.mk ((G x).getD z), .bool (G x).isSome]) w := by
  obtain ⟨D, h, hR⟩ := h
  obtain ⟨v, ps, hrun, hv⟩ := h.look_ok C.law ht hz (E.of z hok) (C.of x hx)
  obtain ⟨u, rfl, hu, _⟩ := E.inv _ _ hv
  rw [hrun, hR.has x hx]
  have e1 : D.atKey (C.lit x) (E.dat z) = E.dat u := congrArg Prod.fst hu
  rw [hR.at_ x hx] at e1
  cases hG : G x with
  | none => rw [hG] at e1; rw [E.inj _ _ e1]; rfl
  | some c => rw [hG] at e1; rw [← E.inj _ _ e1]; rfl
theorem Mp.len {t e : TypeId} (h : Mp C E w b n G) (ht : P.underlying t = some (.map k e)) : ∃ m : Nat, m ≤ n ∧ ∀ ty, (Builtin.len_ #[t] ty #[.map (some b)]).run P w = .ok (.int .i64 (m : Nat)) w := by
  obtain ⟨D, h, hR⟩ := h
  exact ⟨Maps.size D, h.size_le, fun ty => h.len ht ty⟩
theorem Mp.store [DecidableEq α] {t e : TypeId} (h : Mp C E w b n G) (ht : P.underlying t = some (.map k e)) (hn : n < maxLen) {x : α} (hx : C.ok x) {v : β} (hv : E.ok v) :
    ∃ w', (Instr.mapUpdate t (.map (some b)) (C.mk x) (E.mk v)).run P w = .ok () w' ∧ Mp C E w' b (n + 1) (putG G x v) ∧ w.mapTurned w' b := by
  obtain ⟨D, h, hR⟩ := h
  obtain ⟨w', h1, h2, h3⟩ := h.store C.law ht hn (C.of x hx) (E.of v hv)
  exact ⟨w', h1, ⟨_, h2, hR.put hx v⟩, h3⟩
theorem Mp.drop [DecidableEq α] {t e : TypeId} (h : Mp C E w b n G) (ht : P.underlying t = some (.map k e)) {x : α} (hx : C.ok x) (ty : TypeId) :
    ∃ w', (Builtin.delete_ #[t, k] ty #[.map (some b), C.mk x]).run P w = .ok (.tuple #[]) w' ∧ Mp C E w' b n (delG G x) ∧ w.mapTurned w' b := by
  obtain ⟨D, h, hR⟩ := h
  obtain ⟨w', h1, h2, h3⟩ := h.drop C.law ht (C.of x hx) ty
  exact ⟨w', h1, ⟨_, h2, hR.del hx⟩, h3⟩

theorem Rn'.kept (h : Rn' C E w b r n G lf cnt) {row : Option Nat} (hg : w.grownBy w' row) (hb : some b ≠ row) (hr : some r ≠ row) : Rn' C E w' b r n G lf cnt := by
  obtain ⟨D, left, h, h1, h2, h3⟩ := h; exact ⟨D, left, h.kept hg hb hr, h1, h2, h3⟩
theorem Rn'.alloc (h : Rn' C E w b r n G lf cnt) (o : Obj) : Rn' C E (w.alloc o) b r n G lf cnt := h.kept (World.grownBy_alloc w o none) (by simp) (by simp)
theorem Rn'.left_eq (h : Rn' C E w b r n G lf cnt) : w.rangeLeft b r = cnt := by obtain ⟨D, left, h, _⟩ := h; exact h.left_eq
theorem Rn'.lt (h : Rn' C E w b r n G lf cnt) : r < w.heap.size := by obtain ⟨D, left, h, _⟩ := h; exact h.lt
theorem Rn'.ne (h : Rn' C E w b r n G lf cnt) : r ≠ b := by obtain ⟨D, left, h, _⟩ := h; exact h.ne
theorem Rn'.mp (h : Rn' C E w b r n G lf cnt) : Mp C E w b n G := by obtain ⟨D, left, h, h1, _⟩ := h; exact ⟨D, h.owns, h1⟩

section
variable (w) {ops : Array Oper} {rest : List Oper} {o : Oper} {a : Act} {Q : Exit → Act → World → Prop}
theorem wpList_range_mp (hg : o.guard = none) (m : Operand) (t : TypeId) (hop : o.op = Op.range t m) (e : TypeId) (ht : P.underlying t = some (.map k e)) (b n : Nat) (G : α → Option β)
    (hm : a.eval m = .map (some b)) (hown : Mp C E w b n G)
    (hK : ∀ w', (∃ cnt, Rn' C E w' b w.heap.size n G (fun x => (G x).isSome) cnt) → w.grownBy w' none → w'.heap.size = w.heap.size + 1 → wpList P ops Q rest (a.put o.dst (.pointer (some ⟨w.heap.size, 0, none⟩))) w') :
    wpList P ops Q (o :: rest) a w := by
  obtain ⟨D, h, hR⟩ := hown
  exact wpList_range_own w hg m t hop k e C.law ht E.R b n D hm h fun w' h1 h2 h3 => hK w' ⟨_, D, _, h1, hR, hR.has, fun x _ h => h⟩ h2 h3
theorem wpList_next_mp [DecidableEq α] (hg : o.guard = none) (it : Operand) (hop : o.op = Op.next it false) (b r n : Nat) (G : α → Option β) (lf : α → Bool) (cnt : Nat)
    (hit : a.eval it = .pointer (some ⟨r, 0, none⟩)) (h : Rn' C E w b r n G lf cnt)
    (hDone : (∀ x, C.ok x → lf x = false) → wpList P ops Q rest (a.put o.dst (.tuple #[.bool false])) w)
    (hMore : ∀ (x : α) (v : β) (w' : World) (cnt' : Nat), C.ok x → lf x = true → G x = some v → E.ok v → Rn' C E w' b r n G (fun z => lf z && !decide (z = x)) cnt' → cnt' < cnt →
      w.grownBy w' (some r) → w'.heap.size = w.heap.size → (Instr.entry (.pointer (some ⟨r, 0, none⟩))).run P w' = .ok (.tuple #[C.mk x, E.mk v]) w' → wpList P ops Q rest (a.put o.dst (.tuple #[.bool true, C.mk x, E.mk v])) w') :
    wpList P ops Q (o :: rest) a w := by
  obtain ⟨D, left, h, hR, hl, hs⟩ := h
  refine wpList_next_ranges w hg it hop k C.law E.R C.mk E.mk (fun key kl hk => by obtain ⟨x, hx, _⟩ := C.inv key kl hk; exact ⟨x, hx⟩) (fun v y hv => by obtain ⟨c, hc, _⟩ := E.inv v y hv; exact ⟨c, hc⟩) b r n D left cnt hit h (fun _ h0 => hDone fun x hx => by rw [← hl x hx]; exact h0 _) ?_
  intro x v kl y w1 cnt1 hkey hlx hv hat hrg1 hlt hg1 hs1 hen
  obtain ⟨x', hx', rfl, hxo⟩ := C.inv _ _ hkey
  obtain rfl := C.inj _ _ hx'
  obtain ⟨v', hv', rfl, hvo⟩ := E.inv _ _ hv
  have hlf : lf x = true := by rw [← hl x hxo]; exact hlx
  have hso := hs x hxo hlf
  cases hG : G x with
  | none => rw [hG] at hso; cases hso
  | some c =>
    have hcv : c = v' := by
      have := hat (E.dat v')
      rw [hR.at_ x hxo, hG] at this
      exact E.inj _ _ this
    subst hcv
    rw [hv'] at hen ⊢
    refine hMore x c w1 cnt1 hxo hlf hG hvo ⟨D, _, hrg1, hR, ?_, ?_⟩ hlt hg1 hs1 hen
    · intro z hz
      simp only [hl z hz]
      by_cases e : z = x
      · subst e; simp [WideAt.sameKey_self (C.isKey hz)]
      · simp [sameKey_ne (fun h' => e (C.litInj hz hxo h')), e]
    · intro z hz hz'
      simp at hz'
      exact hs z hz hz'.1
end
end
end Go.Proofs.YtdinloecgaapaaaGreatDoor
