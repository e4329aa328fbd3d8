/- What entering entries does to the accounts, whatever the order. -/
import Derived.Test.YtooeelaobmhifaaGreatDoorARefused
import Derived.Test.YtooeelaobmhifaaGreatDoorAClone
namespace Go.Proofs.YtooeelaobmhifaaGreatDoor
open Go.RowKit Go.Maps Go.Lib
set_option linter.unusedVariables false
set_option maxRecDepth 100000

/-- a range's beginning, with a bound on how many there are to come -/
theorem wpList_range_le {P : Program} {k : TypeId} {α β : Type} {C : KeyC P k α} {E : ElC β} (w : World) {ops : Array Oper} {rest : List Oper} {o : Oper} {a : Act} {Q : Exit → Act → World → Prop}
    (hg : o.guard = none) (m : Operand) (t : TypeId) (hop : o.op = Op.range t m) (e : TypeId) (ht : P.underlying t = some (.map k e)) (b n : Nat) (G : α → Option β)
    (hm : a.eval m = .map (some b)) (hown : Mp C E w b n G)
    (hK : ∀ w', (∃ cnt, cnt ≤ n ∧ Rn' C E w' b w.heap.size n G (fun x => (G x).isSome) cnt) → w.grownBy w' none → w'.heap.size = w.heap.size + 1 → wpList P ops Q rest (a.put o.dst (.pointer (some ⟨w.heap.size, 0, none⟩))) w') :
    wpList P ops Q (o :: rest) a w := by
  obtain ⟨D, h, hR⟩ := hown
  exact wpList_range_own w hg m t hop k e C.law ht E.R b n D hm h fun w' h1 h2 h3 => hK w' ⟨_, h.size_le, D, _, h1, hR, hR.has, fun x _ h => h⟩ h2 h3

def Ac.plus (a : Ac) (v : Int) : Ac := ⟨a.floor, a.bal + v, a.held⟩
/-- the accounts, those changed that are no longer to come -/
def bumped (G : Nt → Option Ac) (E : Nt → Option Int) (lf : Nt → Bool) : Nt → Option Ac := fun x => match E x with
  | none => G x
  | some v => if lf x then G x else (G x).map fun a => a.plus v
/-- the accounts, all changed -/
def bump (G : Nt → Option Ac) (E : Nt → Option Int) : Nt → Option Ac := fun x => match E x with
  | none => G x
  | some v => (G x).map fun a => a.plus v
theorem bumped_start (G : Nt → Option Ac) (E : Nt → Option Int) : bumped G E (fun x => (E x).isSome) = G := by
  funext x
  unfold bumped
  cases h : E x <;> simp [h]
theorem bumped_step {G : Nt → Option Ac} {E : Nt → Option Int} {lf : Nt → Bool} {x : Nt} {v : Int} {a : Ac} (hE : E x = some v) (hG : G x = some a) :
    putG (bumped G E lf) x (a.plus v) = bumped G E (fun z => lf z && !decide (z = x)) := by
  funext y
  by_cases h : y = x
  · subst h; rw [putG_same]; simp [bumped, hE, hG]
  · rw [putG_other _ _ h]; simp [bumped, h]
theorem bumped_at {G : Nt → Option Ac} {E : Nt → Option Int} {lf : Nt → Bool} {x : Nt} (hl : lf x = true) : bumped G E lf x = G x := by
  unfold bumped
  cases E x <;> simp [hl]
/-- at the end; keys that are no keys hold nothing -/
theorem bumped_end {G : Nt → Option Ac} {E : Nt → Option Int} {lf : Nt → Bool} (hl : ∀ x, Small x → lf x = false) (hE : ∀ x v, E x = some v → Small x) : bumped G E lf = bump G E := by
  funext x
  unfold bumped bump
  cases h : E x with
  | none => rfl
  | some v => simp [hl x (hE x v h)]
theorem sumBy_mem {α : Type} [DecidableEq α] (key : Ent → α) : ∀ (es : List Ent) (x : α) (v : Int), sumBy key es x = some v → ∃ e ∈ es, key e = x := by
  intro es
  induction es using List.reverseRecOn' with
  | nil => intro x v h; simp [sumBy] at h
  | snoc es e ih =>
    intro x v h
    rw [sumBy_snoc] at h
    by_cases hx : x = key e
    · exact ⟨e, by simp, hx.symm⟩
    · rw [putG_other _ _ hx] at h
      obtain ⟨e', he', h'⟩ := ih x v h
      exact ⟨e', by simp [he'], h'⟩
theorem eachG_small {es : List Ent} (hF : ∀ e ∈ es, e.Fine) : ∀ x v, eachG es x = some v → Small x := by
  intro x v h
  obtain ⟨e, he, rfl⟩ := sumBy_mem Ent.key es x v h
  exact (hF e he).small
end Go.Proofs.YtooeelaobmhifaaGreatDoor
