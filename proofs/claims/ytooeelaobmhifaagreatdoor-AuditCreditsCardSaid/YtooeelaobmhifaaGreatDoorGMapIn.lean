/- A range over a map that is said as a function, inside a fence. No program in sight. -/
import Derived.Test.YtooeelaobmhifaaGreatDoorMG
import Derived.Sort.MapsRangeIn
import Derived.RangeFuncNested
import Derived.RangeFuncBound
namespace Go.Proofs.YtooeelaobmhifaaGreatDoor
open Go.RowKit Go.Maps
set_option linter.unusedVariables false

section
variable {P : Program} {k : TypeId} {α β : Type} {C : KeyC P k α} {E : ElC β}
theorem Rn'.of_walks {w w' : World} {b r n cnt : Nat} {G : α → Option β} {lf : α → Bool} (h : Rn' C E w b r n G lf cnt) (hk : KeepsWalks w w') : Rn' C E w' b r n G lf cnt := by
  obtain ⟨D, left, h, h1, h2, h3⟩ := h
  exact ⟨D, left, h.of_walks hk, h1, h2, h3⟩
theorem Rn'.walk {w : World} {b r n cnt : Nat} {G : α → Option β} {lf : α → Bool} (h : Rn' C E w b r n G lf cnt) : ∃ o : Obj, w.heap[r]? = some o ∧ o.isWalk = true := by
  obtain ⟨D, left, h, h1, h2, h3⟩ := h
  exact h.iter_walk
variable (w : World) {F : Fence} {nf : Nat} {ops : Array Oper} {rest : List Oper} {o : Oper} {a : Act} {Q : Exit → Act → World → Prop}
theorem wpListIn_range_mp (hg : o.guard = none) (m : Operand) (t : TypeId) (hop : o.op = Op.range t m) (e : TypeId) (ht : P.underlying t = some (.map k e)) (b n : Nat) (G : α → Option β)
    (hm : a.eval m = .map (some b)) (hown : Mp C E w b n G)
    (hK : ∀ w' cnt, cnt ≤ n → Rn' C E w' b w.heap.size n G (fun x => (G x).isSome) cnt → w.grownBy w' none → w'.heap.size = w.heap.size + 1 → wpListIn F nf P ops Q rest (a.put o.dst (.pointer (some ⟨w.heap.size, 0, none⟩))) w') :
    wpListIn F nf P ops Q (o :: rest) a w := by
  obtain ⟨D, h, hR⟩ := hown
  exact wpListIn_range_own w hg m t hop k e C.law ht E.R b n D hm h fun w' h1 h2 h3 => hK w' _ h.size_le ⟨D, _, h1, hR, hR.has, fun x _ h => h⟩ h2 h3
theorem wpListIn_next_mp [DecidableEq α] (hg : o.guard = none) (it : Operand) (hop : o.op = Op.next it false) (b r n : Nat) (G : α → Option β) (lf : α → Bool) (cnt : Nat)
    (hit : a.eval it = .pointer (some ⟨r, 0, none⟩)) (h : Rn' C E w b r n G lf cnt)
    (hDone : (∀ x, C.ok x → lf x = false) → wpListIn F nf P ops Q rest (a.put o.dst (.tuple #[.bool false])) w)
    (hMore : ∀ (x : α) (v : β) (w' : World) (cnt' : Nat), C.ok x → lf x = true → G x = some v → E.ok v → Rn' C E w' b r n G (fun z => lf z && !decide (z = x)) cnt' → cnt' < cnt →
      w.grownBy w' (some r) → w'.heap.size = w.heap.size → (Instr.entry (.pointer (some ⟨r, 0, none⟩))).run P w' = .ok (.tuple #[C.mk x, E.mk v]) w' → wpListIn F nf P ops Q rest (a.put o.dst (.tuple #[.bool true, C.mk x, E.mk v])) w') :
    wpListIn F nf P ops Q (o :: rest) a w := by
  obtain ⟨D, left, h, hR, hl, hs⟩ := h
  refine wpListIn_next_ranges w hg it hop k C.law E.R C.mk E.mk (fun key kl hk => by obtain ⟨x, hx, _⟩ := C.inv key kl hk; exact ⟨x, hx⟩) (fun v y hv => by obtain ⟨c, hc, _⟩ := E.inv v y hv; exact ⟨c, hc⟩) b r n D left cnt hit h (fun _ h0 => hDone fun x hx => by rw [← hl x hx]; exact h0 _) ?_
  intro x v kl y w1 cnt1 hkey hlx hv hat hrg1 hlt hg1 hs1 hen
  obtain ⟨x', hx', rfl, hxo⟩ := C.inv _ _ hkey
  obtain rfl := C.inj _ _ hx'
  obtain ⟨v', hv', rfl, hvo⟩ := E.inv _ _ hv
  have hlf : lf x = true := by rw [← hl x hxo]; exact hlx
  have hso := hs x hxo hlf
  cases hG : G x with
  | none => rw [hG] at hso; cases hso
  | some c =>
    have hcv : c = v' := by
      have := hat (E.dat v')
      rw [hR.at_ x hxo, hG] at this
      exact E.inj _ _ this
    subst hcv
    rw [hv'] at hen ⊢
    refine hMore x c w1 cnt1 hxo hlf hG hvo ⟨D, _, hrg1, hR, ?_, ?_⟩ hlt hg1 hs1 hen
    · intro z hz
      simp only [hl z hz]
      by_cases e : z = x
      · subst e; simp [WideAt.sameKey_self (C.isKey hz)]
      · simp [sameKey_ne (fun h' => e (C.litInj hz hxo h')), e]
    · intro z hz hz'
      simp at hz'
      exact hs z hz hz'.1
end
end Go.Proofs.YtooeelaobmhifaaGreatDoor
