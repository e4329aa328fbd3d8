/- Entries: their rows in memory, what they sum to for each account and each currency. -/
import Derived.Test.YtooeelaobmhifaaGreatDoorAOpen
import Derived.Test.YtooeelaobmhifaaGreatDoorMG
namespace Go.Proofs.YtooeelaobmhifaaGreatDoor
open Go.RowKit Go.Maps Go.Lib
set_option linter.unusedVariables false
set_option maxRecDepth 100000

structure Ent where
  acc : ByteArray
  cur : ByteArray
  n : Int
def Ent.key (e : Ent) : Nt := (e.acc, e.cur)
structure Ent.Fine (e : Ent) : Prop where
  acc : e.acc.size ≤ maxLen
  cur : e.cur.size ≤ maxLen
  lo : -1099511627776 ≤ e.n
  hi : e.n ≤ 1099511627776
theorem Ent.Fine.small {e : Ent} (h : e.Fine) : Small e.key := ⟨h.acc, h.cur⟩

/-- the slice's elements are the entries es, in blocks below B -/
def Re (w : World) (B : Nat) (A : Option Addr) (es : List Ent) : Prop :=
  0 < es.length → ∃ g off, A = some ⟨g, off, none⟩ ∧ g < B ∧ ∀ i e, es[i]? = some e → w.cell? ⟨g, off + i * 3, none⟩ = some (.string e.acc) ∧ w.cell? ⟨g, off + i * 3 + 1, none⟩ = some (.string e.cur) ∧ w.cell? ⟨g, off + i * 3 + 2, none⟩ = some (.int .i64 e.n)
section
variable {w w' : World} {B B' : Nat} {A : Option Addr} {T : List Ent}
theorem Re.keep (h : Re w B A T) (hk : ∀ p : Addr, p.block < B → w'.cell? p = w.cell? p) : Re w' B A T := fun hl => by
  obtain ⟨g, off, e, hg, hc⟩ := h hl
  exact ⟨g, off, e, hg, fun i x hx => ⟨(hk _ hg).trans (hc i x hx).1, (hk _ hg).trans (hc i x hx).2.1, (hk _ hg).trans (hc i x hx).2.2⟩⟩
theorem Re.more (h : Re w B A T) (hB : B ≤ B') : Re w B' A T := fun hl => by
  obtain ⟨g, off, e, hg, hc⟩ := h hl
  exact ⟨g, off, e, by omega, hc⟩
theorem Re.below (h : Re w B A T) (hb : Below B w w') : Re w' B A T := h.keep fun _ hp => hb.cell hp
theorem Re.at_ (h : Re w B A T) {k : Nat} (hk : k < T.length) : ∃ g off, A = some ⟨g, off, none⟩ ∧ g < B ∧ w.cell? ⟨g, off + k * 3, none⟩ = some (.string T[k].acc) ∧ w.cell? ⟨g, off + k * 3 + 1, none⟩ = some (.string T[k].cur) ∧ w.cell? ⟨g, off + k * 3 + 2, none⟩ = some (.int .i64 T[k].n) := by
  obtain ⟨g, off, e, hg, hc⟩ := h (by omega)
  have := hc k _ (List.getElem?_eq_getElem hk)
  exact ⟨g, off, e, hg, this.1, this.2.1, this.2.2⟩
end

/-- what entries sum to, by a key of theirs -/
theorem List.reverseRecOn' {α : Type} {motive : List α → Prop} (nil : motive []) (snoc : ∀ l a, motive l → motive (l ++ [a])) (l : List α) : motive l := by
  suffices h : ∀ l : List α, motive l.reverse by simpa using h l.reverse
  intro l
  induction l with
  | nil => exact nil
  | cons a l ih => rw [List.reverse_cons]; exact snoc _ _ ih
def sumBy {α : Type} [DecidableEq α] (key : Ent → α) (es : List Ent) : α → Option Int := es.foldl (fun G e => putG G (key e) ((G (key e)).getD 0 + e.n)) (fun _ => none)
section
variable {α : Type} [DecidableEq α] (key : Ent → α)
theorem sumBy_nil : sumBy key [] = fun _ => none := rfl
theorem sumBy_snoc (es : List Ent) (e : Ent) : sumBy key (es ++ [e]) = putG (sumBy key es) (key e) ((sumBy key es (key e)).getD 0 + e.n) := by simp [sumBy]
theorem sumBy_step (es : List Ent) (k : Nat) (h : k < es.length) : sumBy key (es.take (k + 1)) = putG (sumBy key (es.take k)) (key es[k]) ((sumBy key (es.take k) (key es[k])).getD 0 + es[k].n) := by
  rw [List.take_succ_eq_append_getElem h, sumBy_snoc]
theorem sumBy_bound : ∀ (es : List Ent), (∀ e ∈ es, e.Fine) → ∀ x, -(es.length * 1099511627776 : Int) ≤ (sumBy key es x).getD 0 ∧ (sumBy key es x).getD 0 ≤ (es.length * 1099511627776 : Int) := by
  intro es
  induction es using List.reverseRecOn' with
  | nil => intro _ x; simp [sumBy]
  | snoc es e ih =>
    intro h x
    have h1 := ih (fun y hy => h y (by simp [hy]))
    have he := h e (by simp)
    rw [sumBy_snoc]
    have l1 := he.lo
    have l2 := he.hi
    by_cases hx : x = key e
    · subst hx
      rw [putG_same]
      have := h1 (key e)
      simp only [List.length_append, List.length_singleton, Option.getD_some]
      omega
    · rw [putG_other _ _ hx]
      have := h1 x
      simp only [List.length_append, List.length_singleton]
      omega
end
end Go.Proofs.YtooeelaobmhifaaGreatDoor
