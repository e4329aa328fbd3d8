/- A post of two entries, of one currency, that sum to nothing. -/
import Derived.Test.YtooeelaobmhifaaGreatDoorAPost
namespace Go.Proofs.YtooeelaobmhifaaGreatDoor
open Go.RowKit Go.Maps Go.Lib
set_option linter.unusedVariables false
set_option maxRecDepth 100000

def two (a1 a2 c : ByteArray) (n m : Int) : List Ent := [⟨a1, c, n⟩, ⟨a2, c, m⟩]
section
variable {a1 a2 c : ByteArray} {n m : Int}
theorem eachG_two (hne : a1 ≠ a2) : eachG (two a1 a2 c n m) = putG (putG (fun _ => none) (a1, c) n) (a2, c) m := by
  have h : ((a2, c) : Nt) ≠ (a1, c) := fun e => hne (by injection e with e _; exact e.symm)
  show putG (putG (fun _ => none) (a1, c) (0 + n)) (a2, c) ((putG (fun _ => none) (a1, c) (0 + n) (a2, c)).getD 0 + m) = _
  rw [putG_other _ _ h, Int.zero_add]
  simp
theorem sumG_two : sumG (two a1 a2 c n m) = putG (putG (fun _ => none) c n) c (n + m) := by
  show putG (putG (fun _ => none) c (0 + n)) c ((putG (fun _ => none) c (0 + n) c).getD 0 + m) = _
  rw [putG_same, Int.zero_add]
  simp
theorem eachG_two_val (hne : a1 ≠ a2) {y : Nt} {v : Int} (h : eachG (two a1 a2 c n m) y = some v) : (y = (a1, c) ∧ v = n) ∨ (y = (a2, c) ∧ v = m) := by
  rw [eachG_two hne] at h
  by_cases h2 : y = (a2, c)
  · subst h2
    rw [putG_same] at h
    exact .inr ⟨rfl, by injection h with h; exact h.symm⟩
  · rw [putG_other _ _ h2] at h
    by_cases h1 : y = (a1, c)
    · subst h1
      rw [putG_same] at h
      exact .inl ⟨rfl, by injection h with h; exact h.symm⟩
    · rw [putG_other _ _ h1] at h
      cases h
structure Can (G : Nt → Option Ac) (a c : ByteArray) (v : Int) : Prop where
  small : a.size ≤ 100
  cur : c.size ≤ 100
  lo : -1048576 ≤ v
  hi : v ≤ 1048576
  has : ∃ f bal, G (a, c) = some ⟨f, bal, 0⟩ ∧ -1099511627776 ≤ f ∧ f ≤ 0 ∧ -1073741824 ≤ bal ∧ bal ≤ 1073741824 ∧ (v < 0 → -v ≤ bal - f)
theorem Can.bears {G : Nt → Option Ac} {a c : ByteArray} {v : Int} (h : Can G a c v) : ∃ x, G (a, c) = some x ∧ Bears x v := by
  obtain ⟨f, bal, hG, f0, f1, b0, b1, hlow⟩ := h.has
  have := h.lo
  have := h.hi
  exact ⟨_, hG, ⟨⟨by simp only; omega, by simp only; omega, by simp only; omega, by simp only; omega, by simp only; omega, by simp only; omega⟩, by simp only; omega, by omega, by simp only; omega⟩⟩
theorem fits_two {G : Nt → Option Ac} (hne : a1 ≠ a2) (hnm : n + m = 0) (h1 : Can G a1 c n) (h2 : Can G a2 c m) : Fits G (two a1 a2 c n m) := by
  refine ⟨by simp [two], by simp [two], ?_, ?_, ?_, ?_⟩
  · intro e he
    have m100 : 100 ≤ maxLen := by decide
    simp [two] at he
    rcases he with rfl | rfl
    · exact ⟨Nat.le_trans h1.small m100, Nat.le_trans h1.cur m100, by have := h1.lo; simp only; omega, by have := h1.hi; simp only; omega⟩
    · exact ⟨Nat.le_trans h2.small m100, Nat.le_trans h2.cur m100, by have := h2.lo; simp only; omega, by have := h2.hi; simp only; omega⟩
  · intro e he
    simp [two] at he
    rcases he with rfl | rfl
    · obtain ⟨x, hx, _⟩ := h1.bears; exact ⟨x, hx⟩
    · obtain ⟨x, hx, _⟩ := h2.bears; exact ⟨x, hx⟩
  · intro cu v h
    rw [sumG_two] at h
    by_cases hc : cu = c
    · subst hc
      rw [putG_same] at h
      injection h with h
      omega
    · rw [putG_other _ _ hc, putG_other _ _ hc] at h
      cases h
  · intro y v h
    rcases eachG_two_val hne h with ⟨rfl, rfl⟩ | ⟨rfl, rfl⟩
    · exact h1.bears
    · exact h2.bears
theorem bump_first {G : Nt → Option Ac} (hne : a1 ≠ a2) : bump G (eachG (two a1 a2 c n m)) (a1, c) = (G (a1, c)).map fun a => a.plus n := by
  have h : ((a1, c) : Nt) ≠ (a2, c) := fun e => hne (by injection e)
  unfold bump
  rw [eachG_two hne, putG_other _ _ h, putG_same]
theorem bump_second {G : Nt → Option Ac} (hne : a1 ≠ a2) : bump G (eachG (two a1 a2 c n m)) (a2, c) = (G (a2, c)).map fun a => a.plus m := by
  unfold bump
  rw [eachG_two hne, putG_same]
theorem bump_rest {G : Nt → Option Ac} (hne : a1 ≠ a2) {y : Nt} (h1 : y ≠ (a1, c)) (h2 : y ≠ (a2, c)) : bump G (eachG (two a1 a2 c n m)) y = G y := by
  unfold bump
  rw [eachG_two hne, putG_other _ _ h2, putG_other _ _ h1]
end

/-- the accounts of K stand between -k and k times 32768 -/
def Bal (G : Nt → Option Ac) (K : List Nt) (k : Nat) : Prop := ∀ y ∈ K, ∃ bal, G y = some ⟨-1099511627776, bal, 0⟩ ∧ -(32768 * (k : Int)) ≤ bal ∧ bal ≤ 32768 * (k : Int)
theorem Bal.can {G : Nt → Option Ac} {K : List Nt} {k : Nat} (h : Bal G K k) (hk : k ≤ 1000) {a c : ByteArray} (hm : (a, c) ∈ K) (ha : a.size ≤ 100) (hc : c.size ≤ 100) {v : Int} (h0 : -32768 ≤ v) (h1 : v ≤ 32768) : Can G a c v := by
  obtain ⟨bal, hG, b0, b1⟩ := h _ hm
  exact ⟨ha, hc, by omega, by omega, _, bal, hG, by omega, by omega, by omega, by omega, by omega⟩
theorem Bal.step {G : Nt → Option Ac} {K : List Nt} {k : Nat} (h : Bal G K k) {a1 a2 c : ByteArray} {n m : Int} (hne : a1 ≠ a2) (n0 : -32768 ≤ n) (n1 : n ≤ 32768) (m0 : -32768 ≤ m) (m1 : m ≤ 32768) : Bal (bump G (eachG (two a1 a2 c n m))) K (k + 1) := by
  intro y hy
  obtain ⟨bal, hG, b0, b1⟩ := h y hy
  by_cases h1 : y = (a1, c)
  · subst h1
    exact ⟨bal + n, by rw [bump_first hne, hG]; rfl, by push_cast; omega, by push_cast; omega⟩
  · by_cases h2 : y = (a2, c)
    · subst h2
      exact ⟨bal + m, by rw [bump_second hne, hG]; rfl, by push_cast; omega, by push_cast; omega⟩
    · exact ⟨bal, by rw [bump_rest hne h1 h2, hG], by push_cast; omega, by push_cast; omega⟩
/-- the accounts of K, newly opened -/
def openedG (f : Int) (K : List Nt) : Nt → Option Ac := fun y => if K.any (fun k => decide (k = y)) then some ⟨f, 0, 0⟩ else none
theorem openedG_snoc (f : Int) (K : List Nt) (k : Nt) : putG (openedG f K) k ⟨f, 0, 0⟩ = openedG f (K ++ [k]) := by
  funext y
  by_cases h : y = k
  · subst h; rw [putG_same]; simp [openedG]
  · rw [putG_other _ _ h]
    have hk : decide (k = y) = false := by simp; exact fun e => h e.symm
    unfold openedG
    rw [List.any_append, List.any_cons, List.any_nil, hk, Bool.or_false, Bool.or_false]
theorem openedG_nil (f : Int) : openedG f [] = fun _ => none := by funext y; simp [openedG]
theorem openedG_none (f : Int) {K : List Nt} {y : Nt} (h : y ∉ K) : openedG f K y = none := by
  have : K.any (fun k => decide (k = y)) = false := by
    rw [List.any_eq_false]
    intro k hk
    simp
    rintro rfl
    exact h hk
  simp [openedG, this]
theorem openedG_bal (K : List Nt) : Bal (openedG (-1099511627776) K) K 0 := fun y hy => ⟨0, by
  have : K.any (fun k => decide (k = y)) = true := by
    rw [List.any_eq_true]
    exact ⟨y, hy, by simp⟩
  simp [openedG, this], by simp, by simp⟩
end Go.Proofs.YtooeelaobmhifaaGreatDoor
