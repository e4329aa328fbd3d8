/- The cases of a rule, plain. -/
import Derived.Test.YtehjkgfdfihfmaaDoorSAtom
import Derived.Test.YtehjkgfdfihfmaaDoorSCount
namespace Go.Proofs.YtehjkgfdfihfmaaDoor
set_option linter.unusedVariables false

mutual
/-- the cases of a rule, as lists of atoms -/
def casesR : Rl → List (List Rl)
  | ⟨k, p, f, t, n, l⟩ => if atomB k = true then [[⟨k, p, f, t, n, l⟩]] else if k = 1 then anyR l else if k = 0 then allR l [[]] else [[]]
def anyR : List Rl → List (List Rl)
  | [] => []
  | x :: l => casesR x ++ anyR l
def allR : List Rl → List (List Rl) → List (List Rl)
  | [], a => a
  | x :: l, a => allR l (a.flatMap fun p => (casesR x).map fun q => p ++ q)
end
mutual
/-- how many rules there are in a rule -/
def nsz : Rl → Nat
  | ⟨k, p, f, t, n, l⟩ => 1 + nszL l
def nszL : List Rl → Nat
  | [] => 0
  | x :: l => nsz x + nszL l
end
theorem cases_a (x : Rl) (h : atomB x.k = true) : casesR x = [[x]] := by
  obtain ⟨k, p, f, t, n, l⟩ := x
  have h' : atomB k = true := h
  rw [casesR, if_pos h']
theorem cases_1 (x : Rl) (h : x.k = 1) : casesR x = anyR x.l := by
  obtain ⟨k, p, f, t, n, l⟩ := x
  have h' : k = 1 := h
  subst h'
  rw [casesR, if_neg (by decide), if_pos rfl]
  rfl
theorem cases_0 (x : Rl) (h : x.k = 0) : casesR x = allR x.l [[]] := by
  obtain ⟨k, p, f, t, n, l⟩ := x
  have h' : k = 0 := h
  subst h'
  rw [casesR, if_neg (by decide), if_neg (by decide), if_pos rfl]
  rfl
theorem cases_2 (x : Rl) (ha : atomB x.k = false) (h0 : x.k ≠ 0) (h1 : x.k ≠ 1) : casesR x = [[]] := by
  obtain ⟨k, p, f, t, n, l⟩ := x
  have ha' : ¬ atomB k = true := by rw [show atomB k = false from ha]; simp
  have h0' : ¬ k = 0 := h0
  have h1' : ¬ k = 1 := h1
  rw [casesR, if_neg ha', if_neg h1', if_neg h0']
theorem nsz_l (x : Rl) : nsz x = 1 + nszL x.l := by
  obtain ⟨k, p, f, t, n, l⟩ := x
  rw [nsz]
  rfl
/-- the product of the counts -/
def proR : List Rl → Nat
  | [] => 1
  | x :: l => (casesR x).length * proR l
theorem any_len (l : List Rl) : ∀ s, (sumL l s).2 = true → (∀ x ∈ l, (cnt x).2 = true → (casesR x).length = (cnt x).1) → (sumL l s).1 = s + (anyR l).length ∧ ∀ x ∈ l, (cnt x).2 = true := by
  induction l with
  | nil => intro s _ _; rw [sumL, anyR]; simp
  | cons x l ih =>
    intro s h hc
    rw [sumL] at h ⊢
    split at h
    · simp at h
    · rename_i hn
      rw [if_neg hn]
      have hx : (cnt x).2 = true := by
        cases e : (cnt x).2
        · exact absurd (.inl e) hn
        · rfl
      obtain ⟨h1, h2⟩ := ih _ h (fun y hy => hc y (by simp [hy]))
      refine ⟨?_, ?_⟩
      · rw [h1, anyR, List.length_append, hc x (by simp) hx]; omega
      · intro y hy
        rcases List.mem_cons.1 hy with rfl | hy
        · exact hx
        · exact h2 y hy
theorem all_len (l : List Rl) : ∀ a, (allR l a).length = a.length * proR l := by
  induction l with
  | nil => intro a; rw [allR, proR]; simp
  | cons x l ih =>
    intro a
    rw [allR, proR, ih]
    have : (a.flatMap fun p => (casesR x).map fun q => p ++ q).length = a.length * (casesR x).length := by
      induction a with
      | nil => simp
      | cons p a iha => rw [List.flatMap_cons, List.length_append, iha, List.length_map, List.length_cons, Nat.succ_mul]; omega
    rw [this, Nat.mul_assoc]
theorem prod_len (l : List Rl) : ∀ times z, (prodL l times z).2 = true → times ≤ 4097 → (∀ x ∈ l, (cnt x).2 = true → (casesR x).length = (cnt x).1) →
    (((prodL l times z).1 = 0 ∧ (z = true ∨ proR l = 0)) ∨ (z = false ∧ (prodL l times z).1 = times * proR l ∧ times * proR l ≤ 4096)) ∧ ∀ x ∈ l, (cnt x).2 = true := by
  induction l with
  | nil =>
    intro times z h ht _
    rw [prodL] at h ⊢
    cases z with
    | true => simp
    | false => simp at h ⊢; right; rw [proR]; omega
  | cons x l ih =>
    intro times z h ht hc
    rw [prodL] at h ⊢
    split at h
    · simp at h
    · rename_i hn
      have hx : (cnt x).2 = true := by simpa using hn
      have hcx := hc x (by simp) hx
      have hc' : ∀ y ∈ l, (cnt y).2 = true → (casesR y).length = (cnt y).1 := fun y hy => hc y (by simp [hy])
      have hall : ∀ hl : (∀ y ∈ l, (cnt y).2 = true), ∀ y ∈ x :: l, (cnt y).2 = true := fun hl y hy => by
        rcases List.mem_cons.1 hy with rfl | hy
        · exact hx
        · exact hl y hy
      rw [if_neg hn]
      split at h
      · rename_i h0
        rw [if_pos h0]
        obtain ⟨h1, h2⟩ := ih _ _ h ht hc'
        refine ⟨.inl ⟨?_, .inr (by rw [proR, hcx, h0, Nat.zero_mul])⟩, hall h2⟩
        rcases h1 with h1 | h1
        · exact h1.1
        · simp at h1
      · rename_i h0
        rw [if_neg h0]
        obtain ⟨h1, h2⟩ := ih _ _ h (by omega) hc'
        refine ⟨?_, hall h2⟩
        rcases h1 with ⟨h1, h3⟩ | ⟨h1, h3, h4⟩
        · refine .inl ⟨h1, ?_⟩
          rcases h3 with h3 | h3
          · exact .inl h3
          · exact .inr (by rw [proR, h3, Nat.mul_zero])
        · by_cases hb : times * (cnt x).1 ≤ 4097
          · rw [Nat.min_eq_left hb] at h3 h4 ⊢
            refine .inr ⟨h1, ?_, ?_⟩
            · rw [h3, proR, hcx, Nat.mul_assoc]
            · rw [proR, hcx, ← Nat.mul_assoc]; exact h4
          · rw [Nat.min_eq_right (by omega)] at h3 h4 ⊢
            have hp : proR l = 0 := by
              cases e : proR l with
              | zero => rfl
              | succ m => rw [e] at h4; omega
            refine .inl ⟨by rw [h3, hp], .inr (by rw [proR, hp, Nat.mul_zero])⟩
theorem cases_len (N : Nat) : ∀ x, SizeOf.sizeOf x ≤ N → (cnt x).2 = true → (casesR x).length = (cnt x).1 := by
  induction N with
  | zero =>
    intro x h
    obtain ⟨k, p, f, t, n, l⟩ := x
    simp at h
  | succ N ih =>
    intro x hN h
    have hk : ∀ y ∈ x.l, (cnt y).2 = true → (casesR y).length = (cnt y).1 := fun y hy => ih y (by have := Rl.lt_mem hy; omega)
    by_cases h0 : x.k = 0
    · rw [cnt_0 x h0] at h ⊢
      rw [cases_0 x h0, all_len]
      obtain ⟨h1, _⟩ := prod_len x.l 1 false h (by omega) hk
      rcases h1 with ⟨h1, h2⟩ | ⟨_, h1, _⟩
      · rcases h2 with h2 | h2
        · simp at h2
        · rw [h1, h2, Nat.mul_zero]
      · rw [h1]; simp
    · by_cases h1 : x.k = 1
      · rw [cnt_1 x h1] at h ⊢
        rw [cases_1 x h1, (any_len x.l 0 h hk).1]
        omega
      · rw [cnt_2 x h0 h1]
        cases ha : atomB x.k with
        | true => rw [cases_a x ha]; rfl
        | false => rw [cases_2 x ha h0 h1]; rfl
theorem casesR_len (x : Rl) (h : (cnt x).2 = true) : (casesR x).length = (cnt x).1 := cases_len _ x (Nat.le_refl _) h
/-- no case is longer than the rule -/
theorem cases_short (N : Nat) : ∀ x, SizeOf.sizeOf x ≤ N → ∀ l ∈ casesR x, l.length ≤ nsz x := by
  induction N with
  | zero =>
    intro x h
    obtain ⟨k, p, f, t, n, l⟩ := x
    simp at h
  | succ N ih =>
    intro x hN
    have hk : ∀ y ∈ x.l, ∀ l ∈ casesR y, l.length ≤ nsz y := fun y hy => ih y (by have := Rl.lt_mem hy; omega)
    have hany : ∀ ys : List Rl, (∀ y ∈ ys, ∀ l ∈ casesR y, l.length ≤ nsz y) → ∀ l ∈ anyR ys, l.length ≤ nszL ys := by
      intro ys
      induction ys with
      | nil => intro _ l hl; rw [anyR] at hl; cases hl
      | cons y ys iy =>
        intro h l hl
        rw [anyR, List.mem_append] at hl
        rw [nszL]
        rcases hl with hl | hl
        · have := h y (by simp) l hl; omega
        · have := iy (fun z hz => h z (by simp [hz])) l hl; omega
    have hall : ∀ (ys : List Rl) (a : List (List Rl)) (b : Nat), (∀ y ∈ ys, ∀ l ∈ casesR y, l.length ≤ nsz y) → (∀ l ∈ a, l.length ≤ b) → ∀ l ∈ allR ys a, l.length ≤ b + nszL ys := by
      intro ys
      induction ys with
      | nil => intro a b _ ha l hl; rw [allR] at hl; rw [nszL]; exact ha l hl
      | cons y ys iy =>
        intro a b h ha l hl
        rw [allR] at hl
        rw [nszL]
        have := iy _ (b + nsz y) (fun z hz => h z (by simp [hz])) (fun l hl => by
          obtain ⟨p, hp, hl⟩ := List.mem_flatMap.1 hl
          obtain ⟨q, hq, rfl⟩ := List.mem_map.1 hl
          have h1 := ha p hp
          have h2 := h y (by simp) q hq
          rw [List.length_append]; omega) l hl
        omega
    intro l hl
    rw [nsz_l]
    by_cases h0 : x.k = 0
    · rw [cases_0 x h0] at hl
      have := hall x.l [[]] 0 hk (by simp) l hl
      omega
    · by_cases h1 : x.k = 1
      · rw [cases_1 x h1] at hl
        have := hany x.l hk l hl
        omega
      · cases ha : atomB x.k with
        | true => rw [cases_a x ha] at hl; simp at hl; subst hl; simp
        | false => rw [cases_2 x ha h0 h1] at hl; simp at hl; subst hl; simp
theorem casesR_short (x : Rl) : ∀ l ∈ casesR x, l.length ≤ nsz x := cases_short _ x (Nat.le_refl _)
end Go.Proofs.YtehjkgfdfihfmaaDoor
