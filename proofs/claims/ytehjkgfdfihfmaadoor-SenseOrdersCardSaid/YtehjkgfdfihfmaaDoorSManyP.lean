/- The document's count of a rule's cases, plain: it is the program's. -/
import Derived.Test.YtehjkgfdfihfmaaDoorSOrdP
namespace Go.Proofs.YtehjkgfdfihfmaaDoor
set_option linter.unusedVariables false

/-- how many cases a rule has; 4097: too many -/
def mN (x : Rl) : Nat := if (cnt x).2 = true then (cnt x).1 else 4097
def proN : List Nat → Nat
  | [] => 1
  | a :: l => a * proN l
def sumN : List Nat → Nat
  | [] => 0
  | a :: l => a + sumN l
theorem proN_append (a b : List Nat) : proN (a ++ b) = proN a * proN b := by
  induction a with
  | nil => simp [proN]
  | cons x a ih => rw [List.cons_append, proN, proN, ih, Nat.mul_assoc]
theorem sumN_append (a b : List Nat) : sumN (a ++ b) = sumN a + sumN b := by
  induction a with
  | nil => simp [sumN]
  | cons x a ih => rw [List.cons_append, sumN, sumN, ih]; omega
theorem proN_pos {l : List Nat} (h : ∀ a ∈ l, 0 < a) : 0 < proN l := by
  induction l with
  | nil => simp [proN]
  | cons a l ih => rw [proN]; exact Nat.mul_pos (h a (by simp)) (ih fun b hb => h b (by simp [hb]))
theorem sumL_le (l : List Rl) : ∀ s, s ≤ 4096 → (sumL l s).1 ≤ 4096 := by
  induction l with
  | nil => intro s h; rw [sumL]; exact h
  | cons x l ih =>
    intro s h
    rw [sumL]
    split
    · simp
    · rename_i hn
      exact ih _ (by omega)
theorem cnt_ok_le (x : Rl) (h : (cnt x).2 = true) : (cnt x).1 ≤ 4096 := by
  by_cases h0 : x.k = 0
  · rw [cnt_0 x h0] at h ⊢
    rcases (prod_len x.l 1 false h (by omega) (fun y _ hy => casesR_len y hy)).1 with ⟨e, _⟩ | ⟨_, e, h2⟩ <;> omega
  · by_cases h1 : x.k = 1
    · rw [cnt_1 x h1]; exact sumL_le _ _ (by omega)
    · rw [cnt_2 x h0 h1]; simp
theorem mN_ok {x : Rl} (h : (cnt x).2 = true) : mN x = (cnt x).1 := by unfold mN; rw [if_pos h]
theorem mN_no {x : Rl} (h : (cnt x).2 = false) : mN x = 4097 := by unfold mN; rw [if_neg (by rw [h]; simp)]
theorem mN_small (x : Rl) : mN x ≤ 4096 ↔ (cnt x).2 = true := by
  cases h : (cnt x).2 with
  | true => rw [mN_ok h]; have := cnt_ok_le x h; simp; exact this
  | false => rw [mN_no h]; simp
theorem mN_le (x : Rl) : mN x ≤ 4097 := by
  cases h : (cnt x).2 with
  | true => rw [mN_ok h]; have := cnt_ok_le x h; omega
  | false => rw [mN_no h]; omega
theorem prodL_bad {y : Rl} (h : (cnt y).2 = false) (l : List Rl) : ∀ t z, y ∈ l → (prodL l t z).2 = false := by
  induction l with
  | nil => intro t z hy; cases hy
  | cons x l ih =>
    intro t z hy
    rw [prodL]
    by_cases hx : (cnt x).2 = false
    · rw [if_pos hx]
    · rw [if_neg hx]
      have hy' : y ∈ l := by
        rcases List.mem_cons.1 hy with rfl | hy
        · exact absurd h hx
        · exact hy
      split
      · exact ih _ _ hy'
      · exact ih _ _ hy'
theorem sumL_bad {y : Rl} (h : (cnt y).2 = false) (l : List Rl) : ∀ s, y ∈ l → (sumL l s).2 = false := by
  induction l with
  | nil => intro s hy; cases hy
  | cons x l ih =>
    intro s hy
    rw [sumL]
    split
    · rfl
    · rename_i hn
      refine ih _ ?_
      rcases List.mem_cons.1 hy with rfl | hy
      · exact absurd (.inl h) hn
      · exact hy
theorem mN_bad {x y : Rl} (hx : x.k = 0 ∨ x.k = 1) (hy : y ∈ x.l) (h : (cnt y).2 = false) : mN x = 4097 := by
  refine mN_no ?_
  rcases hx with hx | hx
  · rw [cnt_0 x hx]; exact prodL_bad h _ _ _ hy
  · rw [cnt_1 x hx]; exact sumL_bad h _ _ hy
theorem prodL_zero (l : List Rl) : ∀ t z, (∀ y ∈ l, (cnt y).2 = true) → (z = true ∨ ∃ y ∈ l, (cnt y).1 = 0) → prodL l t z = (0, true) := by
  induction l with
  | nil => intro t z _ h; rw [prodL]; rcases h with h | ⟨y, hy, _⟩; (rw [h]; rfl); cases hy
  | cons x l ih =>
    intro t z hk h
    rw [prodL, if_neg (by rw [hk x (by simp)]; simp)]
    have hk' : ∀ y ∈ l, (cnt y).2 = true := fun y hy => hk y (by simp [hy])
    split
    · exact ih _ _ hk' (.inl rfl)
    · rename_i h0
      refine ih _ _ hk' ?_
      rcases h with h | ⟨y, hy, hz⟩
      · exact .inl h
      · rcases List.mem_cons.1 hy with rfl | hy
        · exact absurd hz h0
        · exact .inr ⟨y, hy, hz⟩
theorem mN_zero {x y : Rl} (hx : x.k = 0) (hk : ∀ y ∈ x.l, (cnt y).2 = true) (hy : y ∈ x.l) (h : mN y = 0) : mN x = 0 := by
  have e : cnt x = (0, true) := by
    rw [cnt_0 x hx]
    exact prodL_zero _ _ _ hk (.inr ⟨y, hy, by rw [← mN_ok (hk y hy)]; exact h⟩)
  rw [mN_ok (by rw [e]), e]
theorem prodL_pro (l : List Rl) : ∀ t, 0 < t → t ≤ 4097 → (∀ y ∈ l, (cnt y).2 = true ∧ 0 < mN y) → prodL l t false = if t * proN (l.map mN) ≤ 4096 then (t * proN (l.map mN), true) else (4097, false) := by
  induction l with
  | nil =>
    intro t h0 h1 _
    rw [prodL, List.map_nil, proN, Nat.mul_one]
    split
    · simp at *
    · split
      · rename_i h; simp [h]
      · rename_i h
        have : t = 4097 := by omega
        simp [this]
  | cons x l ih =>
    intro t h0 h1 hk
    obtain ⟨hx, hp⟩ := hk x (by simp)
    have hk' : ∀ y ∈ l, (cnt y).2 = true ∧ 0 < mN y := fun y hy => hk y (by simp [hy])
    have hpos : 0 < proN (l.map mN) := proN_pos (fun a ha => by obtain ⟨y, hy, rfl⟩ := List.mem_map.1 ha; exact (hk' y hy).2)
    have em := mN_ok hx
    rw [prodL, if_neg (by rw [hx]; simp), if_neg (by omega), List.map_cons, proN, ← em, ← Nat.mul_assoc]
    have htp : 0 < t * mN x := Nat.mul_pos h0 hp
    rw [ih _ (by omega) (by omega) hk']
    by_cases hb : t * mN x ≤ 4097
    · rw [Nat.min_eq_left hb]
    · rw [Nat.min_eq_right (by omega)]
      have a1 : 4097 ≤ 4097 * proN (l.map mN) := Nat.le_mul_of_pos_right _ hpos
      have a2 : t * mN x ≤ t * mN x * proN (l.map mN) := Nat.le_mul_of_pos_right _ hpos
      rw [if_neg (by omega), if_neg (by omega)]
theorem mN_pro {x : Rl} (hx : x.k = 0) (hk : ∀ y ∈ x.l, (cnt y).2 = true ∧ 0 < mN y) : mN x = if proN (x.l.map mN) ≤ 4096 then proN (x.l.map mN) else 4097 := by
  have e := prodL_pro x.l 1 (by omega) (by omega) hk
  rw [← cnt_0 x hx, Nat.one_mul] at e
  by_cases h : proN (x.l.map mN) ≤ 4096
  · rw [if_pos h] at e ⊢
    rw [mN_ok (by rw [e]), e]
  · rw [if_neg h] at e ⊢
    rw [mN_no (by rw [e])]
theorem sumL_sum (l : List Rl) : ∀ s, s ≤ 4096 → (∀ y ∈ l, (cnt y).2 = true) → sumL l s = if s + sumN (l.map mN) ≤ 4096 then (s + sumN (l.map mN), true) else (0, false) := by
  induction l with
  | nil => intro s h _; rw [sumL, List.map_nil, sumN, Nat.add_zero, if_pos h]
  | cons x l ih =>
    intro s h hk
    have hx := hk x (by simp)
    rw [sumL, List.map_cons, sumN, ← Nat.add_assoc, mN_ok hx]
    by_cases hb : 4096 < s + (cnt x).1
    · rw [if_pos (.inr hb), if_neg (by omega)]
    · rw [if_neg (fun h => h.elim (fun e => by rw [hx] at e; cases e) hb)]
      exact ih _ (by omega) (fun y hy => hk y (by simp [hy]))
theorem mN_sum {x : Rl} (hx : x.k = 1) (hk : ∀ y ∈ x.l, (cnt y).2 = true) : mN x = if sumN (x.l.map mN) ≤ 4096 then sumN (x.l.map mN) else 4097 := by
  have e := sumL_sum x.l 0 (by omega) hk
  rw [← cnt_1 x hx, Nat.zero_add] at e
  by_cases h : sumN (x.l.map mN) ≤ 4096
  · rw [if_pos h] at e ⊢
    rw [mN_ok (by rw [e]), e]
  · rw [if_neg h] at e ⊢
    rw [mN_no (by rw [e])]
end Go.Proofs.YtehjkgfdfihfmaaDoor
