/- Digits: the order of texts and the order of numbers. -/
import Derived.Test.YtbkffdfboloogaaGreatDoorMA
import Derived.WalkKit
namespace Go.Proofs.YtbkffdfboloogaaGreatDoor
open Go

theorem num_fold_eq (r : Bs) : ∀ n, r.foldl (fun n c => n * 10 + (c.toNat - 48)) n = n * 10 ^ r.length + num r := by
  induction r with
  | nil => intro n; simp [num]
  | cons c r ih =>
    intro n
    have h0 : num (c :: r) = (c.toNat - 48) * 10 ^ r.length + num r := by
      unfold num
      rw [List.foldl_cons, ih]
      simp [num]
    rw [List.foldl_cons, ih, h0, List.length_cons, Nat.pow_succ, Nat.add_mul, Nat.mul_assoc, Nat.mul_comm 10, Nat.add_assoc]
theorem num_cons (c : UInt8) (r : Bs) : num (c :: r) = (c.toNat - 48) * 10 ^ r.length + num r := by
  conv => lhs; unfold num
  rw [List.foldl_cons, num_fold_eq]
  simp
theorem digit_bd {c : UInt8} (h : digit c = true) : 48 ≤ c.toNat ∧ c.toNat ≤ 57 := by
  simp [digit, UInt8.le_iff_toNat_le] at h
  exact h
theorem num_lt : ∀ {r : Bs}, (∀ c ∈ r, digit c = true) → num r < 10 ^ r.length
  | [], _ => by simp [num]
  | c :: r, h => by
    rw [num_cons, List.length_cons, Nat.pow_succ]
    have h1 := num_lt (r := r) (fun d hd => h d (by simp [hd]))
    have h2 := digit_bd (h c (by simp))
    have h3 : (c.toNat - 48) * 10 ^ r.length ≤ 9 * 10 ^ r.length := Nat.mul_le_mul_right _ (by omega)
    omega
theorem num_order : ∀ {a b : Bs}, a.length = b.length → (∀ c ∈ a, digit c = true) → (∀ c ∈ b, digit c = true) → (Op.bytesLess a b = true ↔ num a < num b) ∧ (a = b ↔ num a = num b)
  | [], [], _, _, _ => by simp [Op.bytesLess, num]
  | [], _ :: _, h, _, _ => by simp at h
  | _ :: _, [], h, _, _ => by simp at h
  | x :: a, y :: b, hl, ha, hb => by
    have hl' : a.length = b.length := by simpa using hl
    obtain ⟨i1, i2⟩ := num_order hl' (fun c hc => ha c (by simp [hc])) (fun c hc => hb c (by simp [hc]))
    have a1 := num_lt (r := a) (fun c hc => ha c (by simp [hc]))
    have b1 := num_lt (r := b) (fun c hc => hb c (by simp [hc]))
    have hx := digit_bd (ha x (by simp))
    have hy := digit_bd (hb y (by simp))
    rw [num_cons, num_cons, hl']
    rw [hl'] at a1
    have hxy : (x < y) ↔ x.toNat < y.toNat := UInt8.lt_iff_toNat_lt
    have hxe : x = y ↔ x.toNat = y.toNat := UInt8.toNat_inj.symm
    generalize 10 ^ b.length = P at *
    have key : ∀ m n : Nat, m < n → m * P + num a < n * P + num b := by
      intro m n h
      have : (m + 1) * P ≤ n * P := Nat.mul_le_mul_right _ h
      rw [Nat.add_mul] at this
      omega
    have key2 : ∀ m n : Nat, m < n → m * P + num b < n * P + num a := by
      intro m n h
      have : (m + 1) * P ≤ n * P := Nat.mul_le_mul_right _ h
      rw [Nat.add_mul] at this
      omega
    constructor
    · simp only [Op.bytesLess, Bool.or_eq_true, decide_eq_true_eq, Bool.and_eq_true, beq_iff_eq]
      rw [i1, hxy, hxe]
      constructor
      · rintro (h | ⟨h, h2⟩)
        · exact key _ _ (by omega)
        · rw [h]; omega
      · intro h
        rcases Nat.lt_trichotomy x.toNat y.toNat with h' | h' | h'
        · exact .inl h'
        · refine .inr ⟨h', ?_⟩
          rw [h'] at h; omega
        · have := key2 (y.toNat - 48) (x.toNat - 48) (by omega); omega
    · rw [List.cons.injEq, i2, hxe]
      constructor
      · rintro ⟨h, h2⟩
        rw [h, h2]
      · intro h
        rcases Nat.lt_trichotomy x.toNat y.toNat with h' | h' | h'
        · have := key (x.toNat - 48) (y.toNat - 48) (by omega); omega
        · rw [h'] at h; exact ⟨h', by omega⟩
        · have := key2 (y.toNat - 48) (x.toNat - 48) (by omega); omega
def mostL : Bs := [49, 48, 57, 57, 53, 49, 49, 54, 50, 55, 55, 55, 54]
/-- as the document compares -/
def aboveL (t : Bs) : Bool := decide (13 < t.length) || (decide (t.length = 13) && !(Op.bytesLess t mostL || t == mostL))
theorem above_eq {t : Bs} (hd : ∀ c ∈ t, digit c = true) (hz : ¬ (1 < t.length ∧ t.head? = some 48)) : aboveL t = decide (1099511627776 < num t) := by
  have hM : num mostL = 1099511627776 := by decide +kernel
  have hMd : ∀ c ∈ mostL, digit c = true := by decide
  unfold aboveL
  rcases Nat.lt_trichotomy t.length 13 with h | h | h
  · have h1 := num_lt hd
    have h2 : 10 ^ t.length ≤ 10 ^ 12 := Nat.pow_le_pow_right (by decide) (by omega)
    rw [decide_eq_false (by omega), decide_eq_false (by omega : ¬ t.length = 13), decide_eq_false (by omega)]
    rfl
  · obtain ⟨o1, o2⟩ := num_order (a := t) (b := mostL) (by rw [h]; rfl) hd hMd
    rw [decide_eq_false (by omega), decide_eq_true h, Bool.false_or, Bool.true_and, Bool.eq_iff_iff, decide_eq_true_eq]
    rw [Bool.not_eq_true', Bool.or_eq_false_iff, ← Bool.not_eq_true, o1, beq_eq_false_iff_ne, Ne, o2, hM]
    omega
  · rw [decide_eq_true h, Bool.true_or, Bool.eq_iff_iff]
    refine ⟨fun _ => decide_eq_true ?_, fun _ => rfl⟩
    cases t with
    | nil => simp at h
    | cons c r =>
      have hc := digit_bd (hd c (by simp))
      have h0 : c.toNat ≠ 48 := fun e => hz ⟨by omega, by rw [List.head?_cons, Option.some.injEq, ← UInt8.toNat_inj]; exact e⟩
      have h1 : 10 ^ 13 ≤ 10 ^ r.length := Nat.pow_le_pow_right (by decide) (by simp at h; omega)
      have h2 : 1 * 10 ^ r.length ≤ (c.toNat - 48) * 10 ^ r.length := Nat.mul_le_mul_right _ (by omega)
      rw [num_cons]
      omega
end Go.Proofs.YtbkffdfboloogaaGreatDoor
