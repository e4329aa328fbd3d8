/- SealRows: the input that is too much, and the whole. -/
import Derived.Test.YtlbenmndmoeioaaThree
namespace Go.Proofs.Ytlbenmndmoeioaa
open Go.RowKit Go.Maps
set_option linter.unusedVariables false

set_option maxHeartbeats 2000000 in
set_option maxRecDepth 100000 in
theorem rows_heavy (a t : ByteArray) (i j : Int) (w : World) (A : Option Addr) (c : Nat) (l : List Nt) (hR : Rn w w.heap.size A l) (hS : ∀ x ∈ l, Small x) (hl : l.length ≤ maxLen) (hx : Small (a, t))
    (h : hv l 18 = true ∨ (hv l 18 = false ∧ big (a, t) = true) ∨ (hv l 18 = false ∧ big (a, t) = false ∧ i < 0) ∨ (hv l 18 = false ∧ big (a, t) = false ∧ 0 ≤ i ∧ j < i) ∨ (hv l 18 = false ∧ big (a, t) = false ∧ 0 ≤ i ∧ i ≤ j ∧ (l.length : Int) < j)) :
    Calls Try.prog 8 #[.slice A l.length c, .int .i64 i, .int .i64 j, .agg #[.string a, .string t]] w fun e w' => e = .returned (.bool true) ∧ Below w.heap.size w w' := by
  have hl' := hl
  simp only [maxLen] at hl'
  have hb0 := (Below.refl w.heap.size w).alloc (Nat.le_refl _) (.cells #[.string a, .string t] 27)
  have H0 := Lib.hid hb0
  clear hb0
  rcases h with h | ⟨h, h2⟩ | ⟨h, h2, h3⟩ | ⟨h, h2, h3, h4⟩ | ⟨h, h2, h3, h4, h5⟩
  · have Hh := Lib.hid h
    clear h
    go_enter Try.func8, Try.ntmps8
    go_wp2_with fail
    refine (awake_any _).mono ?_
    rintro e w1 ⟨rfl, hb1⟩
    have H1 := Lib.hid (below_trans' (Nat.le_refl _) H0.out hb1)
    clear hb1
    go_wp2_with fail
    refine (heavy_any 18 _ w.heap.size A c l (hR.below H1.out) hS hl (by omega)).mono ?_
    rintro e w' ⟨rfl, rfl⟩
    rw [Hh.out]
    go_wp2
    go_ret
    exact ⟨rfl, H1.out⟩
  all_goals
    have Hh := Lib.hid h
    have Hh2 := Lib.hid h2
    clear h h2
    go_enter Try.func8, Try.ntmps8
    go_wp2_with fail
    refine (awake_any _).mono ?_
    rintro e w1 ⟨rfl, hb1⟩
    have H1 := Lib.hid (below_trans' (Nat.le_refl _) H0.out hb1)
    have c0 : w1.cell? ⟨w.heap.size, 0, none⟩ = some (.string a) := by
      rw [hb1.cell (p := ⟨w.heap.size, 0, none⟩) (by simp)]; simp
    have c1 : w1.cell? ⟨w.heap.size, 1, none⟩ = some (.string t) := by
      rw [hb1.cell (p := ⟨w.heap.size, 1, none⟩) (by simp)]; simp
    clear hb1
    go_wp2_with fail
    refine (heavy_any 18 _ w.heap.size A c l (hR.below H1.out) hS hl (by omega)).mono ?_
    rintro e w' ⟨rfl, rfl⟩
    rw [Hh.out]
    go_wp2_with fail
    refine (heavy_one a t _ (w1.heap.size + 1) _ 1 (Rn.one w1 a t) hx _ Hh2.out).mono ?_
    rintro e w' ⟨rfl, rfl⟩
    go_wp2
    go_ret
    exact ⟨rfl, H1.out.alloc H1.out.size _⟩

theorem rows_any (a t : ByteArray) (i j : Int) (w : World) (A : Option Addr) (c : Nat) (l : List Nt) (hR : Rn w w.heap.size A l) (hS : ∀ x ∈ l, Small x) (hl : l.length ≤ maxLen) (hx : Small (a, t)) :
    Calls Try.prog 8 #[.slice A l.length c, .int .i64 i, .int .i64 j, .agg #[.string a, .string t]] w fun e w' => e = .returned (.bool true) ∧ Below w.heap.size w w' := by
  cases h1 : hv l 18
  · cases h2 : big (a, t)
    · by_cases h3 : i < 0
      · exact rows_heavy a t i j w A c l hR hS hl hx (.inr (.inr (.inl ⟨h1, h2, h3⟩)))
      · by_cases h4 : j < i
        · exact rows_heavy a t i j w A c l hR hS hl hx (.inr (.inr (.inr (.inl ⟨h1, h2, by omega, h4⟩))))
        · by_cases h5 : (l.length : Int) < j
          · exact rows_heavy a t i j w A c l hR hS hl hx (.inr (.inr (.inr (.inr ⟨h1, h2, by omega, by omega, h5⟩))))
          · obtain ⟨j1, rfl⟩ := Int.eq_ofNat_of_zero_le (by omega : 0 ≤ i)
            obtain ⟨j2, rfl⟩ := Int.eq_ofNat_of_zero_le (by omega : 0 ≤ j)
            exact rows_main a t j1 j2 w A c l hR hS h1 hx h2 (by omega) (by omega)
    · exact rows_heavy a t i j w A c l hR hS hl hx (.inr (.inl ⟨h1, h2⟩))
  · exact rows_heavy a t i j w A c l hR hS hl hx (.inl h1)
end Go.Proofs.Ytlbenmndmoeioaa
