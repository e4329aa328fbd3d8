/- SealSigns: the walk. -/
import Derived.Test.YtlbenmndmoeioaaEven
namespace Go.Proofs.Ytlbenmndmoeioaa
open Go.RowKit Go.Maps
set_option linter.unusedVariables false

def putAll (l : List Nt) : List Nt := l.foldl putN []
theorem putN_le (L : List Nt) (x : Nt) : (putN L x).length ≤ L.length + 1 := by
  unfold putN; split
  · split <;> simp
  · omega
theorem putAll_snoc (l : List Nt) (k : Nat) (h : k < l.length) : putAll (l.take (k + 1)) = putN (putAll (l.take k)) l[k] := by
  unfold putAll; rw [List.take_succ_eq_append_getElem h, List.foldl_append]; rfl
theorem foldl_le (l : List Nt) : ∀ L : List Nt, (l.foldl putN L).length ≤ L.length + l.length := by
  induction l with
  | nil => intro L; simp
  | cons x r ih => intro L; rw [List.foldl_cons]; have := ih (putN L x); have := putN_le L x; simp; omega
theorem putAll_le (l : List Nt) : (putAll l).length ≤ l.length := by have := foldl_le l []; simpa [putAll] using this

theorem Rn.one (W : World) (a t : ByteArray) : Rn (W.alloc (.cells #[.string a, .string t] 27)) (W.heap.size + 1) (some ⟨W.heap.size, 0, none⟩) [(a, t)] := fun _ =>
  ⟨W.heap.size, 0, rfl, by omega, fun i x hx => by
    have hi : i = 0 := by have := (List.getElem?_eq_some_iff.1 hx).1; simpa using this
    subst hi
    simp at hx
    subst hx
    simp⟩
theorem small_big {x : Nt} (h : big x = false) : x.1.size ≤ 100 ∧ x.2.size ≤ 5000 := by simpa [big] using h
theorem hv_false {L : List Nt} {m : Nat} (h : hv L m = false) : L.length ≤ m ∧ ∀ x ∈ L, x.1.size ≤ 100 ∧ x.2.size ≤ 5000 := by
  simp only [hv, Bool.or_eq_false_iff, decide_eq_false_iff_not] at h
  exact ⟨by omega, fun x hx => small_big (by simpa using List.any_eq_false.1 h.2 x hx)⟩
theorem hv_one (x : Nt) : hv [x] 1 = big x := by simp [hv]
theorem heavy_one (a t : ByteArray) (w : World) (B : Nat) (A : Option Addr) (c : Nat) (hR : Rn w B A [(a, t)]) (hS : Small (a, t)) (r : Bool) (hr : big (a, t) = r) :
    Calls Try.prog 12 #[.slice A 1 c, .int .i64 1] w fun e w' => e = .returned (.bool r) ∧ w = w' := by
  have h := heavy_any 1 w B A c [(a, t)] hR (by intro x hx; simp at hx; subst hx; exact hS) (by simp [maxLen]) (by omega)
  rw [hv_one, hr] at h
  exact h

set_option maxHeartbeats 2000000 in
set_option maxRecDepth 100000 in
theorem signs_heavy (a t s : ByteArray) (w : World) (A : Option Addr) (c : Nat) (l : List Nt) (hR : Rn w w.heap.size A l) (hS : ∀ x ∈ l, Small x) (hl : l.length ≤ maxLen) (hx : Small (a, t)) (hs : s.size ≤ maxLen)
    (h : hv l 20 = true ∨ (hv l 20 = false ∧ big (a, t) = true) ∨ (hv l 20 = false ∧ big (a, t) = false ∧ 100 < s.size)) :
    Calls Try.prog 4 #[.slice A l.length c, .agg #[.string a, .string t], .string s] w fun e w' => e = .returned (.bool true) ∧ Below w.heap.size w w' := by
  simp only [maxLen] at hs
  have hb0 := (Below.refl w.heap.size w).alloc (Nat.le_refl _) (.cells #[.string a, .string t] 27)
  have H0 := Lib.hid hb0
  clear hb0
  rcases h with h | ⟨h, h2⟩ | ⟨h, h2, h3⟩
  · have Hh := Lib.hid h
    clear h
    go_enter Try.func4, Try.ntmps4
    go_wp2_with fail
    refine (awake_any _).mono ?_
    rintro e w1 ⟨rfl, hb1⟩
    have H1 := Lib.hid (below_trans' (Nat.le_refl _) H0.out hb1)
    clear hb1
    go_wp2_with fail
    refine (heavy_any 20 _ w.heap.size A c l (hR.below H1.out) hS hl (by omega)).mono ?_
    rintro e w' ⟨rfl, rfl⟩
    rw [Hh.out]
    go_wp2
    go_ret
    exact ⟨rfl, H1.out⟩
  all_goals
    have Hh := Lib.hid h
    have Hh2 := Lib.hid h2
    clear h h2
    go_enter Try.func4, Try.ntmps4
    go_wp2_with fail
    refine (awake_any _).mono ?_
    rintro e w1 ⟨rfl, hb1⟩
    have H1 := Lib.hid (below_trans' (Nat.le_refl _) H0.out hb1)
    have c0 : w1.cell? ⟨w.heap.size, 0, none⟩ = some (.string a) := by
      rw [hb1.cell (p := ⟨w.heap.size, 0, none⟩) (by simp)]; simp
    have c1 : w1.cell? ⟨w.heap.size, 1, none⟩ = some (.string t) := by
      rw [hb1.cell (p := ⟨w.heap.size, 1, none⟩) (by simp)]; simp
    clear hb1
    go_wp2_with fail
    refine (heavy_any 20 _ w.heap.size A c l (hR.below H1.out) hS hl (by omega)).mono ?_
    rintro e w' ⟨rfl, rfl⟩
    rw [Hh.out]
    go_wp2_with fail
    refine (heavy_one a t _ (w1.heap.size + 1) _ 1 (Rn.one w1 a t) hx _ Hh2.out).mono ?_
    rintro e w' ⟨rfl, rfl⟩
    go_wp2
    go_ret
    exact ⟨rfl, H1.out.alloc H1.out.size _⟩
end Go.Proofs.Ytlbenmndmoeioaa
