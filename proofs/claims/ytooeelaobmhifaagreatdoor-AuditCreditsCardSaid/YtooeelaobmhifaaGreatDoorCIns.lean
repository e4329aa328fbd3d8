/- slices.insertionSortCmpFunc of holds: it permutes them. -/
import Derived.Test.YtooeelaobmhifaaGreatDoorMColl
import Derived.Test.YtooeelaobmhifaaGreatDoorMCmp
import Derived.Test.YtooeelaobmhifaaGreatDoorClass
import Derived.Test.YtooeelaobmhifaaGreatDoorALed
import Derived.Shelf.Abstract
namespace Go.Proofs.YtooeelaobmhifaaGreatDoor
open Go.RowKit Go.Maps Go.Lib Go.Shelf
set_option linter.unusedVariables false
set_option maxRecDepth 100000

/-- block g holds the holds xs; nothing but g has turned since w0 -/
structure HRow (w0 w : World) (g : Nat) (xs : List Hd) : Prop where
  kp : Kp (fun k => k = g) w0 w
  lt : g < w0.heap.size
  at_ : ∀ i h, xs[i]? = some h → w.cell? ⟨g, i * 4, none⟩ = some (.string h.id) ∧ w.cell? ⟨g, i * 4 + 1, none⟩ = some (.string h.acc) ∧ w.cell? ⟨g, i * 4 + 2, none⟩ = some (.string h.cur) ∧ w.cell? ⟨g, i * 4 + 3, none⟩ = some (.int .i64 h.n)
  fr : ∀ j, w.frozen? ⟨g, j, none⟩ = false
def set4 (w : World) (g i : Nat) (h : Hd) : World := (((w.setCell ⟨g, i * 4, none⟩ (.string h.id)).setCell ⟨g, i * 4 + 1, none⟩ (.string h.acc)).setCell ⟨g, i * 4 + 2, none⟩ (.string h.cur)).setCell ⟨g, i * 4 + 3, none⟩ (.int .i64 h.n)
section
variable {w0 w w' : World} {g : Nat} {xs : List Hd}
theorem HRow.below (h : HRow w0 w g xs) (hb : Below w.heap.size w w') : HRow w0 w' g xs := by
  have hl : g < w.heap.size := Nat.lt_of_lt_of_le h.lt h.kp.size
  exact ⟨h.kp.trans (Kp.of_below _ hb), h.lt, fun i x hx => ⟨(hb.cell (p := ⟨g, _, none⟩) hl).trans (h.at_ i x hx).1, (hb.cell (p := ⟨g, _, none⟩) hl).trans (h.at_ i x hx).2.1, (hb.cell (p := ⟨g, _, none⟩) hl).trans (h.at_ i x hx).2.2.1, (hb.cell (p := ⟨g, _, none⟩) hl).trans (h.at_ i x hx).2.2.2⟩, fun j => (hb.frozen (p := ⟨g, j, none⟩) hl).trans (h.fr j)⟩
theorem HRow.drewN (h : HRow w0 w g xs) (n : Nat) : HRow w0 (w.drewN n) g xs := h.below ⟨rfl, rfl, rfl, Nat.le_refl _, fun _ _ => rfl⟩
theorem swap_perm {xs : List Hd} {i j : Nat} {X Y : Hd} (hi : xs[i]? = some X) (hj : xs[j]? = some Y) : ((xs.set i Y).set j X).Perm xs := by
  obtain ⟨hi', rfl⟩ := List.getElem?_eq_some_iff.1 hi
  obtain ⟨hj', rfl⟩ := List.getElem?_eq_some_iff.1 hj
  exact List.set_set_perm hi' hj'
theorem addr_ne {g a b : Nat} (h : a ≠ b) : (⟨g, a, none⟩ : Addr) ≠ ⟨g, b, none⟩ := fun e => h (by injection e)
theorem cell_ne (w : World) {g a b : Nat} (v : Value) (h : a ≠ b) : (w.setCell ⟨g, a, none⟩ v).cell? ⟨g, b, none⟩ = w.cell? ⟨g, b, none⟩ := World.cell?_setCell_other _ _ _ _ (addr_ne h)
theorem cell_eq {w : World} {g a : Nat} (v : Value) {u : Value} (h : w.cell? ⟨g, a, none⟩ = some u) : (w.setCell ⟨g, a, none⟩ v).cell? ⟨g, a, none⟩ = some v := World.cell?_setCell_same' _ _ _ (by rw [h]; rfl)
theorem cell_set4_other (w : World) (g i : Nat) (h : Hd) (o : Nat) (ho : o < i * 4 ∨ i * 4 + 3 < o) : (set4 w g i h).cell? ⟨g, o, none⟩ = w.cell? ⟨g, o, none⟩ := by
  unfold set4
  rw [cell_ne _ _ (by omega), cell_ne _ _ (by omega), cell_ne _ _ (by omega), cell_ne _ _ (by omega)]
theorem cell_set4_same {w : World} {g i : Nat} (h : Hd) {a b c d : Value} (h0 : w.cell? ⟨g, i * 4, none⟩ = some a) (h1 : w.cell? ⟨g, i * 4 + 1, none⟩ = some b) (h2 : w.cell? ⟨g, i * 4 + 2, none⟩ = some c) (h3 : w.cell? ⟨g, i * 4 + 3, none⟩ = some d) :
    (set4 w g i h).cell? ⟨g, i * 4, none⟩ = some (.string h.id) ∧ (set4 w g i h).cell? ⟨g, i * 4 + 1, none⟩ = some (.string h.acc) ∧ (set4 w g i h).cell? ⟨g, i * 4 + 2, none⟩ = some (.string h.cur) ∧ (set4 w g i h).cell? ⟨g, i * 4 + 3, none⟩ = some (.int .i64 h.n) := by
  have u1 : (w.setCell ⟨g, i * 4, none⟩ (.string h.id)).cell? ⟨g, i * 4 + 1, none⟩ = some b := (cell_ne _ _ (by omega)).trans h1
  have u2 : ((w.setCell ⟨g, i * 4, none⟩ (.string h.id)).setCell ⟨g, i * 4 + 1, none⟩ (.string h.acc)).cell? ⟨g, i * 4 + 2, none⟩ = some c := (cell_ne _ _ (by omega)).trans ((cell_ne _ _ (by omega)).trans h2)
  have u3 : (((w.setCell ⟨g, i * 4, none⟩ (.string h.id)).setCell ⟨g, i * 4 + 1, none⟩ (.string h.acc)).setCell ⟨g, i * 4 + 2, none⟩ (.string h.cur)).cell? ⟨g, i * 4 + 3, none⟩ = some d := (cell_ne _ _ (by omega)).trans ((cell_ne _ _ (by omega)).trans ((cell_ne _ _ (by omega)).trans h3))
  unfold set4
  refine ⟨?_, ?_, ?_, cell_eq _ u3⟩
  · rw [cell_ne _ _ (by omega), cell_ne _ _ (by omega), cell_ne _ _ (by omega), cell_eq _ h0]
  · rw [cell_ne _ _ (by omega), cell_ne _ _ (by omega), cell_eq _ u1]
  · rw [cell_ne _ _ (by omega), cell_eq _ u2]
theorem kp_setCell (w : World) (g o : Nat) (v : Value) : Kp (fun k => k = g) w (w.setCell ⟨g, o, none⟩ v) := ⟨rfl, rfl, rfl, by simp, fun k _ hn => heap_setCell_other w ⟨g, o, none⟩ k v (fun e => hn e)⟩
theorem HRow.put (h : HRow w0 w g xs) {i : Nat} (hi : i < xs.length) (x : Hd) : HRow w0 (set4 w g i x) g (xs.set i x) := by
  refine ⟨?_, h.lt, ?_, ?_⟩
  · unfold set4
    exact ((((h.kp.trans (kp_setCell _ _ _ _)).trans (kp_setCell _ _ _ _)).trans (kp_setCell _ _ _ _)).trans (kp_setCell _ _ _ _))
  · intro j y hy
    rw [List.getElem?_set] at hy
    split at hy
    · rename_i e
      subst e
      cases hy
      obtain ⟨c0, c1, c2, c3⟩ := h.at_ i _ (List.getElem?_eq_getElem hi)
      exact cell_set4_same x c0 c1 c2 c3
    · rename_i e
      obtain ⟨c0, c1, c2, c3⟩ := h.at_ j y hy
      rw [cell_set4_other _ _ _ _ _ (by omega), cell_set4_other _ _ _ _ _ (by omega), cell_set4_other _ _ _ _ _ (by omega), cell_set4_other _ _ _ _ _ (by omega)]
      exact ⟨c0, c1, c2, c3⟩
  · intro j
    unfold set4
    rw [World.frozen?_setCell, World.frozen?_setCell, World.frozen?_setCell, World.frozen?_setCell]
    exact h.fr j
end

set_option maxHeartbeats 2000000 in
theorem insertion_any (w : World) (g c : Nat) (xs : List Hd) (hR : HRow w w g xs) (hl : xs.length ≤ 1000) :
    Calls Tryz.prog 77 #[.slice (some ⟨g, 0, none⟩) xs.length c, .int .i64 0, .int .i64 (xs.length : Nat), .func (.func 32) #[] #[]] w fun e w' => (∃ v, e = .returned v) ∧ ∃ ys, ys.Perm xs ∧ HRow w w' g ys := by
  go_enter Tryz.func77, Tryz.ntmps77
  go_wp2_with fail
  go_loopw [8] (fun i wr => ∃ (k : Nat) (ys : List Hd), i = .int .i64 ((k : Int) + 1) ∧ k ≤ xs.length ∧ ys.Perm xs ∧ Hid (HRow w wr g ys)) (fun i _ => xs.length + 1 - (RowKit.intOf i).toNat)
  case atStart => exact ⟨0, xs, by simp, by omega, List.Perm.refl _, Lib.hid hR⟩
  case round =>
    obtain ⟨k, ys, rfl, hk, hP, HR⟩ := hrel
    by_cases hlt : k + 1 < xs.length
    · have hlt' : (k : Int) + 1 < (xs.length : Int) := by omega
      go_wp2_with fail
      go_loopw [9] (fun i wr => ∃ (m : Nat) (zs : List Hd), i = .int .i64 (m : Int) ∧ m ≤ k + 1 ∧ zs.Perm xs ∧ Hid (HRow w wr g zs)) (fun i _ => (RowKit.intOf i).toNat)
      case atStart => exact ⟨k + 1, ys, by simp, by omega, hP, HR⟩
      case round =>
        obtain ⟨m, zs, rfl, hm, hQ, HZ⟩ := hrel
        cases m with
        | zero =>
          go_wp2_with fail
          go_quiet (fail)
          have HZ' : Hid (HRow w (wr.drewN nq) g zs) := Lib.hid (HZ.out.drewN nq)
          generalize wr.drewN nq = w3 at *
          go_wp2
          go_roundw
          case rel => exact ⟨k + 1, zs, by go_num, by omega, hQ, HZ'⟩
          case measure => simp [RowKit.intOf]; omega
        | succ m =>
          have HZ2 := HZ.out
          have hzl := hQ.length_eq
          have hm1 : m + 1 < zs.length := by omega
          obtain ⟨X, hX⟩ : ∃ X, zs[m + 1]? = some X := ⟨_, List.getElem?_eq_getElem hm1⟩
          obtain ⟨Y, hY⟩ : ∃ Y, zs[m]? = some Y := ⟨_, List.getElem?_eq_getElem (by omega)⟩
          obtain ⟨a0, a1, a2, a3⟩ := HZ2.at_ (m + 1) X hX
          obtain ⟨b0, b1, b2, b3⟩ := HZ2.at_ m Y hY
          have hgl : g < wr.heap.size := Nat.lt_of_lt_of_le HZ2.lt HZ2.kp.size
          obtain ⟨xi, xa, xc, xn⟩ := X
          obtain ⟨yi, ya, yc, yn⟩ := Y
          simp only at a0 a1 a2 a3 b0 b1 b2 b3
          have HX := Lib.hid hX
          have HY := Lib.hid hY
          have HL := Lib.hid hm1
          have d0 : ∀ n : WC wr.heap.size wr, n.w.cell? ⟨g, (m + 1) * 4, none⟩ = some (.string xi) := fun n => (n.h.cell (p := ⟨g, _, none⟩) hgl).trans a0
          have d1 : ∀ n : WC wr.heap.size wr, n.w.cell? ⟨g, (m + 1) * 4 + 1, none⟩ = some (.string xa) := fun n => (n.h.cell (p := ⟨g, _, none⟩) hgl).trans a1
          have d2 : ∀ n : WC wr.heap.size wr, n.w.cell? ⟨g, (m + 1) * 4 + 2, none⟩ = some (.string xc) := fun n => (n.h.cell (p := ⟨g, _, none⟩) hgl).trans a2
          have d3 : ∀ n : WC wr.heap.size wr, n.w.cell? ⟨g, (m + 1) * 4 + 3, none⟩ = some (.int .i64 xn) := fun n => (n.h.cell (p := ⟨g, _, none⟩) hgl).trans a3
          have e0 : ∀ n : WC wr.heap.size wr, n.w.cell? ⟨g, m * 4, none⟩ = some (.string yi) := fun n => (n.h.cell (p := ⟨g, _, none⟩) hgl).trans b0
          have e1 : ∀ n : WC wr.heap.size wr, n.w.cell? ⟨g, m * 4 + 1, none⟩ = some (.string ya) := fun n => (n.h.cell (p := ⟨g, _, none⟩) hgl).trans b1
          have e2 : ∀ n : WC wr.heap.size wr, n.w.cell? ⟨g, m * 4 + 2, none⟩ = some (.string yc) := fun n => (n.h.cell (p := ⟨g, _, none⟩) hgl).trans b2
          have e3 : ∀ n : WC wr.heap.size wr, n.w.cell? ⟨g, m * 4 + 3, none⟩ = some (.int .i64 yn) := fun n => (n.h.cell (p := ⟨g, _, none⟩) hgl).trans b3
          have i1 : (m : Int) + 1 < (xs.length : Int) := by omega
          have i2 : (m : Int) < (xs.length : Int) := by omega
          clear a0 a1 a2 a3 b0 b1 b2 b3 hzl hm1 HZ2 hX hY
          go_wp2_with fail
          refine wp_region_class (by kernel_rfl) (by kernel_rfl) ?_
          repeat (go_big_quiet_step ((go_at_call 32; exact Calls.class_of (Nat.le_refl _) (holdCmp_any ⟨xi, xa, xc, xn⟩ ⟨yi, ya, yc, yn⟩ _))))
          refine wpQuiet_nil ?_
          rintro w' ⟨n, rfl⟩
          have HZ3 := Lib.hid (HZ.out.below n.h)
          clear d0 d1 d2 d3 e0 e1 e2 e3 hgl
          generalize n.w = w3 at *
          cases hcd : decide (cmpS xi yi < 0) with
          | false =>
            go_wp2
            go_roundw
            case rel => exact ⟨k + 1, zs, by go_num, by omega, hQ, HZ3⟩
            case measure => simp [RowKit.intOf]; omega
          | true =>
            obtain ⟨a0, a1, a2, a3⟩ := HZ3.out.at_ (m + 1) _ HX.out
            obtain ⟨b0, b1, b2, b3⟩ := HZ3.out.at_ m _ HY.out
            have hf := HZ3.out.fr
            simp only at a0 a1 a2 a3 b0 b1 b2 b3
            go_wp2_with fail
            go_region
            have HZ4 := Lib.hid (((HZ3.out.put (i := m + 1) HL.out ⟨yi, ya, yc, yn⟩).put (i := m) (by have := HL.out; simp; omega) ⟨xi, xa, xc, xn⟩).drewN 1)
            change Exit.inBlock 3 _ Exit.normal _ ((set4 (set4 w3 g (m + 1) ⟨yi, ya, yc, yn⟩) g m ⟨xi, xa, xc, xn⟩).drewN 1)
            have HP := Lib.hid ((swap_perm HX.out HY.out).trans hQ)
            generalize (set4 (set4 w3 g (m + 1) ⟨yi, ya, yc, yn⟩) g m ⟨xi, xa, xc, xn⟩).drewN 1 = w4 at *
            clear a0 a1 a2 a3 b0 b1 b2 b3 hf
            go_wp2
            go_roundw
            case rel => exact ⟨m, _, by go_num, by omega, HP.out, HZ4⟩
            case measure => simp [RowKit.intOf]
    · have hlt' : ¬ (k : Int) + 1 < (xs.length : Int) := by omega
      go_wp2
      go_end0
      exact ⟨⟨_, rfl⟩, ys, hP, HR.out⟩
set_option maxHeartbeats 1000000 in
theorem pdq_small (w : World) (g c : Nat) (xs : List Hd) (lim : Int) (hR : HRow w w g xs) (hl : xs.length ≤ 12) :
    Calls Tryz.prog 62 #[.slice (some ⟨g, 0, none⟩) xs.length c, .int .i64 0, .int .i64 (xs.length : Nat), .int .i64 lim, .func (.func 32) #[] #[]] w fun e w' => (∃ v, e = .returned v) ∧ ∃ ys, ys.Perm xs ∧ HRow w w' g ys := by
  have hl' : (xs.length : Int) ≤ 12 := by omega
  have HR := Lib.hid hR
  go_enter Tryz.func62, Tryz.ntmps62
  go_wp2_with fail
  go_loopw [1, 2] (fun a b wr => a = .int .i64 0 ∧ b = .int .i64 (xs.length : Nat) ∧ wr = w) (fun _ _ _ => 0)
  case atStart => exact ⟨rfl, rfl, rfl⟩
  case round =>
    obtain ⟨rfl, rfl, rfl⟩ := hrel
    go_wp2_with (first
      | (go_at_call 77; refine (insertion_any wr g c xs HR.out (by omega)).mono ?_; rintro e w' ⟨⟨v, rfl⟩, ys, hP, hY⟩)
      | go_in)
    refine bodyPost_ret (results_none rfl _ _ _) rfl ?_
    exact ⟨⟨_, rfl⟩, ys, hP, hY⟩
end Go.Proofs.YtooeelaobmhifaaGreatDoor
