/- The document's show: a rule's text. -/
import Derived.Test.YtbkffdfboloogaaGreatDoorMW
import Derived.Test.YtbkffdfboloogaaGreatDoorMX
namespace Go.Proofs.YtbkffdfboloogaaGreatDoor
open Go.RowKit Go.Lib
set_option linter.unusedVariables false
set_option maxRecDepth 100000

theorem ba_of {s : ByteArray} {l : Bs} (h : s.data.toList = l) : s = ⟨l.toArray⟩ := by
  apply ByteArray.ext
  rw [← h]
theorem ba_list (l : Bs) : (⟨l.toArray⟩ : ByteArray).data.toList = l := by simp
theorem ba_size (l : Bs) : (⟨l.toArray⟩ : ByteArray).size = l.length := by show l.toArray.size = _; simp
/-- what a rule's text leans on -/
structure Rsk (w : World) (Bn : Nat) (A : Option Addr) (x : Rl) : Prop where
  nl : NL w Bn A x.l
  bn : Bn ≤ w.heap.size
  right : rightR x = true
  size : nsz x ≤ 1000
  fits : ∀ a ∈ atomsR x, Fits a
  len : (showL x).length ≤ 900000
def RefShowSaid (x : Rl) : Prop := ∀ (A : Option Addr) (c : Nat) (w : World) (Bn : Nat), Rsk w Bn A x →
  Calls Tryz.prog 47 #[.agg (rlA x A c)] w fun e w' => e = .returned (.string ⟨(showL x).toArray⟩) ∧ Below w.heap.size w w'
theorem rbox (x : Rl) (A : Option Addr) (c : Nat) (w : World) : ∀ W : World, Below (w.heap.size + 1) (w.alloc (.cells (rlA x A c) 33)) W → W.cell? ⟨w.heap.size, 0, none⟩ = some (.int .i64 x.k) ∧ W.cell? ⟨w.heap.size, 1, none⟩ = some (.int .i64 x.p) ∧ W.cell? ⟨w.heap.size, 2, none⟩ = some (.string x.f) ∧ W.cell? ⟨w.heap.size, 3, none⟩ = some (.string x.t) ∧ W.cell? ⟨w.heap.size, 4, none⟩ = some (.int .i64 x.n) ∧ W.cell? ⟨w.heap.size, 5, none⟩ = some (.slice A x.l.length c) := fun W hb => by
  have k : ∀ i v, (w.alloc (.cells (rlA x A c) 33)).cell? ⟨w.heap.size, i, none⟩ = some v → W.cell? ⟨w.heap.size, i, none⟩ = some v := fun i v h => (hb.cell (p := ⟨w.heap.size, i, none⟩) (by show w.heap.size < _; omega)).trans h
  exact ⟨k 0 _ (by simp [rlA]), k 1 _ (by simp [rlA]), k 2 _ (by simp [rlA]), k 3 _ (by simp [rlA]), k 4 _ (by simp [rlA]), k 5 _ (by simp [rlA])⟩
set_option maxHeartbeats 2000000 in
theorem rshow_is (x : Rl) (hk : x.k = 3) : RefShowSaid x := by
  intro A c w Bn h
  have hb1 : Below w.heap.size w (w.alloc (.cells (rlA x A c) 33)) := (Below.refl _ _).alloc (Nat.le_refl _) _
  have hz1 : (w.alloc (.cells (rlA x A c) 33)).heap.size = w.heap.size + 1 := by simp
  have HB1 := Lib.hid hb1
  have hfit := own_fits (by rw [hk]; rfl) h.fits
  have hfs := hfit.1
  have hts := hfit.2.1
  have HE : Hid (x.f ++ ⟨#[32, 61, 32, 34]⟩ ++ x.t ++ ⟨#[34]⟩ = ⟨(showL x).toArray⟩) := Lib.hid (ba_of (by rw [show_3 x hk, tl_app, tl_app, tl_app]))
  clear h hb1 hz1 hfit
  unfold rlA at *
  generalize (⟨(showL x).toArray⟩ : ByteArray) = S at *
  rw [hk] at HB1 ⊢
  clear hk
  generalize x.l.length = xl at *
  generalize x.p = xp at *
  generalize x.f = xf at *
  generalize x.t = xt at *
  generalize x.n = xn at *
  go_enter Tryz.func47, Tryz.ntmps47
  go_wp2
  go_ret
  exact ⟨by rw [← HE.out]; rfl, HB1.out⟩
set_option maxHeartbeats 2000000 in
theorem rshow_has (x : Rl) (hk : x.k = 4) : RefShowSaid x := by
  intro A c w Bn h
  have hb1 : Below w.heap.size w (w.alloc (.cells (rlA x A c) 33)) := (Below.refl _ _).alloc (Nat.le_refl _) _
  have hz1 : (w.alloc (.cells (rlA x A c) 33)).heap.size = w.heap.size + 1 := by simp
  have HB1 := Lib.hid hb1
  have hfit := own_fits (by rw [hk]; rfl) h.fits
  have hfs := hfit.1
  have hts := hfit.2.1
  have HE : Hid (x.f ++ ⟨#[32, 126, 32, 34]⟩ ++ x.t ++ ⟨#[34]⟩ = ⟨(showL x).toArray⟩) := Lib.hid (ba_of (by rw [show_4 x hk, tl_app, tl_app, tl_app]))
  clear h hb1 hz1 hfit
  unfold rlA at *
  generalize (⟨(showL x).toArray⟩ : ByteArray) = S at *
  rw [hk] at HB1 ⊢
  clear hk
  generalize x.l.length = xl at *
  generalize x.p = xp at *
  generalize x.f = xf at *
  generalize x.t = xt at *
  generalize x.n = xn at *
  go_enter Tryz.func47, Tryz.ntmps47
  go_wp2
  go_ret
  exact ⟨by rw [← HE.out]; rfl, HB1.out⟩
set_option maxHeartbeats 4000000 in
theorem rshow_most (x : Rl) (hk : x.k = 5) : RefShowSaid x := by
  intro A c w Bn h
  have hb1 : Below w.heap.size w (w.alloc (.cells (rlA x A c) 33)) := (Below.refl _ _).alloc (Nat.le_refl _) _
  have hz1 : (w.alloc (.cells (rlA x A c) 33)).heap.size = w.heap.size + 1 := by simp
  have HB1 := Lib.hid hb1
  have hfit := own_fits (by rw [hk]; rfl) h.fits
  have hfs := hfit.1
  have hr := h.right
  rw [right_56 x (by omega)] at hr
  simp only [Bool.and_eq_true, decide_eq_true_iff] at hr
  have hn0 : 0 ≤ x.n := hr.1.2
  have hn1 : x.n ≤ 1099511627776 := hr.2
  have hds : (⟨(itL x.n).toArray⟩ : ByteArray).size ≤ 20 := (decT_size x.n (by omega) (by omega)).2
  have HE : Hid (x.f ++ ⟨#[32, 60, 61, 32]⟩ ++ ⟨(itL x.n).toArray⟩ = ⟨(showL x).toArray⟩) := Lib.hid (ba_of (by rw [show_5 x hk, tl_app, tl_app]))
  have HD := Lib.hid (fun W => refDig_any x.n hn0 hn1 W)
  have H6 := Lib.hid (rbox x A c w)
  obtain ⟨k0, k1, k2, k3, k4, k5⟩ := H6.out _ (Below.refl _ _)
  clear h hb1 hfit hr hn0 hn1
  unfold rlA at *
  generalize (⟨(showL x).toArray⟩ : ByteArray) = S at *
  generalize (⟨(itL x.n).toArray⟩ : ByteArray) = dn at *
  rw [hk] at HB1 H6 hz1 k0 k1 k2 k3 k4 k5 ⊢
  clear hk
  generalize x.l.length = xl at *
  generalize x.p = xp at *
  generalize x.f = xf at *
  generalize x.t = xt at *
  generalize x.n = xn at *
  have u0 : (⟨#[32, 60, 61, 32]⟩ : ByteArray).size = 4 := rfl
  have u2 : ¬ (9223372036854775807 < xf.size + 4) := by omega
  have u3 : xf.size + 4 ≤ 9223372036854775807 := by omega
  have u4 : (xf ++ ⟨#[32, 60, 61, 32]⟩).size = xf.size + 4 := by rw [ByteArray.size_append]; rfl
  have u6 : ¬ (9223372036854775807 < xf.size + 4 + dn.size) := by omega
  have u7 : xf.size + 4 + dn.size ≤ 9223372036854775807 := by omega
  go_enter Tryz.func47, Tryz.ntmps47
  go_wp2_with fail
  generalize (w.alloc (.cells #[.int .i64 5, .int .i64 xp, .string xf, .string xt, .int .i64 xn, .slice A xl c] 33)) = w1 at *
  go_region_held3 (fun w' => w'.cell? ⟨w.heap.size, 2, none⟩ = some (.string xf) ∧ w'.cell? ⟨w.heap.size, 4, none⟩ = some (.int .i64 xn))
    (first | go_keep | exact ⟨j2, j4⟩)
    (first
    | (go_at_call 43; refine (HD.out _).mono ?_; rintro e w2 ⟨rfl, hb2⟩; have hb2' : Below w1.heap.size w1 w2 := (by first | exact hb2 | exact drewB hb2); have HB2 := Lib.hid (HB1.out.trans (hb2'.mono (by omega))); obtain ⟨j0, j1, j2, j3, j4, j5⟩ := H6.out w2 (hb2'.mono (by omega)); clear hb2 hb2')
    | fail)
  all_goals
    go_wp2
    go_ret
    exact ⟨by rw [← HE.out]; rfl, by first | exact HB2.out | exact HB2.out.drew⟩
set_option maxHeartbeats 4000000 in
theorem rshow_least (x : Rl) (hk : x.k = 6) : RefShowSaid x := by
  intro A c w Bn h
  have hb1 : Below w.heap.size w (w.alloc (.cells (rlA x A c) 33)) := (Below.refl _ _).alloc (Nat.le_refl _) _
  have hz1 : (w.alloc (.cells (rlA x A c) 33)).heap.size = w.heap.size + 1 := by simp
  have HB1 := Lib.hid hb1
  have hfit := own_fits (by rw [hk]; rfl) h.fits
  have hfs := hfit.1
  have hr := h.right
  rw [right_56 x (by omega)] at hr
  simp only [Bool.and_eq_true, decide_eq_true_iff] at hr
  have hn0 : 0 ≤ x.n := hr.1.2
  have hn1 : x.n ≤ 1099511627776 := hr.2
  have hds : (⟨(itL x.n).toArray⟩ : ByteArray).size ≤ 20 := (decT_size x.n (by omega) (by omega)).2
  have HE : Hid (x.f ++ ⟨#[32, 62, 61, 32]⟩ ++ ⟨(itL x.n).toArray⟩ = ⟨(showL x).toArray⟩) := Lib.hid (ba_of (by rw [show_6 x hk, tl_app, tl_app]))
  have HD := Lib.hid (fun W => refDig_any x.n hn0 hn1 W)
  have H6 := Lib.hid (rbox x A c w)
  obtain ⟨k0, k1, k2, k3, k4, k5⟩ := H6.out _ (Below.refl _ _)
  clear h hb1 hfit hr hn0 hn1
  unfold rlA at *
  generalize (⟨(showL x).toArray⟩ : ByteArray) = S at *
  generalize (⟨(itL x.n).toArray⟩ : ByteArray) = dn at *
  rw [hk] at HB1 H6 hz1 k0 k1 k2 k3 k4 k5 ⊢
  clear hk
  generalize x.l.length = xl at *
  generalize x.p = xp at *
  generalize x.f = xf at *
  generalize x.t = xt at *
  generalize x.n = xn at *
  have u0 : (⟨#[32, 62, 61, 32]⟩ : ByteArray).size = 4 := rfl
  have u2 : ¬ (9223372036854775807 < xf.size + 4) := by omega
  have u3 : xf.size + 4 ≤ 9223372036854775807 := by omega
  have u4 : (xf ++ ⟨#[32, 62, 61, 32]⟩).size = xf.size + 4 := by rw [ByteArray.size_append]; rfl
  have u6 : ¬ (9223372036854775807 < xf.size + 4 + dn.size) := by omega
  have u7 : xf.size + 4 + dn.size ≤ 9223372036854775807 := by omega
  go_enter Tryz.func47, Tryz.ntmps47
  go_wp2_with fail
  generalize (w.alloc (.cells #[.int .i64 6, .int .i64 xp, .string xf, .string xt, .int .i64 xn, .slice A xl c] 33)) = w1 at *
  go_region_held3 (fun w' => w'.cell? ⟨w.heap.size, 2, none⟩ = some (.string xf) ∧ w'.cell? ⟨w.heap.size, 4, none⟩ = some (.int .i64 xn))
    (first | go_keep | exact ⟨j2, j4⟩)
    (first
    | (go_at_call 43; refine (HD.out _).mono ?_; rintro e w2 ⟨rfl, hb2⟩; have hb2' : Below w1.heap.size w1 w2 := (by first | exact hb2 | exact drewB hb2); have HB2 := Lib.hid (HB1.out.trans (hb2'.mono (by omega))); obtain ⟨j0, j1, j2, j3, j4, j5⟩ := H6.out w2 (hb2'.mono (by omega)); clear hb2 hb2')
    | fail)
  all_goals
    go_wp2
    go_ret
    exact ⟨by rw [← HE.out]; rfl, by first | exact HB2.out | exact HB2.out.drew⟩
set_option maxHeartbeats 4000000 in
theorem rshow_like (x : Rl) (hk : x.k = 7) : RefShowSaid x := by
  intro A c w Bn h
  have hb1 : Below w.heap.size w (w.alloc (.cells (rlA x A c) 33)) := (Below.refl _ _).alloc (Nat.le_refl _) _
  have hz1 : (w.alloc (.cells (rlA x A c) 33)).heap.size = w.heap.size + 1 := by simp
  have HB1 := Lib.hid hb1
  have hfit := own_fits (by rw [hk]; rfl) h.fits
  have hfs := hfit.1
  have hts := hfit.2.1
  have hds : (⟨(wordL x.p).toArray⟩ : ByteArray).size ≤ 9 := by
    rw [ba_size]
    unfold wordL
    repeat (split; decide)
    decide
  have HE : Hid (x.f ++ ⟨#[32, 61, 32]⟩ ++ ⟨(wordL x.p).toArray⟩ ++ ⟨#[46]⟩ ++ x.t = ⟨(showL x).toArray⟩) := Lib.hid (ba_of (by rw [show_7 x hk, tl_app, tl_app, tl_app, tl_app]))
  have HD := Lib.hid (fun W => word_any x.p W)
  have H6 := Lib.hid (rbox x A c w)
  obtain ⟨k0, k1, k2, k3, k4, k5⟩ := H6.out _ (Below.refl _ _)
  clear h hb1 hfit
  unfold rlA at *
  generalize (⟨(showL x).toArray⟩ : ByteArray) = S at *
  generalize (⟨(wordL x.p).toArray⟩ : ByteArray) = dn at *
  rw [hk] at HB1 H6 hz1 k0 k1 k2 k3 k4 k5 ⊢
  clear hk
  generalize x.l.length = xl at *
  generalize x.p = xp at *
  generalize x.f = xf at *
  generalize x.t = xt at *
  generalize x.n = xn at *
  have u0 : (⟨#[32, 61, 32]⟩ : ByteArray).size = 3 := rfl
  have u2 : ¬ (9223372036854775807 < xf.size + 3) := by omega
  have u3 : xf.size + 3 ≤ 9223372036854775807 := by omega
  have u4 : (xf ++ ⟨#[32, 61, 32]⟩).size = xf.size + 3 := by rw [ByteArray.size_append]; rfl
  have u6 : ¬ (9223372036854775807 < xf.size + 3 + dn.size) := by omega
  have u7 : xf.size + 3 + dn.size ≤ 9223372036854775807 := by omega
  have u8 : xf.size + 3 + dn.size + 1 ≤ 9223372036854775807 := by omega
  have u9 : xf.size + 3 + dn.size + 1 + xt.size ≤ 9223372036854775807 := by omega
  have v0 : (⟨#[46]⟩ : ByteArray).size = 1 := rfl
  have v1 : (xf ++ ⟨#[32, 61, 32]⟩ ++ dn).size = xf.size + 3 + dn.size := by rw [ByteArray.size_append, ByteArray.size_append]; rfl
  have v2 : ¬ (9223372036854775807 < xf.size + 3 + dn.size + 1) := by omega
  have v3 : (xf ++ ⟨#[32, 61, 32]⟩ ++ dn ++ ⟨#[46]⟩).size = xf.size + 3 + dn.size + 1 := by rw [ByteArray.size_append, ByteArray.size_append, ByteArray.size_append]; rfl
  have v4 : ¬ (9223372036854775807 < xf.size + 3 + dn.size + 1 + xt.size) := by omega
  go_enter Tryz.func47, Tryz.ntmps47
  go_wp2_with fail
  generalize (w.alloc (.cells #[.int .i64 7, .int .i64 xp, .string xf, .string xt, .int .i64 xn, .slice A xl c] 33)) = w1 at *
  go_region_held3 (fun w' => w'.cell? ⟨w.heap.size, 2, none⟩ = some (.string xf) ∧ w'.cell? ⟨w.heap.size, 1, none⟩ = some (.int .i64 xp) ∧ w'.cell? ⟨w.heap.size, 3, none⟩ = some (.string xt))
    (first | go_keep | exact ⟨k2, k1, k3⟩)
    (first
    | (go_at_call 45; refine (HD.out _).mono ?_; rintro e w2 ⟨rfl, rfl⟩)
    | fail)
  all_goals
    go_wp2
    go_ret
    exact ⟨by rw [← HE.out]; rfl, by first | exact HB1.out | exact HB1.out.drew⟩
theorem cases3 (o k : Int) : (k == 1) = true ∨ ((k == 1) = false ∧ (k == 0) = true ∧ (o != 1) = true) ∨ ((k == 1) = false ∧ (k == 0) = true ∧ (o != 1) = false) ∨ ((k == 1) = false ∧ (k == 0) = false) := by
  cases (k == 1) <;> cases (k == 0) <;> cases (o != 1) <;> simp
theorem brk_yes {o k : Int} (h : (k == 1) = true ∨ ((k == 1) = false ∧ (k == 0) = true ∧ (o != 1) = true)) : brB o k = true := by
  unfold brB
  rcases h with h | ⟨h1, h2, h3⟩
  · rw [h]; rfl
  · rw [h1, h2]; simpa [bne] using h3
theorem brk_no {o k : Int} (h : ((k == 1) = false ∧ (k == 0) = true ∧ (o != 1) = false) ∨ ((k == 1) = false ∧ (k == 0) = false)) : brB o k = false := by
  unfold brB
  rcases h with ⟨h1, h2, h3⟩ | ⟨h1, h2⟩
  · rw [h1, h2]; simpa [bne] using h3
  · rw [h1, h2]; rfl
set_option maxHeartbeats 8000000 in
theorem rshow_all (x : Rl) (hk : x.k = 0) (hC : ∀ y ∈ x.l, RefShowSaid y) : RefShowSaid x := by
  intro A c w Bn h
  have hb1 : Below w.heap.size w (w.alloc (.cells (rlA x A c) 33)) := (Below.refl _ _).alloc (Nat.le_refl _) _
  have hz1 : (w.alloc (.cells (rlA x A c) 33)).heap.size = w.heap.size + 1 := by simp
  have HB1 := Lib.hid hb1
  have hk2 : 0 ≤ x.k ∧ x.k ≤ 2 := by omega
  have hxl : x.l.length ≤ 1000 := by have := len_nszL x.l; have := nsz_l x; have := h.size; omega
  have hE := show_01 x (by omega)
  rw [hk] at hE
  have HE : Hid (showL x = rowL 0 true x.l) := Lib.hid hE
  have HlE : Hid ((rowL 0 true x.l).length ≤ 900000) := Lib.hid (by have := h.len; rw [hE] at this; exact this)
  have HC : Hid (∀ y ∈ x.l, RefShowSaid y ∧ rightR y = true ∧ nsz y ≤ 1000 ∧ ∀ a ∈ atomsR y, Fits a) := Lib.hid (fun y hy => ⟨hC y hy, kid_right h.right hk2 hy, kid_nsz hy h.size, kid_fits hk2 hy h.fits⟩)
  have HN := Lib.hid h.nl
  have hbn := h.bn
  have HT := Lib.hid (rowL_take 0 x.l)
  have HTl := Lib.hid (rowL_take_le 0 x.l)
  have H6 := Lib.hid (rbox x A c w)
  obtain ⟨k0, k1, k2, k3, k4, k5⟩ := H6.out _ (Below.refl _ _)
  clear h hb1 hC hk2 hE
  unfold rlA at *
  generalize showL x = Sx at *
  generalize x.l = X at *
  rw [hk] at HB1 H6 hz1 k0 k1 k2 k3 k4 k5 ⊢
  clear hk
  generalize x.p = xp at *
  generalize x.f = xf at *
  generalize x.t = xt at *
  generalize x.n = xn at *
  go_enter Tryz.func47, Tryz.ntmps47
  go_wp2
  clear k0 k1 k2 k3 k4 k5
  generalize (w.alloc (.cells #[.int .i64 0, .int .i64 xp, .string xf, .string xt, .int .i64 xn, .slice A X.length c] 33)) = V at *
  go_loopw [3, 4] (fun s i wr => ∃ k : Nat, k ≤ X.length ∧ i = .int .i64 (k : Int) ∧ s = .string ⟨(rowL 0 true (X.take k)).toArray⟩ ∧ Hid (Below (w.heap.size + 1) V wr)) (fun _ i _ => X.length - (RowKit.intOf i).toNat)
  case atStart => exact ⟨0, Nat.zero_le _, rfl, by rw [List.take_zero, rowL_nil], Lib.hid (Below.refl _ _)⟩
  case round =>
    obtain ⟨k, hk, rfl, rfl, HB⟩ := hrel
    have hz := HB.out.size
    have HBw := Lib.hid (HB1.out.trans (HB.out.mono (by omega)))
    have hwz := HBw.out.size
    obtain ⟨e0, e1, e2, e3, e4, e5⟩ := H6.out wr HB.out
    by_cases hlt : k < X.length
    · have b1 : (k : Int) < (X.length : Int) := by omega
      obtain ⟨g, off, A', c', rfl, hg, h6, hch⟩ := (HN.out.kept (HBw.out.mono hbn)).at_ hlt
      obtain ⟨c0, c1, c2, c3, c4, c5⟩ := h6
      obtain ⟨hs, hs2, hs3, hs4⟩ := HC.out X[k] (List.getElem_mem hlt)
      have hTl := HTl.out (k + 1)
      have hTt := HT.out k hlt
      have hll := HlE.out
      clear HC HE HT HTl
      generalize X[k] = y at *
      rw [hTt, List.length_append, List.length_append] at hTl
      have hbl : (showL y).length ≤ (brkL 0 y).length := by
        unfold brkL
        split
        · simp only [List.length_append, List.length_cons, List.length_nil]; omega
        · exact Nat.le_refl _
      have hV : (wr.alloc (.cells (rlA y A' c') 33)).heap.size = wr.heap.size + 1 := by simp
      have hba : Below wr.heap.size wr (wr.alloc (.cells (rlA y A' c') 33)) := (Below.refl _ _).alloc (Nat.le_refl _) _
      have HCk := Lib.hid (hs A' c' (wr.alloc (.cells (rlA y A' c') 33)) Bn ⟨hch.kept (hba.mono (by omega)), by omega, hs2, hs3, hs4, by omega⟩)
      have HUp : Hid (∀ W : World, Below (wr.heap.size + 1) (wr.alloc (.cells (rlA y A' c') 33)) W → Below (w.heap.size + 1) V W) := Lib.hid (fun W hb => HB.out.trans ((hba.trans (hb.mono (by omega))).mono (by omega)))
      have HY := Lib.hid (rbox y A' c' wr)
      have HTs : Hid (∀ b : ByteArray, b.data.toList = rowL 0 true (X.take k) ++ ((if k = 0 then [] else sepL 0) ++ brkL 0 y) → b = ⟨(rowL 0 true (X.take (k + 1))).toArray⟩) := Lib.hid (fun b hb => ba_of (by rw [hb, hTt]))
      have hss : (⟨(rowL 0 true (X.take k)).toArray⟩ : ByteArray).size ≤ 900000 := by rw [ba_size]; omega
      have hts : (⟨(showL y).toArray⟩ : ByteArray).size ≤ 900000 := by rw [ba_size]; omega
      have Hty := Lib.hid (ba_list (showL y))
      have Hsy := Lib.hid (ba_list (rowL 0 true (X.take k)))
      have Hyes : Hid (brB 0 y.k = true → brkL 0 y = [40] ++ showL y ++ [41]) := Lib.hid (fun h => by unfold brkL; rw [if_pos h])
      have Hno : Hid (brB 0 y.k = false → brkL 0 y = showL y) := Lib.hid (fun h => by unfold brkL; rw [h]; simp)
      clear hch hs hs2 hs3 hs4 hTl hTt hbl hll
      unfold rlA at *
      generalize brkL 0 y = by' at *
      generalize (⟨(showL y).toArray⟩ : ByteArray) = ty at *
      generalize (⟨(rowL 0 true (X.take k)).toArray⟩ : ByteArray) = sy at *
      generalize showL y = ly at *
      generalize y.l.length = yl at *
      generalize y.p = yp at *
      generalize y.f = yf at *
      generalize y.t = yt at *
      generalize y.n = yn at *
      generalize y.k = yk at *
      have hzv : (wr.alloc (.cells #[.int .i64 yk, .int .i64 yp, .string yf, .string yt, .int .i64 yn, .slice A' yl c'] 33)).heap.size = wr.heap.size + 1 := hV
      rcases (show k = 0 ∨ 0 < k by omega) with h0 | h0
      all_goals
        first
          | have b0 : ¬ (0 : Int) < (k : Int) := by omega
          | have b0 : (0 : Int) < (k : Int) := by omega
        first
          | rw [if_pos h0] at HTs
          | rw [if_neg (show ¬ k = 0 by omega)] at HTs
        clear h0
        rcases cases3 0 yk with q | ⟨q1, q2, q3⟩ | ⟨q1, q2, q3⟩ | ⟨q1, q2⟩
        all_goals
          first
            | have Hb := Hyes.out (brk_yes (.inl q))
            | have Hb := Hyes.out (brk_yes (.inr ⟨q1, q2, q3⟩))
            | have Hb := Hno.out (brk_no (.inl ⟨q1, q2, q3⟩))
            | have Hb := Hno.out (brk_no (.inr ⟨q1, q2⟩))
          rw [Hb] at HTs
          clear Hb Hyes Hno
          first
            | (exfalso; revert q3; decide)
            | (go_wp2_with (first
                | (go_at_call 47; refine HCk.out.mono ?_; rintro e w3 ⟨rfl, hb3⟩; rw [hzv] at hb3; obtain ⟨y0, y1, y2, y3, y4, y5⟩ := HY.out w3 hb3; have HU := Lib.hid (HUp.out w3 hb3); obtain ⟨f0, f1, f2, f3, f4, f5⟩ := H6.out w3 HU.out; clear hb3)
                | fail)
               go_roundw
               case rel => exact ⟨k + 1, by omega, by go_num, congrArg Value.string (HTs.out _ (by simp only [tl_app, Hty.out, Hsy.out]; simp [sepL])), HU⟩
               case measure => simp [RowKit.intOf]; omega)
    · have b1 : ¬ (k : Int) < (X.length : Int) := by omega
      have HK : Hid (X.take k = X) := Lib.hid (List.take_of_length_le (by omega))
      go_wp2
      go_ret
      exact ⟨by rw [HE.out, HK.out]; rfl, HBw.out⟩
set_option maxHeartbeats 8000000 in
theorem rshow_any (x : Rl) (hk : x.k = 1) (hC : ∀ y ∈ x.l, RefShowSaid y) : RefShowSaid x := by
  intro A c w Bn h
  have hb1 : Below w.heap.size w (w.alloc (.cells (rlA x A c) 33)) := (Below.refl _ _).alloc (Nat.le_refl _) _
  have hz1 : (w.alloc (.cells (rlA x A c) 33)).heap.size = w.heap.size + 1 := by simp
  have HB1 := Lib.hid hb1
  have hk2 : 0 ≤ x.k ∧ x.k ≤ 2 := by omega
  have hxl : x.l.length ≤ 1000 := by have := len_nszL x.l; have := nsz_l x; have := h.size; omega
  have hE := show_01 x (by omega)
  rw [hk] at hE
  have HE : Hid (showL x = rowL 1 true x.l) := Lib.hid hE
  have HlE : Hid ((rowL 1 true x.l).length ≤ 900000) := Lib.hid (by have := h.len; rw [hE] at this; exact this)
  have HC : Hid (∀ y ∈ x.l, RefShowSaid y ∧ rightR y = true ∧ nsz y ≤ 1000 ∧ ∀ a ∈ atomsR y, Fits a) := Lib.hid (fun y hy => ⟨hC y hy, kid_right h.right hk2 hy, kid_nsz hy h.size, kid_fits hk2 hy h.fits⟩)
  have HN := Lib.hid h.nl
  have hbn := h.bn
  have HT := Lib.hid (rowL_take 1 x.l)
  have HTl := Lib.hid (rowL_take_le 1 x.l)
  have H6 := Lib.hid (rbox x A c w)
  obtain ⟨k0, k1, k2, k3, k4, k5⟩ := H6.out _ (Below.refl _ _)
  clear h hb1 hC hk2 hE
  unfold rlA at *
  generalize showL x = Sx at *
  generalize x.l = X at *
  rw [hk] at HB1 H6 hz1 k0 k1 k2 k3 k4 k5 ⊢
  clear hk
  generalize x.p = xp at *
  generalize x.f = xf at *
  generalize x.t = xt at *
  generalize x.n = xn at *
  go_enter Tryz.func47, Tryz.ntmps47
  go_wp2
  clear k0 k1 k2 k3 k4 k5
  generalize (w.alloc (.cells #[.int .i64 1, .int .i64 xp, .string xf, .string xt, .int .i64 xn, .slice A X.length c] 33)) = V at *
  go_loopw [3, 4] (fun s i wr => ∃ k : Nat, k ≤ X.length ∧ i = .int .i64 (k : Int) ∧ s = .string ⟨(rowL 1 true (X.take k)).toArray⟩ ∧ Hid (Below (w.heap.size + 1) V wr)) (fun _ i _ => X.length - (RowKit.intOf i).toNat)
  case atStart => exact ⟨0, Nat.zero_le _, rfl, by rw [List.take_zero, rowL_nil], Lib.hid (Below.refl _ _)⟩
  case round =>
    obtain ⟨k, hk, rfl, rfl, HB⟩ := hrel
    have hz := HB.out.size
    have HBw := Lib.hid (HB1.out.trans (HB.out.mono (by omega)))
    have hwz := HBw.out.size
    obtain ⟨e0, e1, e2, e3, e4, e5⟩ := H6.out wr HB.out
    by_cases hlt : k < X.length
    · have b1 : (k : Int) < (X.length : Int) := by omega
      obtain ⟨g, off, A', c', rfl, hg, h6, hch⟩ := (HN.out.kept (HBw.out.mono hbn)).at_ hlt
      obtain ⟨c0, c1, c2, c3, c4, c5⟩ := h6
      obtain ⟨hs, hs2, hs3, hs4⟩ := HC.out X[k] (List.getElem_mem hlt)
      have hTl := HTl.out (k + 1)
      have hTt := HT.out k hlt
      have hll := HlE.out
      clear HC HE HT HTl
      generalize X[k] = y at *
      rw [hTt, List.length_append, List.length_append] at hTl
      have hbl : (showL y).length ≤ (brkL 1 y).length := by
        unfold brkL
        split
        · simp only [List.length_append, List.length_cons, List.length_nil]; omega
        · exact Nat.le_refl _
      have hV : (wr.alloc (.cells (rlA y A' c') 33)).heap.size = wr.heap.size + 1 := by simp
      have hba : Below wr.heap.size wr (wr.alloc (.cells (rlA y A' c') 33)) := (Below.refl _ _).alloc (Nat.le_refl _) _
      have HCk := Lib.hid (hs A' c' (wr.alloc (.cells (rlA y A' c') 33)) Bn ⟨hch.kept (hba.mono (by omega)), by omega, hs2, hs3, hs4, by omega⟩)
      have HUp : Hid (∀ W : World, Below (wr.heap.size + 1) (wr.alloc (.cells (rlA y A' c') 33)) W → Below (w.heap.size + 1) V W) := Lib.hid (fun W hb => HB.out.trans ((hba.trans (hb.mono (by omega))).mono (by omega)))
      have HY := Lib.hid (rbox y A' c' wr)
      have HTs : Hid (∀ b : ByteArray, b.data.toList = rowL 1 true (X.take k) ++ ((if k = 0 then [] else sepL 1) ++ brkL 1 y) → b = ⟨(rowL 1 true (X.take (k + 1))).toArray⟩) := Lib.hid (fun b hb => ba_of (by rw [hb, hTt]))
      have hss : (⟨(rowL 1 true (X.take k)).toArray⟩ : ByteArray).size ≤ 900000 := by rw [ba_size]; omega
      have hts : (⟨(showL y).toArray⟩ : ByteArray).size ≤ 900000 := by rw [ba_size]; omega
      have Hty := Lib.hid (ba_list (showL y))
      have Hsy := Lib.hid (ba_list (rowL 1 true (X.take k)))
      have Hyes : Hid (brB 1 y.k = true → brkL 1 y = [40] ++ showL y ++ [41]) := Lib.hid (fun h => by unfold brkL; rw [if_pos h])
      have Hno : Hid (brB 1 y.k = false → brkL 1 y = showL y) := Lib.hid (fun h => by unfold brkL; rw [h]; simp)
      clear hch hs hs2 hs3 hs4 hTl hTt hbl hll
      unfold rlA at *
      generalize brkL 1 y = by' at *
      generalize (⟨(showL y).toArray⟩ : ByteArray) = ty at *
      generalize (⟨(rowL 1 true (X.take k)).toArray⟩ : ByteArray) = sy at *
      generalize showL y = ly at *
      generalize y.l.length = yl at *
      generalize y.p = yp at *
      generalize y.f = yf at *
      generalize y.t = yt at *
      generalize y.n = yn at *
      generalize y.k = yk at *
      have hzv : (wr.alloc (.cells #[.int .i64 yk, .int .i64 yp, .string yf, .string yt, .int .i64 yn, .slice A' yl c'] 33)).heap.size = wr.heap.size + 1 := hV
      rcases (show k = 0 ∨ 0 < k by omega) with h0 | h0
      all_goals
        first
          | have b0 : ¬ (0 : Int) < (k : Int) := by omega
          | have b0 : (0 : Int) < (k : Int) := by omega
        first
          | rw [if_pos h0] at HTs
          | rw [if_neg (show ¬ k = 0 by omega)] at HTs
        clear h0
        rcases cases3 1 yk with q | ⟨q1, q2, q3⟩ | ⟨q1, q2, q3⟩ | ⟨q1, q2⟩
        all_goals
          first
            | have Hb := Hyes.out (brk_yes (.inl q))
            | have Hb := Hyes.out (brk_yes (.inr ⟨q1, q2, q3⟩))
            | have Hb := Hno.out (brk_no (.inl ⟨q1, q2, q3⟩))
            | have Hb := Hno.out (brk_no (.inr ⟨q1, q2⟩))
          rw [Hb] at HTs
          clear Hb Hyes Hno
          first
            | (exfalso; revert q3; decide)
            | (go_wp2_with (first
                | (go_at_call 47; refine HCk.out.mono ?_; rintro e w3 ⟨rfl, hb3⟩; rw [hzv] at hb3; obtain ⟨y0, y1, y2, y3, y4, y5⟩ := HY.out w3 hb3; have HU := Lib.hid (HUp.out w3 hb3); obtain ⟨f0, f1, f2, f3, f4, f5⟩ := H6.out w3 HU.out; clear hb3)
                | fail)
               go_roundw
               case rel => exact ⟨k + 1, by omega, by go_num, congrArg Value.string (HTs.out _ (by simp only [tl_app, Hty.out, Hsy.out]; simp [sepL])), HU⟩
               case measure => simp [RowKit.intOf]; omega)
    · have b1 : ¬ (k : Int) < (X.length : Int) := by omega
      have HK : Hid (X.take k = X) := Lib.hid (List.take_of_length_le (by omega))
      go_wp2
      go_ret
      exact ⟨by rw [HE.out, HK.out]; rfl, HBw.out⟩
set_option maxHeartbeats 8000000 in
theorem rshow_not (x : Rl) (hk : x.k = 2) (hC : ∀ y ∈ x.l, RefShowSaid y) : RefShowSaid x := by
  intro A c w Bn h
  have hb1 : Below w.heap.size w (w.alloc (.cells (rlA x A c) 33)) := (Below.refl _ _).alloc (Nat.le_refl _) _
  have hz1 : (w.alloc (.cells (rlA x A c) 33)).heap.size = w.heap.size + 1 := by simp
  have HB1 := Lib.hid hb1
  have hk2 : 0 ≤ x.k ∧ x.k ≤ 2 := by omega
  have hxl : x.l.length ≤ 1000 := by have := len_nszL x.l; have := nsz_l x; have := h.size; omega
  have hE := show_2 x hk
  have HE : Hid (showL x = ([110, 111, 116, 32] : Bs) ++ rowL 2 true x.l) := Lib.hid hE
  have HlE : Hid ((rowL 2 true x.l).length ≤ 900000) := Lib.hid (by have := h.len; rw [hE] at this; (rw [List.length_append] at this; omega))
  have HC : Hid (∀ y ∈ x.l, RefShowSaid y ∧ rightR y = true ∧ nsz y ≤ 1000 ∧ ∀ a ∈ atomsR y, Fits a) := Lib.hid (fun y hy => ⟨hC y hy, kid_right h.right hk2 hy, kid_nsz hy h.size, kid_fits hk2 hy h.fits⟩)
  have HN := Lib.hid h.nl
  have hbn := h.bn
  have HT := Lib.hid (rowL_take 2 x.l)
  have HTl := Lib.hid (rowL_take_le 2 x.l)
  have H6 := Lib.hid (rbox x A c w)
  obtain ⟨k0, k1, k2, k3, k4, k5⟩ := H6.out _ (Below.refl _ _)
  clear h hb1 hC hk2 hE
  unfold rlA at *
  generalize showL x = Sx at *
  generalize x.l = X at *
  rw [hk] at HB1 H6 hz1 k0 k1 k2 k3 k4 k5 ⊢
  clear hk
  generalize x.p = xp at *
  generalize x.f = xf at *
  generalize x.t = xt at *
  generalize x.n = xn at *
  go_enter Tryz.func47, Tryz.ntmps47
  go_wp2
  clear k0 k1 k2 k3 k4 k5
  generalize (w.alloc (.cells #[.int .i64 2, .int .i64 xp, .string xf, .string xt, .int .i64 xn, .slice A X.length c] 33)) = V at *
  go_loopw [3, 4] (fun s i wr => ∃ k : Nat, k ≤ X.length ∧ i = .int .i64 (k : Int) ∧ s = .string ⟨(rowL 2 true (X.take k)).toArray⟩ ∧ Hid (Below (w.heap.size + 1) V wr)) (fun _ i _ => X.length - (RowKit.intOf i).toNat)
  case atStart => exact ⟨0, Nat.zero_le _, rfl, by rw [List.take_zero, rowL_nil], Lib.hid (Below.refl _ _)⟩
  case round =>
    obtain ⟨k, hk, rfl, rfl, HB⟩ := hrel
    have hz := HB.out.size
    have HBw := Lib.hid (HB1.out.trans (HB.out.mono (by omega)))
    have hwz := HBw.out.size
    obtain ⟨e0, e1, e2, e3, e4, e5⟩ := H6.out wr HB.out
    by_cases hlt : k < X.length
    · have b1 : (k : Int) < (X.length : Int) := by omega
      obtain ⟨g, off, A', c', rfl, hg, h6, hch⟩ := (HN.out.kept (HBw.out.mono hbn)).at_ hlt
      obtain ⟨c0, c1, c2, c3, c4, c5⟩ := h6
      obtain ⟨hs, hs2, hs3, hs4⟩ := HC.out X[k] (List.getElem_mem hlt)
      have hTl := HTl.out (k + 1)
      have hTt := HT.out k hlt
      have hll := HlE.out
      clear HC HE HT HTl
      generalize X[k] = y at *
      rw [hTt, List.length_append, List.length_append] at hTl
      have hbl : (showL y).length ≤ (brkL 2 y).length := by
        unfold brkL
        split
        · simp only [List.length_append, List.length_cons, List.length_nil]; omega
        · exact Nat.le_refl _
      have hV : (wr.alloc (.cells (rlA y A' c') 33)).heap.size = wr.heap.size + 1 := by simp
      have hba : Below wr.heap.size wr (wr.alloc (.cells (rlA y A' c') 33)) := (Below.refl _ _).alloc (Nat.le_refl _) _
      have HCk := Lib.hid (hs A' c' (wr.alloc (.cells (rlA y A' c') 33)) Bn ⟨hch.kept (hba.mono (by omega)), by omega, hs2, hs3, hs4, by omega⟩)
      have HUp : Hid (∀ W : World, Below (wr.heap.size + 1) (wr.alloc (.cells (rlA y A' c') 33)) W → Below (w.heap.size + 1) V W) := Lib.hid (fun W hb => HB.out.trans ((hba.trans (hb.mono (by omega))).mono (by omega)))
      have HY := Lib.hid (rbox y A' c' wr)
      have HTs : Hid (∀ b : ByteArray, b.data.toList = rowL 2 true (X.take k) ++ ((if k = 0 then [] else sepL 2) ++ brkL 2 y) → b = ⟨(rowL 2 true (X.take (k + 1))).toArray⟩) := Lib.hid (fun b hb => ba_of (by rw [hb, hTt]))
      have hss : (⟨(rowL 2 true (X.take k)).toArray⟩ : ByteArray).size ≤ 900000 := by rw [ba_size]; omega
      have hts : (⟨(showL y).toArray⟩ : ByteArray).size ≤ 900000 := by rw [ba_size]; omega
      have Hty := Lib.hid (ba_list (showL y))
      have Hsy := Lib.hid (ba_list (rowL 2 true (X.take k)))
      have Hyes : Hid (brB 2 y.k = true → brkL 2 y = [40] ++ showL y ++ [41]) := Lib.hid (fun h => by unfold brkL; rw [if_pos h])
      have Hno : Hid (brB 2 y.k = false → brkL 2 y = showL y) := Lib.hid (fun h => by unfold brkL; rw [h]; simp)
      clear hch hs hs2 hs3 hs4 hTl hTt hbl hll
      unfold rlA at *
      generalize brkL 2 y = by' at *
      generalize (⟨(showL y).toArray⟩ : ByteArray) = ty at *
      generalize (⟨(rowL 2 true (X.take k)).toArray⟩ : ByteArray) = sy at *
      generalize showL y = ly at *
      generalize y.l.length = yl at *
      generalize y.p = yp at *
      generalize y.f = yf at *
      generalize y.t = yt at *
      generalize y.n = yn at *
      generalize y.k = yk at *
      have hzv : (wr.alloc (.cells #[.int .i64 yk, .int .i64 yp, .string yf, .string yt, .int .i64 yn, .slice A' yl c'] 33)).heap.size = wr.heap.size + 1 := hV
      rcases (show k = 0 ∨ 0 < k by omega) with h0 | h0
      all_goals
        first
          | have b0 : ¬ (0 : Int) < (k : Int) := by omega
          | have b0 : (0 : Int) < (k : Int) := by omega
        first
          | rw [if_pos h0] at HTs
          | rw [if_neg (show ¬ k = 0 by omega)] at HTs
        clear h0
        rcases cases3 2 yk with q | ⟨q1, q2, q3⟩ | ⟨q1, q2, q3⟩ | ⟨q1, q2⟩
        all_goals
          first
            | have Hb := Hyes.out (brk_yes (.inl q))
            | have Hb := Hyes.out (brk_yes (.inr ⟨q1, q2, q3⟩))
            | have Hb := Hno.out (brk_no (.inl ⟨q1, q2, q3⟩))
            | have Hb := Hno.out (brk_no (.inr ⟨q1, q2⟩))
          rw [Hb] at HTs
          clear Hb Hyes Hno
          first
            | (exfalso; revert q3; decide)
            | (go_wp2_with (first
                | (go_at_call 47; refine HCk.out.mono ?_; rintro e w3 ⟨rfl, hb3⟩; rw [hzv] at hb3; obtain ⟨y0, y1, y2, y3, y4, y5⟩ := HY.out w3 hb3; have HU := Lib.hid (HUp.out w3 hb3); obtain ⟨f0, f1, f2, f3, f4, f5⟩ := H6.out w3 HU.out; clear hb3)
                | fail)
               go_roundw
               case rel => exact ⟨k + 1, by omega, by go_num, congrArg Value.string (HTs.out _ (by simp only [tl_app, Hty.out, Hsy.out]; simp [sepL])), HU⟩
               case measure => simp [RowKit.intOf]; omega)
    · have b1 : ¬ (k : Int) < (X.length : Int) := by omega
      have HK : Hid (X.take k = X) := Lib.hid (List.take_of_length_le (by omega))
      have hss : (⟨(rowL 2 true (X.take k)).toArray⟩ : ByteArray).size ≤ 900000 := by rw [ba_size, HK.out]; exact HlE.out
      have HF : Hid ((⟨#[110, 111, 116, 32]⟩ ++ ⟨(rowL 2 true (X.take k)).toArray⟩ : ByteArray) = ⟨Sx.toArray⟩) := Lib.hid (ba_of (by rw [tl_app, ba_list, HE.out, HK.out]))
      generalize (⟨(rowL 2 true (X.take k)).toArray⟩ : ByteArray) = sy at *
      go_wp2
      go_ret
      exact ⟨by rw [← HF.out]; rfl, HBw.out⟩
theorem rshow_fuel (N : Nat) : ∀ x, SizeOf.sizeOf x ≤ N → RefShowSaid x := by
  induction N with
  | zero =>
    intro x h
    obtain ⟨k, p, f, t, n, l⟩ := x
    simp at h
  | succ N ih =>
    intro x hN
    have hC : ∀ y ∈ x.l, RefShowSaid y := fun y hy => ih y (by have := Rl.lt_mem hy; omega)
    intro A c w Bn h
    obtain ⟨h0, h7⟩ := right_k h.right
    rcases (show x.k = 0 ∨ x.k = 1 ∨ x.k = 2 ∨ x.k = 3 ∨ x.k = 4 ∨ x.k = 5 ∨ x.k = 6 ∨ x.k = 7 by omega) with hk | hk | hk | hk | hk | hk | hk | hk
    · exact rshow_all x hk hC A c w Bn h
    · exact rshow_any x hk hC A c w Bn h
    · exact rshow_not x hk hC A c w Bn h
    · exact rshow_is x hk A c w Bn h
    · exact rshow_has x hk A c w Bn h
    · exact rshow_most x hk A c w Bn h
    · exact rshow_least x hk A c w Bn h
    · exact rshow_like x hk A c w Bn h
theorem refShow_any (x : Rl) : RefShowSaid x := rshow_fuel _ x (Nat.le_refl _)
end Go.Proofs.YtbkffdfboloogaaGreatDoor
