/- Rules that may be: syntax.ruleMay. syntax.needMay, and the closure over it. syntax.creditMay. -/
import Derived.Test.YtbkffdfboloogaaGreatDoorMQ
import Derived.Test.YtbkffdfboloogaaGreatDoorMC
import Derived.Test.YtbkffdfboloogaaGreatDoorMK
namespace Go.Proofs.YtbkffdfboloogaaGreatDoor
open Go.RowKit Go.Lib
set_option linter.unusedVariables false
set_option maxRecDepth 100000

def RuleSaid (f : FuncId) (x : Rl) : Prop := ∀ (A : Option Addr) (c : Nat) (w : World) (B : Nat), NL w B A x.l → B ≤ w.heap.size → Wd w → nsz x ≤ 1000 → (∀ a ∈ atomsR x, Fits a) →
  Calls Tryz.prog f #[.agg (rlA x A c)] w fun e w' => e = .returned (.bool (rightR x)) ∧ Below w.heap.size w w'
/-- a rule within another one -/
theorem kid_fits {x y : Rl} (hk : 0 ≤ x.k ∧ x.k ≤ 2) (hy : y ∈ x.l) (hF : ∀ a ∈ atomsR x, Fits a) : ∀ a ∈ atomsR y, Fits a := fun a ha => hF a (by rw [atoms_l x hk]; exact mem_atomsL.2 ⟨y, hy, ha⟩)
theorem kid_nsz {x y : Rl} (hy : y ∈ x.l) (h : nsz x ≤ 1000) : nsz y ≤ 1000 := by
  have := nsz_mem x.l y hy
  have := nsz_l x
  omega
theorem own_fits {x : Rl} (hk : atomB x.k = true) (hF : ∀ a ∈ atomsR x, Fits a) : Fits x := hF x (by rw [atoms_a x hk]; simp)
theorem all_any (l : List Rl) : l.all rightR = !(l.any fun y => !rightR y) := by
  induction l with
  | nil => rfl
  | cons x l ih => rw [List.all_cons, List.any_cons, ih]; simp
set_option maxHeartbeats 1000000 in
theorem ruleMay1_any (x : Rl) (hx : RuleSaid 120 x) (A : Option Addr) (c : Nat) (w : World) (B : Nat) (hN : NL w B A x.l) (hB : B ≤ w.heap.size) (hW : Wd w) (hn : nsz x ≤ 1000) (hF : ∀ a ∈ atomsR x, Fits a) :
    Calls Tryz.prog 147 #[.agg (rlA x A c)] w fun e w' => e = .returned (.bool (!rightR x)) ∧ Below w.heap.size w w' := by
  have hb1 : Below w.heap.size w (w.alloc (.cells (rlA x A c) 33)) := (Below.refl _ _).alloc (Nat.le_refl _) _
  have hz1 : (w.alloc (.cells (rlA x A c) 33)).heap.size = w.heap.size + 1 := by simp
  have HX := Lib.hid (hx A c (w.alloc (.cells (rlA x A c) 33)) B (hN.kept (hb1.mono hB)) (by omega) (hW.all hb1) hn hF)
  have HB1 := Lib.hid hb1
  have Hz1 := Lib.hid hz1
  clear hx hN hb1 hz1 hF hW
  unfold rlA at *
  generalize rightR x = r at *
  generalize x.l.length = xl at *
  generalize x.k = xk at *
  generalize x.p = xp at *
  generalize x.f = xf at *
  generalize x.t = xt at *
  generalize x.n = xn at *
  go_enter Tryz.func147, Tryz.ntmps147
  go_wp2_with (first
    | (go_at_call 120; refine HX.out.mono ?_; rintro e w3 ⟨rfl, hb3⟩; have HB3 := Lib.hid hb3; clear hb3)
    | fail)
  go_ret
  exact ⟨by cases r <;> rfl, HB1.out.trans (HB3.out.mono (by rw [Hz1.out]; omega))⟩
set_option maxHeartbeats 4000000 in
theorem ruleMay_34 (x : Rl) (hk : x.k = 3 ∨ x.k = 4) : RuleSaid 120 x := by
  intro A c w B hN hB hW hn hF
  have hb1 : Below w.heap.size w (w.alloc (.cells (rlA x A c) 33)) := (Below.refl _ _).alloc (Nat.le_refl _) _
  have hz1 : (w.alloc (.cells (rlA x A c) 33)).heap.size = w.heap.size + 1 := by simp
  have hfit := own_fits (by rcases hk with h | h <;> rw [h] <;> rfl) hF
  have H6 : Hid (∀ W : World, Below (w.heap.size + 1) (w.alloc (.cells (rlA x A c) 33)) W → Hid (Below w.heap.size w W) ∧ W.cell? ⟨w.heap.size, 1, none⟩ = some (.int .i64 x.p) ∧ W.cell? ⟨w.heap.size, 2, none⟩ = some (.string x.f) ∧ W.cell? ⟨w.heap.size, 3, none⟩ = some (.string x.t) ∧ W.cell? ⟨w.heap.size, 4, none⟩ = some (.int .i64 x.n) ∧ W.cell? ⟨w.heap.size, 5, none⟩ = some (.slice A x.l.length c)) := Lib.hid (fun W hb => ⟨Lib.hid (hb1.trans (hb.mono (by omega))), (hb.cell (p := ⟨w.heap.size, 1, none⟩) (by show w.heap.size < _; omega)).trans (by simp [rlA]), (hb.cell (p := ⟨w.heap.size, 2, none⟩) (by show w.heap.size < _; omega)).trans (by simp [rlA]), (hb.cell (p := ⟨w.heap.size, 3, none⟩) (by show w.heap.size < _; omega)).trans (by simp [rlA]), (hb.cell (p := ⟨w.heap.size, 4, none⟩) (by show w.heap.size < _; omega)).trans (by simp [rlA]), (hb.cell (p := ⟨w.heap.size, 5, none⟩) (by show w.heap.size < _; omega)).trans (by simp [rlA])⟩)
  have HIs : Hid (∀ (s : ByteArray), s.size ≤ 4000000 → ∀ W : World, Below (w.heap.size + 1) (w.alloc (.cells (rlA x A c) 33)) W → Calls Tryz.prog 88 #[.string s] W fun e w' => e = .returned (.bool (nmB s)) ∧ Below (w.heap.size + 1) (w.alloc (.cells (rlA x A c) 33)) w') := Lib.hid (fun s hs W hb' => by
    have hb := hb1.trans (hb'.mono (by omega))
    refine (isName_any s W (hW.all hb) (by omega)).mono ?_
    rintro e w' ⟨rfl, h⟩
    have := hb'.size
    exact ⟨rfl, hb'.trans (h.mono (by omega))⟩)
  have HE := Lib.hid (right_34 x hk)
  have hf0 := emp_eq x.t
  have hl0 : ((x.l.length : Int) == 0) = decide (x.l.length = 0) := by rw [Bool.eq_iff_iff, beq_iff_eq, decide_eq_true_iff]; omega
  have HNf := Lib.hid (HIs.out x.f hfit.1)
  have HTx : Hid (∀ W : World, Calls Tryz.prog 148 #[.string x.t] W fun e w' => e = .returned (.bool (txtB x.t)) ∧ W = w') := Lib.hid (fun W => isText_any x.t W (by have := hfit.2.1; omega))
  have HB1 := Lib.hid hb1
  clear hN hW hF hfit hb1 hz1 hn HIs
  unfold rlA at *
  generalize decide (x.l.length = 0) = bl at *
  generalize (x.t.size == 0) = bt at *
  generalize nmB x.f = bf at *
  generalize txtB x.t = bx at *
  generalize rightR x = r at *
  generalize hp0 : (x.p == 0) = bp at *
  generalize hn0 : (x.n == 0) = bn at *
  generalize x.l.length = xl at *
  generalize x.p = xp at *
  generalize x.f = xf at *
  generalize x.t = xt at *
  generalize x.n = xn at *
  rcases hk with hk | hk
  all_goals
    rw [hk] at HB1 H6 HNf ⊢
    clear hk
  all_goals
    have tok1 : True := trivial
    go_enter Tryz.func120, Tryz.ntmps120
    go_wp2_with (first
      | (have _t := tok1; go_at_call 88; refine (HNf.out _ (Below.refl _ _)).mono ?_; rintro e w3 ⟨rfl, hb3⟩; obtain ⟨HB3, k1, k2, k3, k4, k5⟩ := H6.out w3 hb3; have Hb3 := Lib.hid hb3; clear hb3 tok1 _t)
      | (go_at_call 148; refine (HTx.out _).mono ?_; rintro e w4 ⟨rfl, rfl⟩)
      | fail)
  all_goals
    go_ret
    clear hp0 hn0 hf0 hl0
    repeat (rename (¬ _ = true) => hx; rw [Bool.not_eq_true] at hx)
    subst_vars
    exact ⟨by first | rfl | simp, by first | exact HB4.out | exact HB3.out | exact HB1.out⟩
set_option maxHeartbeats 4000000 in
theorem ruleMay_56 (x : Rl) (hk : x.k = 5 ∨ x.k = 6) : RuleSaid 120 x := by
  intro A c w B hN hB hW hn hF
  have hb1 : Below w.heap.size w (w.alloc (.cells (rlA x A c) 33)) := (Below.refl _ _).alloc (Nat.le_refl _) _
  have hz1 : (w.alloc (.cells (rlA x A c) 33)).heap.size = w.heap.size + 1 := by simp
  have hfit := own_fits (by rcases hk with h | h <;> rw [h] <;> rfl) hF
  have H6 : Hid (∀ W : World, Below (w.heap.size + 1) (w.alloc (.cells (rlA x A c) 33)) W → Hid (Below w.heap.size w W) ∧ W.cell? ⟨w.heap.size, 1, none⟩ = some (.int .i64 x.p) ∧ W.cell? ⟨w.heap.size, 2, none⟩ = some (.string x.f) ∧ W.cell? ⟨w.heap.size, 3, none⟩ = some (.string x.t) ∧ W.cell? ⟨w.heap.size, 4, none⟩ = some (.int .i64 x.n) ∧ W.cell? ⟨w.heap.size, 5, none⟩ = some (.slice A x.l.length c)) := Lib.hid (fun W hb => ⟨Lib.hid (hb1.trans (hb.mono (by omega))), (hb.cell (p := ⟨w.heap.size, 1, none⟩) (by show w.heap.size < _; omega)).trans (by simp [rlA]), (hb.cell (p := ⟨w.heap.size, 2, none⟩) (by show w.heap.size < _; omega)).trans (by simp [rlA]), (hb.cell (p := ⟨w.heap.size, 3, none⟩) (by show w.heap.size < _; omega)).trans (by simp [rlA]), (hb.cell (p := ⟨w.heap.size, 4, none⟩) (by show w.heap.size < _; omega)).trans (by simp [rlA]), (hb.cell (p := ⟨w.heap.size, 5, none⟩) (by show w.heap.size < _; omega)).trans (by simp [rlA])⟩)
  have HIs : Hid (∀ (s : ByteArray), s.size ≤ 4000000 → ∀ W : World, Below (w.heap.size + 1) (w.alloc (.cells (rlA x A c) 33)) W → Calls Tryz.prog 88 #[.string s] W fun e w' => e = .returned (.bool (nmB s)) ∧ Below (w.heap.size + 1) (w.alloc (.cells (rlA x A c) 33)) w') := Lib.hid (fun s hs W hb' => by
    have hb := hb1.trans (hb'.mono (by omega))
    refine (isName_any s W (hW.all hb) (by omega)).mono ?_
    rintro e w' ⟨rfl, h⟩
    have := hb'.size
    exact ⟨rfl, hb'.trans (h.mono (by omega))⟩)
  have HE := Lib.hid (right_56 x hk)
  have hf0 := emp_eq x.t
  have hl0 : ((x.l.length : Int) == 0) = decide (x.l.length = 0) := by rw [Bool.eq_iff_iff, beq_iff_eq, decide_eq_true_iff]; omega
  have HNf := Lib.hid (HIs.out x.f hfit.1)
  have HB1 := Lib.hid hb1
  clear hN hW hF hfit hb1 hz1 hn HIs
  unfold rlA at *
  generalize decide (x.l.length = 0) = bl at *
  generalize (x.t.size == 0) = bt at *
  generalize nmB x.f = bf at *
  generalize rightR x = r at *
  generalize hp0 : (x.p == 0) = bp at *
  generalize hn0 : (x.n == 0) = bn at *
  generalize h0n : decide (0 ≤ x.n) = b0 at *
  generalize h1n : decide (x.n ≤ 1099511627776) = b1 at *
  generalize x.l.length = xl at *
  generalize x.p = xp at *
  generalize x.f = xf at *
  generalize x.t = xt at *
  generalize x.n = xn at *
  rcases hk with hk | hk
  all_goals
    rw [hk] at HB1 H6 HNf ⊢
    clear hk
  all_goals
    have tok1 : True := trivial
    go_enter Tryz.func120, Tryz.ntmps120
    go_wp2_with (first
      | (have _t := tok1; go_at_call 88; refine (HNf.out _ (Below.refl _ _)).mono ?_; rintro e w3 ⟨rfl, hb3⟩; obtain ⟨HB3, k1, k2, k3, k4, k5⟩ := H6.out w3 hb3; have Hb3 := Lib.hid hb3; clear hb3 tok1 _t)
      | fail)
  all_goals
    go_ret
    clear hp0 hn0 hf0 hl0 h0n h1n
    repeat (rename (¬ _ = true) => hx; rw [Bool.not_eq_true] at hx)
    subst_vars
    exact ⟨by first | rfl | simp, by first | exact HB4.out | exact HB3.out | exact HB1.out⟩
set_option maxHeartbeats 4000000 in
theorem ruleMay_7 (x : Rl) (hk : x.k = 7) : RuleSaid 120 x := by
  intro A c w B hN hB hW hn hF
  have hb1 : Below w.heap.size w (w.alloc (.cells (rlA x A c) 33)) := (Below.refl _ _).alloc (Nat.le_refl _) _
  have hz1 : (w.alloc (.cells (rlA x A c) 33)).heap.size = w.heap.size + 1 := by simp
  have hfit := own_fits (by rw [hk]; rfl) hF
  have H6 : Hid (∀ W : World, Below (w.heap.size + 1) (w.alloc (.cells (rlA x A c) 33)) W → Hid (Below w.heap.size w W) ∧ W.cell? ⟨w.heap.size, 1, none⟩ = some (.int .i64 x.p) ∧ W.cell? ⟨w.heap.size, 2, none⟩ = some (.string x.f) ∧ W.cell? ⟨w.heap.size, 3, none⟩ = some (.string x.t) ∧ W.cell? ⟨w.heap.size, 4, none⟩ = some (.int .i64 x.n) ∧ W.cell? ⟨w.heap.size, 5, none⟩ = some (.slice A x.l.length c)) := Lib.hid (fun W hb => ⟨Lib.hid (hb1.trans (hb.mono (by omega))), (hb.cell (p := ⟨w.heap.size, 1, none⟩) (by show w.heap.size < _; omega)).trans (by simp [rlA]), (hb.cell (p := ⟨w.heap.size, 2, none⟩) (by show w.heap.size < _; omega)).trans (by simp [rlA]), (hb.cell (p := ⟨w.heap.size, 3, none⟩) (by show w.heap.size < _; omega)).trans (by simp [rlA]), (hb.cell (p := ⟨w.heap.size, 4, none⟩) (by show w.heap.size < _; omega)).trans (by simp [rlA]), (hb.cell (p := ⟨w.heap.size, 5, none⟩) (by show w.heap.size < _; omega)).trans (by simp [rlA])⟩)
  have HIs : Hid (∀ (s : ByteArray), s.size ≤ 4000000 → ∀ W : World, Below (w.heap.size + 1) (w.alloc (.cells (rlA x A c) 33)) W → Calls Tryz.prog 88 #[.string s] W fun e w' => e = .returned (.bool (nmB s)) ∧ Below (w.heap.size + 1) (w.alloc (.cells (rlA x A c) 33)) w') := Lib.hid (fun s hs W hb' => by
    have hb := hb1.trans (hb'.mono (by omega))
    refine (isName_any s W (hW.all hb) (by omega)).mono ?_
    rintro e w' ⟨rfl, h⟩
    have := hb'.size
    exact ⟨rfl, hb'.trans (h.mono (by omega))⟩)
  have HE := Lib.hid (right_7 x hk)
  have hf0 := emp_eq x.t
  have hl0 : ((x.l.length : Int) == 0) = decide (x.l.length = 0) := by rw [Bool.eq_iff_iff, beq_iff_eq, decide_eq_true_iff]; omega
  have HNf := Lib.hid (HIs.out x.f hfit.1)
  have HNt := Lib.hid (HIs.out x.t hfit.2.1)
  have HB1 := Lib.hid hb1
  clear hN hW hF hfit hb1 hz1 hn HIs
  unfold rlA at *
  generalize decide (x.l.length = 0) = bl at *
  generalize (x.t.size == 0) = bt at *
  generalize nmB x.f = bf at *
  generalize nmB x.t = bx at *
  generalize rightR x = r at *
  generalize hp0 : (x.p == 0) = bp at *
  generalize hn0 : (x.n == 0) = bn at *
  have Hpap : Hid (∀ W : World, Calls Tryz.prog 118 #[.int .i64 x.p] W fun e w' => e = .returned (.bool (decide (0 ≤ x.p) && decide (x.p ≤ 5))) ∧ W = w') := Lib.hid (fun W => by
    refine (isPaper_any x.p W).mono ?_
    rintro e w' ⟨rfl, rfl⟩
    exact ⟨by congr 2; rw [Bool.eq_iff_iff]; simp, rfl⟩)
  generalize decide (0 ≤ x.p) = b0 at *
  generalize decide (x.p ≤ 5) = b1 at *
  generalize x.l.length = xl at *
  generalize x.p = xp at *
  generalize x.f = xf at *
  generalize x.t = xt at *
  generalize x.n = xn at *
  rw [hk] at HB1 H6 HNf HNt ⊢
  clear hk
  all_goals
    have tok1 : True := trivial
    go_enter Tryz.func120, Tryz.ntmps120
    go_wp2_with (first
      | (have _t := tok1; go_at_call 88; refine (HNf.out _ (Below.refl _ _)).mono ?_; rintro e w3 ⟨rfl, hb3⟩; obtain ⟨HB3, k1, k2, k3, k4, k5⟩ := H6.out w3 hb3; have Hb3 := Lib.hid hb3; clear hb3 tok1 _t)
      | (go_at_call 88; refine (HNt.out _ Hb3.out).mono ?_; rintro e w4 ⟨rfl, hb4⟩; obtain ⟨HB4, j1, j2, j3, j4, j5⟩ := H6.out w4 hb4; clear hb4)
      | (go_at_call 118; refine (Hpap.out _).mono ?_; rintro e w5 ⟨rfl, rfl⟩)
      | fail)
  all_goals
    go_ret
    clear hp0 hn0 hf0 hl0
    repeat (rename (¬ _ = true) => hx; rw [Bool.not_eq_true] at hx)
    subst_vars
    exact ⟨by first | rfl | simp, by first | exact HB4.out | exact HB3.out | exact HB1.out⟩
set_option maxHeartbeats 4000000 in
theorem ruleMay_01 (x : Rl) (hk : x.k = 0 ∨ x.k = 1) (hC : ∀ y ∈ x.l, RuleSaid 120 y) : RuleSaid 120 x := by
  intro A c w B hN hB hW hn hF
  have hb1 : Below w.heap.size w (w.alloc (.cells (rlA x A c) 33)) := (Below.refl _ _).alloc (Nat.le_refl _) _
  have hz1 : (w.alloc (.cells (rlA x A c) 33)).heap.size = w.heap.size + 1 := by simp
  have hk2 : 0 ≤ x.k ∧ x.k ≤ 2 := by omega
  have HE : Hid (rightR x = (x.p == 0 && x.n == 0 && x.f.size == 0 && x.t.size == 0 && decide (2 ≤ x.l.length) && decide (x.l.length ≤ 64) && !(x.l.any fun y => !rightR y))) := Lib.hid (by rw [right_01 x hk, all_any])
  have hxl : x.l.length ≤ 1000 := by have := len_nszL x.l; have := nsz_l x; omega
  have HX := Lib.hid (containsN_any 147 #[] (enters_of Tryz.func147 (by kernel_rfl) rfl) B c A x.l (fun y => !rightR y) (w.alloc (.cells (rlA x A c) 33)) (hN.kept (hb1.mono hB)) (by omega) (by omega)
    (fun W y A' c' hy hn' hb => ruleMay1_any y (hC y hy) A' c' W B hn' (by have := hb.size; omega) ((hW.all hb1).all hb) (kid_nsz hy hn) (kid_fits hk2 hy hF)))
  have hff := emp_eq x.f
  have hft := emp_eq x.t
  have hl2 : decide ((2 : Int) ≤ (x.l.length : Int)) = decide (2 ≤ x.l.length) := by rw [decide_eq_decide]; omega
  have hl64 : decide ((x.l.length : Int) ≤ 64) = decide (x.l.length ≤ 64) := by rw [decide_eq_decide]; omega
  have HB1 := Lib.hid hb1
  have Hz1 := Lib.hid hz1
  clear hN hW hF hb1 hz1 hn hC hk2 hxl
  unfold rlA at *
  generalize decide (2 ≤ x.l.length) = b2 at *
  generalize decide (x.l.length ≤ 64) = b64 at *
  generalize (x.f.size == 0) = bf at *
  generalize (x.t.size == 0) = bt at *
  generalize (x.l.any fun y => !rightR y) = ba at *
  generalize rightR x = r at *
  generalize hp0 : (x.p == 0) = bp at *
  generalize hn0 : (x.n == 0) = bn at *
  generalize x.l.length = xl at *
  generalize x.p = xp at *
  generalize x.f = xf at *
  generalize x.t = xt at *
  generalize x.n = xn at *
  rcases hk with hk | hk
  all_goals
    rw [hk] at HB1 HX Hz1 ⊢
    clear hk
  all_goals
    go_enter Tryz.func120, Tryz.ntmps120
    go_wp2_with (first
      | (go_at_call 145; refine HX.out.mono ?_; rintro e w3 ⟨rfl, hb3⟩; have HB3 := Lib.hid (HB1.out.trans (hb3.mono (by rw [Hz1.out]; omega))); clear hb3)
      | fail)
  all_goals
    go_ret
    clear hp0 hn0 hff hft hl2 hl64
    repeat (rename (¬ _ = true) => hx; rw [Bool.not_eq_true] at hx)
    subst_vars
    exact ⟨by first | rfl | simp, by first | exact HB3.out | exact HB1.out⟩
set_option maxHeartbeats 4000000 in
theorem ruleMay_2 (x : Rl) (hk : x.k = 2) (hC : ∀ y ∈ x.l, RuleSaid 120 y) : RuleSaid 120 x := by
  intro A c w B hN hB hW hn hF
  have hb1 : Below w.heap.size w (w.alloc (.cells (rlA x A c) 33)) := (Below.refl _ _).alloc (Nat.le_refl _) _
  have hz1 : (w.alloc (.cells (rlA x A c) 33)).heap.size = w.heap.size + 1 := by simp
  have hk2 : 0 ≤ x.k ∧ x.k ≤ 2 := by omega
  have hff := emp_eq x.f
  have hft := emp_eq x.t
  have HB1 := Lib.hid hb1
  have Hz1 := Lib.hid hz1
  by_cases h1 : x.l.length = 1
  · have e1 : ((x.l.length : Int) == 1) = true := by rw [beq_iff_eq]; omega
    have hxl : x.l = [x.l[0]'(by omega)] := by
      apply List.ext_getElem
      · simp [h1]
      · intro i hi hi2
        have : i = 0 := by omega
        subst this
        rfl
    have HE : Hid (rightR x = (x.p == 0 && x.n == 0 && x.f.size == 0 && x.t.size == 0 && rightR (x.l[0]'(by omega)))) := Lib.hid (by
      rw [right_2 x hk, decide_eq_true h1]
      have : x.l.all rightR = rightR (x.l[0]'(by omega)) := by
        conv => lhs; rw [hxl]
        simp
      rw [this]
      simp)
    obtain ⟨g, off, A', c', rfl, hg, h6, hch⟩ := (hN.kept (hb1.mono hB)).at_ (show 0 < x.l.length by omega)
    obtain ⟨c0, c1, c2, c3, c4, c5⟩ := h6
    simp only [Nat.zero_mul, Nat.add_zero] at c0 c1 c2 c3 c4 c5
    have hm : x.l[0]'(by omega) ∈ x.l := List.getElem_mem _
    have HX := Lib.hid (hC _ hm A' c' _ B hch (by omega) (hW.all hb1) (kid_nsz hm hn) (kid_fits hk2 hm hF))
    have hlt : (0 : Int) < (x.l.length : Int) := by omega
    clear hN hW hF hb1 hz1 hn hC hk2 hch hm hxl
    unfold rlA at *
    generalize x.l[0]'(by omega) = y at *
    clear h1
    generalize (x.f.size == 0) = bf at *
    generalize (x.t.size == 0) = bt at *
    generalize rightR x = r at *
    generalize hp0 : (x.p == 0) = bp at *
    generalize hn0 : (x.n == 0) = bn at *
    generalize rightR y = ry at *
    generalize y.l.length = yl at *
    generalize y.k = yk at *
    generalize y.p = yp at *
    generalize y.f = yf at *
    generalize y.t = yt at *
    generalize y.n = yn at *
    generalize x.l.length = xl at *
    generalize x.p = xp at *
    generalize x.f = xf at *
    generalize x.t = xt at *
    generalize x.n = xn at *
    rw [hk] at HB1 HX Hz1 c0 c1 c2 c3 c4 c5 ⊢
    clear hk
    go_enter Tryz.func120, Tryz.ntmps120
    go_wp2_with (first
      | (go_at_call 120; refine HX.out.mono ?_; rintro e w3 ⟨rfl, hb3⟩; have HB3 := Lib.hid (HB1.out.trans (hb3.mono (by rw [Hz1.out]; omega))); clear hb3)
      | fail)
    all_goals
      go_ret
      clear hp0 hn0 hff hft
      repeat (rename (¬ _ = true) => hx; rw [Bool.not_eq_true] at hx)
      subst_vars
      exact ⟨by first | rfl | simp, by first | exact HB3.out | exact HB1.out⟩
  · have e1 : ((x.l.length : Int) == 1) = false := by rw [beq_eq_false_iff_ne]; omega
    have HE : Hid (rightR x = false) := Lib.hid (by rw [right_2 x hk, decide_eq_false h1]; simp)
    clear hN hW hF hb1 hz1 hn hC hk2 h1
    unfold rlA at *
    generalize (x.f.size == 0) = bf at *
    generalize (x.t.size == 0) = bt at *
    generalize rightR x = r at *
    generalize hp0 : (x.p == 0) = bp at *
    generalize hn0 : (x.n == 0) = bn at *
    generalize x.l.length = xl at *
    generalize x.p = xp at *
    generalize x.f = xf at *
    generalize x.t = xt at *
    generalize x.n = xn at *
    rw [hk] at HB1 ⊢
    clear hk
    go_enter Tryz.func120, Tryz.ntmps120
    go_wp2
    all_goals
      go_ret
      exact ⟨by rw [HE.out]; rfl, HB1.out⟩
set_option maxHeartbeats 4000000 in
theorem ruleMay_no (x : Rl) (hk : x.k < 0 ∨ 7 < x.k) : RuleSaid 120 x := by
  intro A c w B hN hB hW hn hF
  have hb1 : Below w.heap.size w (w.alloc (.cells (rlA x A c) 33)) := (Below.refl _ _).alloc (Nat.le_refl _) _
  have hz1 : (w.alloc (.cells (rlA x A c) 33)).heap.size = w.heap.size + 1 := by simp
  have HB1 := Lib.hid hb1
  have HE := Lib.hid (right_no x hk)
  have e0 : (x.k == 0) = false := by rw [beq_eq_false_iff_ne]; omega
  have e1 : (x.k == 1) = false := by rw [beq_eq_false_iff_ne]; omega
  have e2 : (x.k == 2) = false := by rw [beq_eq_false_iff_ne]; omega
  have e3 : (x.k == 3) = false := by rw [beq_eq_false_iff_ne]; omega
  have e4 : (x.k == 4) = false := by rw [beq_eq_false_iff_ne]; omega
  have e5 : (x.k == 5) = false := by rw [beq_eq_false_iff_ne]; omega
  have e6 : (x.k == 6) = false := by rw [beq_eq_false_iff_ne]; omega
  have e7 : (x.k == 7) = false := by rw [beq_eq_false_iff_ne]; omega
  clear hN hW hF hb1 hz1 hn hk
  unfold rlA at *
  generalize rightR x = r at *
  generalize hp0 : (x.p == 0) = bp at *
  generalize x.l.length = xl at *
  generalize x.p = xp at *
  generalize x.f = xf at *
  generalize x.t = xt at *
  generalize x.n = xn at *
  generalize x.k = xk at *
  go_enter Tryz.func120, Tryz.ntmps120
  go_wp2
  all_goals
    go_ret
    exact ⟨by rw [HE.out]; rfl, HB1.out⟩
theorem rule_fuel (N : Nat) : ∀ x, SizeOf.sizeOf x ≤ N → RuleSaid 120 x := by
  induction N with
  | zero =>
    intro x h
    obtain ⟨k, p, f, t, n, l⟩ := x
    simp at h
  | succ N ih =>
    intro x hN
    have hC : ∀ y ∈ x.l, RuleSaid 120 y := fun y hy => ih y (by have := Rl.lt_mem hy; omega)
    rcases (show (x.k = 0 ∨ x.k = 1) ∨ x.k = 2 ∨ (x.k = 3 ∨ x.k = 4) ∨ (x.k = 5 ∨ x.k = 6) ∨ x.k = 7 ∨ (x.k < 0 ∨ 7 < x.k) by omega) with h | h | h | h | h | h
    · exact ruleMay_01 x h hC
    · exact ruleMay_2 x h hC
    · exact ruleMay_34 x h
    · exact ruleMay_56 x h
    · exact ruleMay_7 x h
    · exact ruleMay_no x h
theorem ruleMay_any (x : Rl) : RuleSaid 120 x := rule_fuel _ x (Nat.le_refl _)
end Go.Proofs.YtbkffdfboloogaaGreatDoor
namespace Go.Proofs.YtbkffdfboloogaaGreatDoor
open Go.RowKit Go.Lib
set_option linter.unusedVariables false
set_option maxRecDepth 100000

/-- a need whose rule isn't too great -/
def Sm8 (x : Nd) : Prop := nsz x.r ≤ 1000 ∧ ∀ a ∈ atomsR x.r, Fits a
/-- what the walk of a need keeps -/
theorem need_cells (x : Nd) (A : Option Addr) (c : Nat) (w : World) : ∀ W : World, Below (w.heap.size + 1) (w.alloc (.cells (ndA x A c) 35)) W → Hid (Below w.heap.size w W) ∧ W.cell? ⟨w.heap.size, 0, none⟩ = some (.int .i64 x.k) ∧ W.cell? ⟨w.heap.size, 1, none⟩ = some (.int .i64 x.c) ∧ W.cell? ⟨w.heap.size, 2, none⟩ = some (.int .i64 x.r.k) ∧ W.cell? ⟨w.heap.size, 3, none⟩ = some (.int .i64 x.r.p) ∧ W.cell? ⟨w.heap.size, 4, none⟩ = some (.string x.r.f) ∧ W.cell? ⟨w.heap.size, 5, none⟩ = some (.string x.r.t) ∧ W.cell? ⟨w.heap.size, 6, none⟩ = some (.int .i64 x.r.n) ∧ W.cell? ⟨w.heap.size, 7, none⟩ = some (.slice A x.r.l.length c) := fun W hb => by
  have hb1 : Below w.heap.size w (w.alloc (.cells (ndA x A c) 35)) := (Below.refl _ _).alloc (Nat.le_refl _) _
  have k : ∀ i v, (w.alloc (.cells (ndA x A c) 35)).cell? ⟨w.heap.size, i, none⟩ = some v → W.cell? ⟨w.heap.size, i, none⟩ = some v := fun i v h => (hb.cell (p := ⟨w.heap.size, i, none⟩) (by show w.heap.size < _; omega)).trans h
  exact ⟨Lib.hid (hb1.trans (hb.mono (by omega))), k 0 _ (by simp [ndA]), k 1 _ (by simp [ndA]), k 2 _ (by simp [ndA]), k 3 _ (by simp [ndA]), k 4 _ (by simp [ndA]), k 5 _ (by simp [ndA]), k 6 _ (by simp [ndA]), k 7 _ (by simp [ndA])⟩
set_option maxHeartbeats 4000000 in
theorem needMay_any (x : Nd) (hx : Sm8 x) (A : Option Addr) (c : Nat) (w : World) (B : Nat) (hN : NL w B A x.r.l) (hB : B ≤ w.heap.size) (hW : Wd w) :
    Calls Tryz.prog 92 #[.agg (ndA x A c)] w fun e w' => e = .returned (.bool (needB x)) ∧ Below w.heap.size w w' := by
  have hb1 : Below w.heap.size w (w.alloc (.cells (ndA x A c) 35)) := (Below.refl _ _).alloc (Nat.le_refl _) _
  have H8 := Lib.hid (need_cells x A c w)
  have HE : Hid (needB x = (decide (0 ≤ x.k ∧ x.k ≤ 5) && decide (1 ≤ x.c ∧ x.c ≤ 9) && (alwB x.r || (decide ((dep x.r : Int) ≤ 16) && rightR x.r)))) := Lib.hid (by
    have : decide ((dep x.r : Int) ≤ 16) = decide (dep x.r ≤ 16) := by rw [decide_eq_decide]; omega
    rw [this]; rfl)
  have HP : Hid (∀ W : World, Calls Tryz.prog 118 #[.int .i64 x.k] W fun e w' => e = .returned (.bool (decide (0 ≤ x.k ∧ x.k ≤ 5))) ∧ W = w') := Lib.hid (fun W => isPaper_any x.k W)
  have HBt : Hid (∀ W : World, Calls Tryz.prog 90 #[.int .i64 x.c, .int .i64 1, .int .i64 9] W fun e w' => e = .returned (.bool (decide (1 ≤ x.c ∧ x.c ≤ 9))) ∧ W = w') := Lib.hid (fun W => between_any x.c 1 9 W)
  have lift : ∀ (f : FuncId) (args : Array Value) (v : Value) (W : World), Below (w.heap.size + 1) (w.alloc (.cells (ndA x A c) 35)) W → (Calls Tryz.prog f args W fun e w' => e = .returned v ∧ Below W.heap.size W w') → Calls Tryz.prog f args W fun e w' => e = .returned v ∧ Below (w.heap.size + 1) (w.alloc (.cells (ndA x A c) 35)) w' := fun f args v W hb h => h.mono (by
    rintro e w' ⟨rfl, h2⟩
    have := hb.size
    exact ⟨rfl, hb.trans (h2.mono (by simp at this; omega))⟩)
  have HA : Hid (∀ W : World, Below (w.heap.size + 1) (w.alloc (.cells (ndA x A c) 35)) W → Calls Tryz.prog 95 #[.agg (rlA x.r A c)] W fun e w' => e = .returned (.bool (alwB x.r)) ∧ Below (w.heap.size + 1) (w.alloc (.cells (ndA x A c) 35)) w') := Lib.hid (fun W hb => lift _ _ _ W hb (always_any x.r.k x.r.p x.r.n x.r.f x.r.t A x.r.l.length c W))
  have HD : Hid (∀ W : World, Below (w.heap.size + 1) (w.alloc (.cells (ndA x A c) 35)) W → Calls Tryz.prog 119 #[.agg (rlA x.r A c), .int .i64 16] W fun e w' => e = .returned (.bool (decide ((dep x.r : Int) ≤ 16))) ∧ Below (w.heap.size + 1) (w.alloc (.cells (ndA x A c) 35)) w') := Lib.hid (fun W hb => lift _ _ _ W hb (by
    have h := hb1.trans (hb.mono (by omega))
    exact within_any x.r 16 A c W B (hN.kept (h.mono hB)) (by have := h.size; omega) hx.1 (by omega) (by omega)))
  have HR : Hid (∀ W : World, Below (w.heap.size + 1) (w.alloc (.cells (ndA x A c) 35)) W → Calls Tryz.prog 120 #[.agg (rlA x.r A c)] W fun e w' => e = .returned (.bool (rightR x.r)) ∧ Below (w.heap.size + 1) (w.alloc (.cells (ndA x A c) 35)) w') := Lib.hid (fun W hb => lift _ _ _ W hb (by
    have h := hb1.trans (hb.mono (by omega))
    exact ruleMay_any x.r A c W B (hN.kept (h.mono hB)) (by have := h.size; omega) (hW.all h) hx.1 hx.2))
  have HB1 := Lib.hid hb1
  clear hN hW hx hb1 lift
  unfold rlA ndA at *
  generalize decide (0 ≤ x.k ∧ x.k ≤ 5) = bk at *
  generalize decide (1 ≤ x.c ∧ x.c ≤ 9) = bc at *
  generalize alwB x.r = ba at *
  generalize decide ((dep x.r : Int) ≤ 16) = bd at *
  generalize rightR x.r = br at *
  generalize needB x = r at *
  generalize x.r.l.length = xl at *
  generalize x.r.k = xk at *
  generalize x.r.p = xp at *
  generalize x.r.f = xf at *
  generalize x.r.t = xt at *
  generalize x.r.n = xn at *
  generalize x.k = yk at *
  generalize x.c = yc at *
  go_enter Tryz.func92, Tryz.ntmps92
  go_wp2_with (first
    | (go_at_call 118; refine (HP.out _).mono ?_; rintro e w2 ⟨rfl, rfl⟩)
    | (go_at_call 90; refine (HBt.out _).mono ?_; rintro e w2 ⟨rfl, rfl⟩)
    | (go_at_call 95; refine (HA.out _ (Below.refl _ _)).mono ?_; rintro e w3 ⟨rfl, hb3⟩; obtain ⟨HB3, k0, k1, k2, k3, k4, k5, k6, k7⟩ := H8.out w3 hb3; have Hb3 := Lib.hid hb3; clear hb3)
    | (go_at_call 119; refine (HD.out _ Hb3.out).mono ?_; rintro e w4 ⟨rfl, hb4⟩; obtain ⟨HB4, j0, j1, j2, j3, j4, j5, j6, j7⟩ := H8.out w4 hb4; have Hb4 := Lib.hid hb4; clear hb4)
    | (go_at_call 120; refine (HR.out _ Hb4.out).mono ?_; rintro e w5 ⟨rfl, hb5⟩; obtain ⟨HB5, _⟩ := H8.out w5 hb5; clear hb5)
    | fail)
  all_goals
    go_ret
    repeat (first | (rename ((!_) = false) => hx; rw [Bool.not_eq_false'] at hx) | (rename (¬ (!_) = true) => hx; rw [Bool.not_eq_true, Bool.not_eq_false'] at hx) | (rename ((!_) = true) => hx; rw [Bool.not_eq_true'] at hx) | (rename (¬ _ = true) => hx; rw [Bool.not_eq_true] at hx))
    subst_vars
    exact ⟨by first | rfl | (simp; done) | simp_all, by first | exact HB5.out | exact HB4.out | exact HB3.out | exact HB1.out⟩
set_option maxHeartbeats 1000000 in
theorem creditMay1_any (x : Nd) (hx : Sm8 x) (A : Option Addr) (c : Nat) (w : World) (B : Nat) (hN : NL w B A x.r.l) (hB : B ≤ w.heap.size) (hW : Wd w) :
    Calls Tryz.prog 91 #[.agg (ndA x A c)] w fun e w' => e = .returned (.bool (!needB x)) ∧ Below w.heap.size w w' := by
  have hb1 : Below w.heap.size w (w.alloc (.cells (ndA x A c) 35)) := (Below.refl _ _).alloc (Nat.le_refl _) _
  have hz1 : (w.alloc (.cells (ndA x A c) 35)).heap.size = w.heap.size + 1 := by simp
  have HX := Lib.hid (needMay_any x hx A c (w.alloc (.cells (ndA x A c) 35)) B (hN.kept (hb1.mono hB)) (by omega) (hW.all hb1))
  have HB1 := Lib.hid hb1
  have Hz1 := Lib.hid hz1
  clear hx hN hb1 hz1 hW
  unfold ndA at *
  generalize needB x = r at *
  generalize x.r.l.length = xl at *
  generalize x.r.k = xk at *
  generalize x.r.p = xp at *
  generalize x.r.f = xf at *
  generalize x.r.t = xt at *
  generalize x.r.n = xn at *
  generalize x.k = yk at *
  generalize x.c = yc at *
  go_enter Tryz.func91, Tryz.ntmps91
  go_wp2_with (first
    | (go_at_call 92; refine HX.out.mono ?_; rintro e w3 ⟨rfl, hb3⟩; have HB3 := Lib.hid hb3; clear hb3)
    | fail)
  go_ret
  exact ⟨by cases r <;> rfl, HB1.out.trans (HB3.out.mono (by rw [Hz1.out]; omega))⟩
end Go.Proofs.YtbkffdfboloogaaGreatDoor
namespace Go.Proofs.YtbkffdfboloogaaGreatDoor
open Go.RowKit Go.Lib
set_option linter.unusedVariables false
set_option maxRecDepth 100000

/-- no text of a credit is longer than memory reaches, no rule of it is too great -/
structure Fair (c : Cr) : Prop where
  str : ∀ s ∈ [c.num, c.app, c.ben, c.iss, c.con, c.frm, c.dst, c.cur], s.size ≤ 140737488351232
  need : ∀ x ∈ c.needs, Sm8 x
  few : c.needs.length ≤ 1000000
def namesL (c : Cr) : List ByteArray := [c.num, c.app, c.ben, c.iss, c.frm, c.dst]
def daysL (c : Cr) : List Int := [c.lat, c.exp, c.wit, c.ten]
def dayB (d : Int) : Bool := decide (0 ≤ d ∧ d ≤ 1048576)
def midB (c : Cr) : Bool := (c.con.size == 0 || nmB c.con) && codeB c.cur && decide (1 ≤ c.amt) && decide (c.amt ≤ 1099511627776) && decide (0 ≤ c.abo ∧ c.abo ≤ 1000) && decide (0 ≤ c.bel ∧ c.bel ≤ 1000)
theorem fits_parts (c : Cr) : fitsB c = ((namesL c).all nmB && midB c && (daysL c).all dayB && decide (c.needs.length ≤ 64) && c.needs.all needB) := by
  unfold fitsB namesL daysL midB dayB
  rw [Bool.eq_iff_iff]
  simp only [Bool.and_eq_true, List.all_cons, List.all_nil, Bool.or_eq_true, decide_eq_true_iff, and_true]
  constructor
  · rintro ⟨⟨⟨⟨⟨⟨⟨⟨⟨⟨⟨⟨⟨⟨⟨⟨h1, h2⟩, h3⟩, h4⟩, h5⟩, h6⟩, h7⟩, h8⟩, h9⟩, h10⟩, h11⟩, h12⟩, h13⟩, h14⟩, h15⟩, h16⟩, h17⟩
    exact ⟨⟨⟨⟨⟨h1, h2, h3, h4, h5, h6⟩, ⟨⟨⟨⟨⟨h7, h8⟩, h9.1⟩, h9.2⟩, h10⟩, h11⟩⟩, h12, h13, h14, h15⟩, h16⟩, h17⟩
  · rintro ⟨⟨⟨⟨⟨h1, h2, h3, h4, h5, h6⟩, ⟨⟨⟨⟨⟨h7, h8⟩, h9⟩, h9'⟩, h10⟩, h11⟩⟩, h12, h13, h14, h15⟩, h16⟩, h17⟩
    exact ⟨⟨⟨⟨⟨⟨⟨⟨⟨⟨⟨⟨⟨⟨⟨⟨h1, h2⟩, h3⟩, h4⟩, h5⟩, h6⟩, h7⟩, h8⟩, ⟨h9, h9'⟩⟩, h10⟩, h11⟩, h12⟩, h13⟩, h14⟩, h15⟩, h16⟩, h17⟩
theorem four_at (W : World) (a b c d : Int) (t : TypeId) (k : Nat) (hk : k < 4) : (W.alloc (.cells #[.int .i64 a, .int .i64 b, .int .i64 c, .int .i64 d] t)).cell? ⟨W.heap.size, k, none⟩ = some (.int .i64 ([a, b, c, d][k]'hk)) := by
  match k, hk with
  | 0, _ => simp
  | 1, _ => simp
  | 2, _ => simp
  | 3, _ => simp
theorem six_at (W : World) (a b c d e f : ByteArray) (t : TypeId) (k : Nat) (hk : k < 6) : (W.alloc (.cells #[.string a, .string b, .string c, .string d, .string e, .string f] t)).cell? ⟨W.heap.size, k, none⟩ = some (.string ([a, b, c, d, e, f][k]'hk)) := by
  match k, hk with
  | 0, _ => simp
  | 1, _ => simp
  | 2, _ => simp
  | 3, _ => simp
  | 4, _ => simp
  | 5, _ => simp
theorem all_false {α : Type} {p : α → Bool} {l : List α} {x : α} (hx : x ∈ l) (h : p x = false) : l.all p = false := by
  rw [List.all_eq_false]; exact ⟨x, hx, by rw [h]; simp⟩
theorem all_taken {α : Type} {p : α → Bool} {l : List α} {k : Nat} (h : k < l.length) (ht : (l.take k).all p = true) (hp : p l[k] = true) : (l.take (k + 1)).all p = true := by
  rw [← List.take_append_getElem h, List.all_append, ht]; simp [hp]
theorem any_all {l : List Nd} : (l.any fun y => !needB y) = !(l.all needB) := by
  induction l with
  | nil => rfl
  | cons x l ih => rw [List.all_cons, List.any_cons, ih]; simp

set_option maxHeartbeats 8000000 in
theorem creditMay_any (c : Cr) (hf : Fair c) (A : Option Addr) (cp : Nat) (w : World) (B : Nat) (hN : Ns w B A c.needs) (hB : B ≤ w.heap.size) (hW : Wd w) :
    Calls Tryz.prog 60 #[.agg (crA c A cp)] w fun e w' => e = .returned (.bool (fitsB c)) ∧ Below w.heap.size w w' := by
  have hb1 : Below w.heap.size w (w.alloc (.cells (crA c A cp) 26)) := (Below.refl _ _).alloc (Nat.le_refl _) _
  have hz1 : (w.alloc (.cells (crA c A cp) 26)).heap.size = w.heap.size + 1 := by simp
  have h18 := C18.new w c A cp 26
  have H18 : Hid (∀ W : World, Below (w.heap.size + 1) (w.alloc (.cells (crA c A cp) 26)) W → Hid (Below w.heap.size w W) ∧ C18 W w.heap.size c A cp) := Lib.hid (fun W hb => ⟨Lib.hid (hb1.trans (hb.mono (by omega))), h18.below hb (by omega)⟩)
  have HNm : Hid (∀ (s : ByteArray), s ∈ [c.num, c.app, c.ben, c.iss, c.con, c.frm, c.dst, c.cur] → ∀ W : World, Below (w.heap.size + 1) (w.alloc (.cells (crA c A cp) 26)) W → Calls Tryz.prog 88 #[.string s] W fun e w' => e = .returned (.bool (nmB s)) ∧ Below W.heap.size W w') := Lib.hid (fun s hs W hb => isName_any s W (hW.all (hb1.trans (hb.mono (by omega)))) (hf.str s hs))
  have HCo : Hid (∀ W : World, Below (w.heap.size + 1) (w.alloc (.cells (crA c A cp) 26)) W → Calls Tryz.prog 89 #[.string c.cur] W fun e w' => e = .returned (.bool (codeB c.cur)) ∧ Below W.heap.size W w') := Lib.hid (fun W hb => isCode_any c.cur W (hW.all (hb1.trans (hb.mono (by omega)))) (hf.str c.cur (by simp)))
  have HBt : Hid (∀ (n a b : Int) (W : World), Calls Tryz.prog 90 #[.int .i64 n, .int .i64 a, .int .i64 b] W fun e w' => e = .returned (.bool (decide (a ≤ n ∧ n ≤ b))) ∧ W = w') := Lib.hid between_any
  have HCf : Hid (c.needs.length ≤ 64 → ∀ W : World, Below (w.heap.size + 1) (w.alloc (.cells (crA c A cp) 26)) W → Calls Tryz.prog 73 #[.slice A c.needs.length cp, .func (.func 91) #[] #[]] W fun e w' => e = .returned (.bool (c.needs.any fun y => !needB y)) ∧ Below W.heap.size W w') := Lib.hid (fun hl W hb => by
    have h := hb1.trans (hb.mono (by omega))
    have hz := h.size
    exact containsD_any 91 #[] (enters_of Tryz.func91 (by kernel_rfl) rfl) B cp A c.needs (fun y => !needB y) W (hN.kept (h.mono hB)) (by omega) (by omega)
      (fun W2 y A' c' hy hn' hb2 => creditMay1_any y (hf.need y hy) A' c' W2 B hn' (by have := hb2.size; omega) (hW.all (h.trans (hb2.mono hz)))))
  have HE := Lib.hid (fits_parts c)
  have HL : Hid (∀ s ∈ namesL c, s ∈ [c.num, c.app, c.ben, c.iss, c.con, c.frm, c.dst, c.cur]) := Lib.hid (fun s hs => by
    simp only [namesL, List.mem_cons, List.not_mem_nil, or_false] at hs ⊢
    rcases hs with rfl | rfl | rfl | rfl | rfl | rfl <;> simp)
  have HB1 := Lib.hid hb1
  have Hz1 := Lib.hid hz1
  obtain ⟨c0, c1, c2, c3, c4, c5, c6, c7, c8, c9, c10, c11, c12, c13, c14, c15, c16, c17⟩ := h18
  clear hN hW hf hb1 hz1
  unfold crA at *
  generalize fitsB c = r at *
  go_enter Tryz.func60, Tryz.ntmps60
  go_wp2
  have hsz : (w.alloc (.cells #[.string c.num, .string c.app, .string c.ben, .string c.iss, .string c.con, .string c.frm, .string c.dst, .string c.cur, .int .i64 c.amt, .int .i64 c.abo, .int .i64 c.bel, .int .i64 c.lat, .int .i64 c.exp, .int .i64 c.wit, .int .i64 c.ten, .bool c.par, .bool c.chg, .slice A c.needs.length cp] 26)).heap.size = w.heap.size + 1 := by simp
  have h6 := fun k hk => six_at (w.alloc (.cells #[.string c.num, .string c.app, .string c.ben, .string c.iss, .string c.con, .string c.frm, .string c.dst, .string c.cur, .int .i64 c.amt, .int .i64 c.abo, .int .i64 c.bel, .int .i64 c.lat, .int .i64 c.exp, .int .i64 c.wit, .int .i64 c.ten, .bool c.par, .bool c.chg, .slice A c.needs.length cp] 26)) c.num c.app c.ben c.iss c.frm c.dst 9 k hk
  rw [hsz] at h6
  have hb2 : Below (w.heap.size + 1) (w.alloc (.cells #[.string c.num, .string c.app, .string c.ben, .string c.iss, .string c.con, .string c.frm, .string c.dst, .string c.cur, .int .i64 c.amt, .int .i64 c.abo, .int .i64 c.bel, .int .i64 c.lat, .int .i64 c.exp, .int .i64 c.wit, .int .i64 c.ten, .bool c.par, .bool c.chg, .slice A c.needs.length cp] 26)) ((w.alloc (.cells #[.string c.num, .string c.app, .string c.ben, .string c.iss, .string c.con, .string c.frm, .string c.dst, .string c.cur, .int .i64 c.amt, .int .i64 c.abo, .int .i64 c.bel, .int .i64 c.lat, .int .i64 c.exp, .int .i64 c.wit, .int .i64 c.ten, .bool c.par, .bool c.chg, .slice A c.needs.length cp] 26)).alloc (.cells #[.string c.num, .string c.app, .string c.ben, .string c.iss, .string c.frm, .string c.dst] 9)) := (Below.refl _ _).alloc (by simp) _
  have hz2 : ((w.alloc (.cells #[.string c.num, .string c.app, .string c.ben, .string c.iss, .string c.con, .string c.frm, .string c.dst, .string c.cur, .int .i64 c.amt, .int .i64 c.abo, .int .i64 c.bel, .int .i64 c.lat, .int .i64 c.exp, .int .i64 c.wit, .int .i64 c.ten, .bool c.par, .bool c.chg, .slice A c.needs.length cp] 26)).alloc (.cells #[.string c.num, .string c.app, .string c.ben, .string c.iss, .string c.frm, .string c.dst] 9)).heap.size = w.heap.size + 2 := by simp
  have HB2 := Lib.hid hb2
  clear hb2 hsz c0 c1 c2 c3 c4 c5 c6 c7 c8 c9 c10 c11 c12 c13 c14 c15 c16 c17
  generalize ((w.alloc (.cells #[.string c.num, .string c.app, .string c.ben, .string c.iss, .string c.con, .string c.frm, .string c.dst, .string c.cur, .int .i64 c.amt, .int .i64 c.abo, .int .i64 c.bel, .int .i64 c.lat, .int .i64 c.exp, .int .i64 c.wit, .int .i64 c.ten, .bool c.par, .bool c.chg, .slice A c.needs.length cp] 26)).alloc (.cells #[.string c.num, .string c.app, .string c.ben, .string c.iss, .string c.frm, .string c.dst] 9)) = V at *
  generalize (w.alloc (.cells #[.string c.num, .string c.app, .string c.ben, .string c.iss, .string c.con, .string c.frm, .string c.dst, .string c.cur, .int .i64 c.amt, .int .i64 c.abo, .int .i64 c.bel, .int .i64 c.lat, .int .i64 c.exp, .int .i64 c.wit, .int .i64 c.ten, .bool c.par, .bool c.chg, .slice A c.needs.length cp] 26)) = w1 at *
  have HL6 := Lib.hid h6
  clear h6
  go_loopw [21] (fun i wr => ∃ k : Nat, k ≤ 6 ∧ i = .int .i64 (k : Int) ∧ Hid (((namesL c).take k).all nmB = true) ∧ Hid (Below (w.heap.size + 2) V wr) ∧ Hid (Below (w.heap.size + 1) w1 wr)) (fun i _ => 6 - (RowKit.intOf i).toNat)
  case atStart => exact ⟨0, by omega, rfl, Lib.hid rfl, Lib.hid (Below.refl _ _), HB2⟩
  case round =>
    obtain ⟨k, hk, rfl, HK, HB, HBw⟩ := hrel
    have hzw : w1.heap.size ≤ wr.heap.size := HBw.out.size
    by_cases hlt : k < 6
    · have b1 : (k : Int) < 6 := by omega
      have hk0 : (0 : Int) ≤ (k : Int) := by omega
      have hc : wr.cell? ⟨w.heap.size + 1, k, none⟩ = some (.string ((namesL c)[k]'hlt)) := (HB.out.cell (p := ⟨w.heap.size + 1, k, none⟩) (by show w.heap.size + 1 < _; omega)).trans (HL6.out k hlt)
      have HS : Hid (nmB ((namesL c)[k]'hlt) = true → ((namesL c).take (k + 1)).all nmB = true) := Lib.hid (fun h => all_taken hlt HK.out h)
      have HF : Hid (nmB ((namesL c)[k]'hlt) = false → (namesL c).all nmB = false) := Lib.hid (fun h => all_false (List.getElem_mem _) h)
      have HC := Lib.hid (HNm.out ((namesL c)[k]'hlt) (HL.out _ (List.getElem_mem _)) wr HBw.out)
      clear HCf HCo HL HNm
      generalize (namesL c)[k]'hlt = s at *
      have hzB : w.heap.size + 2 ≤ wr.heap.size := by have := HB.out.size; omega
      cases hs : nmB s with
      | true =>
        rw [hs] at HC
        have HS2 := Lib.hid (HS.out hs)
        clear hs HS HF
        go_wp2_with (first
          | (go_at_call 88; refine HC.out.mono ?_; rintro e w3 ⟨rfl, hb3⟩; have HB3 := Lib.hid (HB.out.trans (hb3.mono hzB)); have HB3' := Lib.hid (HBw.out.trans (hb3.mono (by omega))); clear hb3)
          | fail)
        go_roundw
        case rel => exact ⟨k + 1, by omega, by go_num, HS2, HB3, HB3'⟩
        case measure => simp [RowKit.intOf]; omega
      | false =>
        rw [hs] at HC
        have HF2 : Hid (r = false) := Lib.hid (by rw [HE.out, HF.out hs]; rfl)
        clear hs HS HF
        go_wp2_with (first
          | (go_at_call 88; refine HC.out.mono ?_; rintro e w3 ⟨rfl, hb3⟩; have HB3 := Lib.hid (HBw.out.trans (hb3.mono (by omega))); clear hb3)
          | fail)
        go_ret
        exact ⟨by rw [HF2.out]; rfl, (H18.out _ HB3.out).1.out⟩
    · have b1 : ¬ (k : Int) < 6 := by omega
      have HN6 : Hid ((namesL c).all nmB = true) := Lib.hid (by
        have : (namesL c).take k = namesL c := List.take_of_length_le (by show 6 ≤ k; omega)
        rw [← this]; exact HK.out)
      obtain ⟨HBN, c0, c1, c2, c3, c4, c5, c6, c7, c8, c9, c10, c11, c12, c13, c14, c15, c16, c17⟩ := H18.out wr HBw.out
      have HCon := Lib.hid (HNm.out c.con (by simp))
      have hz1N : w1.heap.size = w.heap.size + 1 := Hz1.out
      clear HL6 HL HB HK HNm c0 c1 c2 c3 c5 c6 c15 c16 hk
      by_cases hm : midB c = true
      · have HE2 : Hid (r = ((daysL c).all dayB && decide (c.needs.length ≤ 64) && c.needs.all needB)) := Lib.hid (by rw [HE.out, HN6.out, hm]; rfl)
        have hmid : (c.con.toList = [] ∨ (¬ c.con.toList = [] ∧ nmB c.con = true)) ∧ codeB c.cur = true ∧ (1 ≤ c.amt ∧ c.amt ≤ 1099511627776) ∧ decide (0 ≤ c.abo ∧ c.abo ≤ 1000) = true ∧ decide (0 ≤ c.bel ∧ c.bel ≤ 1000) = true := by
          unfold midB at hm
          simp only [Bool.and_eq_true, Bool.or_eq_true] at hm
          obtain ⟨⟨⟨⟨⟨h1, h2⟩, h3⟩, h4⟩, h5⟩, h6⟩ := hm
          refine ⟨?_, h2, ⟨of_decide_eq_true h3, of_decide_eq_true h4⟩, h5, h6⟩
          have := emp_eq c.con
          by_cases he : c.con.toList = []
          · exact .inl he
          · right
            refine ⟨he, ?_⟩
            rcases h1 with h1 | h1
            · rw [h1] at this; simp at this; exact absurd this he
            · exact h1
        obtain ⟨q1, q2, ⟨q3, q4⟩, q5, q6⟩ := hmid
        have HA0 : Hid (∀ W : World, Calls Tryz.prog 90 #[.int .i64 c.abo, .int .i64 0, .int .i64 1000] W fun e w' => e = .returned (.bool true) ∧ W = w') := Lib.hid (fun W => by rw [← q5]; exact HBt.out c.abo 0 1000 W)
        have HA1 : Hid (∀ W : World, Calls Tryz.prog 90 #[.int .i64 c.bel, .int .i64 0, .int .i64 1000] W fun e w' => e = .returned (.bool true) ∧ W = w') := Lib.hid (fun W => by rw [← q6]; exact HBt.out c.bel 0 1000 W)
        have HDy : Hid (∀ (d : Int) (W : World), Calls Tryz.prog 90 #[.int .i64 d, .int .i64 0, .int .i64 1048576] W fun e w' => e = .returned (.bool (dayB d)) ∧ W = w') := Lib.hid (fun d W => HBt.out d 0 1048576 W)
        rw [q2] at HCo
        have q3' : ¬ c.amt < 1 := by omega
        have q4' : ¬ (1099511627776 : Int) < c.amt := by omega
        clear hm HE HBt q5 q6 q2 q3 q4 HN6
        rcases q1 with q1 | ⟨q1, q2⟩
        all_goals
          have tok2 : True := trivial
          try rw [q2] at HCon
          go_wp2_with (first
            | (go_at_call 88; refine (HCon.out _ HBw.out).mono ?_; rintro e w3 ⟨rfl, hb3⟩; have HB3 := Lib.hid (HBw.out.trans (hb3.mono (by omega))); obtain ⟨HBN3, k0, k1, k2, k3, k4, k5, k6, k7, k8, k9, k10, k11, k12, k13, k14, k15, k16, k17⟩ := H18.out w3 HB3.out; clear hb3 k0 k1 k2 k3 k5 k6 k15 k16)
            | (go_at_call 89; refine (HCo.out _ (by first | exact HB3.out | exact HBw.out)).mono ?_; rintro e w4 ⟨rfl, hb4⟩; have HB4 := Lib.hid (show Below (w.heap.size + 1) w1 w4 from by first | exact HB3.out.trans (hb4.mono (by have := HB3.out.size; omega)) | exact HBw.out.trans (hb4.mono (by omega))); obtain ⟨HBN4, j0, j1, j2, j3, j4, j5, j6, j7, j8, j9, j10, j11, j12, j13, j14, j15, j16, j17⟩ := H18.out w4 HB4.out; clear hb4 j0 j1 j2 j3 j5 j6 j15 j16)
            | (have _t := tok2; go_at_call 90; refine (HA0.out _).mono ?_; rintro e w5 ⟨rfl, rfl⟩; clear tok2 _t)
            | (go_at_call 90; refine (HA1.out _).mono ?_; rintro e w5 ⟨rfl, rfl⟩)
            | fail)
          have HD4 := Lib.hid (fun k hk => four_at w4 c.lat c.exp c.wit c.ten 3 k hk)
          have HB5 : Hid (Below (w.heap.size + 1) w1 (w4.alloc (.cells #[.int .i64 c.lat, .int .i64 c.exp, .int .i64 c.wit, .int .i64 c.ten] 3))) := Lib.hid (HB4.out.alloc (by have := HB4.out.size; omega) _)
          obtain ⟨HBN5, i0, i1, i2, i3, i4, i5, i6, i7, i8, i9, i10, i11, i12, i13, i14, i15, i16, i17⟩ := H18.out _ HB5.out
          clear HB4 i0 i1 i2 i3 i4 i5 i6 i7 i8 i9 i10 i11 i12 i13 i14 i15 i16 j4 j7 j8 j9 j10 j11 j12 j13 j14 j17 HCon HCo HA0 HA1
          generalize w4.heap.size = q at *
          generalize (w4.alloc (.cells #[.int .i64 c.lat, .int .i64 c.exp, .int .i64 c.wit, .int .i64 c.ten] 3)) = W at *
          go_loopw [75] (fun i wr => ∃ k : Nat, k ≤ 4 ∧ i = .int .i64 (k : Int) ∧ Hid (((daysL c).take k).all dayB = true) ∧ wr = W) (fun i _ => 4 - (RowKit.intOf i).toNat)
          case atStart => exact ⟨0, by omega, rfl, Lib.hid rfl, rfl⟩
          case round =>
            obtain ⟨k, hk, rfl, HK, rfl⟩ := hrel
            by_cases hlt : k < 4
            · have b2 : (k : Int) < 4 := by omega
              have hk0 : (0 : Int) ≤ (k : Int) := by omega
              have hc := HD4.out k hlt
              have HS : Hid (dayB ((daysL c)[k]'hlt) = true → ((daysL c).take (k + 1)).all dayB = true) := Lib.hid (fun h => all_taken hlt HK.out h)
              have HF : Hid (dayB ((daysL c)[k]'hlt) = false → (daysL c).all dayB = false) := Lib.hid (fun h => all_false (List.getElem_mem _) h)
              have HC := Lib.hid (HDy.out ((daysL c)[k]'hlt))
              change _ = some (Value.int .i64 ((daysL c)[k]'hlt)) at hc
              generalize (daysL c)[k]'hlt = d at *
              cases hd : dayB d with
              | true =>
                rw [hd] at HC
                have HS2 := Lib.hid (HS.out hd)
                clear hd HS HF HDy HCf
                go_wp2_with (first
                  | (go_at_call 90; refine (HC.out _).mono ?_; rintro e w5 ⟨rfl, rfl⟩)
                  | fail)
                go_roundw
                case rel => exact ⟨k + 1, by omega, by go_num, HS2, by first | rfl | trivial⟩
                case measure => simp [RowKit.intOf]; omega
              | false =>
                rw [hd] at HC
                have HF2 : Hid (r = false) := Lib.hid (by rw [HE2.out, HF.out hd]; rfl)
                clear hd HS HF HDy HCf
                go_wp2_with (first
                  | (go_at_call 90; refine (HC.out _).mono ?_; rintro e w5 ⟨rfl, rfl⟩)
                  | fail)
                go_ret
                exact ⟨by rw [HF2.out]; rfl, HBN5.out⟩
            · have b2 : ¬ (k : Int) < 4 := by omega
              have HD : Hid ((daysL c).all dayB = true) := Lib.hid (by
                have : (daysL c).take k = daysL c := List.take_of_length_le (by show 4 ≤ k; omega)
                rw [← this]; exact HK.out)
              by_cases h64 : c.needs.length ≤ 64
              · have b3 : (c.needs.length : Int) ≤ 64 := by omega
                have HE3 : Hid (r = !(c.needs.any fun y => !needB y)) := Lib.hid (by rw [HE2.out, HD.out, decide_eq_true h64, any_all]; simp)
                have HX := Lib.hid (HCf.out h64 _ HB5.out)
                clear HCf HE2
                generalize (c.needs.any fun y => !needB y) = ba at *
                generalize c.needs.length = nl at *
                go_wp2_with (first
                  | (go_at_call 73; refine HX.out.mono ?_; rintro e w6 ⟨rfl, hb6⟩; have HB6 := Lib.hid (HB5.out.trans (hb6.mono (by have := HB5.out.size; omega))); clear hb6)
                  | fail)
                go_ret
                exact ⟨by rw [HE3.out]; first | rfl | simp, (H18.out _ HB6.out).1.out⟩
              · have b3 : ¬ (c.needs.length : Int) ≤ 64 := by omega
                have HE3 : Hid (r = false) := Lib.hid (by rw [HE2.out, decide_eq_false h64]; simp)
                clear HCf HE2
                generalize c.needs.length = nl at *
                go_wp2
                go_ret
                exact ⟨by rw [HE3.out]; rfl, HBN5.out⟩
      · have HE2 : Hid (r = false) := Lib.hid (by rw [HE.out, HN6.out, Bool.eq_false_iff.2 hm]; rfl)
        have hmid : ¬ ((c.con.toList = [] ∨ nmB c.con = true) ∧ codeB c.cur = true ∧ (1 ≤ c.amt ∧ c.amt ≤ 1099511627776) ∧ decide (0 ≤ c.abo ∧ c.abo ≤ 1000) = true ∧ decide (0 ≤ c.bel ∧ c.bel ≤ 1000) = true) := fun h => hm (by
          obtain ⟨h1, h2, h3, h4, h5⟩ := h
          unfold midB
          rw [h2, h4, h5, decide_eq_true h3.1, decide_eq_true h3.2]
          rcases h1 with h1 | h1
          · have := emp_eq c.con
            rw [h1] at this
            rw [← this]; rfl
          · rw [h1]; simp)
        have Hmid := Lib.hid hmid
        clear hm hmid HE HCf c11 c12 c13 c14 c17
        have HA0 : Hid (∀ W : World, Calls Tryz.prog 90 #[.int .i64 c.abo, .int .i64 0, .int .i64 1000] W fun e w' => e = .returned (.bool (decide (0 ≤ c.abo ∧ c.abo ≤ 1000))) ∧ W = w') := Lib.hid (HBt.out c.abo 0 1000)
        have HA1 : Hid (∀ W : World, Calls Tryz.prog 90 #[.int .i64 c.bel, .int .i64 0, .int .i64 1000] W fun e w' => e = .returned (.bool (decide (0 ≤ c.bel ∧ c.bel ≤ 1000))) ∧ W = w') := Lib.hid (HBt.out c.bel 0 1000)
        clear HBt
        generalize decide (0 ≤ c.abo ∧ c.abo ≤ 1000) = ba at *
        generalize decide (0 ≤ c.bel ∧ c.bel ≤ 1000) = bb at *
        generalize nmB c.con = bn at *
        generalize codeB c.cur = bc at *
        have tok2 : True := trivial
        go_wp2_with (first
          | (go_at_call 88; refine (HCon.out _ HBw.out).mono ?_; rintro e w3 ⟨rfl, hb3⟩; have HB3 := Lib.hid (HBw.out.trans (hb3.mono (by omega))); obtain ⟨HBN3, k0, k1, k2, k3, k4, k5, k6, k7, k8, k9, k10, k11, k12, k13, k14, k15, k16, k17⟩ := H18.out w3 HB3.out; clear hb3 k0 k1 k2 k3 k5 k6 k11 k12 k13 k14 k15 k16 k17)
          | (go_at_call 89; refine (HCo.out _ (by first | exact HB3.out | exact HBw.out)).mono ?_; rintro e w4 ⟨rfl, hb4⟩; have HB4 := Lib.hid (show Below (w.heap.size + 1) w1 w4 from by first | exact HB3.out.trans (hb4.mono (by have := HB3.out.size; omega)) | exact HBw.out.trans (hb4.mono (by omega))); obtain ⟨HBN4, j0, j1, j2, j3, j4, j5, j6, j7, j8, j9, j10, j11, j12, j13, j14, j15, j16, j17⟩ := H18.out w4 HB4.out; clear hb4 j0 j1 j2 j3 j5 j6 j11 j12 j13 j14 j15 j16 j17)
          | (have _t := tok2; go_at_call 90; refine (HA0.out _).mono ?_; rintro e w5 ⟨rfl, rfl⟩; clear tok2 _t)
          | (go_at_call 90; refine (HA1.out _).mono ?_; rintro e w5 ⟨rfl, rfl⟩)
          | fail)
        all_goals first
          | (go_ret
             exact ⟨by rw [HE2.out]; rfl, by first | exact HBN4.out | exact HBN3.out | exact HBN.out⟩)
          | (exfalso
             refine Hmid.out ⟨?_, ?_, ?_, ?_, ?_⟩
             all_goals first
               | assumption
               | exact .inl (by assumption)
               | (constructor <;> omega)
               | (rw [← Bool.not_eq_false']; assumption)
               | exact .inr (by first | assumption | (rw [← Bool.not_eq_false']; assumption)))
end Go.Proofs.YtbkffdfboloogaaGreatDoor
