/- The law SenseOrders. -/
import Derived.Test.YtehjkgfdfihfmaaDoorSOrdL
import Derived.Deep.RegionWith
namespace Go.Proofs.YtehjkgfdfihfmaaDoor
open Go.RowKit Go.Maps Go.Lib
set_option linter.unusedVariables false
set_option maxRecDepth 100000

noncomputable def clB (x : Rl) : Bool := @decide (ClashR x) (Classical.propDecidable _)
theorem clB_spec (x : Rl) : clB x = true ↔ ClashR x := @decide_eq_true_iff _ (Classical.propDecidable _)
theorem clB_iff {x : Rl} {r : Bool} (h : r = true ↔ ClashR x) : r = clB x := by
  rw [Bool.eq_iff_iff]
  exact h.trans (clB_spec x).symm
theorem clB_turn (x : Rl) : clB (turnR x) = clB x := clB_iff ((clB_spec (turnR x)).trans (clash_turn x))
/-- turned, and what of it clashes -/
theorem turn_clash (x : Rl) (hf : ∀ a ∈ atomsR x, Fits a) (hn : nsz x ≤ 30) (A : Option Addr) (c B : Nat) (w : World) (hN : NL w B A x.l) (hB : B ≤ w.heap.size) (hG : Gl w) :
    Calls Tryd.prog 8 #[.agg #[.int .i64 x.k, .int .i64 x.p, .string x.f, .string x.t, .int .i64 x.n, .slice A x.l.length c]] w fun e w' => ∃ A' l' c', e = .returned (.agg #[.int .i64 x.k, .int .i64 x.p, .string x.f, .string x.t, .int .i64 x.n, .slice A' l' c']) ∧
      Hid (∀ W', Below w'.heap.size w' W' → Calls Tryd.prog 7 #[.agg #[.int .i64 x.k, .int .i64 x.p, .string x.f, .string x.t, .int .i64 x.n, .slice A' l' c']] W' fun e w'' => e = .returned (.bool (clB x)) ∧ Below W'.heap.size W' w'') ∧ Below w.heap.size w w' := by
  refine (turned_any x A c w B hN hB (by omega)).mono ?_
  rintro e w' ⟨A', c', rfl, hns, hb⟩
  refine ⟨A', _, c', rfl, Lib.hid fun W' hW => ?_, hb⟩
  have hNL : NL w' w'.heap.size A' (turnL x.l) := hns.nl fun q h => h.2
  have hnk := hNL.kept hW
  rw [← turn_l x] at hnk
  have h := clash_any (turnR x) A' c' w'.heap.size W' hnk hW.size (hG.below (hb.trans (hW.mono hb.size))) (by rw [nsz_turn]; omega) (fits_turn hf)
  rw [turn_k, turn_p, turn_f, turn_t, turn_n, turn_l] at h
  refine h.mono ?_
  rintro e w'' ⟨r, rfl, hr, hb2⟩
  exact ⟨by rw [clB_iff hr, clB_turn], hb2⟩
theorem clash_fix (x : Rl) (hf : ∀ a ∈ atomsR x, Fits a) (hn : nsz x ≤ 30) (A : Option Addr) (c B : Nat) (w : World) (hN : NL w B A x.l) (hB : B ≤ w.heap.size) (hG : Gl w) :
    Calls Tryd.prog 7 #[.agg #[.int .i64 x.k, .int .i64 x.p, .string x.f, .string x.t, .int .i64 x.n, .slice A x.l.length c]] w fun e w' => e = .returned (.bool (clB x)) ∧ Below w.heap.size w w' := by
  refine (clash_any x A c B w hN hB hG (by omega) (fits_cases hf)).mono ?_
  rintro e w' ⟨r, rfl, hr, hb⟩
  exact ⟨by rw [clB_iff hr], hb⟩
set_option maxHeartbeats 4000000 in
theorem ordersLaw_any (x : Rl) (hg : Good x) (A : Option Addr) (c : Nat) (w : World) (hN : NL w w.heap.size A x.l) (hG : Gl w) :
    Calls Tryd.prog 3 #[.agg #[.int .i64 x.k, .int .i64 x.p, .string x.f, .string x.t, .int .i64 x.n, .slice A x.l.length c]] w fun e w' => e = .returned (.bool true) ∧ Below w.heap.size w w' := by
  have hga := hg.atoms _ x (Nat.le_refl _)
  have hb1 : Below w.heap.size w (w.alloc (.cells #[.int .i64 x.k, .int .i64 x.p, .string x.f, .string x.t, .int .i64 x.n, .slice A x.l.length c] 24)) := (Below.refl _ _).alloc (Nat.le_refl _) _
  have hs1 : (w.alloc (.cells #[.int .i64 x.k, .int .i64 x.p, .string x.f, .string x.t, .int .i64 x.n, .slice A x.l.length c] 24)).heap.size = w.heap.size + 1 := by simp
  have h6 : C6 (w.alloc (.cells #[.int .i64 x.k, .int .i64 x.p, .string x.f, .string x.t, .int .i64 x.n, .slice A x.l.length c] 24)) w.heap.size 0 x A c := ⟨by simp, by simp, by simp, by simp, by simp, by simp⟩
  have HW := Lib.hid (wide_any x hg A c w.heap.size (w.alloc (.cells #[.int .i64 x.k, .int .i64 x.p, .string x.f, .string x.t, .int .i64 x.n, .slice A x.l.length c] 24)) (hN.kept hb1) (by omega) (fun a ha => (hga a ha).2))
  have H6 : Hid (∀ W : World, Below (w.heap.size + 1) (w.alloc (.cells #[.int .i64 x.k, .int .i64 x.p, .string x.f, .string x.t, .int .i64 x.n, .slice A x.l.length c] 24)) W → W.cell? ⟨w.heap.size, 0, none⟩ = some (.int .i64 x.k) ∧ W.cell? ⟨w.heap.size, 1, none⟩ = some (.int .i64 x.p) ∧ W.cell? ⟨w.heap.size, 2, none⟩ = some (.string x.f) ∧ W.cell? ⟨w.heap.size, 3, none⟩ = some (.string x.t) ∧ W.cell? ⟨w.heap.size, 4, none⟩ = some (.int .i64 x.n) ∧ W.cell? ⟨w.heap.size, 5, none⟩ = some (.slice A x.l.length c)) := Lib.hid (by
    intro W hb
    have k := h6.keep (w' := W) fun p hp => hb.cell (by rw [hp]; omega)
    exact ⟨k.c0, k.c1, k.c2, k.c3, k.c4, k.c5⟩)
  have hF : Narrow x → ∀ a ∈ atomsR x, Fits a := fun hn a ha => by
    have h1 := (hga a ha).1
    have h2 : a.f.size + a.t.size ≤ 100 := hn.atoms a ha
    exact ⟨by omega, by omega, h1.1, h1.2⟩
  have HC : Hid (Narrow x → ∀ W : World, Below w.heap.size w W → Calls Tryd.prog 7 #[.agg #[.int .i64 x.k, .int .i64 x.p, .string x.f, .string x.t, .int .i64 x.n, .slice A x.l.length c]] W fun e w' => e = .returned (.bool (clB x)) ∧ Below W.heap.size W w') := Lib.hid (fun hn W hb => clash_fix x (hF hn) hn.size A c w.heap.size W (hN.kept hb) hb.size (hG.below hb))
  have HT : Hid (Narrow x → ∀ W : World, Below w.heap.size w W → Calls Tryd.prog 8 #[.agg #[.int .i64 x.k, .int .i64 x.p, .string x.f, .string x.t, .int .i64 x.n, .slice A x.l.length c]] W fun e w' => ∃ A' l' c', e = .returned (.agg #[.int .i64 x.k, .int .i64 x.p, .string x.f, .string x.t, .int .i64 x.n, .slice A' l' c']) ∧
      Hid (∀ W', Below w'.heap.size w' W' → Calls Tryd.prog 7 #[.agg #[.int .i64 x.k, .int .i64 x.p, .string x.f, .string x.t, .int .i64 x.n, .slice A' l' c']] W' fun e w'' => e = .returned (.bool (clB x)) ∧ Below W'.heap.size W' w'') ∧ Below W.heap.size W w') := Lib.hid (fun hn W hb => turn_clash x (hF hn) hn.size A c w.heap.size W (hN.kept hb) hb.size (hG.below hb))
  have HAw : Hid (∀ W : World, Below w.heap.size w W → Calls Tryd.prog 6 #[] W fun e w' => e = .returned (.bool true) ∧ Below W.heap.size W w') := Lib.hid (fun W hb => awake_any W (hG.below hb))
  have HB1 := Lib.hid hb1
  clear hga hb1 h6 hF hN hG hg
  generalize Narrow x = NX at *
  generalize clB x = cb at *
  generalize x.l.length = xl at *
  generalize x.k = xk at *
  generalize x.p = xp at *
  generalize x.f = xf at *
  generalize x.t = xt at *
  generalize x.n = xn at *
  obtain ⟨d0, d1, d2, d3, d4, d5⟩ := H6.out _ (Below.refl _ _)
  go_enter Tryd.func3, Tryd.ntmps3
  go_wp2_with fail
  clear d0 d1 d2 d3 d4 d5
  refine HW.out.mono ?_
  rintro e w2 ⟨r, rfl, hr, hb2⟩
  rw [hs1] at hb2
  have HB2 := Lib.hid (HB1.out.trans (hb2.mono (by omega)))
  have Hb2 := Lib.hid hb2
  have hz2 : w.heap.size + 1 ≤ w2.heap.size := by have := hb2.size; rw [hs1] at this; exact this
  clear hb2 HW
  cases r with
  | true =>
    clear HC HT H6
    go_wp2_with (first
      | (go_at_call 6; refine (HAw.out _ HB2.out).mono ?_; rintro e w3 ⟨rfl, hb3⟩; have HB3 := Lib.hid (HB2.out.trans (hb3.mono HB2.out.size)); clear hb3)
      | fail)
    go_ret
    exact ⟨rfl, HB3.out⟩
  | false =>
    have HC2 := Lib.hid (HC.out (hr rfl))
    have HT2 := Lib.hid (HT.out (hr rfl))
    clear HC HT hr
    obtain ⟨d0, d1, d2, d3, d4, d5⟩ := H6.out w2 Hb2.out
    go_wp2_with fail
    have tok1 : True := trivial
    go_region_with (first
      | (have _t := tok1; go_at_call 7; refine (HC2.out _ (by first | exact HB2.out | exact HB2.out.drew)).mono ?_; rintro e w3 ⟨rfl, hb3⟩; have hz3 : w2.heap.size ≤ w3.heap.size := hb3.size; have HB3 : Hid (Below w.heap.size w w3) := Lib.hid ((by first | exact HB2.out | exact HB2.out.drew : Below w.heap.size w _).trans (hb3.mono (by (show w.heap.size ≤ w2.heap.size); omega))); obtain ⟨k0, k1, k2, k3, k4, k5⟩ := H6.out w3 ((by first | exact Hb2.out | exact Hb2.out.drew : Below (w.heap.size + 1) _ _).trans (hb3.mono (by (show w.heap.size + 1 ≤ w2.heap.size); omega))); clear hb3 tok1 _t)
      | (go_at_call 8; refine (HT2.out _ HB3.out).mono ?_; rintro e w4 ⟨A4, l4, c4, rfl, HC4, hb4⟩; have hz4 : w3.heap.size ≤ w4.heap.size := hb4.size; have HB4 := Lib.hid (HB3.out.trans (hb4.mono (by omega))); clear hb4)
      | (go_at_call 7; refine (HC4.out _ (Below.refl _ _)).mono ?_; rintro e w5 ⟨rfl, hb5⟩; have hz5 : w4.heap.size ≤ w5.heap.size := hb5.size; have HB5 := Lib.hid (HB4.out.trans (hb5.mono (by omega))); clear hb5)
      | (go_at_call 6; refine (HAw.out _ HB5.out).mono ?_; rintro e w6 ⟨rfl, hb6⟩; have HB6 := Lib.hid (HB5.out.trans (hb6.mono (by omega))); clear hb6))
    all_goals
      go_wp2_with fail
      go_ret
      exact ⟨rfl, HB6.out⟩
end Go.Proofs.YtehjkgfdfihfmaaDoor
