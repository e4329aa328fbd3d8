/- The document's wrong. -/
import Derived.Test.YtbkffdfboloogaaGreatDoorMP
import Derived.Test.YtbkffdfboloogaaGreatDoorFNode
import Derived.BigQuiet
import Derived.Deep.RegionWith
namespace Go.Proofs.YtbkffdfboloogaaGreatDoor
open Go.RowKit Go.Maps Go.Lib
set_option linter.unusedVariables false
set_option maxRecDepth 100000

theorem below_drewQ {B : Nat} {w w' : World} (h : Below B w w') (n : Nat) : Below B w (w'.drewN n) := by
  exact ⟨h.os, h.tape, h.output, h.size, h.block⟩
theorem any_take (L : List Nd) (p : Nd → Bool) (k : Nat) (h : k < L.length) : (L.take (k + 1)).any p = ((L.take k).any p || p L[k]) := by
  rw [← List.take_append_getElem h, List.any_append]
  simp
set_option maxHeartbeats 8000000 in
theorem refWrong_any (c : Cr) (kd : Int) (a : Rl) (A A' : Option Addr) (cp c' B : Nat) (w : World) (hN : Ns w B A c.needs) (hB : B ≤ w.heap.size) (hl : c.needs.length ≤ 1000000) :
    Calls Tryz.prog 20 #[.agg (crA c A cp), .int .i64 kd, .agg (rlA a A' c')] w fun e w' => e = .returned (.int .i64 (wrongB c.needs kd a)) ∧ Below w.heap.size w w' := by
  have hb1 : Below w.heap.size w (w.alloc (.cells (crA c A cp) 26)) := (Below.refl _ _).alloc (Nat.le_refl _) _
  have hs1 : (w.alloc (.cells (crA c A cp) 26)).heap.size = w.heap.size + 1 := by simp
  have k17 : (w.alloc (.cells (crA c A cp) 26)).cell? ⟨w.heap.size, 17, none⟩ = some (.slice A c.needs.length cp) := (C18.new w c A cp 26).c17
  unfold rlA
  have hb2 : Below w.heap.size w ((w.alloc (.cells (crA c A cp) 26)).alloc (.cells #[.int .i64 a.k, .int .i64 a.p, .string a.f, .string a.t, .int .i64 a.n, .slice A' a.l.length c'] 33)) := hb1.alloc (by omega) _
  have hs2 : ((w.alloc (.cells (crA c A cp) 26)).alloc (.cells #[.int .i64 a.k, .int .i64 a.p, .string a.f, .string a.t, .int .i64 a.n, .slice A' a.l.length c'] 33)).heap.size = w.heap.size + 2 := by simp
  have k17' : ((w.alloc (.cells (crA c A cp) 26)).alloc (.cells #[.int .i64 a.k, .int .i64 a.p, .string a.f, .string a.t, .int .i64 a.n, .slice A' a.l.length c'] 33)).cell? ⟨w.heap.size, 17, none⟩ = some (.slice A c.needs.length cp) := Lib.cell?_alloc_some _ k17
  have h6 : C6 ((w.alloc (.cells (crA c A cp) 26)).alloc (.cells #[.int .i64 a.k, .int .i64 a.p, .string a.f, .string a.t, .int .i64 a.n, .slice A' a.l.length c'] 33)) (w.heap.size + 1) 0 a A' c' := by
    have e : w.heap.size + 1 = (w.alloc (.cells (crA c A cp) 26)).heap.size := by simp
    rw [e]
    exact ⟨by simp, by simp, by simp, by simp, by simp, by simp⟩
  have HE : Hid (wrongB c.needs kd a = wr (inL (fieldsL kd) a.f) a.k (typeB a.f) (valB a.t (typeB a.f)).2 (c.needs.any fun x => decide (x.k = a.p)) (inL (fieldsL a.p) a.t) (typeB a.t)) := Lib.hid rfl
  have HF : Hid (∀ W : World, Below (w.heap.size + 2) ((w.alloc (.cells (crA c A cp) 26)).alloc (.cells #[.int .i64 a.k, .int .i64 a.p, .string a.f, .string a.t, .int .i64 a.n, .slice A' a.l.length c'] 33)) W → W.cell? ⟨w.heap.size, 17, none⟩ = some (.slice A c.needs.length cp) ∧ W.cell? ⟨w.heap.size + 1, 0, none⟩ = some (.int .i64 a.k) ∧ W.cell? ⟨w.heap.size + 1, 1, none⟩ = some (.int .i64 a.p) ∧ W.cell? ⟨w.heap.size + 1, 2, none⟩ = some (.string a.f) ∧ W.cell? ⟨w.heap.size + 1, 3, none⟩ = some (.string a.t)) := Lib.hid (fun W hb => ⟨(hb.cell (p := ⟨w.heap.size, 17, none⟩) (by show w.heap.size < _; omega)).trans k17', (hb.cell (p := ⟨w.heap.size + 1, 0, none⟩) (by show w.heap.size + 1 < _; omega)).trans h6.c0, (hb.cell (p := ⟨w.heap.size + 1, 1, none⟩) (by show w.heap.size + 1 < _; omega)).trans h6.c1, (hb.cell (p := ⟨w.heap.size + 1, 2, none⟩) (by show w.heap.size + 1 < _; omega)).trans h6.c2, (hb.cell (p := ⟨w.heap.size + 1, 3, none⟩) (by show w.heap.size + 1 < _; omega)).trans h6.c3⟩)
  have HBN : Hid (∀ W : World, Below (w.heap.size + 2) ((w.alloc (.cells (crA c A cp) 26)).alloc (.cells #[.int .i64 a.k, .int .i64 a.p, .string a.f, .string a.t, .int .i64 a.n, .slice A' a.l.length c'] 33)) W → Below w.heap.size w W) := Lib.hid (fun W hb => hb2.trans (hb.mono (by omega)))
  have HFi : Hid (∀ W : World, Calls Tryz.prog 49 #[.int .i64 kd] W fun e w' => ∃ A3 c3, e = .returned (.slice A3 (fieldsL kd).length c3) ∧ Rs w' w'.heap.size A3 (fieldsL kd) ∧ Below W.heap.size W w') := Lib.hid (fun W => refFields_any kd W)
  have HIn : Hid (∀ (A3 : Option Addr) (c3 : Nat) (W : World), Rs W W.heap.size A3 (fieldsL kd) → Calls Tryz.prog 48 #[.slice A3 (fieldsL kd).length c3, .string a.f] W fun e w' => e = .returned (.bool (inL (fieldsL kd) a.f)) ∧ W = w') := Lib.hid (fun A3 c3 W hR => (in_any A3 c3 _ a.f W hR (by have := fieldsL_len kd; omega)).mono fun e w' h => ⟨h.1, h.2.symm⟩)
  have HFi2 : Hid (∀ W : World, Calls Tryz.prog 49 #[.int .i64 a.p] W fun e w' => ∃ A3 c3, e = .returned (.slice A3 (fieldsL a.p).length c3) ∧ Rs w' w'.heap.size A3 (fieldsL a.p) ∧ Below W.heap.size W w') := Lib.hid (fun W => refFields_any a.p W)
  have HIn2 : Hid (∀ (A3 : Option Addr) (c3 : Nat) (W : World), Rs W W.heap.size A3 (fieldsL a.p) → Calls Tryz.prog 48 #[.slice A3 (fieldsL a.p).length c3, .string a.t] W fun e w' => e = .returned (.bool (inL (fieldsL a.p) a.t)) ∧ W = w') := Lib.hid (fun A3 c3 W hR => (in_any A3 c3 _ a.t W hR (by have := fieldsL_len a.p; omega)).mono fun e w' h => ⟨h.1, h.2.symm⟩)
  have HTy : Hid (∀ W : World, Calls Tryz.prog 50 #[.string a.f] W fun e w' => e = .returned (.int .i64 (typeB a.f)) ∧ Below W.heap.size W w') := Lib.hid (fun W => refType_any a.f W)
  have HVal : Hid (∀ W : World, Calls Tryz.prog 51 #[.string a.t, .int .i64 (typeB a.f)] W fun e w' => e = .returned (.tuple #[.int .i64 (valB a.t (typeB a.f)).1, .bool (valB a.t (typeB a.f)).2]) ∧ Below W.heap.size W w') := Lib.hid (fun W => refValue_any a.t (typeB a.f) W)
  have HNs : Hid (∀ W : World, Below (w.heap.size + 2) ((w.alloc (.cells (crA c A cp) 26)).alloc (.cells #[.int .i64 a.k, .int .i64 a.p, .string a.f, .string a.t, .int .i64 a.n, .slice A' a.l.length c'] 33)) W → Ns W B A c.needs) := Lib.hid (fun W hb => hN.kept ((HBN.out W hb).mono hB))
  have HTy2 : Hid (∀ W : World, Calls Tryz.prog 50 #[.string a.t] W fun e w' => e = .returned (.int .i64 (typeB a.t)) ∧ Below W.heap.size W w') := Lib.hid (fun W => refType_any a.t W)
  have HT0 : Hid (inL (fieldsL kd) a.f = true → 0 ≤ typeB a.f) := Lib.hid type_nonneg
  have hs2d : ((w.alloc (.cells (crA c A cp) 26)).alloc (.cells #[.int .i64 a.k, .int .i64 a.p, .string a.f, .string a.t, .int .i64 a.n, .slice A' a.l.length c'] 33)).drew.heap.size = w.heap.size + 2 := hs2
  have Hb2 := Lib.hid hb2
  clear hb1 hs1 k17 k17' h6 hN hb2
  generalize wrongB c.needs kd a = wB at *
  generalize inL (fieldsL kd) a.f = h1 at *
  generalize (valB a.t (typeB a.f)).1 = vv at *
  generalize (valB a.t (typeB a.f)).2 = ok at *
  have HAn : Hid (∃ b : Bool, b = c.needs.any fun x => decide (x.k = a.p)) := Lib.hid ⟨_, rfl⟩
  obtain ⟨an', han⟩ := HAn.out
  rw [← han] at HE
  have HAn' := Lib.hid han
  clear HAn han
  generalize inL (fieldsL a.p) a.t = h2 at *
  generalize typeB a.f = t at *
  generalize typeB a.t = t2 at *
  generalize fieldsL kd = L1 at *
  generalize fieldsL a.p = L2 at *
  generalize c.needs = L at *
  generalize a.l.length = al at *
  generalize a.k = ak at *
  generalize a.p = ap at *
  generalize a.f = af at *
  generalize a.t = ax at *
  generalize a.n = an at *
  obtain ⟨d17, d0, d1, d2, d3⟩ := HF.out _ (Below.refl _ _)
  cases h1 with
  | false =>
    clear HTy HVal HFi2 HIn2 HTy2 HT0 HNs
    go_enter Tryz.func20, Tryz.ntmps20
    go_wp2_with fail
    go_region_with (first
      | (go_at_call 49; with_reducible refine (HFi.out _).mono ?_; rintro e w3 ⟨A3, c3, rfl, hR3, hb3⟩; have HR3 := Lib.hid hR3; rw [hs2d] at hb3; have HB3 := Lib.hid ((Below.refl _ _).drew.trans hb3); have hz3 : w.heap.size + 2 ≤ w3.heap.size := (by have := HB3.out.size; omega); clear d17 d0 d1 d2 d3; obtain ⟨d17, d0, d1, d2, d3⟩ := HF.out w3 HB3.out; clear hb3 hR3 HFi)
      | (go_at_call 48; with_reducible refine (HIn.out _ _ _ HR3.out).mono ?_; rintro e w3' ⟨rfl, rfl⟩; clear HIn))
    all_goals
      go_wp2_with fail
      go_ret
      exact ⟨by rw [HE.out, wr_no] <;> rfl, HBN.out _ HB3.out⟩
  | true =>
    have t0 := HT0.out rfl
    clear HT0
    by_cases k5 : ak = 5
    · subst k5
      clear HVal HFi2 HIn2 HTy2 HNs
      by_cases q : t = 0
      · have hq := wr_56 (k := 5) (ok := ok) (an := an') (h2 := h2) (t2 := t2) (.inl rfl) q
        subst q
        clear t0
        go_enter Tryz.func20, Tryz.ntmps20
        go_wp2_with fail
        go_region_with (first
          | (go_at_call 49; with_reducible refine (HFi.out _).mono ?_; rintro e w3 ⟨A3, c3, rfl, hR3, hb3⟩; have HR3 := Lib.hid hR3; rw [hs2d] at hb3; have HB3 := Lib.hid ((Below.refl _ _).drew.trans hb3); have hz3 : w.heap.size + 2 ≤ w3.heap.size := (by have := HB3.out.size; omega); clear d17 d0 d1 d2 d3; obtain ⟨d17, d0, d1, d2, d3⟩ := HF.out w3 HB3.out; clear hb3 hR3 HFi)
          | (go_at_call 48; with_reducible refine (HIn.out _ _ _ HR3.out).mono ?_; rintro e w3' ⟨rfl, rfl⟩; clear HIn))
        all_goals
          go_wp2_with (first
            | (go_at_call 50; with_reducible refine (HTy.out _).mono ?_; rintro e w4 ⟨rfl, hb4⟩; have HB4 := Lib.hid (HB3.out.trans (hb4.mono hz3)); have hz4 : w.heap.size + 2 ≤ w4.heap.size := (by have := HB4.out.size; omega); clear d17 d0 d1 d2 d3; obtain ⟨d17, d0, d1, d2, d3⟩ := HF.out w4 HB4.out; clear hb4 HTy)
            | fail)
          go_ret
          exact ⟨by rw [HE.out, hq] <;> rfl, HBN.out _ HB4.out⟩
      · have hq := wr_56n (k := 5) (ok := ok) (an := an') (h2 := h2) (t2 := t2) (.inl rfl) q
        have q' : (t == 0) = false := beq_false_of_ne q
        clear q t0
        go_enter Tryz.func20, Tryz.ntmps20
        go_wp2_with fail
        go_region_with (first
          | (go_at_call 49; with_reducible refine (HFi.out _).mono ?_; rintro e w3 ⟨A3, c3, rfl, hR3, hb3⟩; have HR3 := Lib.hid hR3; rw [hs2d] at hb3; have HB3 := Lib.hid ((Below.refl _ _).drew.trans hb3); have hz3 : w.heap.size + 2 ≤ w3.heap.size := (by have := HB3.out.size; omega); clear d17 d0 d1 d2 d3; obtain ⟨d17, d0, d1, d2, d3⟩ := HF.out w3 HB3.out; clear hb3 hR3 HFi)
          | (go_at_call 48; with_reducible refine (HIn.out _ _ _ HR3.out).mono ?_; rintro e w3' ⟨rfl, rfl⟩; clear HIn))
        all_goals
          go_wp2_with (first
            | (go_at_call 50; with_reducible refine (HTy.out _).mono ?_; rintro e w4 ⟨rfl, hb4⟩; have HB4 := Lib.hid (HB3.out.trans (hb4.mono hz3)); have hz4 : w.heap.size + 2 ≤ w4.heap.size := (by have := HB4.out.size; omega); clear d17 d0 d1 d2 d3; obtain ⟨d17, d0, d1, d2, d3⟩ := HF.out w4 HB4.out; clear hb4 HTy)
            | fail)
          go_ret
          exact ⟨by rw [HE.out, hq] <;> rfl, HBN.out _ HB4.out⟩
    by_cases k6 : ak = 6
    · subst k6
      clear HVal HFi2 HIn2 HTy2 HNs
      by_cases q : t = 0
      · have hq := wr_56 (k := 6) (ok := ok) (an := an') (h2 := h2) (t2 := t2) (.inr rfl) q
        subst q
        clear t0
        go_enter Tryz.func20, Tryz.ntmps20
        go_wp2_with fail
        go_region_with (first
          | (go_at_call 49; with_reducible refine (HFi.out _).mono ?_; rintro e w3 ⟨A3, c3, rfl, hR3, hb3⟩; have HR3 := Lib.hid hR3; rw [hs2d] at hb3; have HB3 := Lib.hid ((Below.refl _ _).drew.trans hb3); have hz3 : w.heap.size + 2 ≤ w3.heap.size := (by have := HB3.out.size; omega); clear d17 d0 d1 d2 d3; obtain ⟨d17, d0, d1, d2, d3⟩ := HF.out w3 HB3.out; clear hb3 hR3 HFi)
          | (go_at_call 48; with_reducible refine (HIn.out _ _ _ HR3.out).mono ?_; rintro e w3' ⟨rfl, rfl⟩; clear HIn))
        all_goals
          go_wp2_with (first
            | (go_at_call 50; with_reducible refine (HTy.out _).mono ?_; rintro e w4 ⟨rfl, hb4⟩; have HB4 := Lib.hid (HB3.out.trans (hb4.mono hz3)); have hz4 : w.heap.size + 2 ≤ w4.heap.size := (by have := HB4.out.size; omega); clear d17 d0 d1 d2 d3; obtain ⟨d17, d0, d1, d2, d3⟩ := HF.out w4 HB4.out; clear hb4 HTy)
            | fail)
          go_ret
          exact ⟨by rw [HE.out, hq] <;> rfl, HBN.out _ HB4.out⟩
      · have hq := wr_56n (k := 6) (ok := ok) (an := an') (h2 := h2) (t2 := t2) (.inr rfl) q
        have q' : (t == 0) = false := beq_false_of_ne q
        clear q t0
        go_enter Tryz.func20, Tryz.ntmps20
        go_wp2_with fail
        go_region_with (first
          | (go_at_call 49; with_reducible refine (HFi.out _).mono ?_; rintro e w3 ⟨A3, c3, rfl, hR3, hb3⟩; have HR3 := Lib.hid hR3; rw [hs2d] at hb3; have HB3 := Lib.hid ((Below.refl _ _).drew.trans hb3); have hz3 : w.heap.size + 2 ≤ w3.heap.size := (by have := HB3.out.size; omega); clear d17 d0 d1 d2 d3; obtain ⟨d17, d0, d1, d2, d3⟩ := HF.out w3 HB3.out; clear hb3 hR3 HFi)
          | (go_at_call 48; with_reducible refine (HIn.out _ _ _ HR3.out).mono ?_; rintro e w3' ⟨rfl, rfl⟩; clear HIn))
        all_goals
          go_wp2_with (first
            | (go_at_call 50; with_reducible refine (HTy.out _).mono ?_; rintro e w4 ⟨rfl, hb4⟩; have HB4 := Lib.hid (HB3.out.trans (hb4.mono hz3)); have hz4 : w.heap.size + 2 ≤ w4.heap.size := (by have := HB4.out.size; omega); clear d17 d0 d1 d2 d3; obtain ⟨d17, d0, d1, d2, d3⟩ := HF.out w4 HB4.out; clear hb4 HTy)
            | fail)
          go_ret
          exact ⟨by rw [HE.out, hq] <;> rfl, HBN.out _ HB4.out⟩
    by_cases k3 : ak = 3
    · subst k3
      clear HFi2 HIn2 HTy2 HNs
      by_cases q : t = 0
      · subst q
        clear t0 HVal
        go_enter Tryz.func20, Tryz.ntmps20
        go_wp2_with fail
        go_region_with (first
          | (go_at_call 49; with_reducible refine (HFi.out _).mono ?_; rintro e w3 ⟨A3, c3, rfl, hR3, hb3⟩; have HR3 := Lib.hid hR3; rw [hs2d] at hb3; have HB3 := Lib.hid ((Below.refl _ _).drew.trans hb3); have hz3 : w.heap.size + 2 ≤ w3.heap.size := (by have := HB3.out.size; omega); clear d17 d0 d1 d2 d3; obtain ⟨d17, d0, d1, d2, d3⟩ := HF.out w3 HB3.out; clear hb3 hR3 HFi)
          | (go_at_call 48; with_reducible refine (HIn.out _ _ _ HR3.out).mono ?_; rintro e w3' ⟨rfl, rfl⟩; clear HIn))
        all_goals
          go_wp2_with (first
            | (go_at_call 50; with_reducible refine (HTy.out _).mono ?_; rintro e w4 ⟨rfl, hb4⟩; have HB4 := Lib.hid (HB3.out.trans (hb4.mono hz3)); have hz4 : w.heap.size + 2 ≤ w4.heap.size := (by have := HB4.out.size; omega); clear d17 d0 d1 d2 d3; obtain ⟨d17, d0, d1, d2, d3⟩ := HF.out w4 HB4.out; clear hb4 HTy)
            | fail)
          go_ret
          exact ⟨by rw [HE.out, wr_3z] <;> rfl, HBN.out _ HB4.out⟩
      · have q' : (0 : Int) < t := by omega
        have q2 : (t == 0) = false := beq_false_of_ne q
        cases ok with
        | false =>
          have hq := wr_3 (an := an') (h2 := h2) (t2 := t2) q
          clear q t0
          go_enter Tryz.func20, Tryz.ntmps20
          go_wp2_with fail
          go_region_with (first
            | (go_at_call 49; with_reducible refine (HFi.out _).mono ?_; rintro e w3 ⟨A3, c3, rfl, hR3, hb3⟩; have HR3 := Lib.hid hR3; rw [hs2d] at hb3; have HB3 := Lib.hid ((Below.refl _ _).drew.trans hb3); have hz3 : w.heap.size + 2 ≤ w3.heap.size := (by have := HB3.out.size; omega); clear d17 d0 d1 d2 d3; obtain ⟨d17, d0, d1, d2, d3⟩ := HF.out w3 HB3.out; clear hb3 hR3 HFi)
            | (go_at_call 48; with_reducible refine (HIn.out _ _ _ HR3.out).mono ?_; rintro e w3' ⟨rfl, rfl⟩; clear HIn))
          all_goals
            go_wp2_with (first
              | (go_at_call 50; with_reducible refine (HTy.out _).mono ?_; rintro e w4 ⟨rfl, hb4⟩; have HB4 := Lib.hid (HB3.out.trans (hb4.mono hz3)); have hz4 : w.heap.size + 2 ≤ w4.heap.size := (by have := HB4.out.size; omega); clear d17 d0 d1 d2 d3; obtain ⟨d17, d0, d1, d2, d3⟩ := HF.out w4 HB4.out; clear hb4 HTy)
              | (go_at_call 51; with_reducible refine (HVal.out _).mono ?_; rintro e w5 ⟨rfl, hb5⟩; have HB5 := Lib.hid (HB4.out.trans (hb5.mono hz4)); have hz5 : w.heap.size + 2 ≤ w5.heap.size := (by have := HB5.out.size; omega); clear d17 d0 d1 d2 d3; obtain ⟨d17, d0, d1, d2, d3⟩ := HF.out w5 HB5.out; clear hb5 HVal)
              | fail)
            go_ret
            exact ⟨by rw [HE.out, hq] <;> rfl, HBN.out _ HB5.out⟩
        | true =>
          have hq := wr_3o (t := t) (an := an') (h2 := h2) (t2 := t2)
          clear q t0
          go_enter Tryz.func20, Tryz.ntmps20
          go_wp2_with fail
          go_region_with (first
            | (go_at_call 49; with_reducible refine (HFi.out _).mono ?_; rintro e w3 ⟨A3, c3, rfl, hR3, hb3⟩; have HR3 := Lib.hid hR3; rw [hs2d] at hb3; have HB3 := Lib.hid ((Below.refl _ _).drew.trans hb3); have hz3 : w.heap.size + 2 ≤ w3.heap.size := (by have := HB3.out.size; omega); clear d17 d0 d1 d2 d3; obtain ⟨d17, d0, d1, d2, d3⟩ := HF.out w3 HB3.out; clear hb3 hR3 HFi)
            | (go_at_call 48; with_reducible refine (HIn.out _ _ _ HR3.out).mono ?_; rintro e w3' ⟨rfl, rfl⟩; clear HIn))
          all_goals
            go_wp2_with (first
              | (go_at_call 50; with_reducible refine (HTy.out _).mono ?_; rintro e w4 ⟨rfl, hb4⟩; have HB4 := Lib.hid (HB3.out.trans (hb4.mono hz3)); have hz4 : w.heap.size + 2 ≤ w4.heap.size := (by have := HB4.out.size; omega); clear d17 d0 d1 d2 d3; obtain ⟨d17, d0, d1, d2, d3⟩ := HF.out w4 HB4.out; clear hb4 HTy)
              | (go_at_call 51; with_reducible refine (HVal.out _).mono ?_; rintro e w5 ⟨rfl, hb5⟩; have HB5 := Lib.hid (HB4.out.trans (hb5.mono hz4)); have hz5 : w.heap.size + 2 ≤ w5.heap.size := (by have := HB5.out.size; omega); clear d17 d0 d1 d2 d3; obtain ⟨d17, d0, d1, d2, d3⟩ := HF.out w5 HB5.out; clear hb5 HVal)
              | fail)
            go_ret
            exact ⟨by rw [HE.out, hq] <;> rfl, HBN.out _ HB5.out⟩
    by_cases k7 : ak = 7
    · subst k7
      clear HVal
      go_enter Tryz.func20, Tryz.ntmps20
      go_wp2_with fail
      go_region_with (first
        | (go_at_call 49; with_reducible refine (HFi.out _).mono ?_; rintro e w3 ⟨A3, c3, rfl, hR3, hb3⟩; have HR3 := Lib.hid hR3; rw [hs2d] at hb3; have HB3 := Lib.hid ((Below.refl _ _).drew.trans hb3); have hz3 : w.heap.size + 2 ≤ w3.heap.size := (by have := HB3.out.size; omega); clear d17 d0 d1 d2 d3; obtain ⟨d17, d0, d1, d2, d3⟩ := HF.out w3 HB3.out; clear hb3 hR3 HFi)
        | (go_at_call 48; with_reducible refine (HIn.out _ _ _ HR3.out).mono ?_; rintro e w3' ⟨rfl, rfl⟩; clear HIn))
      all_goals
        go_wp2_with (first
          | (go_at_call 50; with_reducible refine (HTy.out _).mono ?_; rintro e w4 ⟨rfl, hb4⟩; have HB4 := Lib.hid (HB3.out.trans (hb4.mono hz3)); have hz4 : w.heap.size + 2 ≤ w4.heap.size := (by have := HB4.out.size; omega); clear d17 d0 d1 d2 d3; obtain ⟨d17, d0, d1, d2, d3⟩ := HF.out w4 HB4.out; clear hb4 HTy)
          | fail)
        go_loopw [10, 11] (fun v i wr => ∃ k : Nat, k ≤ L.length ∧ i = .int .i64 (k : Int) ∧ v = .bool ((L.take k).any fun x => decide (x.k = ap)) ∧ Hid (Below (w.heap.size + 2) w4 wr)) (fun _ i _ => L.length - (RowKit.intOf i).toNat)
        case atStart => exact ⟨0, Nat.zero_le _, rfl, rfl, Lib.hid (Below.refl _ _)⟩
        case round =>
          obtain ⟨k, hk, rfl, rfl, HBr⟩ := hrel
          have HB5 := Lib.hid (HB4.out.trans HBr.out)
          have hz5 : w.heap.size + 2 ≤ wr.heap.size := by have := HB5.out.size; omega
          clear d17 d0 d1 d2 d3
          obtain ⟨d17, d0, d1, d2, d3⟩ := HF.out wr HB5.out
          by_cases hlt : k < L.length
          · have b1 : (k : Int) < (L.length : Int) := by omega
            have HT := Lib.hid (any_take L (fun x => decide (x.k = ap)) k hlt)
            obtain ⟨g, off, An, cn, rfl, hg, h8, _⟩ := (HNs.out wr HB5.out).at_ hlt
            obtain ⟨c0, _, _, _, _, _, _, _⟩ := h8
            cases hb : (L.take k).any fun x => decide (x.k = ap) with
            | true =>
              rw [hb] at HT
              clear hb
              go_wp2_with fail
              go_quiet (fail)
              go_wp2_with fail
              go_roundw
              case rel => exact ⟨k + 1, by omega, by go_num, by rw [HT.out]; rfl, by first | exact HBr | exact Lib.hid (below_drewQ HBr.out nq)⟩
              case measure => simp [RowKit.intOf]; omega
            | false =>
              rw [hb] at HT
              clear hb
              generalize L[k].k = yk at *
              by_cases he : yk = ap
              · have q : (yk == ap) = true := by rw [he]; exact beq_self_eq_true _
                have hd : decide (yk = ap) = true := decide_eq_true he
                clear he
                go_wp2_with fail
                go_quiet (fail)
                go_wp2_with fail
                go_roundw
                case rel => exact ⟨k + 1, by omega, by go_num, by rw [HT.out, hd]; rfl, by first | exact HBr | exact Lib.hid (below_drewQ HBr.out nq)⟩
                case measure => simp [RowKit.intOf]; omega
              · have q : (yk == ap) = false := beq_false_of_ne he
                have hd : decide (yk = ap) = false := decide_eq_false he
                clear he
                go_wp2_with fail
                go_quiet (fail)
                go_wp2_with fail
                go_roundw
                case rel => exact ⟨k + 1, by omega, by go_num, by rw [HT.out, hd]; rfl, by first | exact HBr | exact Lib.hid (below_drewQ HBr.out nq)⟩
                case measure => simp [RowKit.intOf]; omega
          · have b1 : ¬ (k : Int) < (L.length : Int) := by omega
            have hK : L.take k = L := List.take_of_length_le (by omega)
            rw [hK]
            rw [← HAn'.out]
            clear HBr
            cases an' with
            | false =>
              have hq := wr_7a (t := t) (ok := ok) (h2 := h2) (t2 := t2)
              go_wp2_with fail
              go_quiet (fail)
              go_wp2_with fail
              go_ret
              exact ⟨by rw [HE.out, hq] <;> rfl, HBN.out _ (by first | exact HB5.out | exact below_drewQ HB5.out nq)⟩
            | true =>
              cases h2 with
              | false =>
                have hq := wr_7h (t := t) (ok := ok) (an := true) (t2 := t2)
                go_wp2_with fail
                go_region_with (first
                  | (go_at_call 49; with_reducible refine (HFi2.out _).mono ?_; rintro e w6 ⟨A6, c6, rfl, hR6, hb6⟩; have HR6 := Lib.hid hR6; have HB6 : Hid (Below (w.heap.size + 2) _ w6) := Lib.hid (HB5.out.drew.trans (hb6.mono (by rw [World.size_drew]; exact hz5))); have hz6 : w.heap.size + 2 ≤ w6.heap.size := (by have := HB6.out.size; omega); clear d17 d0 d1 d2 d3; obtain ⟨d17, d0, d1, d2, d3⟩ := HF.out w6 HB6.out; clear hb6 hR6 HFi2)
                  | (go_at_call 48; with_reducible refine (HIn2.out _ _ _ HR6.out).mono ?_; rintro e w6' ⟨rfl, rfl⟩; clear HIn2))
                all_goals
                  go_wp2_with fail
                  go_ret
                  exact ⟨by rw [HE.out, hq] <;> rfl, HBN.out _ HB6.out⟩
              | true =>
                by_cases qe : t2 = t
                · subst qe
                  have hq := wr_7e (t := t2) (ok := ok)
                  go_wp2_with fail
                  go_region_with (first
                    | (go_at_call 49; with_reducible refine (HFi2.out _).mono ?_; rintro e w6 ⟨A6, c6, rfl, hR6, hb6⟩; have HR6 := Lib.hid hR6; have HB6 : Hid (Below (w.heap.size + 2) _ w6) := Lib.hid (HB5.out.drew.trans (hb6.mono (by rw [World.size_drew]; exact hz5))); have hz6 : w.heap.size + 2 ≤ w6.heap.size := (by have := HB6.out.size; omega); clear d17 d0 d1 d2 d3; obtain ⟨d17, d0, d1, d2, d3⟩ := HF.out w6 HB6.out; clear hb6 hR6 HFi2)
                    | (go_at_call 48; with_reducible refine (HIn2.out _ _ _ HR6.out).mono ?_; rintro e w6' ⟨rfl, rfl⟩; clear HIn2))
                  all_goals
                    go_wp2_with (first
                      | (go_at_call 50; with_reducible refine (HTy2.out _).mono ?_; rintro e w7 ⟨rfl, hb7⟩; have HB7 := Lib.hid (HB6.out.trans (hb7.mono hz6)); have hz7 : w.heap.size + 2 ≤ w7.heap.size := (by have := HB7.out.size; omega); clear d17 d0 d1 d2 d3; obtain ⟨d17, d0, d1, d2, d3⟩ := HF.out w7 HB7.out; clear hb7 HTy2)
                      | fail)
                    go_ret
                    exact ⟨by rw [HE.out, hq] <;> rfl, HBN.out _ HB7.out⟩
                · have hq := wr_7 (ok := ok) qe
                  have q' : (t2 == t) = false := beq_false_of_ne qe
                  clear qe
                  go_wp2_with fail
                  go_region_with (first
                    | (go_at_call 49; with_reducible refine (HFi2.out _).mono ?_; rintro e w6 ⟨A6, c6, rfl, hR6, hb6⟩; have HR6 := Lib.hid hR6; have HB6 : Hid (Below (w.heap.size + 2) _ w6) := Lib.hid (HB5.out.drew.trans (hb6.mono (by rw [World.size_drew]; exact hz5))); have hz6 : w.heap.size + 2 ≤ w6.heap.size := (by have := HB6.out.size; omega); clear d17 d0 d1 d2 d3; obtain ⟨d17, d0, d1, d2, d3⟩ := HF.out w6 HB6.out; clear hb6 hR6 HFi2)
                    | (go_at_call 48; with_reducible refine (HIn2.out _ _ _ HR6.out).mono ?_; rintro e w6' ⟨rfl, rfl⟩; clear HIn2))
                  all_goals
                    go_wp2_with (first
                      | (go_at_call 50; with_reducible refine (HTy2.out _).mono ?_; rintro e w7 ⟨rfl, hb7⟩; have HB7 := Lib.hid (HB6.out.trans (hb7.mono hz6)); have hz7 : w.heap.size + 2 ≤ w7.heap.size := (by have := HB7.out.size; omega); clear d17 d0 d1 d2 d3; obtain ⟨d17, d0, d1, d2, d3⟩ := HF.out w7 HB7.out; clear hb7 HTy2)
                      | fail)
                    go_ret
                    exact ⟨by rw [HE.out, hq] <;> rfl, HBN.out _ HB7.out⟩
    have hq := wr_o (t := t) (ok := ok) (an := an') (h2 := h2) (t2 := t2) k5 k6 k3 k7
    have q5 : (ak == 5) = false := beq_false_of_ne k5
    have q6 : (ak == 6) = false := beq_false_of_ne k6
    have q3 : (ak == 3) = false := beq_false_of_ne k3
    have q7 : (ak == 7) = false := beq_false_of_ne k7
    clear k3 k5 k6 k7 HVal HFi2 HIn2 HTy2 HNs
    go_enter Tryz.func20, Tryz.ntmps20
    go_wp2_with fail
    go_region_with (first
      | (go_at_call 49; with_reducible refine (HFi.out _).mono ?_; rintro e w3 ⟨A3, c3, rfl, hR3, hb3⟩; have HR3 := Lib.hid hR3; rw [hs2d] at hb3; have HB3 := Lib.hid ((Below.refl _ _).drew.trans hb3); have hz3 : w.heap.size + 2 ≤ w3.heap.size := (by have := HB3.out.size; omega); clear d17 d0 d1 d2 d3; obtain ⟨d17, d0, d1, d2, d3⟩ := HF.out w3 HB3.out; clear hb3 hR3 HFi)
      | (go_at_call 48; with_reducible refine (HIn.out _ _ _ HR3.out).mono ?_; rintro e w3' ⟨rfl, rfl⟩; clear HIn))
    all_goals
      go_wp2_with (first
        | (go_at_call 50; with_reducible refine (HTy.out _).mono ?_; rintro e w4 ⟨rfl, hb4⟩; have HB4 := Lib.hid (HB3.out.trans (hb4.mono hz3)); have hz4 : w.heap.size + 2 ≤ w4.heap.size := (by have := HB4.out.size; omega); clear d17 d0 d1 d2 d3; obtain ⟨d17, d0, d1, d2, d3⟩ := HF.out w4 HB4.out; clear hb4 HTy)
        | fail)
      go_ret
      exact ⟨by rw [HE.out, hq] <;> rfl, HBN.out _ HB4.out⟩
end Go.Proofs.YtbkffdfboloogaaGreatDoor
