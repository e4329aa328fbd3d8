/- The document's against: its walk (printed by genfrefag.py). -/
import Derived.Test.YtbkffdfboloogaaGreatDoorMM
import Derived.Test.YtbkffdfboloogaaGreatDoorML
namespace Go.Proofs.YtbkffdfboloogaaGreatDoor
open Go.RowKit Go.Maps Go.Lib
set_option linter.unusedVariables false
set_option maxRecDepth 100000

theorem tl_ne (a b : ByteArray) : decide (a ≠ b) = (a.toList != b.toList) := by
  have h : a = b ↔ a.toList = b.toList := by
    rw [ByteArray.toList_eq, ByteArray.toList_eq]
    constructor
    · intro h; rw [h]
    · intro h
      cases a; cases b
      congr
      exact Array.ext' h
  by_cases e : a = b
  · subst e; simp
  · have : a.toList ≠ b.toList := fun h2 => e (h.2 h2)
    rw [decide_eq_true e]
    simp [this]
set_option maxHeartbeats 8000000 in
theorem refAgainst_any (a b : Rl) (va1 va5 vb1 vb5 : Value) (w : World) (hs : a.t.size ≤ 140737488351232) (ht : b.t.size ≤ 140737488351232) :
    Calls Tryz.prog 53 #[.agg #[.int .i64 a.k, va1, .string a.f, .string a.t, .int .i64 a.n, va5], .agg #[.int .i64 b.k, vb1, .string b.f, .string b.t, .int .i64 b.n, vb5]] w fun e w' => e = .returned (.bool (oddsB a b)) ∧ Below w.heap.size w w' := by
  have hb1 : Below w.heap.size w (w.alloc (.cells #[.int .i64 a.k, va1, .string a.f, .string a.t, .int .i64 a.n, va5] 33)) := (Below.refl _ _).alloc (Nat.le_refl _) _
  have hb2 : Below w.heap.size w ((w.alloc (.cells #[.int .i64 a.k, va1, .string a.f, .string a.t, .int .i64 a.n, va5] 33)).alloc (.cells #[.int .i64 b.k, vb1, .string b.f, .string b.t, .int .i64 b.n, vb5] 33)) := hb1.alloc (by simp) _
  have HE : Hid (oddsB a b = if a.f = b.f then
    if a.k = 5 ∧ b.k = 6 then decide (a.n < b.n)
    else if a.k = 3 then
      if b.k = 3 then decide (a.t ≠ b.t) else if b.k = 4 then !Lib.contains a.t.data.toList b.t.data.toList else if b.k = 5 then !(valB a.t 1).2 || decide (b.n < (valB a.t 1).1) else if b.k = 6 then !(valB a.t 1).2 || decide ((valB a.t 1).1 < b.n) else false
    else false
  else false) := Lib.hid rfl
  have hc : ∀ j, j < 6 → ((w.alloc (.cells #[.int .i64 a.k, va1, .string a.f, .string a.t, .int .i64 a.n, va5] 33)).alloc (.cells #[.int .i64 b.k, vb1, .string b.f, .string b.t, .int .i64 b.n, vb5] 33)).cell? ⟨w.heap.size, j, none⟩ = #[.int .i64 a.k, va1, .string a.f, .string a.t, .int .i64 a.n, va5][j]? := fun j hj => by
    rw [World.cell?, heap_alloc_old _ _ (by simp), heap_alloc_new]
    rfl
  have hc' : ∀ j, j < 6 → ((w.alloc (.cells #[.int .i64 a.k, va1, .string a.f, .string a.t, .int .i64 a.n, va5] 33)).alloc (.cells #[.int .i64 b.k, vb1, .string b.f, .string b.t, .int .i64 b.n, vb5] 33)).cell? ⟨w.heap.size + 1, j, none⟩ = #[.int .i64 b.k, vb1, .string b.f, .string b.t, .int .i64 b.n, vb5][j]? := fun j hj => by
    have : ((w.alloc (.cells #[.int .i64 a.k, va1, .string a.f, .string a.t, .int .i64 a.n, va5] 33)).alloc (.cells #[.int .i64 b.k, vb1, .string b.f, .string b.t, .int .i64 b.n, vb5] 33)).heap[w.heap.size + 1]? = some (.cells #[.int .i64 b.k, vb1, .string b.f, .string b.t, .int .i64 b.n, vb5] 33) := by
      have h := heap_alloc_new (w.alloc (.cells #[.int .i64 a.k, va1, .string a.f, .string a.t, .int .i64 a.n, va5] 33)) (.cells #[.int .i64 b.k, vb1, .string b.f, .string b.t, .int .i64 b.n, vb5] 33)
      rwa [show (w.alloc (.cells #[.int .i64 a.k, va1, .string a.f, .string a.t, .int .i64 a.n, va5] 33)).heap.size = w.heap.size + 1 by simp] at h
    rw [World.cell?, this]
    rfl
  have hz2 : ((w.alloc (.cells #[.int .i64 a.k, va1, .string a.f, .string a.t, .int .i64 a.n, va5] 33)).alloc (.cells #[.int .i64 b.k, vb1, .string b.f, .string b.t, .int .i64 b.n, vb5] 33)).heap.size = w.heap.size + 2 := by simp
  have d0 := hc 0 (by omega)
  have d2 := hc 2 (by omega)
  have d3 := hc 3 (by omega)
  have d4 := hc 4 (by omega)
  have g0 := hc' 0 (by omega)
  have g2 := hc' 2 (by omega)
  have g3 := hc' 3 (by omega)
  have g4 := hc' 4 (by omega)
  simp only [List.getElem?_toArray, List.getElem?_cons_zero, List.getElem?_cons_succ] at d0 d2 d3 d4 g0 g2 g3 g4
  have HB := Lib.hid hb2
  have HV := Lib.hid (refValue_any a.t 1 ((w.alloc (.cells #[.int .i64 a.k, va1, .string a.f, .string a.t, .int .i64 a.n, va5] 33)).alloc (.cells #[.int .i64 b.k, vb1, .string b.f, .string b.t, .int .i64 b.n, vb5] 33)))
  have HP : Hid (∀ w2 : World, Below ((w.alloc (.cells #[.int .i64 a.k, va1, .string a.f, .string a.t, .int .i64 a.n, va5] 33)).alloc (.cells #[.int .i64 b.k, vb1, .string b.f, .string b.t, .int .i64 b.n, vb5] 33)).heap.size ((w.alloc (.cells #[.int .i64 a.k, va1, .string a.f, .string a.t, .int .i64 a.n, va5] 33)).alloc (.cells #[.int .i64 b.k, vb1, .string b.f, .string b.t, .int .i64 b.n, vb5] 33)) w2 →
      w2.cell? ⟨w.heap.size, 0, none⟩ = some (.int .i64 a.k) ∧ w2.cell? ⟨w.heap.size, 3, none⟩ = some (.string a.t) ∧ w2.cell? ⟨w.heap.size, 4, none⟩ = some (.int .i64 a.n) ∧ w2.cell? ⟨w.heap.size + 1, 0, none⟩ = some (.int .i64 b.k) ∧ w2.cell? ⟨w.heap.size + 1, 3, none⟩ = some (.string b.t) ∧ w2.cell? ⟨w.heap.size + 1, 4, none⟩ = some (.int .i64 b.n) ∧ Hid (Below w.heap.size w w2) ∧
      Hid (Calls Tryz.prog 78 #[.string a.t, .string b.t] w2 fun e w' => e = .returned (.bool (Lib.contains a.t.data.toList b.t.data.toList)) ∧ Below w2.heap.size w2 w')) := Lib.hid (by
    intro w2 hb
    have k : ∀ g j v, g < w.heap.size + 2 → _ = some v → w2.cell? ⟨g, j, none⟩ = some v := fun g j v hg h => (hb.cell (p := ⟨g, j, none⟩) (by show g < _; omega)).trans h
    exact ⟨k _ _ _ (by omega) d0, k _ _ _ (by omega) d3, k _ _ _ (by omega) d4, k _ _ _ (by omega) g0, k _ _ _ (by omega) g3, k _ _ _ (by omega) g4, Lib.hid (hb2.trans (hb.mono (by omega))), Lib.hid (withinS_any a.t b.t w2 hs ht)⟩)
  clear hb1 hb2 hc hc' hs ht hz2
  generalize oddsB a b = r at *
  generalize (valB a.t 1).1 = v at *
  generalize (valB a.t 1).2 = ok at *
  generalize a.k = k1 at *
  generalize a.f = f1 at *
  generalize a.t = t1 at *
  generalize a.n = n1 at *
  generalize b.k = k2 at *
  generalize b.f = f2 at *
  generalize b.t = t2 at *
  generalize b.n = n2 at *

  by_cases hf : f1 = f2
  · rw [if_pos hf] at HE
    subst hf
    have q1 : (f1.toList != f1.toList) = false := by simp
    by_cases k5 : k1 = 5
    · by_cases k6 : k2 = 6
      · rw [if_pos ⟨k5, k6⟩] at HE
        subst k5 k6
        go_enter Tryz.func53, Tryz.ntmps53
        go_wp2_with fail
        go_ret
        exact ⟨by rw [HE.out] <;> rfl, HB.out⟩
      · rw [if_neg (by omega), if_neg (by omega)] at HE
        have q6 : (k2 == 6) = false := beq_false_of_ne k6
        subst k5
        go_enter Tryz.func53, Tryz.ntmps53
        go_wp2_with fail
        go_ret
        exact ⟨by rw [HE.out] <;> rfl, HB.out⟩
    · rw [if_neg (by omega)] at HE
      have q5 : (k1 == 5) = false := beq_false_of_ne k5
      by_cases k3 : k1 = 3
      · rw [if_pos k3] at HE
        subst k3
        clear k5 q5
        by_cases j3 : k2 = 3
        · rw [if_pos j3] at HE
          subst j3
          have HE' : Hid (r = (t1.toList != t2.toList)) := Lib.hid (by rw [HE.out, tl_ne])
          clear HE
          have HE := HE'
          clear HE'
          go_enter Tryz.func53, Tryz.ntmps53
          go_wp2_with (first
            | (go_at_call 51; with_reducible refine HV.out.mono ?_; rintro e w2 ⟨rfl, hb2⟩; obtain ⟨e0, e3, e4, h0, h3, h4, HB2, HC⟩ := HP.out w2 hb2; clear hb2 d0 d2 d3 d4 g0 g2 g3 g4)
            | fail)
          go_ret
          exact ⟨by rw [HE.out] <;> rfl, HB2.out⟩
        · rw [if_neg j3] at HE
          have p3 : (k2 == 3) = false := beq_false_of_ne j3
          by_cases j4 : k2 = 4
          · rw [if_pos j4] at HE
            subst j4
            go_enter Tryz.func53, Tryz.ntmps53
            go_wp2_with (first
              | (go_at_call 51; with_reducible refine HV.out.mono ?_; rintro e w2 ⟨rfl, hb2⟩; obtain ⟨e0, e3, e4, h0, h3, h4, HB2, HC⟩ := HP.out w2 hb2; clear hb2 d0 d2 d3 d4 g0 g2 g3 g4)
              | (go_at_call 78; with_reducible refine HC.out.mono ?_; rintro e w3 ⟨rfl, hb3⟩; have HB3 := Lib.hid hb3; clear hb3)
              | fail)
            go_ret
            exact ⟨by rw [HE.out] <;> rfl, HB2.out.trans (HB3.out.mono HB2.out.size)⟩
          · rw [if_neg j4] at HE
            have p4 : (k2 == 4) = false := beq_false_of_ne j4
            by_cases j5 : k2 = 5
            · rw [if_pos j5] at HE
              subst j5
              cases ok with
              | false =>
                go_enter Tryz.func53, Tryz.ntmps53
                go_wp2_with (first
                  | (go_at_call 51; with_reducible refine HV.out.mono ?_; rintro e w2 ⟨rfl, hb2⟩; obtain ⟨e0, e3, e4, h0, h3, h4, HB2, HC⟩ := HP.out w2 hb2; clear hb2 d0 d2 d3 d4 g0 g2 g3 g4)
                  | fail)
                go_ret
                exact ⟨by rw [HE.out] <;> rfl, HB2.out⟩
              | true =>
                by_cases hlt : n2 < v
                · have hd : decide (n2 < v) = true := by simpa using hlt
                  rw [hd] at HE
                  go_enter Tryz.func53, Tryz.ntmps53
                  go_wp2_with (first
                    | (go_at_call 51; with_reducible refine HV.out.mono ?_; rintro e w2 ⟨rfl, hb2⟩; obtain ⟨e0, e3, e4, h0, h3, h4, HB2, HC⟩ := HP.out w2 hb2; clear hb2 d0 d2 d3 d4 g0 g2 g3 g4)
                    | fail)
                  go_ret
                  exact ⟨by rw [HE.out] <;> rfl, HB2.out⟩
                · have hd : decide (n2 < v) = false := by simpa using hlt
                  rw [hd] at HE
                  go_enter Tryz.func53, Tryz.ntmps53
                  go_wp2_with (first
                    | (go_at_call 51; with_reducible refine HV.out.mono ?_; rintro e w2 ⟨rfl, hb2⟩; obtain ⟨e0, e3, e4, h0, h3, h4, HB2, HC⟩ := HP.out w2 hb2; clear hb2 d0 d2 d3 d4 g0 g2 g3 g4)
                    | fail)
                  go_ret
                  exact ⟨by rw [HE.out] <;> rfl, HB2.out⟩
            · rw [if_neg j5] at HE
              have p5 : (k2 == 5) = false := beq_false_of_ne j5
              by_cases j6 : k2 = 6
              · rw [if_pos j6] at HE
                subst j6
                cases ok with
                | false =>
                  go_enter Tryz.func53, Tryz.ntmps53
                  go_wp2_with (first
                    | (go_at_call 51; with_reducible refine HV.out.mono ?_; rintro e w2 ⟨rfl, hb2⟩; obtain ⟨e0, e3, e4, h0, h3, h4, HB2, HC⟩ := HP.out w2 hb2; clear hb2 d0 d2 d3 d4 g0 g2 g3 g4)
                    | fail)
                  go_ret
                  exact ⟨by rw [HE.out] <;> rfl, HB2.out⟩
                | true =>
                  by_cases hlt : v < n2
                  · have hd : decide (v < n2) = true := by simpa using hlt
                    rw [hd] at HE
                    go_enter Tryz.func53, Tryz.ntmps53
                    go_wp2_with (first
                      | (go_at_call 51; with_reducible refine HV.out.mono ?_; rintro e w2 ⟨rfl, hb2⟩; obtain ⟨e0, e3, e4, h0, h3, h4, HB2, HC⟩ := HP.out w2 hb2; clear hb2 d0 d2 d3 d4 g0 g2 g3 g4)
                      | fail)
                    go_ret
                    exact ⟨by rw [HE.out] <;> rfl, HB2.out⟩
                  · have hd : decide (v < n2) = false := by simpa using hlt
                    rw [hd] at HE
                    go_enter Tryz.func53, Tryz.ntmps53
                    go_wp2_with (first
                      | (go_at_call 51; with_reducible refine HV.out.mono ?_; rintro e w2 ⟨rfl, hb2⟩; obtain ⟨e0, e3, e4, h0, h3, h4, HB2, HC⟩ := HP.out w2 hb2; clear hb2 d0 d2 d3 d4 g0 g2 g3 g4)
                      | fail)
                    go_ret
                    exact ⟨by rw [HE.out] <;> rfl, HB2.out⟩
              · rw [if_neg j6] at HE
                have p6 : (k2 == 6) = false := beq_false_of_ne j6
                go_enter Tryz.func53, Tryz.ntmps53
                go_wp2_with (first
                  | (go_at_call 51; with_reducible refine HV.out.mono ?_; rintro e w2 ⟨rfl, hb2⟩; obtain ⟨e0, e3, e4, h0, h3, h4, HB2, HC⟩ := HP.out w2 hb2; clear hb2 d0 d2 d3 d4 g0 g2 g3 g4)
                  | fail)
                go_ret
                exact ⟨by rw [HE.out] <;> rfl, HB2.out⟩
      · rw [if_neg k3] at HE
        have q3 : (k1 == 3) = false := beq_false_of_ne k3
        have q3' : (k1 != 3) = true := by simp [k3]
        go_enter Tryz.func53, Tryz.ntmps53
        go_wp2_with fail
        go_ret
        exact ⟨by rw [HE.out] <;> rfl, HB.out⟩
  · have q1 : (f1.toList != f2.toList) = true := by rw [← tl_ne]; exact decide_eq_true hf
    have q2 : (f1.toList == f2.toList) = false := by simpa [bne] using q1
    have q3 : ¬ f1.toList = f2.toList := by simpa using q2
    rw [if_neg hf] at HE
    go_enter Tryz.func53, Tryz.ntmps53
    go_wp2_with fail
    go_ret
    exact ⟨by rw [HE.out] <;> rfl, HB.out⟩
end Go.Proofs.YtbkffdfboloogaaGreatDoor
