/- sense.against. -/
import Derived.Test.YtehjkgfdfihfmaaDoorSClashP
namespace Go.Proofs.YtehjkgfdfihfmaaDoor
open Go.RowKit Go.Maps Go.Lib
set_option linter.unusedVariables false
set_option maxRecDepth 100000

set_option maxHeartbeats 2000000 in
theorem against_any (s : ByteArray) (a : Rl) (v1 v5 : Value) (w : World) (hG : Gl w) (hs : s.size ≤ 1000) :
    Calls Tryd.prog 33 #[.string s, .agg #[.int .i64 a.k, v1, .string a.f, .string a.t, .int .i64 a.n, v5]] w fun e w' => e = .returned (.bool (agB s a)) ∧ Below w.heap.size w w' := by
  have hb1 : Below w.heap.size w (w.alloc (.cells #[.int .i64 a.k, v1, .string a.f, .string a.t, .int .i64 a.n, v5] 24)) := (Below.refl _ _).alloc (Nat.le_refl _) _
  have HV := Lib.hid (value_any s 1 (w.alloc (.cells #[.int .i64 a.k, v1, .string a.f, .string a.t, .int .i64 a.n, v5] 24)) (hG.below hb1) hs)
  have HP : Hid (∀ w2 : World, Below (w.alloc (.cells #[.int .i64 a.k, v1, .string a.f, .string a.t, .int .i64 a.n, v5] 24)).heap.size (w.alloc (.cells #[.int .i64 a.k, v1, .string a.f, .string a.t, .int .i64 a.n, v5] 24)) w2 → w2.cell? ⟨w.heap.size, 0, none⟩ = some (.int .i64 a.k) ∧ w2.cell? ⟨w.heap.size, 3, none⟩ = some (.string a.t) ∧ w2.cell? ⟨w.heap.size, 4, none⟩ = some (.int .i64 a.n) ∧ Hid (Below w.heap.size w w2) ∧
      Hid (Calls Tryd.prog 40 #[.string s, .string a.t] w2 fun e w' => e = .returned (.bool (Lib.contains s.data.toList a.t.data.toList)) ∧ w' = w2)) := Lib.hid (by
    intro w2 hb2
    have hB := hb1.trans (hb2.mono hb1.size)
    obtain ⟨m, hm⟩ := (hG.below hB).ml
    exact ⟨(hb2.cell (p := ⟨w.heap.size, 0, none⟩) (by simp)).trans (by simp), (hb2.cell (p := ⟨w.heap.size, 3, none⟩) (by simp)).trans (by simp), (hb2.cell (p := ⟨w.heap.size, 4, none⟩) (by simp)).trans (by simp), Lib.hid hB, Lib.hid (Tryd.strings_Contains s a.t m w2 (by omega) hm)⟩)
  clear hb1 hG
  have HE : Hid (agB s a = if a.k = 4 then !Lib.contains s.data.toList a.t.data.toList else if a.k = 5 then !(valB s 1).2 || decide (a.n < (valB s 1).1) else if a.k = 6 then !(valB s 1).2 || decide ((valB s 1).1 < a.n) else false) := Lib.hid rfl
  generalize agB s a = r at *
  generalize (valB s 1).1 = v at *
  generalize (valB s 1).2 = ok at *
  generalize a.k = k at *
  generalize a.f = f at *
  generalize a.t = t at *
  generalize a.n = n at *
  by_cases h4 : k = 4
  · subst h4
    go_enter Tryd.func33, Tryd.ntmps33
    go_wp2_with (first
      | (go_at_call 10; refine HV.out.mono ?_; rintro e w2 ⟨rfl, hb2⟩; obtain ⟨d0, d3, d4, HB2, HC⟩ := HP.out w2 hb2; clear hb2)
      | (go_at_call 40; refine HC.out.mono ?_; rintro e w3 ⟨rfl, rfl⟩)
      | fail)
    go_ret
    exact ⟨by rw [HE.out]; rfl, HB2.out⟩
  by_cases h5 : k = 5
  · subst h5
    cases ok with
    | false =>
      go_enter Tryd.func33, Tryd.ntmps33
      go_wp2_with (first
        | (go_at_call 10; refine HV.out.mono ?_; rintro e w2 ⟨rfl, hb2⟩; obtain ⟨d0, d3, d4, HB2, HC⟩ := HP.out w2 hb2; clear hb2)
        | fail)
      go_ret
      exact ⟨by rw [HE.out]; rfl, HB2.out⟩
    | true =>
      by_cases hlt : n < v
      · have hd : decide (n < v) = true := by simpa using hlt
        go_enter Tryd.func33, Tryd.ntmps33
        go_wp2_with (first
          | (go_at_call 10; refine HV.out.mono ?_; rintro e w2 ⟨rfl, hb2⟩; obtain ⟨d0, d3, d4, HB2, HC⟩ := HP.out w2 hb2; clear hb2)
          | fail)
        go_ret
        exact ⟨by rw [HE.out, hd]; rfl, HB2.out⟩
      · have hd : decide (n < v) = false := by simpa using hlt
        go_enter Tryd.func33, Tryd.ntmps33
        go_wp2_with (first
          | (go_at_call 10; refine HV.out.mono ?_; rintro e w2 ⟨rfl, hb2⟩; obtain ⟨d0, d3, d4, HB2, HC⟩ := HP.out w2 hb2; clear hb2)
          | fail)
        go_ret
        exact ⟨by rw [HE.out, hd]; rfl, HB2.out⟩
  by_cases h6 : k = 6
  · subst h6
    cases ok with
    | false =>
      go_enter Tryd.func33, Tryd.ntmps33
      go_wp2_with (first
        | (go_at_call 10; refine HV.out.mono ?_; rintro e w2 ⟨rfl, hb2⟩; obtain ⟨d0, d3, d4, HB2, HC⟩ := HP.out w2 hb2; clear hb2)
        | fail)
      go_ret
      exact ⟨by rw [HE.out]; rfl, HB2.out⟩
    | true =>
      by_cases hlt : v < n
      · have hd : decide (v < n) = true := by simpa using hlt
        go_enter Tryd.func33, Tryd.ntmps33
        go_wp2_with (first
          | (go_at_call 10; refine HV.out.mono ?_; rintro e w2 ⟨rfl, hb2⟩; obtain ⟨d0, d3, d4, HB2, HC⟩ := HP.out w2 hb2; clear hb2)
          | fail)
        go_ret
        exact ⟨by rw [HE.out, hd]; rfl, HB2.out⟩
      · have hd : decide (v < n) = false := by simpa using hlt
        go_enter Tryd.func33, Tryd.ntmps33
        go_wp2_with (first
          | (go_at_call 10; refine HV.out.mono ?_; rintro e w2 ⟨rfl, hb2⟩; obtain ⟨d0, d3, d4, HB2, HC⟩ := HP.out w2 hb2; clear hb2)
          | fail)
        go_ret
        exact ⟨by rw [HE.out, hd]; rfl, HB2.out⟩
  have b4 : (k == 4) = false := by simpa using h4
  have b5 : (k == 5) = false := by simpa using h5
  have b6 : (k == 6) = false := by simpa using h6
  have HE2 : Hid (r = false) := Lib.hid (by rw [HE.out, if_neg h4, if_neg h5, if_neg h6])
  go_enter Tryd.func33, Tryd.ntmps33
  go_wp2_with (first
    | (go_at_call 10; refine HV.out.mono ?_; rintro e w2 ⟨rfl, hb2⟩; obtain ⟨d0, d3, d4, HB2, HC⟩ := HP.out w2 hb2; clear hb2)
    | fail)
  go_ret
  exact ⟨by rw [HE2.out]; rfl, HB2.out⟩
end Go.Proofs.YtehjkgfdfihfmaaDoor
