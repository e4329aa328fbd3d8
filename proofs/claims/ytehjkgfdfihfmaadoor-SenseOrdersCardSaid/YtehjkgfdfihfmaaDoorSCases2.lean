/- sense.cases of a rule that is neither an atom nor All nor Any. -/
import Derived.Test.YtehjkgfdfihfmaaDoorSCases
namespace Go.Proofs.YtehjkgfdfihfmaaDoor
open Go.RowKit Go.Maps Go.Lib
set_option linter.unusedVariables false
set_option maxRecDepth 100000

set_option maxHeartbeats 4000000 in
theorem cases_other (x : Rl) (ha : atomB x.k = false) (h0 : x.k ≠ 0) (h1 : x.k ≠ 1) : CasSaid x := by
  intro A c w B base pb v L cs hN hBp hpb hb hA hc hl
  have hb1 : Below w.heap.size w (w.alloc (.cells #[.int .i64 x.k, .int .i64 x.p, .string x.f, .string x.t, .int .i64 x.n, .slice A x.l.length c] 24)) := (Below.refl _ _).alloc (Nat.le_refl _) _
  have HI := Lib.hid (isAtom_any x.k x.p x.n x.f x.t A x.l.length c (w.alloc (.cells #[.int .i64 x.k, .int .i64 x.p, .string x.f, .string x.t, .int .i64 x.n, .slice A x.l.length c] 24)))
  rw [ha] at HI
  have b0 : (w.alloc (.cells #[.int .i64 x.k, .int .i64 x.p, .string x.f, .string x.t, .int .i64 x.n, .slice A x.l.length c] 24)).cell? ⟨w.heap.size, 0, none⟩ = some (.int .i64 x.k) := by simp
  have HP : Hid (∀ w2 : World, Below (w.alloc (.cells #[.int .i64 x.k, .int .i64 x.p, .string x.f, .string x.t, .int .i64 x.n, .slice A x.l.length c] 24)).heap.size (w.alloc (.cells #[.int .i64 x.k, .int .i64 x.p, .string x.f, .string x.t, .int .i64 x.n, .slice A x.l.length c] 24)) w2 →
      CRes x w base pb v L (.slice (some ⟨w2.heap.size, 0, none⟩) 1 1) (w2.alloc (.cells #[.slice none 0 0] 43))) := Lib.hid (by
    intro w2 hb2
    have hs1 := hb1.size
    have hs2 := hb2.size
    have hB : Below w.heap.size w (w2.alloc (.cells #[.slice none 0 0] 43)) := (hb1.trans (hb2.mono hs1)).alloc (by omega) _
    refine ⟨_, _, v, [], cs, LL_none w2 w.heap.size (by omega), ?_, Gr.of_below hB, ?_, ?_, by simp⟩
    · rw [List.append_nil]; exact hA.below' hB
    · rw [cases_2 x ha h0 h1]; rfl
    · intro l hl i hi; simp at hl; subst hl; simp at hi)
  have q0 : (x.k == 0) = false := by simpa using h0
  have q1 : (x.k == 1) = false := by simpa using h1
  clear hA hb1 hN
  generalize x.l.length = xl at *
  generalize x.k = xk at *
  generalize x.p = xp at *
  generalize x.f = xf at *
  generalize x.t = xt at *
  generalize x.n = xn at *
  go_enter Tryd.func22, Tryd.ntmps22
  go_wp2_with (first
    | (go_at_call 29; refine HI.out.mono ?_; rintro e w2 ⟨rfl, hb2⟩; have HP2 := Lib.hid (HP.out w2 hb2); have d0 := (hb2.cell (p := ⟨w.heap.size, 0, none⟩) (by simp)).trans b0; clear hb2)
    | fail)
  go_ret
  exact ⟨_, rfl, HP2.out⟩
end Go.Proofs.YtehjkgfdfihfmaaDoor
