/- The law's size of a rule. -/
import Derived.Test.YtehjkgfdfihfmaaDoorSOrdP
namespace Go.Proofs.YtehjkgfdfihfmaaDoor
open Go.RowKit Go.Maps Go.Lib
set_option linter.unusedVariables false
set_option maxRecDepth 100000

theorem nszL_take_step (l : List Rl) (k : Nat) (hk : k < l.length) : nszL (l.take (k + 1)) = nszL (l.take k) + nsz l[k] := by
  rw [← List.take_append_getElem hk, nszL_append, nszL, nszL]
  omega
theorem nszL_take_more (l : List Rl) (k : Nat) : nszL (l.take k) ≤ nszL l := by
  have h := nszL_append (l.take k) (l.drop k)
  rw [List.take_append_drop] at h
  omega
def SizeSaid (x : Rl) : Prop := ∀ (A : Option Addr) (c m : Nat) (w : World) (B : Nat), NL w B A x.l → B ≤ w.heap.size → m ≤ 30 →
  Calls Tryd.prog 17 #[.agg #[.int .i64 x.k, .int .i64 x.p, .string x.f, .string x.t, .int .i64 x.n, .slice A x.l.length c], .int .i64 (m : Int)] w fun e w' => ∃ r : Nat, e = .returned (.int .i64 (r : Int)) ∧ r ≤ m + 1 ∧ (r ≤ m → r = nsz x) ∧ (m < r → m < nsz x) ∧ Below w.heap.size w w'

set_option maxHeartbeats 4000000 in
theorem size_step (x : Rl) (hC : ∀ y ∈ x.l, SizeSaid y) : SizeSaid x := by
  intro A c m w B hN hB hm
  have hb1 : Below w.heap.size w (w.alloc (.cells #[.int .i64 x.k, .int .i64 x.p, .string x.f, .string x.t, .int .i64 x.n, .slice A x.l.length c] 24)) := (Below.refl _ _).alloc (Nat.le_refl _) _
  have h5 : (w.alloc (.cells #[.int .i64 x.k, .int .i64 x.p, .string x.f, .string x.t, .int .i64 x.n, .slice A x.l.length c] 24)).cell? ⟨w.heap.size, 5, none⟩ = some (.slice A x.l.length c) := by simp
  have hs1 : (w.alloc (.cells #[.int .i64 x.k, .int .i64 x.p, .string x.f, .string x.t, .int .i64 x.n, .slice A x.l.length c] 24)).heap.size = w.heap.size + 1 := by simp
  have hsz := nsz_l x
  have HNs := Lib.hid hsz
  have HN := Lib.hid hN
  have HC := Lib.hid hC
  clear hN hC hsz
  generalize hX : x.l = X at *
  generalize hnx : nsz x = nx at *
  clear hX hnx
  generalize x.k = xk at *
  generalize x.p = xp at *
  generalize x.f = xf at *
  generalize x.t = xt at *
  generalize x.n = xn at *
  go_enter Tryd.func17, Tryd.ntmps17
  go_wp2
  generalize w.alloc (.cells #[.int .i64 xk, .int .i64 xp, .string xf, .string xt, .int .i64 xn, .slice A X.length c] 24) = w1 at *
  go_loopw [5, 6] (fun s i wr => ∃ k r : Nat, k ≤ X.length ∧ i = .int .i64 (k : Int) ∧ s = .int .i64 (r : Int) ∧ r ≤ m + 1 ∧ k ≤ 31 ∧ Hid (Below w1.heap.size w1 wr) ∧ Hid ((r ≤ m → r = 1 + nszL (X.take k)) ∧ (m < r → m < nx) ∧ (r ≤ m → k < r))) (fun _ i _ => X.length - (RowKit.intOf i).toNat)
  case atStart => exact ⟨0, 1, Nat.zero_le _, rfl, rfl, by omega, by omega, Lib.hid (Below.refl _ _), Lib.hid ⟨fun _ => by simp [nszL], fun h => by rw [HNs.out]; omega, fun _ => by omega⟩⟩
  case round =>
    obtain ⟨k, r, hk, rfl, rfl, hr, hk31, HB, HR⟩ := hrel
    have hz := HB.out.size
    have d5 : wr.cell? ⟨w.heap.size, 5, none⟩ = some (.slice A X.length c) := (HB.out.cell (p := ⟨w.heap.size, 5, none⟩) (by show w.heap.size < _; omega)).trans h5
    have HBw := Lib.hid (hb1.trans (HB.out.mono (by omega)))
    by_cases hlt : k < X.length
    · have b1 : (k : Int) < (X.length : Int) := by omega
      by_cases hrm : r ≤ m
      · have b2 : (r : Int) ≤ (m : Int) := by omega
        obtain ⟨g, off, A', c', rfl, hg, h6, hch⟩ := (HN.out.kept (HBw.out.mono hB)).at_ hlt
        obtain ⟨c0, c1, c2, c3, c4, c5⟩ := h6
        have q : IntKind.i64.wrap ((m : Int) - (r : Int)) = ((m - r : Nat) : Int) := by
          have := IntWalk.i64_in ((m : Int) - (r : Int)) (by omega)
          rw [this]; omega
        have HCk := Lib.hid (HC.out X[k] (List.getElem_mem hlt) A' c' (m - r) wr B hch (by have := HBw.out.size; omega) (by omega))
        have Hst := Lib.hid (nszL_take_step X k hlt)
        have Hmo := Lib.hid (nszL_take_more X (k + 1))
        have hkr := HR.out.2.2 hrm
        have HP : Hid (1 ≤ nsz X[k]) := Lib.hid (by rw [nsz_l]; omega)
        clear hch HC
        generalize X[k].l.length = yl at *
        generalize X[k].k = yk at *
        generalize X[k].p = yp at *
        generalize X[k].f = yf at *
        generalize X[k].t = yt at *
        generalize X[k].n = yn at *
        generalize nsz X[k] = ny at *
        go_wp2_with (first
          | (go_at_call 17; refine HCk.out.mono ?_; rintro e w3 ⟨r2, rfl, h1, h2, h3, hb3⟩; have H2 := Lib.hid h2; have H3 := Lib.hid h3; have HB3 := Lib.hid hb3; clear h2 h3 hb3 HCk)
          | fail)
        go_roundw
        case rel =>
          refine ⟨k + 1, r + r2, by omega, by go_num, by go_num, by omega, by omega, Lib.hid (HB.out.trans (HB3.out.mono hz)), Lib.hid ⟨fun h => ?_, fun h => ?_, fun h => ?_⟩⟩
          · have e1 := H2.out (by omega)
            have e2 := HR.out.1 hrm
            have e3 := Hst.out
            omega
          · have e1 := H3.out (by omega)
            have e2 := HR.out.1 hrm
            have e3 := Hst.out
            have e4 := Hmo.out
            have e5 := HNs.out
            omega
          · have e1 := H2.out (by omega)
            have e6 := HP.out
            omega
        case measure => simp [RowKit.intOf]; omega
      · have b2 : ¬ (r : Int) ≤ (m : Int) := by omega
        go_wp2
        go_ret
        exact ⟨r, rfl, hr, fun h => absurd h hrm, HR.out.2.1, HBw.out⟩
    · have b1 : ¬ (k : Int) < (X.length : Int) := by omega
      have HE : Hid (r ≤ m → r = nx) := Lib.hid (fun h => by have := HR.out.1 h; rw [List.take_of_length_le (by omega)] at this; rw [HNs.out]; exact this)
      go_wp2
      go_ret
      exact ⟨r, rfl, hr, HE.out, HR.out.2.1, HBw.out⟩
theorem size_fuel (N : Nat) : ∀ x, SizeOf.sizeOf x ≤ N → SizeSaid x := by
  induction N with
  | zero =>
    intro x h
    obtain ⟨k, p, f, t, n, l⟩ := x
    simp at h
  | succ N ih => intro x hN; exact size_step x fun y hy => ih y (by have := Rl.lt_mem hy; omega)
theorem size_any (x : Rl) : SizeSaid x := size_fuel _ x (Nat.le_refl _)
end Go.Proofs.YtehjkgfdfihfmaaDoor
