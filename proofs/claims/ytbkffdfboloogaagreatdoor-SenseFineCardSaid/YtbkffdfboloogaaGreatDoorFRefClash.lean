/- The document's Clash. -/
import Derived.Test.YtbkffdfboloogaaGreatDoorMO
import Derived.Test.YtbkffdfboloogaaGreatDoorFRefAg
import Derived.Test.YtbkffdfboloogaaGreatDoorMQ
import Derived.BigQuiet
import Derived.Deep.RegionWith
namespace Go.Proofs.YtbkffdfboloogaaGreatDoor
open Go.RowKit Go.Maps Go.Lib
set_option linter.unusedVariables false
set_option maxRecDepth 100000

/-- does one of some atoms clash with one of others? -/
def AnyOdd (l r : List Rl) : Prop := ∃ a ∈ l, ∃ b ∈ r, oddsB a b = true
theorem anyOdd_clashes (l : List Rl) : AnyOdd l l ↔ Clashes l := by
  unfold AnyOdd Clashes
  constructor
  · rintro ⟨a, ha, b, hb, h⟩; exact ⟨a, ha, b, hb, (odds_iff a b).1 h⟩
  · rintro ⟨a, ha, b, hb, h⟩; exact ⟨a, ha, b, hb, (odds_iff a b).2 h⟩
theorem anyOdd_step (D : List Rl) (p : Nat) (h : p < D.length) : AnyOdd (D.take (p + 1)) D ↔ AnyOdd (D.take p) D ∨ ∃ b ∈ D.take D.length, oddsB D[p] b = true := by
  unfold AnyOdd
  rw [List.take_length, ← List.take_append_getElem h]
  constructor
  · rintro ⟨a, ha, hb⟩
    rcases List.mem_append.1 ha with ha | ha
    · exact .inl ⟨a, ha, hb⟩
    · simp at ha; subst ha; exact .inr hb
  · rintro (⟨a, ha, hb⟩ | hb)
    · exact ⟨a, List.mem_append.2 (.inl ha), hb⟩
    · exact ⟨D[p], List.mem_append.2 (.inr (List.mem_singleton.2 rfl)), hb⟩
theorem anyOdd_in (D : List Rl) (a : Rl) (q : Nat) (h : q < D.length) : (∃ b ∈ D.take (q + 1), oddsB a b = true) ↔ (∃ b ∈ D.take q, oddsB a b = true) ∨ oddsB a D[q] = true := by
  rw [← List.take_append_getElem h]
  constructor
  · rintro ⟨b, hb, e⟩
    rcases List.mem_append.1 hb with hb | hb
    · exact .inl ⟨b, hb, e⟩
    · simp at hb; subst hb; exact .inr e
  · rintro (⟨b, hb, e⟩ | e)
    · exact ⟨b, List.mem_append.2 (.inl hb), e⟩
    · exact ⟨D[q], List.mem_append.2 (.inr (List.mem_singleton.2 rfl)), e⟩
def ClP (x : Rl) (w : World) (e : Ending) (w' : World) : Prop := ∃ r : Bool, e = .returned (.bool r) ∧ (r = true ↔ ClashR x) ∧ Below w.heap.size w w'
set_option maxHeartbeats 8000000 in
theorem refClash_any (x : Rl) (A : Option Addr) (c B : Nat) (w : World) (hN : NL w B A x.l) (hB : B ≤ w.heap.size) (hsz : nsz x ≤ 1000) (hf : ∀ l ∈ casesR x, ∀ a ∈ l, Fits a) :
    Calls Tryz.prog 21 #[.agg #[.int .i64 x.k, .int .i64 x.p, .string x.f, .string x.t, .int .i64 x.n, .slice A x.l.length c]] w fun e w' => ClP x w e w' := by
  have hb1 : Below w.heap.size w (w.alloc (.cells #[.int .i64 x.k, .int .i64 x.p, .string x.f, .string x.t, .int .i64 x.n, .slice A x.l.length c] 33)) := (Below.refl _ _).alloc (Nat.le_refl _) _
  have h6 : C6 (w.alloc (.cells #[.int .i64 x.k, .int .i64 x.p, .string x.f, .string x.t, .int .i64 x.n, .slice A x.l.length c] 33)) w.heap.size 0 x A c := ⟨by simp, by simp, by simp, by simp, by simp, by simp⟩
  have hs1 : (w.alloc (.cells #[.int .i64 x.k, .int .i64 x.p, .string x.f, .string x.t, .int .i64 x.n, .slice A x.l.length c] 33)).heap.size = w.heap.size + 1 := by simp
  have HMk := Lib.hid (many_any x A c (w.alloc (.cells #[.int .i64 x.k, .int .i64 x.p, .string x.f, .string x.t, .int .i64 x.n, .slice A x.l.length c] 33)) B (hN.kept (hb1.mono hB)) (by omega) hsz)
  have HCs : Hid (∀ W : World, Below w.heap.size w W → ∀ j : Nat, j ≤ 4096 → Calls Tryz.prog 52 #[.agg #[.int .i64 x.k, .int .i64 x.p, .string x.f, .string x.t, .int .i64 x.n, .slice A x.l.length c], .int .i64 (j : Int)] W fun e w' => ∃ A' c', e = .returned (.slice A' (caseN x j).length c') ∧ Am w' w'.heap.size A' (caseN x j) ∧ Below W.heap.size W w') := Lib.hid (fun W hb j hj =>
    (case_any x A c W B j (hN.kept (hb.mono hB)) (by have := hb.size; omega) hsz (by omega)).mono (by
      rintro e w' ⟨A', c', cs, rfl, h1, h2⟩
      exact ⟨A', c', rfl, h1.am, h2⟩))
  have H6 : Hid (∀ W : World, Below (w.heap.size + 1) (w.alloc (.cells #[.int .i64 x.k, .int .i64 x.p, .string x.f, .string x.t, .int .i64 x.n, .slice A x.l.length c] 33)) W → (W.cell? ⟨w.heap.size, 0, none⟩ = some (.int .i64 x.k) ∧ W.cell? ⟨w.heap.size, 1, none⟩ = some (.int .i64 x.p) ∧ W.cell? ⟨w.heap.size, 2, none⟩ = some (.string x.f) ∧ W.cell? ⟨w.heap.size, 3, none⟩ = some (.string x.t) ∧ W.cell? ⟨w.heap.size, 4, none⟩ = some (.int .i64 x.n) ∧ W.cell? ⟨w.heap.size, 5, none⟩ = some (.slice A x.l.length c)) ∧ Hid (Below w.heap.size w W)) := Lib.hid (by
    intro W hb
    have k := h6.keep (w' := W) fun p hp => hb.cell (by rw [hp]; omega)
    exact ⟨⟨k.c0, k.c1, k.c2, k.c3, k.c4, k.c5⟩, Lib.hid (hb1.trans (hb.mono (by omega)))⟩)
  have HSz : Hid (mN x ≤ 4096 → ∀ j, j < mN x → (caseN x j).length ≤ 1000 ∧ ∀ a ∈ caseN x j, a.t.size ≤ 140737488351232) := Lib.hid (fun hm j hj => by
    refine ⟨by have := case_len _ x (Nat.le_refl _) j; omega, fun a ha => ?_⟩
    have := (hf _ ((case_num _ x (Nat.le_refl _) ((mN_small x).1 hm) _).2 ⟨j, hj, rfl⟩) a ha).2.1
    omega)
  have HYes : Hid (∀ W, Below w.heap.size w W → mN x ≤ 4096 → (∀ j, j < mN x → Clashes (caseN x j)) → ClP x w (.returned (.bool true)) W) := Lib.hid (fun W hb h1 h2 => ⟨true, rfl, ⟨fun _ => (clash_num x).2 ⟨h1, h2⟩, fun _ => rfl⟩, hb⟩)
  have HNo : Hid (∀ W, Below w.heap.size w W → ¬ (mN x ≤ 4096 ∧ ∀ j, j < mN x → Clashes (caseN x j)) → ClP x w (.returned (.bool false)) W) := Lib.hid (fun W hb h1 => ⟨false, rfl, ⟨fun h => (by cases h), fun h => absurd ((clash_num x).1 h) h1⟩, hb⟩)
  have hml := mN_le x
  clear h6 hb1 hN hf hsz
  generalize ClP x w = CP at *
  generalize caseN x = Cs at *
  generalize mN x = mx at *
  generalize x.l.length = xl at *
  generalize x.k = xk at *
  generalize x.p = xp at *
  generalize x.f = xf at *
  generalize x.t = xt at *
  generalize x.n = xn at *
  obtain ⟨⟨d0, d1, d2, d3, d4, d5⟩, HB1⟩ := H6.out _ (Below.refl _ _)
  by_cases hbig : mx ≤ 4096
  · have b1 : ¬ (4096 : Int) < (mx : Int) := by omega
    go_enter Tryz.func21, Tryz.ntmps21
    go_wp2_with (first
      | (go_at_call 31; (with_reducible refine HMk.out.mono ?_); rintro e w2 ⟨rfl, hb2⟩; rw [hs1] at hb2; have HB2 := Lib.hid hb2; clear hb2 HMk)
      | fail)
    clear d0 d1 d2 d3 d4 d5 HB1
    go_loopw [4] (fun i wr => ∃ k : Nat, k ≤ mx ∧ i = .int .i64 (k : Int) ∧ Hid (∀ j, j < k → Clashes (Cs j)) ∧ Hid (Below (w.heap.size + 1) (w.alloc (.cells #[.int .i64 xk, .int .i64 xp, .string xf, .string xt, .int .i64 xn, .slice A xl c] 33)) wr)) (fun i _ => mx - (RowKit.intOf i).toNat)
    case atStart => exact ⟨0, Nat.zero_le _, rfl, Lib.hid (fun j hj => by omega), HB2⟩
    case round =>
      obtain ⟨k, hk, rfl, HP, HB⟩ := hrel
      obtain ⟨⟨d0, d1, d2, d3, d4, d5⟩, HBw⟩ := H6.out _ HB.out
      have hz := HBw.out.size
      by_cases hlt : k < mx
      · have b2 : (k : Int) < (mx : Int) := by omega
        have HCk := Lib.hid (HCs.out wr HBw.out k (by omega))
        have hsz := HSz.out hbig k hlt
        have hDl := hsz.1
        have HDt := Lib.hid hsz.2
        clear hsz
        have HS : Hid (Clashes (Cs k) → ∀ j, j < k + 1 → Clashes (Cs j)) := Lib.hid (fun h j hj => by
          by_cases e : j = k
          · rw [e]; exact h
          · exact HP.out j (by omega))
        have HF : Hid (¬ Clashes (Cs k) → ∀ W, Below w.heap.size w W → CP (.returned (.bool false)) W) := Lib.hid (fun h W hb => HNo.out W hb fun h2 => h (h2.2 k hlt))
        clear HP HYes HNo HCs HSz
        generalize Cs k = D at *
        go_wp2_with (first
          | (go_at_call 52; (with_reducible refine HCk.out.mono ?_); rintro e w3 ⟨A3, c3, rfl, hAm, hb3⟩; have HAm := Lib.hid hAm; have HB3 := Lib.hid hb3; have hz3 := hb3.size; clear hb3 hAm HCk d0 d1 d2 d3 d4 d5)
          | fail)
        go_loopw [6, 7] (fun cl i W => ∃ (p : Nat) (cb : Bool), p ≤ D.length ∧ cl = .bool cb ∧ i = .int .i64 (p : Int) ∧ Hid (cb = true ↔ AnyOdd (D.take p) D) ∧ Hid (Below w3.heap.size w3 W)) (fun _ i _ => D.length - (RowKit.intOf i).toNat)
        case atStart => exact ⟨0, false, Nat.zero_le _, rfl, rfl, Lib.hid ⟨fun h => (by cases h), fun ⟨a, ha, _⟩ => (by simp at ha)⟩, Lib.hid (Below.refl _ _)⟩
        case round =>
          obtain ⟨p, cb, hp, rfl, rfl, HC, HW⟩ := hrel
          by_cases hlp : p < D.length
          · have b3 : (p : Int) < (D.length : Int) := by omega
            have b4 : (0 : Int) ≤ (p : Int) := by omega
            have HPs := Lib.hid (anyOdd_step D p hlp)
            go_wp2_with fail
            go_loopw [6, 8] (fun cl i W => ∃ (q : Nat) (cb : Bool), q ≤ D.length ∧ cl = .bool cb ∧ i = .int .i64 (q : Int) ∧ Hid (cb = true ↔ AnyOdd (D.take p) D ∨ ∃ b ∈ D.take q, oddsB D[p] b = true) ∧ Hid (Below w3.heap.size w3 W)) (fun _ i _ => D.length - (RowKit.intOf i).toNat)
            case atStart => exact ⟨0, cb, Nat.zero_le _, rfl, rfl, Lib.hid ⟨fun h => .inl (HC.out.1 h), fun h => h.elim HC.out.2 fun ⟨b, hb, _⟩ => (by simp at hb)⟩, HW⟩
            case round =>
              obtain ⟨q, cb2, hq, rfl, rfl, HC2, HW2⟩ := hrel
              by_cases hlq : q < D.length
              · have b5 : (q : Int) < (D.length : Int) := by omega
                have b6 : (0 : Int) ≤ (q : Int) := by omega
                have HQs := Lib.hid (anyOdd_in D D[p] q hlq)
                cases cb2 with
                | true =>
                  have HC3 : Hid (AnyOdd (D.take p) D ∨ ∃ b ∈ D.take (q + 1), oddsB D[p] b = true) := Lib.hid ((HC2.out.1 rfl).elim .inl fun h => .inr (HQs.out.2 (.inl h)))
                  go_wp2_with fail
                  go_quiet (fail)
                  have HW3 := Lib.hid (below_drewP HW2.out nq)
                  go_wp2_with fail
                  go_roundw
                  case rel => exact ⟨q + 1, true, by omega, rfl, by go_num, Lib.hid ⟨fun _ => HC3.out, fun _ => rfl⟩, HW3⟩
                  case measure => simp [RowKit.intOf]; omega
                | false =>
                  obtain ⟨g, off, A5, c5, rfl, hg, h6a⟩ := (HAm.out.below HW2.out).at_ (List.getElem?_eq_getElem hlp)
                  obtain ⟨g', off', A6', c6, eA, hg', h6b⟩ := (HAm.out.below HW2.out).at_ (List.getElem?_eq_getElem hlq)
                  injection eA with eA
                  injection eA with e1 e2
                  subst e1 e2
                  obtain ⟨x0, x1, x2, x3, x4, x5⟩ := h6a
                  obtain ⟨y0, y1, y2, y3, y4, y5⟩ := h6b
                  have HAg := Lib.hid (fun W => refAgainst_any D[p] D[q] (.int .i64 D[p].p) (.slice A5 D[p].l.length c5) (.int .i64 D[q].p) (.slice A6' D[q].l.length c6) W (HDt.out _ (List.getElem_mem hlp)) (HDt.out _ (List.getElem_mem hlq)))
                  have HC3 : Hid (oddsB D[p] D[q] = true ↔ AnyOdd (D.take p) D ∨ ∃ b ∈ D.take (q + 1), oddsB D[p] b = true) := Lib.hid (by
                    rw [HQs.out, ← or_assoc, ← HC2.out]
                    simp)
                  have hW2s := HW2.out.size
                  clear HC2 HQs
                  generalize oddsB D[p] D[q] = ob at *
                  generalize D[p].l.length = pl at *
                  generalize D[p].k = pk at *
                  generalize D[p].p = pp at *
                  generalize D[p].f = pf at *
                  generalize D[p].t = pt at *
                  generalize D[p].n = pn at *
                  generalize D[q].l.length = ql at *
                  generalize D[q].k = qk at *
                  generalize D[q].p = qp at *
                  generalize D[q].f = qf at *
                  generalize D[q].t = qt at *
                  generalize D[q].n = qn at *
                  go_wp2_with fail
                  go_region_with (first
                    | (go_at_call 53; (with_reducible refine (HAg.out _).mono ?_); rintro e w5 ⟨rfl, hb5⟩; have HW5 := Lib.hid (HW2.out.drew.trans (hb5.mono (by rw [World.size_drew]; exact hW2s))); clear hb5 HAg))
                  all_goals
                    go_wp2_with fail
                    go_roundw
                    case rel => exact ⟨q + 1, ob, by omega, rfl, by go_num, HC3, HW5⟩
                    case measure => simp [RowKit.intOf]; omega
              · have b5 : ¬ (q : Int) < (D.length : Int) := by omega
                have HC4 : Hid (cb2 = true ↔ AnyOdd (D.take (p + 1)) D) := Lib.hid (by
                  rw [HPs.out, HC2.out, show q = D.length by omega])
                go_wp2_with fail
                go_roundw
                case rel => exact ⟨p + 1, cb2, by omega, rfl, by go_num, HC4, HW2⟩
                case measure => simp [RowKit.intOf]; omega
          · have b3 : ¬ (p : Int) < (D.length : Int) := by omega
            have HE : Hid (cb = true ↔ Clashes D) := Lib.hid (by rw [HC.out, List.take_of_length_le (by omega), anyOdd_clashes])
            have HBn := Lib.hid (HB.out.trans ((HB3.out.trans (HW.out.mono hz3)).mono (by have := HB.out.size; rw [hs1] at this; omega)))
            have HBw3 := Lib.hid (HBw.out.trans ((HB3.out.trans (HW.out.mono hz3)).mono hz))
            cases cb with
            | true =>
              have HP2 := Lib.hid (HS.out (HE.out.1 rfl))
              go_wp2_with fail
              go_roundw
              case rel => exact ⟨k + 1, by omega, by go_num, HP2, HBn⟩
              case measure => simp [RowKit.intOf]; omega
            | false =>
              have HR := Lib.hid (HF.out (fun h => by have := HE.out.2 h; cases this) _ HBw3.out)
              go_wp2_with fail
              first
                | exact HR.out
                | (go_ret; exact HR.out)
      · have b2 : ¬ (k : Int) < (mx : Int) := by omega
        have HR := Lib.hid (HYes.out _ HBw.out hbig fun j hj => HP.out j (by omega))
        go_wp2_with fail
        first
          | exact HR.out
          | (go_ret; exact HR.out)
  · have b1 : (4096 : Int) < (mx : Int) := by omega
    go_enter Tryz.func21, Tryz.ntmps21
    go_wp2_with (first
      | (go_at_call 31; (with_reducible refine HMk.out.mono ?_); rintro e w2 ⟨rfl, hb2⟩; rw [hs1] at hb2; have HR := Lib.hid (HNo.out _ (H6.out _ hb2).2.out (fun h => hbig h.1)); clear hb2 HMk)
      | fail)
    first
      | exact HR.out
      | (go_ret; exact HR.out)
end Go.Proofs.YtbkffdfboloogaaGreatDoor
