/- sense.cases of an All; sense.cases of any rule. -/
import Derived.Test.YtehjkgfdfihfmaaDoorSAny
namespace Go.Proofs.YtehjkgfdfihfmaaDoor
open Go.RowKit Go.Maps Go.Lib
set_option linter.unusedVariables false
set_option maxRecDepth 100000

/-- what sense.crossed makes of the answer and of one rule's cases -/
theorem CInv.cross {w wr w3 : World} {base pb n : Nat} {v z u v' : Value} {L L' : List Rl} {R R2 : List (List Rl)} {ls ls2 : List (List Nat)} {us us2 cs' : List Value}
    (h1 : LL wr w.heap.size z ls us) (h2 : LL w3 w.heap.size z ls us) (h3 : LL w3 wr.heap.size u ls2 us2) (hA : At w3 base pb v' (L ++ L') cs') (hG : Gr pb v v' w w3) (e1 : rd (L ++ L') ls = R) (i1 : InL (L ++ L').length ls) (e2 : rd (L ++ L') ls2 = R2) (i2 : InL (L ++ L').length ls2) (hn : L'.length ≤ n) (hw : w.heap.size ≤ wr.heap.size) (hw3 : wr.heap.size ≤ w3.heap.size) (hpb : pb < w.heap.size) (r1 : R.length ≤ 5000) (r2 : R2.length ≤ 5000) (r3 : R.length * R2.length ≤ 5000) (s1 : ∀ m ∈ R, m.length ≤ 10000) (s2 : ∀ m ∈ R2, m.length ≤ 10000) :
    Calls Tryd.prog 30 #[z, u] w3 fun e w4 => ∃ A4 n4 c4, e = .returned (.slice A4 n4 c4) ∧ CInv w base pb v L (R.flatMap fun p => R2.map fun q => p ++ q) n (.slice A4 n4 c4) w4 := by
  have l1 : ls.length = R.length := by rw [← e1, rd_len]
  have l2 : ls2.length = R2.length := by rw [← e2, rd_len]
  refine (crossed_any w3 w.heap.size wr.heap.size z u ls ls2 us us2 h2 h3 hw hw3 (fun q hq => (h1.rowlt hq).2.1) (fun x hx q hq => (h1.lt hx hq).2) (by omega) (by omega) (by rw [l1, l2]; exact r3) (rd_mem _ _ i1 _ (by rw [e1]; exact s1)) (rd_mem _ _ i2 _ (by rw [e2]; exact s2))).mono ?_
  rintro e w4 ⟨z', rfl, ⟨vs', hL⟩, hB, hK⟩
  obtain ⟨A4, c4, rfl⟩ := hL.form
  refine ⟨A4, _, c4, rfl, crossL ls ls2, vs', v', L', cs', hL, hA.kn hpb hB hK, hG.grow hB, ?_, i1.cross i2, hn⟩
  rw [rd_cross, e1, e2]
set_option maxHeartbeats 4000000 in
theorem cases_all0 (x : Rl) (h1 : x.k = 0) (hC : ∀ y ∈ x.l, CasSaid y) : CasSaid x := by
  intro A c w B base pb v L cs hN hBp hpb hb hA hc hl
  have hb1 : Below w.heap.size w (w.alloc (.cells #[.int .i64 x.k, .int .i64 x.p, .string x.f, .string x.t, .int .i64 x.n, .slice A x.l.length c] 24)) := (Below.refl _ _).alloc (Nat.le_refl _) _
  have HI := Lib.hid (isAtom_any x.k x.p x.n x.f x.t A x.l.length c (w.alloc (.cells #[.int .i64 x.k, .int .i64 x.p, .string x.f, .string x.t, .int .i64 x.n, .slice A x.l.length c] 24)))
  rw [h1, show atomB 0 = false from rfl] at HI
  have hsz := nsz_l x
  have hlen : x.l.length ≤ 10000 := by have := len_nszL x.l; omega
  have hcx := cnt_0 x h1
  have hFew := few_nsz x (by omega)
  have hc' := hc
  rw [hcx] at hc
  obtain ⟨hs1, hk1⟩ := prod_len x.l 1 false hc (by omega) (fun y _ hy => casesR_len y hy)
  have HE := Lib.hid (cases_0 x h1)
  have HL0 : Hid ((cnt x).1 = 0 → casesR x = []) := Lib.hid (fun e => List.length_eq_zero_iff.1 (by rw [casesR_len x hc', e]))
  have hpr : (cnt x).1 ≠ 0 → proR x.l ≠ 0 ∧ proR x.l ≤ 4096 := by
    intro h0
    rw [hcx] at h0
    rcases hs1 with ⟨e, _⟩ | ⟨_, e, h⟩
    · exact absurd e h0
    · omega
  have h6 : C6 (w.alloc (.cells #[.int .i64 x.k, .int .i64 x.p, .string x.f, .string x.t, .int .i64 x.n, .slice A x.l.length c] 24)) w.heap.size 0 x A c := ⟨by simp, by simp, by simp, by simp, by simp, by simp⟩
  have HP : Hid (∀ w2 : World, Below (w.alloc (.cells #[.int .i64 x.k, .int .i64 x.p, .string x.f, .string x.t, .int .i64 x.n, .slice A x.l.length c] 24)).heap.size (w.alloc (.cells #[.int .i64 x.k, .int .i64 x.p, .string x.f, .string x.t, .int .i64 x.n, .slice A x.l.length c] 24)) w2 → w2.cell? ⟨w.heap.size, 0, none⟩ = some (.int .i64 x.k) ∧ w2.cell? ⟨w.heap.size, 1, none⟩ = some (.int .i64 x.p) ∧ w2.cell? ⟨w.heap.size, 2, none⟩ = some (.string x.f) ∧ w2.cell? ⟨w.heap.size, 3, none⟩ = some (.string x.t) ∧ w2.cell? ⟨w.heap.size, 4, none⟩ = some (.int .i64 x.n) ∧ w2.cell? ⟨w.heap.size, 5, none⟩ = some (.slice A x.l.length c) ∧
      Calls Tryd.prog 20 #[.agg #[.int .i64 x.k, .int .i64 x.p, .string x.f, .string x.t, .int .i64 x.n, .slice A x.l.length c]] w2 fun e w3 => e = .returned (.tuple #[.int .i64 ((cnt x).1 : Nat), .bool true]) ∧ ((cnt x).1 = 0 → CRes x w base pb v L (.slice none 0 0) w3) ∧ w3.cell? ⟨w.heap.size, 5, none⟩ = some (.slice A x.l.length c) ∧
        CInv w base pb v L [[]] 0 (.slice (some ⟨w3.heap.size, 0, none⟩) 1 1) (w3.alloc (.cells #[.slice none 0 0] 43)) ∧ (w3.alloc (.cells #[.slice none 0 0] 43)).cell? ⟨w.heap.size, 5, none⟩ = some (.slice A x.l.length c)) := Lib.hid (by
    intro w2 hb2
    have hB : Below w.heap.size w w2 := hb1.trans (hb2.mono hb1.size)
    have hz2 := hB.size
    refine ⟨(hb2.cell (p := ⟨w.heap.size, 0, none⟩) (by simp)).trans h6.c0, (hb2.cell (p := ⟨w.heap.size, 1, none⟩) (by simp)).trans h6.c1, (hb2.cell (p := ⟨w.heap.size, 2, none⟩) (by simp)).trans h6.c2, (hb2.cell (p := ⟨w.heap.size, 3, none⟩) (by simp)).trans h6.c3, (hb2.cell (p := ⟨w.heap.size, 4, none⟩) (by simp)).trans h6.c4, (hb2.cell (p := ⟨w.heap.size, 5, none⟩) (by simp)).trans h6.c5, ?_⟩
    have hl2 : w.heap.size < w2.heap.size := by have := hb2.size; simp at this; omega
    refine (count_any x hFew A c w2 B (hN.kept (hB.mono (by omega))) (by omega) (by omega)).mono ?_
    rintro e w3 ⟨rfl, hb3⟩
    have hB3 : Below w.heap.size w w3 := hB.trans (hb3.mono hz2)
    have hz3 := hb3.size
    have k5 : w3.cell? ⟨w.heap.size, 5, none⟩ = some (.slice A x.l.length c) := (hb3.cell (p := ⟨w.heap.size, 5, none⟩) (by exact hl2)).trans ((hb2.cell (p := ⟨w.heap.size, 5, none⟩) (by simp)).trans h6.c5)
    have hB4 : Below w.heap.size w (w3.alloc (.cells #[.slice none 0 0] 43)) := hB3.alloc (by omega) _
    refine ⟨by rw [hc'], fun e => ?_, k5, ?_, ?_⟩
    · exact ⟨[], [], v, [], cs, LL.nil _ _, by rw [List.append_nil]; exact hA.below' hB3, Gr.of_below hB3, by rw [HL0.out e]; rfl, (by intro l hl; cases hl), Nat.zero_le _⟩
    · exact ⟨[[]], _, v, [], cs, LL_none w3 _ (by omega), by rw [List.append_nil]; exact hA.below' hB4, Gr.of_below hB4, rfl, (by intro l hl i hi; simp at hl; subst hl; simp at hi), Nat.le_refl _⟩
    · exact ((((Below.refl w3.heap.size w3).alloc (Nat.le_refl _) (.cells #[.slice none 0 0] 43)).cell (p := ⟨w.heap.size, 5, none⟩) (by simp; omega))).trans k5)
  have HS : Hid ((cnt x).1 ≠ 0 → ∀ (k : Nat) (z : Value) (wr : World) (y : Rl), x.l[k]? = some y → CInv w base pb v L (allR (x.l.take k) [[]]) (nszL (x.l.take k)) z wr → ∃ g off A' c', A = some ⟨g, off, none⟩ ∧ C6 wr g (off + k * 6) y A' c' ∧
      ∀ b, Calls Tryd.prog 22 #[.agg #[.int .i64 y.k, .int .i64 y.p, .string y.f, .string y.t, .int .i64 y.n, .slice A' y.l.length c'], .func (.func 21) #[] #[.pointer (some ⟨pb, 0, none⟩)]] (wr.alloc b) fun e w3 => ∃ Au nu cu, e = .returned (.slice Au nu cu) ∧ Calls Tryd.prog 30 #[z, .slice Au nu cu] w3 fun e w4 => ∃ A4 n4 c4, e = .returned (.slice A4 n4 c4) ∧ CInv w base pb v L (allR (x.l.take (k + 1)) [[]]) (nszL (x.l.take (k + 1))) (.slice A4 n4 c4) w4) := Lib.hid (by
    intro h0 k z wr y hy' hI
    obtain ⟨hk, hye⟩ := List.getElem?_eq_some_iff.1 hy'
    subst hye
    have hNr := hI.rules hN hA hBp hpb hb
    obtain ⟨g, off, A', c', e1, hg, h6, hch⟩ := hNr.at_ hk
    have hy : x.l[k] ∈ x.l := List.getElem_mem hk
    have hnt := nszL_take x.l k hk
    have hnl := nszL_take_le x.l (k + 1)
    have hnl' := nszL_take_le x.l k
    obtain ⟨hp0, hp1⟩ := hpr h0
    have hal := pro_take_le x.l (k + 1) hp0
    have hal' := pro_take_le x.l k hp0
    have hat := allR_take x.l k hk
    have hpt := proR_take x.l k hk
    have hll := all_len (x.l.take k) [[]]
    have hcl := cnt_le x.l[k]
    rw [← casesR_len x.l[k] (hk1 _ hy)] at hcl
    refine ⟨g, off, A', c', e1, h6, fun b => ?_⟩
    have hws := hI.size
    have hba : Below wr.heap.size wr (wr.alloc b) := (Below.refl _ _).alloc (Nat.le_refl _) _
    have hI2 := hI.below hba
    refine (hI2.call (hC _ hy) (c := c') (hch.kept (hba.mono (by omega))) hBp hpb hb (hk1 _ hy) (by omega)).mono ?_
    rintro e w3 ⟨u, rfl, ls, us, v', L', cs', ls2, us2, g1, g2, g3, g4, g5, g6, g7, g8, g9, g10, g11⟩
    have hcr := CInv.cross g1 g2 g3 g4 g5 g6 g7 g8 g9 g10 hI2.size g11 (by omega) (by rw [hll]; simp; omega) (by omega) (by rw [hll]; simp; omega) (fun m hm => by have := all_short (x.l.take k) [[]] 0 (by simp) m hm; omega) (fun m hm => by have := casesR_short _ m hm; omega)
    rw [← hat, ← hnt] at hcr
    obtain ⟨Au, cu, rfl⟩ := g3.form
    exact ⟨Au, _, cu, rfl, hcr⟩)
  have hq1 : nszL x.l ≤ nsz x := by omega
  have hcl := cnt_le x
  clear hA hb1 hN hC hc hc' hcx hk1 hs1 hpr h6 hFew
  rw [h1] at HP ⊢
  have Hrs : Hid (∀ z wr, CInv w base pb v L (allR x.l [[]]) (nszL x.l) z wr → CRes x w base pb v L z wr) := Lib.hid (fun z wr h => by rw [← HE.out] at h; exact h.res hq1)
  clear HL0
  generalize hX : x.l = X at *
  generalize x.p = xp at *
  generalize x.f = xf at *
  generalize x.t = xt at *
  generalize x.n = xn at *
  generalize hct : (cnt x).1 = ct at *
  clear hX h1 hct
  by_cases h0 : ct = 0
  · have H0 := Lib.hid h0
    have b0 : ((ct : Int) == 0) = true := by rw [beq_iff_eq]; omega
    clear h0
    go_enter Tryd.func22, Tryd.ntmps22
    go_wp2_with (first
      | (go_at_call 29; refine HI.out.mono ?_; rintro e w2 ⟨rfl, hb2⟩; obtain ⟨d0, d1, d2, d3, d4, d5, hc2⟩ := HP.out w2 hb2; have HC2 := Lib.hid hc2; clear hc2 hb2)
      | (go_at_call 20; refine HC2.out.mono ?_; rintro e w3 ⟨rfl, hr3, k5, hi3, k6⟩; have HR3 := Lib.hid (hr3 H0.out); clear hr3 hi3)
      | fail)
    go_ret
    exact ⟨_, rfl, HR3.out⟩
  have b0 : ((ct : Int) == 0) = false := by rw [beq_eq_false_iff_ne]; omega
  have HS2 := Lib.hid (HS.out h0)
  clear HS
  go_enter Tryd.func22, Tryd.ntmps22
  go_wp2_with (first
    | (go_at_call 29; refine HI.out.mono ?_; rintro e w2 ⟨rfl, hb2⟩; obtain ⟨d0, d1, d2, d3, d4, d5, hc2⟩ := HP.out w2 hb2; have HC2 := Lib.hid hc2; clear hc2 hb2)
    | (go_at_call 20; refine HC2.out.mono ?_; rintro e w3 ⟨rfl, hr3, k5, hi3, k6⟩; have HI2 := Lib.hid hi3; clear hr3 hi3)
    | fail)
  clear HI HP HC2
  go_loopw [10, 54] (fun z i wr => ∃ (k : Nat) (A5 : Option Addr) (n5 c5 : Nat), i = .int .i64 (k : Int) ∧ k ≤ X.length ∧ z = .slice A5 n5 c5 ∧ Hid (CInv w base pb v L (allR (X.take k) [[]]) (nszL (X.take k)) (.slice A5 n5 c5) wr)) (fun _ i _ => X.length - (RowKit.intOf i).toNat)
  case atStart => exact ⟨0, _, _, _, rfl, Nat.zero_le _, rfl, Lib.hid (by simpa [allR, nszL] using HI2.out)⟩
  case round =>
    obtain ⟨k, A5, n5, c5, rfl, hk, rfl, HIk⟩ := hrel
    by_cases hlt : k < X.length
    · have hlt' : (k : Int) < (X.length : Int) := by omega
      obtain ⟨g, off, A', c', rfl, h6, hcall⟩ := HS2.out k _ wr X[k] (List.getElem?_eq_getElem hlt) HIk.out
      have HC := Lib.hid hcall
      obtain ⟨c0, c1, c2, c3, c4, c5'⟩ := h6
      clear hcall HS2
      generalize X[k] = y at *
      generalize y.l.length = yl at *
      generalize y.k = yk at *
      generalize y.p = yp at *
      generalize y.f = yf at *
      generalize y.t = yt at *
      generalize y.n = yn at *
      go_wp2_with (first
        | (go_at_call 22; refine (HC.out _).mono ?_; rintro e w3 ⟨Au, nu, cu, rfl, hcr⟩; have HCR := Lib.hid hcr; clear hcr)
        | (go_at_call 30; refine HCR.out.mono ?_; rintro e w4 ⟨A4, n4, c4', rfl, hI4⟩; have HI4 := Lib.hid hI4; clear hI4)
        | fail)
      clear HC
      go_roundw
      case rel => exact ⟨k + 1, _, _, _, by go_num, by omega, rfl, HI4⟩
      case measure => simp [RowKit.intOf]; omega
    · have hlt' : ¬ (k : Int) < (X.length : Int) := by omega
      have HK : Hid (X.take k = X) := Lib.hid (List.take_of_length_le (by omega))
      go_wp2
      go_ret
      refine ⟨_, rfl, ?_⟩
      have h := HIk.out
      rw [HK.out] at h
      exact Hrs.out _ _ h
theorem cases_fuel (N : Nat) : ∀ x, SizeOf.sizeOf x ≤ N → CasSaid x := by
  induction N with
  | zero =>
    intro x h
    obtain ⟨k, p, f, t, n, l⟩ := x
    simp at h
  | succ N ih =>
    intro x hN
    have hk : ∀ y ∈ x.l, CasSaid y := fun y hy => ih y (by have := Rl.lt_mem hy; omega)
    by_cases h0 : x.k = 0
    · exact cases_all0 x h0 hk
    · by_cases h1 : x.k = 1
      · exact cases_any1 x h1 hk
      · cases ha : atomB x.k with
        | true => exact cases_atom x ha
        | false => exact cases_other x ha h0 h1
/-- sense.cases -/
theorem cases_said (x : Rl) : CasSaid x := cases_fuel _ x (Nat.le_refl _)
end Go.Proofs.YtehjkgfdfihfmaaDoor
