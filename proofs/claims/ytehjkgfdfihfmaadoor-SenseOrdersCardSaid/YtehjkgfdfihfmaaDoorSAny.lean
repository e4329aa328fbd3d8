/- sense.cases of an Any. -/
import Derived.Test.YtehjkgfdfihfmaaDoorSCaseQ
namespace Go.Proofs.YtehjkgfdfihfmaaDoor
open Go.RowKit Go.Maps Go.Lib
set_option linter.unusedVariables false
set_option maxRecDepth 100000

/-- what append makes of the answer and of one rule's cases -/
theorem CInv.append {w wr w3 : World} {base pb n : Nat} {v z u v' : Value} {L L' : List Rl} {R R2 : List (List Rl)} {ls ls2 : List (List Nat)} {us us2 cs' : List Value}
    (h1 : LL wr w.heap.size z ls us) (h2 : LL w3 w.heap.size z ls us) (h3 : LL w3 wr.heap.size u ls2 us2) (hA : At w3 base pb v' (L ++ L') cs') (hG : Gr pb v v' w w3) (e1 : rd (L ++ L') ls = R) (i1 : InL (L ++ L').length ls) (e2 : rd (L ++ L') ls2 = R2) (i2 : InL (L ++ L').length ls2) (hn : L'.length ≤ n) (hw : w.heap.size ≤ wr.heap.size) (hw3 : wr.heap.size ≤ w3.heap.size) (hpb : pb < w.heap.size) (hR : R.length + R2.length ≤ 100000) :
    ∃ z' w4, (Builtin.append_ #[41, 41] 41 #[z, u]).run Tryd.prog w3 = .ok z' w4 ∧ CInv w base pb v L (R ++ R2) n z' w4 := by
  have l1 : ls.length = R.length := by rw [← e1, rd_len]
  have l2 : ls2.length = R2.length := by rw [← e2, rd_len]
  obtain ⟨z', w4, hr, hrow, hg, hloc⟩ := app_rows (P := Tryd.prog) (t := 41) (e := 43) 41 Tryd.underlying41 info_ints rfl h2.row h3.row (fun x hx => by
    obtain ⟨i, hi, rfl⟩ := List.getElem_of_mem hx
    obtain ⟨A, c, e⟩ := (h3.each i us2[i] _ (List.getElem?_eq_getElem hi) (List.getElem?_eq_getElem (by rw [← h3.len]; exact hi))).form
    rw [e]; rfl) (by omega) (by omega) (by omega)
  have hB : Below w.heap.size w3 w4 := (Below.refl _ _).grown hg (by omega) (fun q e => (h2.rowlt e).1)
  refine ⟨z', w4, hr, ls ++ ls2, us ++ us2, v', L', cs', h2.app hrow hg h3.len (fun i x l hx hl => (h3.each i x l hx hl).base hw) h3.apart ?_, ?_, hG.grow hB, ?_, i1.append i2, hn⟩
  · intro x hx y hy q hq e
    have a1 := h1.lt hx hq
    have a2 := h3.lt hy e
    omega
  · refine hA.below fun q hq => ?_
    rcases hq with rfl | hq
    · exact hB.block q hpb
    · refine hg.block q (hA.row.lt q hq).2 fun e => ?_
      obtain ⟨_, _, c1, e1⟩ := h2.rowlt e.symm
      rcases hA.row.2 with ⟨k1, _⟩ | ⟨g, cap, cur2, k1, k2, k3, _⟩
      · rw [k1] at hq; simp [Value.ownBlock] at hq
      · rw [k1] at hq
        simp [Value.ownBlock] at hq
        subst hq
        rw [e1] at k3
        simp at k3
  · rw [rd_append, e1, e2]
set_option maxHeartbeats 4000000 in
theorem cases_any1 (x : Rl) (h1 : x.k = 1) (hC : ∀ y ∈ x.l, CasSaid y) : CasSaid x := by
  intro A c w B base pb v L cs hN hBp hpb hb hA hc hl
  have hb1 : Below w.heap.size w (w.alloc (.cells #[.int .i64 x.k, .int .i64 x.p, .string x.f, .string x.t, .int .i64 x.n, .slice A x.l.length c] 24)) := (Below.refl _ _).alloc (Nat.le_refl _) _
  have HI := Lib.hid (isAtom_any x.k x.p x.n x.f x.t A x.l.length c (w.alloc (.cells #[.int .i64 x.k, .int .i64 x.p, .string x.f, .string x.t, .int .i64 x.n, .slice A x.l.length c] 24)))
  rw [h1, show atomB 1 = false from rfl] at HI
  have hsz := nsz_l x
  have hlen : x.l.length ≤ 10000 := by have := len_nszL x.l; omega
  have hcx := cnt_1 x h1
  rw [hcx] at hc
  obtain ⟨hs1, hk1⟩ := any_len x.l 0 hc (fun y _ hy => casesR_len y hy)
  have hs2 : (anyR x.l).length ≤ 4097 := by
    have := cnt_le x
    rw [hcx] at this
    omega
  have HE := Lib.hid (cases_1 x h1)
  have h6 : C6 (w.alloc (.cells #[.int .i64 x.k, .int .i64 x.p, .string x.f, .string x.t, .int .i64 x.n, .slice A x.l.length c] 24)) w.heap.size 0 x A c := ⟨by simp, by simp, by simp, by simp, by simp, by simp⟩
  have HP : Hid (∀ w2 : World, Below (w.alloc (.cells #[.int .i64 x.k, .int .i64 x.p, .string x.f, .string x.t, .int .i64 x.n, .slice A x.l.length c] 24)).heap.size (w.alloc (.cells #[.int .i64 x.k, .int .i64 x.p, .string x.f, .string x.t, .int .i64 x.n, .slice A x.l.length c] 24)) w2 → CInv w base pb v L [] 0 (.slice none 0 0) w2 ∧ w2.cell? ⟨w.heap.size, 0, none⟩ = some (.int .i64 x.k) ∧ w2.cell? ⟨w.heap.size, 5, none⟩ = some (.slice A x.l.length c)) := Lib.hid (by
    intro w2 hb2
    have hB : Below w.heap.size w w2 := hb1.trans (hb2.mono hb1.size)
    refine ⟨⟨[], [], v, [], cs, LL.nil _ _, by rw [List.append_nil]; exact hA.below' hB, Gr.of_below hB, rfl, (by intro l hl; cases hl), Nat.le_refl _⟩, (hb2.cell (p := ⟨w.heap.size, 0, none⟩) (by simp)).trans h6.c0, (hb2.cell (p := ⟨w.heap.size, 5, none⟩) (by simp)).trans h6.c5⟩)
  have HS : Hid (∀ (k : Nat) (z : Value) (wr : World) (y : Rl), x.l[k]? = some y → CInv w base pb v L (anyR (x.l.take k)) (nszL (x.l.take k)) z wr → ∃ g off A' c', A = some ⟨g, off, none⟩ ∧ C6 wr g (off + k * 6) y A' c' ∧
      ∀ b, Calls Tryd.prog 22 #[.agg #[.int .i64 y.k, .int .i64 y.p, .string y.f, .string y.t, .int .i64 y.n, .slice A' y.l.length c'], .func (.func 21) #[] #[.pointer (some ⟨pb, 0, none⟩)]] (wr.alloc b) fun e w3 => ∃ Au nu cu, e = .returned (.slice Au nu cu) ∧ ∃ A4 n4 c4 w4, (Builtin.append_ #[41, 41] 41 #[z, .slice Au nu cu]).run Tryd.prog w3 = .ok (.slice A4 n4 c4) w4 ∧ CInv w base pb v L (anyR (x.l.take (k + 1))) (nszL (x.l.take (k + 1))) (.slice A4 n4 c4) w4) := Lib.hid (by
    intro k z wr y hy' hI
    obtain ⟨hk, hye⟩ := List.getElem?_eq_some_iff.1 hy'
    subst hye
    have hNr := hI.rules hN hA hBp hpb hb
    obtain ⟨g, off, A', c', e1, hg, h6, hch⟩ := hNr.at_ hk
    have hy : x.l[k] ∈ x.l := List.getElem_mem hk
    have hnt := nszL_take x.l k hk
    have hnl := nszL_take_le x.l (k + 1)
    have hal := any_take_le x.l (k + 1)
    have hat := anyR_take x.l k hk
    refine ⟨g, off, A', c', e1, h6, fun b => ?_⟩
    have hws := hI.size
    have hba : Below wr.heap.size wr (wr.alloc b) := (Below.refl _ _).alloc (Nat.le_refl _) _
    have hI2 := hI.below hba
    refine (hI2.call (hC _ hy) (c := c') (hch.kept (hba.mono (by omega))) hBp hpb hb (hk1 _ hy) (by omega)).mono ?_
    rintro e w3 ⟨u, rfl, ls, us, v', L', cs', ls2, us2, g1, g2, g3, g4, g5, g6, g7, g8, g9, g10, g11⟩
    obtain ⟨z', w4, hr, hI4⟩ := CInv.append g1 g2 g3 g4 g5 g6 g7 g8 g9 g10 hI2.size g11 (by omega) (by rw [← List.length_append, ← hat]; omega)
    rw [← hat, ← hnt] at hI4
    obtain ⟨Au, cu, rfl⟩ := g3.form
    obtain ⟨A4, c4, rfl⟩ := hI4.form
    exact ⟨Au, _, cu, rfl, A4, _, c4, w4, hr, hI4⟩)
  have hq1 : nszL x.l ≤ nsz x := by omega
  clear hA hb1 hN hC hc hcx hk1 hs1 hs2 h6
  rw [h1] at HP ⊢
  generalize hX : x.l = X at *
  generalize x.p = xp at *
  generalize x.f = xf at *
  generalize x.t = xt at *
  generalize x.n = xn at *
  clear hX h1
  go_enter Tryd.func22, Tryd.ntmps22
  go_wp2_with (first
    | (go_at_call 29; refine HI.out.mono ?_; rintro e w2 ⟨rfl, hb2⟩; obtain ⟨hi2, d0, d5⟩ := HP.out w2 hb2; have HI2 := Lib.hid hi2; clear hi2 hb2)
    | fail)
  clear HI HP
  go_loopw [5, 28] (fun z i wr => ∃ (k : Nat) (A5 : Option Addr) (n5 c5 : Nat), i = .int .i64 (k : Int) ∧ k ≤ X.length ∧ z = .slice A5 n5 c5 ∧ Hid (CInv w base pb v L (anyR (X.take k)) (nszL (X.take k)) (.slice A5 n5 c5) wr)) (fun _ i _ => X.length - (RowKit.intOf i).toNat)
  case atStart => exact ⟨0, none, 0, 0, rfl, Nat.zero_le _, rfl, Lib.hid (by simpa [anyR, nszL] using HI2.out)⟩
  case round =>
    obtain ⟨k, A5, n5, c5, rfl, hk, rfl, HIk⟩ := hrel
    by_cases hlt : k < X.length
    · have hlt' : (k : Int) < (X.length : Int) := by omega
      obtain ⟨g, off, A', c', rfl, h6, hcall⟩ := HS.out k _ wr X[k] (List.getElem?_eq_getElem hlt) HIk.out
      have HC := Lib.hid hcall
      obtain ⟨c0, c1, c2, c3, c4, c5'⟩ := h6
      clear hcall HS
      generalize X[k] = y at *
      generalize y.l.length = yl at *
      generalize y.k = yk at *
      generalize y.p = yp at *
      generalize y.f = yf at *
      generalize y.t = yt at *
      generalize y.n = yn at *
      go_wp2_with (first
        | (go_at_call 22; refine (HC.out _).mono ?_; rintro e w3 ⟨Au, nu, cu, rfl, A4, n4, c4', w4, hr, hI4⟩; have HI4 := Lib.hid hI4; clear hI4)
        | (at_builtin; refine Lib.wpList_append_run _ rfl _ _ _ _ rfl _ _ rfl rfl _ _ hr ?_)
        | fail)
      clear hr HC
      go_roundw
      case rel => exact ⟨k + 1, _, _, _, by go_num, by omega, rfl, HI4⟩
      case measure => simp [RowKit.intOf]; omega
    · have hlt' : ¬ (k : Int) < (X.length : Int) := by omega
      have HK : Hid (X.take k = X) := Lib.hid (List.take_of_length_le (by omega))
      go_wp2
      go_ret
      refine ⟨_, rfl, ?_⟩
      have h := HIk.out
      rw [HK.out, ← HE.out] at h
      exact h.res (by omega)
end Go.Proofs.YtehjkgfdfihfmaaDoor
