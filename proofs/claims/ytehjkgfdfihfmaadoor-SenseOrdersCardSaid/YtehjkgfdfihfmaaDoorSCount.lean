/- sense.count and sense.product. -/
import Derived.Test.YtehjkgfdfihfmaaDoorSTree
namespace Go.Proofs.YtehjkgfdfihfmaaDoor
open Go.RowKit Go.Maps Go.Lib
set_option linter.unusedVariables false
set_option maxRecDepth 100000

def CntSaid (x : Rl) : Prop := ∀ (A : Option Addr) (c : Nat) (w : World) (B : Nat), NL w B A x.l → B ≤ w.heap.size → x.l.length ≤ 1000000 →
  Calls Tryd.prog 20 #[.agg #[.int .i64 x.k, .int .i64 x.p, .string x.f, .string x.t, .int .i64 x.n, .slice A x.l.length c]] w fun e w' => e = .returned (.tuple #[.int .i64 ((cnt x).1 : Nat), .bool (cnt x).2]) ∧ Below w.heap.size w w'
def ProdSaid (l : List Rl) : Prop := ∀ (A : Option Addr) (c : Nat) (w : World) (B : Nat), NL w B A l → B ≤ w.heap.size → l.length ≤ 1000000 →
  Calls Tryd.prog 28 #[.slice A l.length c] w fun e w' => e = .returned (.tuple #[.int .i64 ((prodL l 1 false).1 : Nat), .bool (prodL l 1 false).2]) ∧ Below w.heap.size w w'
/-- no rule of a rule has more than a million rules -/
inductive Few : Rl → Prop
  | mk (x : Rl) (h : x.l.length ≤ 1000000) (hk : ∀ y ∈ x.l, Few y) : Few x

set_option maxHeartbeats 2000000 in
theorem product_step (l : List Rl) (hC : ∀ x ∈ l, CntSaid x) (hF : ∀ x ∈ l, x.l.length ≤ 1000000) : ProdSaid l := by
  intro A c w B hN hB hl
  have HN := Lib.hid hN
  have HC := Lib.hid hC
  have HF := Lib.hid hF
  clear hN hC hF
  go_enter Tryd.func28, Tryd.ntmps28
  go_wp2_with fail
  go_loopw [4, 5, 12] (fun t z i wr => ∃ (k times : Nat) (b : Bool), i = .int .i64 (k : Int) ∧ t = .int .i64 (times : Int) ∧ z = .bool b ∧ k ≤ l.length ∧ times ≤ 4097 ∧ Hid (prodL l 1 false = prodL (l.drop k) times b) ∧ Hid (Below w.heap.size w wr)) (fun _ _ i _ => l.length - (RowKit.intOf i).toNat)
  case atStart => exact ⟨0, 1, false, rfl, rfl, rfl, Nat.zero_le _, by omega, Lib.hid rfl, Lib.hid (Below.refl _ _)⟩
  case round =>
    obtain ⟨k, times, b, rfl, rfl, rfl, hk, ht, HI, HB⟩ := hrel
    by_cases hlt : k < l.length
    · have hlt' : (k : Int) < (l.length : Int) := by omega
      have hbs := HB.out.size
      obtain ⟨g, off, A', c', rfl, hg, h6, hch⟩ := (HN.out.kept (HB.out.mono hB)).at_ hlt
      have hst : prodL (l.drop k) times b = if (cnt l[k]).2 = false then (0, false) else if (cnt l[k]).1 = 0 then prodL (l.drop (k + 1)) times true else prodL (l.drop (k + 1)) (min (times * (cnt l[k]).1) 4097) b := by
        rw [List.drop_eq_getElem_cons hlt, prodL]
      have hcl := cnt_le l[k]
      have HCx := Lib.hid (HC.out l[k] (List.getElem_mem hlt))
      have hfx := HF.out l[k] (List.getElem_mem hlt)
      generalize l[k] = x at *
      have hb2 : Below wr.heap.size wr (wr.alloc (.cells #[.int .i64 x.k, .int .i64 x.p, .string x.f, .string x.t, .int .i64 x.n, .slice A' x.l.length c'] 24)) := (Below.refl _ _).alloc (Nat.le_refl _) _
      have HK := Lib.hid (HCx.out A' c' (wr.alloc (.cells #[.int .i64 x.k, .int .i64 x.p, .string x.f, .string x.t, .int .i64 x.n, .slice A' x.l.length c'] 24)) B (hch.kept (hb2.mono (by omega))) (by simp; omega) hfx)
      have HB2 := Lib.hid (HB.out.trans (hb2.mono hbs))
      obtain ⟨c0, c1, c2, c3, c4, c5⟩ := h6
      have Hst := Lib.hid hst
      clear hst HCx hch hb2
      generalize x.l.length = xl at *
      generalize x.k = xk at *
      generalize x.p = xp at *
      generalize x.f = xf at *
      generalize x.t = xt at *
      generalize x.n = xn at *
      cases h2 : (cnt x).2 with
      | false =>
        have HE : Hid (prodL l 1 false = (0, false)) := Lib.hid (by rw [HI.out, Hst.out, if_pos h2])
        rw [h2] at HK
        go_wp2_with (first
          | (go_at_call 20; refine HK.out.mono ?_; rintro e w3 ⟨rfl, hb3⟩; have HB3 := Lib.hid hb3; clear hb3)
          | fail)
        go_ret2
        exact ⟨by rw [HE.out]; rfl, HB2.out.trans (HB3.out.mono (by have := HB2.out.size; omega))⟩
      | true =>
        rw [h2] at HK
        by_cases h0 : (cnt x).1 = 0
        · have HE : Hid (prodL l 1 false = prodL (l.drop (k + 1)) times true) := Lib.hid (by rw [HI.out, Hst.out, if_neg (by rw [h2]; simp), if_pos h0])
          rw [h0] at HK
          go_wp2_with (first
            | (go_at_call 20; refine HK.out.mono ?_; rintro e w3 ⟨rfl, hb3⟩; have HB3 := Lib.hid hb3; clear hb3)
            | fail)
          go_roundw
          case rel => exact ⟨k + 1, times, true, by go_num, rfl, rfl, by omega, ht, HE, Lib.hid (HB2.out.trans (HB3.out.mono (by have := HB2.out.size; omega)))⟩
          case measure => simp [RowKit.intOf]; omega
        · have HE : Hid (prodL l 1 false = prodL (l.drop (k + 1)) (min (times * (cnt x).1) 4097) b) := Lib.hid (by rw [HI.out, Hst.out, if_neg (by rw [h2]; simp), if_neg h0])
          have hm : times * (cnt x).1 ≤ 4097 * 4097 := Nat.mul_le_mul ht hcl
          have b0 : (((cnt x).1 : Int) == 0) = false := by rw [beq_eq_false_iff_ne]; omega
          generalize (cnt x).1 = q at *
          have hmi : (times : Int) * (q : Int) = ((times * q : Nat) : Int) := by simp
          have Hmi := Lib.hid hmi
          have m0 : IntKind.i64.wrap ((times : Int) * (q : Int)) = ((times * q : Nat) : Int) := by
            rw [hmi]
            simp only [IntKind.wrap, IntKind.signed, IntKind.bits]
            simp
            omega
          clear hmi
          generalize times * q = z at *
          go_wp2_with (first
            | (go_at_call 20; refine HK.out.mono ?_; rintro e w3 ⟨rfl, hb3⟩; have HB3 := Lib.hid hb3; clear hb3)
            | go_in)
          go_roundw
          case rel => exact ⟨k + 1, min z 4097, b, by go_num, by congr 1; split <;> omega, rfl, by omega, by omega, HE, Lib.hid (HB2.out.trans (HB3.out.mono (by have := HB2.out.size; omega)))⟩
          case measure => simp [RowKit.intOf]; omega
    · have hlt' : ¬ (k : Int) < (l.length : Int) := by omega
      have HE : Hid (prodL l 1 false = if b then (0, true) else (times, decide (times ≤ 4096))) := Lib.hid (by rw [HI.out, List.drop_eq_nil_of_le (by omega), prodL])
      cases b with
      | true =>
        go_wp2
        go_ret2
        exact ⟨by rw [HE.out]; rfl, HB.out⟩
      | false =>
        by_cases h4 : times ≤ 4096
        · have h4' : (times : Int) ≤ 4096 := by omega
          have HE2 : Hid (prodL l 1 false = (times, true)) := Lib.hid (by rw [HE.out]; simp [h4])
          go_wp2
          go_ret2
          exact ⟨by rw [HE2.out]; rfl, HB.out⟩
        · have h4' : ¬ (times : Int) ≤ 4096 := by omega
          have HE2 : Hid (prodL l 1 false = (times, false)) := Lib.hid (by rw [HE.out]; simp [h4])
          go_wp2
          go_ret2
          exact ⟨by rw [HE2.out]; rfl, HB.out⟩

theorem cnt_0 (x : Rl) (h : x.k = 0) : cnt x = prodL x.l 1 false := by
  obtain ⟨k, p, f, t, n, l⟩ := x
  have h' : k = 0 := h
  rw [cnt, if_pos h']
  rfl
theorem cnt_1 (x : Rl) (h : x.k = 1) : cnt x = sumL x.l 0 := by
  obtain ⟨k, p, f, t, n, l⟩ := x
  have h' : k = 1 := h
  rw [cnt, if_neg (by omega), if_pos h']
  rfl
theorem cnt_2 (x : Rl) (h0 : x.k ≠ 0) (h1 : x.k ≠ 1) : cnt x = (1, true) := by
  obtain ⟨k, p, f, t, n, l⟩ := x
  have h0' : ¬ k = 0 := h0
  have h1' : ¬ k = 1 := h1
  rw [cnt, if_neg h0', if_neg h1']
set_option maxHeartbeats 2000000 in
theorem count_step (x : Rl) (hP : ProdSaid x.l) (hC : ∀ y ∈ x.l, CntSaid y) (hF : ∀ y ∈ x.l, y.l.length ≤ 1000000) : CntSaid x := by
  intro A c w B hN hB hl
  have hb1 : Below w.heap.size w (w.alloc (.cells #[.int .i64 x.k, .int .i64 x.p, .string x.f, .string x.t, .int .i64 x.n, .slice A x.l.length c] 24)) := (Below.refl _ _).alloc (Nat.le_refl _) _
  have HB1 := Lib.hid hb1
  have HN := Lib.hid (hN.kept (hb1.mono hB))
  have HP := Lib.hid (hP A c _ B HN.out (by simp; omega) hl)
  have HC := Lib.hid hC
  have HF := Lib.hid hF
  clear hN hC hF hP hb1
  by_cases h0 : x.k = 0
  · have HE := Lib.hid (cnt_0 x h0)
    rw [HE.out]
    rw [h0] at HP HB1 ⊢
    clear HC HF HN
    generalize prodL x.l 1 false = r at *
    generalize x.l.length = xl at *
    generalize x.p = xp at *
    generalize x.f = xf at *
    generalize x.t = xt at *
    generalize x.n = xn at *
    go_enter Tryd.func20, Tryd.ntmps20
    go_wp2_with (first
      | (go_at_call 28; refine HP.out.mono ?_; rintro e w3 ⟨rfl, hb3⟩; have HB3 := Lib.hid hb3; clear hb3)
      | fail)
    go_ret2
    exact ⟨rfl, HB1.out.trans (HB3.out.mono HB1.out.size)⟩
  · by_cases h1 : x.k = 1
    · have HE := Lib.hid (cnt_1 x h1)
      rw [HE.out]
      rw [h1] at HN HB1 ⊢
      generalize hL : x.l = L at *
      clear HP hL
      generalize x.p = xp at *
      generalize x.f = xf at *
      generalize x.t = xt at *
      generalize x.n = xn at *
      go_enter Tryd.func20, Tryd.ntmps20
      go_wp2_with fail
      have hs1 := HB1.out.size
      generalize w.alloc (.cells #[.int .i64 1, .int .i64 xp, .string xf, .string xt, .int .i64 xn, .slice A L.length c] 24) = w1 at *
      go_loopw [4, 23] (fun s i wr => ∃ (k sum : Nat), i = .int .i64 (k : Int) ∧ s = .int .i64 (sum : Int) ∧ k ≤ L.length ∧ sum ≤ 4096 ∧ Hid (sumL L 0 = sumL (L.drop k) sum) ∧ Hid (Below w1.heap.size w1 wr)) (fun _ i _ => L.length - (RowKit.intOf i).toNat)
      case atStart => exact ⟨0, 0, rfl, rfl, Nat.zero_le _, by omega, Lib.hid rfl, Lib.hid (Below.refl _ _)⟩
      case round =>
        obtain ⟨k, sum, rfl, rfl, hk, ht, HI, HB⟩ := hrel
        by_cases hlt : k < L.length
        · have hlt' : (k : Int) < (L.length : Int) := by omega
          have hbs := HB.out.size
          obtain ⟨g, off, A', c', rfl, hg, h6, hch⟩ := (HN.out.kept (HB.out.mono (by omega))).at_ hlt
          have hst : sumL (L.drop k) sum = if (cnt L[k]).2 = false ∨ 4096 < sum + (cnt L[k]).1 then (0, false) else sumL (L.drop (k + 1)) (sum + (cnt L[k]).1) := by
            rw [List.drop_eq_getElem_cons hlt, sumL]
          have hcl := cnt_le L[k]
          have HCx := Lib.hid (HC.out L[k] (List.getElem_mem hlt))
          have hfx := HF.out L[k] (List.getElem_mem hlt)
          generalize L[k] = x at *
          have hb2 : Below wr.heap.size wr (wr.alloc (.cells #[.int .i64 x.k, .int .i64 x.p, .string x.f, .string x.t, .int .i64 x.n, .slice A' x.l.length c'] 24)) := (Below.refl _ _).alloc (Nat.le_refl _) _
          have HK := Lib.hid (HCx.out A' c' (wr.alloc (.cells #[.int .i64 x.k, .int .i64 x.p, .string x.f, .string x.t, .int .i64 x.n, .slice A' x.l.length c'] 24)) B (hch.kept (hb2.mono (by omega))) (by simp; omega) hfx)
          have HB2 := Lib.hid (HB.out.trans (hb2.mono hbs))
          obtain ⟨c0, c1, c2, c3, c4, c5⟩ := h6
          have Hst := Lib.hid hst
          clear hst HCx hch hb2
          generalize x.l.length = yl at *
          generalize x.k = yk at *
          generalize x.p = yp at *
          generalize x.f = yf at *
          generalize x.t = yt at *
          generalize x.n = yn at *
          cases h2 : (cnt x).2 with
          | false =>
            have HE : Hid (sumL L 0 = (0, false)) := Lib.hid (by rw [HI.out, Hst.out, if_pos (.inl h2)])
            rw [h2] at HK
            generalize (cnt x).1 = q at *
            go_wp2_with (first
              | (go_at_call 20; refine HK.out.mono ?_; rintro e w3 ⟨rfl, hb3⟩; have HB3 := Lib.hid hb3; clear hb3)
              | fail)
            go_ret2
            refine ⟨by rw [HE.out]; rfl, HB1.out.trans ((HB2.out.trans (HB3.out.mono (by have := HB2.out.size; omega))).mono (by omega))⟩
          | true =>
            rw [h2] at HK
            by_cases h4 : 4096 < sum + (cnt x).1
            · have HE : Hid (sumL L 0 = (0, false)) := Lib.hid (by rw [HI.out, Hst.out, if_pos (.inr h4)])
              have h4' : (4096 : Int) < (sum : Int) + ((cnt x).1 : Int) := by omega
              generalize (cnt x).1 = q at *
              go_wp2_with (first
                | (go_at_call 20; refine HK.out.mono ?_; rintro e w3 ⟨rfl, hb3⟩; have HB3 := Lib.hid hb3; clear hb3)
                | fail)
              go_ret2
              refine ⟨by rw [HE.out]; rfl, HB1.out.trans ((HB2.out.trans (HB3.out.mono (by have := HB2.out.size; omega))).mono (by omega))⟩
            · have HE : Hid (sumL L 0 = sumL (L.drop (k + 1)) (sum + (cnt x).1)) := Lib.hid (by rw [HI.out, Hst.out, if_neg (by rw [h2]; intro h; exact h.elim (fun h => by cases h) h4)])
              have h4' : ¬ (4096 : Int) < (sum : Int) + ((cnt x).1 : Int) := by omega
              generalize (cnt x).1 = q at *
              go_wp2_with (first
                | (go_at_call 20; refine HK.out.mono ?_; rintro e w3 ⟨rfl, hb3⟩; have HB3 := Lib.hid hb3; clear hb3)
                | fail)
              go_roundw
              case rel => exact ⟨k + 1, sum + q, by go_num, by congr 1, by omega, by omega, HE, Lib.hid (HB2.out.trans (HB3.out.mono (by have := HB2.out.size; omega)))⟩
              case measure => simp [RowKit.intOf]; omega
        · have hlt' : ¬ (k : Int) < (L.length : Int) := by omega
          have HE : Hid (sumL L 0 = (sum, true)) := Lib.hid (by rw [HI.out, List.drop_eq_nil_of_le (by omega), sumL])
          go_wp2
          go_ret2
          exact ⟨by rw [HE.out]; rfl, HB1.out.trans (HB.out.mono (by omega))⟩
    · have HE := Lib.hid (cnt_2 x h0 h1)
      rw [HE.out]
      have b0 : (x.k == 0) = false := by rw [beq_eq_false_iff_ne]; exact h0
      have b1 : (x.k == 1) = false := by rw [beq_eq_false_iff_ne]; exact h1
      clear HP HC HF HN HE
      generalize x.l.length = xl at *
      generalize x.k = xk at *
      generalize x.p = xp at *
      generalize x.f = xf at *
      generalize x.t = xt at *
      generalize x.n = xn at *
      go_enter Tryd.func20, Tryd.ntmps20
      go_wp2
      go_ret2
      exact ⟨rfl, HB1.out⟩
theorem Few.len {x : Rl} (h : Few x) : x.l.length ≤ 1000000 := by cases h; assumption
theorem Few.kid {x : Rl} (h : Few x) {y : Rl} (hy : y ∈ x.l) : Few y := by cases h with | mk _ _ hk => exact hk y hy
theorem count_fuel (N : Nat) : (∀ x, SizeOf.sizeOf x ≤ N → Few x → CntSaid x) ∧ (∀ l : List Rl, SizeOf.sizeOf l ≤ N → (∀ x ∈ l, Few x) → ProdSaid l) := by
  induction N with
  | zero =>
    refine ⟨fun x h => ?_, fun l h => ?_⟩
    · obtain ⟨k, p, f, t, n, l⟩ := x
      simp at h
    · cases l <;> simp at h
  | succ N ih =>
    have hp : ∀ l : List Rl, SizeOf.sizeOf l ≤ N + 1 → (∀ x ∈ l, Few x) → ProdSaid l := fun l hl hF =>
      product_step l (fun x hx => ih.1 x (by have := List.sizeOf_lt_of_mem hx; omega) (hF x hx)) (fun x hx => (hF x hx).len)
    refine ⟨fun x hx hF => ?_, hp⟩
    exact count_step x (ih.2 x.l (by have := x.lt_l; omega) (fun y hy => hF.kid hy)) (fun y hy => ih.1 y (by have := Rl.lt_mem hy; omega) (hF.kid hy)) (fun y hy => (hF.kid hy).len)
theorem count_any (x : Rl) (hF : Few x) : CntSaid x := (count_fuel _).1 x (Nat.le_refl _) hF
end Go.Proofs.YtehjkgfdfihfmaaDoor
