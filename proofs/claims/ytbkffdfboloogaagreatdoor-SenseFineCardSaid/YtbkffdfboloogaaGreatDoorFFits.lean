/- The document's fits. -/
import Derived.Test.YtbkffdfboloogaaGreatDoorMS
namespace Go.Proofs.YtbkffdfboloogaaGreatDoor
open Go.RowKit Go.Lib
set_option linter.unusedVariables false
set_option maxRecDepth 100000

/-- the numbers of a credit that are asked one by one -/
structure NumOk (c : Cr) : Prop where
  a0 : 0 ≤ c.abo
  a1 : c.abo ≤ 1000
  b0 : 0 ≤ c.bel
  b1 : c.bel ≤ 1000
  l0 : 0 ≤ c.lat
  l1 : c.lat ≤ 1048576
  e0 : 0 ≤ c.exp
  e1 : c.exp ≤ 1048576
  w0 : 0 ≤ c.wit
  w1 : c.wit ≤ 1048576
  t0 : 0 ≤ c.ten
  t1 : c.ten ≤ 1048576
  n1 : c.needs.length ≤ 64
theorem fits_stage (c : Cr) : fitsB c = true ↔ ((∀ s ∈ namesL c, nmB s = true) ∧ (c.con.toList = [] ∨ (¬ c.con.toList = [] ∧ nmB c.con = true))) ∧ (c.cur.size = 3 ∧ 1 ≤ c.amt ∧ c.amt ≤ 1099511627776) ∧ c.cur.data.toList.all large = true ∧ NumOk c ∧ c.needs.all needB = true := by
  rw [fits_parts]
  unfold midB daysL dayB codeB
  have hlen : c.cur.data.toList.length = c.cur.size := by simp
  have hemp := emp_eq c.con
  simp only [Bool.and_eq_true, List.all_cons, List.all_nil, Bool.or_eq_true, decide_eq_true_iff, and_true, List.all_eq_true, hlen]
  constructor
  · rintro ⟨⟨⟨⟨h1, ⟨⟨⟨⟨⟨h2, h3⟩, h4⟩, h5⟩, h6⟩, h7⟩⟩, ⟨h8, h9, h10, h11⟩⟩, h12⟩, h13⟩
    refine ⟨⟨h1, ?_⟩, ⟨h3.1, h4, h5⟩, h3.2, ⟨h6.1, h6.2, h7.1, h7.2, h8.1, h8.2, h9.1, h9.2, h10.1, h10.2, h11.1, h11.2, h12⟩, h13⟩
    by_cases he : c.con.toList = []
    · exact .inl he
    · right
      refine ⟨he, ?_⟩
      rcases h2 with h2 | h2
      · rw [h2] at hemp; simp at hemp; exact absurd hemp he
      · exact h2
  · rintro ⟨⟨h1, h2⟩, ⟨h3, h4, h5⟩, h6, ⟨a0, a1, b0, b1, l0, l1, e0, e1, w0, w1, t0, t1, n1⟩, h13⟩
    refine ⟨⟨⟨⟨h1, ⟨⟨⟨⟨⟨?_, h3, h6⟩, h4⟩, h5⟩, a0, a1⟩, b0, b1⟩⟩, ⟨⟨l0, l1⟩, ⟨e0, e1⟩, ⟨w0, w1⟩, ⟨t0, t1⟩⟩⟩, n1⟩, h13⟩
    rcases h2 with h2 | h2
    · left; rw [h2] at hemp; simpa using hemp.symm
    · exact .inr h2.2
theorem large_n (c : UInt8) : large c = (decide (65 ≤ c.toNat) && decide (c.toNat ≤ 90)) := by
  unfold large
  rw [Bool.eq_iff_iff]
  simp only [Bool.and_eq_true, decide_eq_true_iff, UInt8.le_iff_toNat_le]
  rfl
theorem large_snoc (s : ByteArray) (k : Nat) (h : k < s.size) : (s.data.toList.take (k + 1)).all large = ((s.data.toList.take k).all large && large s[k]) := by
  have e : s.data.toList.take (k + 1) = s.data.toList.take k ++ [s[k]] := by
    rw [List.take_succ_eq_append_getElem (by simpa using h)]
    rfl
  rw [e]; simp
theorem large_bad (s : ByteArray) (k : Nat) (h : k < s.size) (hn : large s[k] = false) : s.data.toList.all large = false := by
  rw [List.all_eq_false]
  exact ⟨s[k], by show s.data[k] ∈ s.data.toList; simp, by simp [hn]⟩

set_option maxHeartbeats 8000000 in
theorem fits_any (c : Cr) (hf : Fair c) (A : Option Addr) (cp : Nat) (w : World) (B : Nat) (hN : Ns w B A c.needs) (hB : B ≤ w.heap.size) (hW : Wd w) :
    Calls Tryz.prog 42 #[.agg (crA c A cp)] w fun e w' => e = .returned (.bool (fitsB c)) ∧ Below w.heap.size w w' := by
  have hb1 : Below w.heap.size w (w.alloc (.cells (crA c A cp) 26)) := (Below.refl _ _).alloc (Nat.le_refl _) _
  have hz1 : (w.alloc (.cells (crA c A cp) 26)).heap.size = w.heap.size + 1 := by simp
  have h18 := C18.new w c A cp 26
  have H18 : Hid (∀ W : World, Below (w.heap.size + 1) (w.alloc (.cells (crA c A cp) 26)) W → Hid (Below w.heap.size w W) ∧ C18 W w.heap.size c A cp) := Lib.hid (fun W hb => ⟨Lib.hid (hb1.trans (hb.mono (by omega))), h18.below hb (by omega)⟩)
  have HNm : Hid (∀ (s : ByteArray), s ∈ [c.num, c.app, c.ben, c.iss, c.con, c.frm, c.dst, c.cur] → ∀ W : World, Below (w.heap.size + 1) (w.alloc (.cells (crA c A cp) 26)) W → Calls Tryz.prog 74 #[.string s] W fun e w' => e = .returned (.bool (nmB s)) ∧ Below W.heap.size W w') := Lib.hid (fun s hs W hb => refNm_any s W (hf.str s hs))
  have HNd : Hid (∀ x ∈ c.needs, Sm8 x) := Lib.hid hf.need
  have HNs := Lib.hid hN
  have HW := Lib.hid hW
  have HS := Lib.hid (fits_stage c)
  have HB1 := Lib.hid hb1
  have Hb := Lib.hid (Below.refl (w.heap.size + 1) (w.alloc (.cells (crA c A cp) 26)))
  have HBN := HB1
  obtain ⟨k0, k1, k2, k3, k4, k5, k6, k7, k8, k9, k10, k11, k12, k13, k14, k15, k16, k17⟩ := h18
  clear hN hW hf hb1
  unfold crA at *
  generalize fitsB c = r at *
  by_cases s1 : (∀ s ∈ namesL c, nmB s = true) ∧ (c.con.toList = [] ∨ (¬ c.con.toList = [] ∧ nmB c.con = true))
  · have HN1 : Hid (∀ (s : ByteArray), nmB s = true → s ∈ [c.num, c.app, c.ben, c.iss, c.con, c.frm, c.dst, c.cur] → ∀ W : World, Below (w.heap.size + 1) (w.alloc (.cells #[.string c.num, .string c.app, .string c.ben, .string c.iss, .string c.con, .string c.frm, .string c.dst, .string c.cur, .int .i64 c.amt, .int .i64 c.abo, .int .i64 c.bel, .int .i64 c.lat, .int .i64 c.exp, .int .i64 c.wit, .int .i64 c.ten, .bool c.par, .bool c.chg, .slice A c.needs.length cp] 26)) W → Calls Tryz.prog 74 #[.string s] W fun e w' => e = .returned (.bool true) ∧ Below W.heap.size W w') := Lib.hid (fun s h hs W hb => by rw [← h]; exact HNm.out s hs W hb)
    obtain ⟨hn, hc⟩ := s1
    have n0 : nmB c.num = true := hn _ (by simp [namesL])
    have n1 : nmB c.app = true := hn _ (by simp [namesL])
    have n2 : nmB c.ben = true := hn _ (by simp [namesL])
    have n3 : nmB c.iss = true := hn _ (by simp [namesL])
    have n5 : nmB c.frm = true := hn _ (by simp [namesL])
    have n6 : nmB c.dst = true := hn _ (by simp [namesL])
    have HS2 : Hid (r = true ↔ (c.cur.size = 3 ∧ 1 ≤ c.amt ∧ c.amt ≤ 1099511627776) ∧ c.cur.data.toList.all large = true ∧ NumOk c ∧ c.needs.all needB = true) := Lib.hid (by rw [HS.out]; exact ⟨fun h => h.2, fun h => ⟨⟨hn, hc⟩, h⟩⟩)
    have HQ := Lib.hid (And.intro n0 (And.intro n1 (And.intro n2 (And.intro n3 (And.intro n5 n6)))))
    clear hn HS HNm n0 n1 n2 n3 n5 n6
    by_cases s2 : c.cur.size = 3 ∧ 1 ≤ c.amt ∧ c.amt ≤ 1099511627776
    · have HS3 : Hid (r = true ↔ c.cur.data.toList.all large = true ∧ NumOk c ∧ c.needs.all needB = true) := Lib.hid (by rw [HS2.out]; exact ⟨fun h => h.2, fun h => ⟨s2, h⟩⟩)
      obtain ⟨hcs, ha1, ha2⟩ := s2
      have e3 : ((c.cur.size : Int) != 3) = false := by rw [hcs]; rfl
      have e4 : ¬ c.amt < 1 := by omega
      have e5 : ¬ (1099511627776 : Int) < c.amt := by omega
      clear HS2 ha1 ha2
      rcases hc with hc | ⟨hc, hc2⟩
      all_goals
        go_enter Tryz.func42, Tryz.ntmps42
        go_wp2_with (first
          | (go_at_call 74; refine (HN1.out _ (by first | exact HQ.out.1 | exact HQ.out.2.1 | exact HQ.out.2.2.1 | exact HQ.out.2.2.2.1 | exact HQ.out.2.2.2.2.1 | exact HQ.out.2.2.2.2.2 | assumption) (by simp) _ Hb.out).mono ?_; rintro e w3 ⟨rfl, hb3⟩; have Hb' := Lib.hid (Hb.out.trans (hb3.mono (by have := Hb.out.size; omega))); clear Hb HBN hb3 k0 k1 k2 k3 k4 k5 k6 k7 k8 k9 k10 k11 k12 k13 k14 k15 k16 k17; obtain ⟨HBN, k0, k1, k2, k3, k4, k5, k6, k7, k8, k9, k10, k11, k12, k13, k14, k15, k16, k17⟩ := H18.out w3 Hb'.out; have Hb := Hb'; clear Hb')
          | fail)
        clear HN1 HQ e3 e4 e5 k0 k1 k2 k3 k4 k5 k6 k8 k15 k16 hc
        generalize (w.alloc (.cells #[.string c.num, .string c.app, .string c.ben, .string c.iss, .string c.con, .string c.frm, .string c.dst, .string c.cur, .int .i64 c.amt, .int .i64 c.abo, .int .i64 c.bel, .int .i64 c.lat, .int .i64 c.exp, .int .i64 c.wit, .int .i64 c.ten, .bool c.par, .bool c.chg, .slice A c.needs.length cp] 26)) = w1 at *
        go_loopw [3] (fun i wr => ∃ k : Nat, k ≤ 3 ∧ i = .int .i64 (k : Int) ∧ Hid ((c.cur.data.toList.take k).all large = true) ∧ wr = w3) (fun i _ => 3 - (RowKit.intOf i).toNat)
        case atStart => exact ⟨0, by omega, rfl, Lib.hid rfl, rfl⟩
        case round =>
          obtain ⟨k, hk, rfl, HK, rfl⟩ := hrel
          by_cases hlt : k < 3
          · have b1 : (k : Int) < 3 := by omega
            have hks : k < c.cur.size := by omega
            have HSn := Lib.hid (large_snoc c.cur k hks)
            have HBd := Lib.hid (large_bad c.cur k hks)
            have Hl := Lib.hid (large_n c.cur[k])
            have HF : Hid (large c.cur[k] = false → r = false) := Lib.hid (fun h => by
              rw [Bool.eq_false_iff]
              intro hr
              have := (HS3.out.1 hr).1
              rw [HBd.out h] at this
              cases this)
            clear HBd HS3
            go_wp2
            all_goals first
              | (go_ret
                 exact ⟨by rw [HF.out (by rw [Hl.out]; simp; omega)]; rfl, HBN.out⟩)
              | exact ⟨⟨k + 1, by omega, by go_num, Lib.hid (by rw [HSn.out, HK.out, Hl.out]; simp; omega), by first | rfl | trivial⟩, by simp [RowKit.intOf]; omega⟩
          · have b1 : ¬ (k : Int) < 3 := by omega
            have HS4 : Hid (r = true ↔ NumOk c ∧ c.needs.all needB = true) := Lib.hid (by
              rw [HS3.out]
              have : c.cur.data.toList.take k = c.cur.data.toList := List.take_of_length_le (by simp; omega)
              have h := HK.out
              rw [this] at h
              exact ⟨fun h => h.2, fun h2 => ⟨h, h2⟩⟩)
            clear HS3 HK
            by_cases s4 : NumOk c
            · have HE : Hid (r = c.needs.all needB) := Lib.hid (by rw [Bool.eq_iff_iff, HS4.out]; exact ⟨fun h => h.2, fun h => ⟨s4, h⟩⟩)
              obtain ⟨a0, a1, b0, b1', l0, l1, x0, x1, z0, z1, t0, t1, n1⟩ := s4
              have n1' : ¬ (64 : Int) < (c.needs.length : Int) := by omega
              have hbs := Hb.out.size
              clear HS4
              go_wp2
              clear k7 k9 k10 k11 k12 k13 k14 a0 a1 b0 b1' l0 l1 x0 x1 z0 z1 t0 t1 n1'
              have k17' := k17
              clear k17
              go_loopw [4] (fun i wr => ∃ k : Nat, k ≤ c.needs.length ∧ i = .int .i64 (k : Int) ∧ Hid ((c.needs.take k).all needB = true) ∧ Hid (Below (w.heap.size + 1) w1 wr)) (fun i _ => c.needs.length - (RowKit.intOf i).toNat)
              case atStart => exact ⟨0, Nat.zero_le _, rfl, Lib.hid rfl, Hb⟩
              case round =>
                obtain ⟨k, hk, rfl, HK, HBr⟩ := hrel
                have hbr := HBr.out.size
                obtain ⟨HBn, j0, j1, j2, j3, j4, j5, j6, j7, j8, j9, j10, j11, j12, j13, j14, j15, j16, j17⟩ := H18.out wr HBr.out
                clear j0 j1 j2 j3 j4 j5 j6 j7 j8 j9 j10 j11 j12 j13 j14 j15 j16 k17' H18 Hb HBN
                by_cases hlt : k < c.needs.length
                · have b2 : (k : Int) < (c.needs.length : Int) := by omega
                  obtain ⟨g, off, A', c', rfl, hg, h8, hch⟩ := (HNs.out.kept (HBn.out.mono hB)).at_ hlt
                  obtain ⟨d0, d1, d2, d3, d4, d5, d6, d7⟩ := h8
                  have hsm := HNd.out c.needs[k] (List.getElem_mem hlt)
                  have HS := Lib.hid (fun h => all_taken (p := needB) hlt HK.out h)
                  have HF : Hid (needB c.needs[k] = false → r = false) := Lib.hid (fun h => by rw [HE.out]; exact all_false (List.getElem_mem hlt) h)
                  have HEl : Hid (needB c.needs[k] = (decide (0 ≤ c.needs[k].k ∧ c.needs[k].k ≤ 5) && decide (1 ≤ c.needs[k].c ∧ c.needs[k].c ≤ 9) && (alwB c.needs[k].r || (decide (dep c.needs[k].r ≤ 16) && rightR c.needs[k].r)))) := Lib.hid rfl
                  have hwr : w.heap.size ≤ wr.heap.size := HBn.out.size
                  have HWr := Lib.hid (HW.out.all HBn.out)
                  clear HE HK HNs HNd HW
                  generalize c.needs[k] = x at *
                  have H8 := Lib.hid (need_cells x A' c' wr)
                  have HBV : Hid (Below (w.heap.size + 1) w1 (wr.alloc (.cells (ndA x A' c') 35))) := Lib.hid (HBr.out.alloc (by omega) _)
                  have HBNV : Hid (Below w.heap.size w (wr.alloc (.cells (ndA x A' c') 35))) := Lib.hid (HBn.out.alloc hwr _)
                  have hV : (wr.alloc (.cells (ndA x A' c') 35)).heap.size = wr.heap.size + 1 := by simp
                  have HA : Hid (∀ W : World, Below (wr.heap.size + 1) (wr.alloc (.cells (ndA x A' c') 35)) W → Calls Tryz.prog 46 #[.agg (rlA x.r A' c')] W fun e w' => e = .returned (.bool (alwB x.r)) ∧ Below W.heap.size W w') := Lib.hid (fun W hb => refAlways_any x.r.k x.r.p x.r.n x.r.f x.r.t A' x.r.l.length c' W)
                  have HD : Hid (∀ W : World, Below (wr.heap.size + 1) (wr.alloc (.cells (ndA x A' c') 35)) W → Calls Tryz.prog 76 #[.agg (rlA x.r A' c')] W fun e w' => e = .returned (.int .i64 (dep x.r : Int)) ∧ Below W.heap.size W w') := Lib.hid (fun W hb => by
                    obtain ⟨h, _⟩ := H8.out W hb
                    have := h.out.size
                    exact depth_any x.r A' c' W B (hch.kept (h.out.mono (by omega))) (by omega) hsm.1)
                  have HR : Hid (∀ W : World, Below (wr.heap.size + 1) (wr.alloc (.cells (ndA x A' c') 35)) W → Calls Tryz.prog 75 #[.agg (rlA x.r A' c')] W fun e w' => e = .returned (.bool (rightR x.r)) ∧ Below W.heap.size W w') := Lib.hid (fun W hb => by
                    obtain ⟨h, _⟩ := H8.out W hb
                    have := h.out.size
                    exact right_any x.r A' c' W B (hch.kept (h.out.mono (by omega))) (by omega) (HWr.out.all h.out) hsm.1 hsm.2)
                  have HUp : Hid (∀ W : World, Below (wr.heap.size + 1) (wr.alloc (.cells (ndA x A' c') 35)) W → Below (w.heap.size + 1) w1 W ∧ Below w.heap.size w W) := Lib.hid (fun W hb => ⟨HBV.out.trans (hb.mono (by omega)), HBNV.out.trans (hb.mono (by omega))⟩)
                  clear hch hsm HWr
                  unfold ndA rlA at *
                  generalize alwB x.r = ba at *
                  generalize rightR x.r = br at *
                  generalize dep x.r = dx at *
                  generalize needB x = nb at *
                  generalize x.r.l.length = xl at *
                  generalize x.r.k = xk at *
                  generalize x.r.p = xp at *
                  generalize x.r.f = xf at *
                  generalize x.r.t = xt at *
                  generalize x.r.n = xn at *
                  generalize x.k = yk at *
                  generalize x.c = yc at *
                  have hz0 : (wr.alloc (.cells #[.int .i64 yk, .int .i64 yc, .int .i64 xk, .int .i64 xp, .string xf, .string xt, .int .i64 xn, .slice A' xl c'] 35)).heap.size = wr.heap.size + 1 := hV
                  cases nb with
                  | true =>
                    have HS2 := Lib.hid (HS.out rfl)
                    have hx : (0 ≤ yk ∧ yk ≤ 5) ∧ (1 ≤ yc ∧ yc ≤ 9) ∧ (ba = true ∨ (ba = false ∧ dx ≤ 16 ∧ br = true)) := by
                      have h := HEl.out.symm
                      simp only [Bool.and_eq_true, Bool.or_eq_true, decide_eq_true_iff] at h
                      refine ⟨h.1.1, h.1.2, ?_⟩
                      cases ba with
                      | true => exact .inl rfl
                      | false => exact .inr ⟨rfl, by simpa using h.2⟩
                    obtain ⟨⟨x0, x5⟩, ⟨x1, x9⟩, hx⟩ := hx
                    have y0 : ¬ yk < 0 := by omega
                    have y5 : ¬ (5 : Int) < yk := by omega
                    have y1 : ¬ yc < 1 := by omega
                    have y9 : ¬ (9 : Int) < yc := by omega
                    clear HS HF HEl x0 x5 x1 x9 hV
                    rcases hx with rfl | ⟨rfl, hdx, rfl⟩
                    · go_wp2_with (first
                        | (go_at_call 46; refine (HA.out _ (Below.refl _ _)).mono ?_; rintro e w4 ⟨rfl, hb4⟩; rw [hz0] at hb4; have HU4 := Lib.hid (HUp.out w4 hb4); clear hb4)
                        | fail)
                      go_roundw
                      case rel => exact ⟨k + 1, by omega, by go_num, HS2, Lib.hid HU4.out.1⟩
                      case measure => simp [RowKit.intOf]; omega
                    · have hdx' : ¬ (16 : Int) < (dx : Int) := by omega
                      go_wp2_with (first
                        | (go_at_call 46; refine (HA.out _ (Below.refl _ _)).mono ?_; rintro e w4 ⟨rfl, hb4⟩; rw [hz0] at hb4; have Hb4 := Lib.hid hb4; obtain ⟨HB4, i0, i1, i2, i3, i4, i5, i6, i7⟩ := H8.out w4 hb4; clear hb4)
                        | (go_at_call 75; refine (HR.out _ Hb4.out).mono ?_; rintro e w5 ⟨rfl, hb5⟩; have Hb5 := Lib.hid (Hb4.out.trans (hb5.mono (by have := Hb4.out.size; omega))); obtain ⟨HB5, i0', i1', i2', i3', i4', i5', i6', i7'⟩ := H8.out w5 Hb5.out; clear hb5)
                        | (go_at_call 76; refine (HD.out _ Hb5.out).mono ?_; rintro e w6 ⟨rfl, hb6⟩; have HU6 := Lib.hid (HUp.out w6 (Hb5.out.trans (hb6.mono (by have := Hb5.out.size; omega)))); clear hb6)
                        | fail)
                      go_roundw
                      case rel => exact ⟨k + 1, by omega, by go_num, HS2, Lib.hid HU6.out.1⟩
                      case measure => simp [RowKit.intOf]; omega
                  | false =>
                    have HF2 := Lib.hid (HF.out rfl)
                    have Hx : Hid (¬ ((0 ≤ yk ∧ yk ≤ 5) ∧ (1 ≤ yc ∧ yc ≤ 9) ∧ (ba = true ∨ (dx ≤ 16 ∧ br = true)))) := Lib.hid (fun h => by
                      have h2 := HEl.out.symm
                      rw [decide_eq_true h.1, decide_eq_true h.2.1] at h2
                      rcases h.2.2 with h3 | h3
                      · rw [h3] at h2; simp at h2
                      · rw [h3.2, decide_eq_true h3.1] at h2; simp at h2)
                    clear HS HF HEl hV
                    go_wp2_with (first
                      | (go_at_call 46; refine (HA.out _ (Below.refl _ _)).mono ?_; rintro e w4 ⟨rfl, hb4⟩; rw [hz0] at hb4; have Hb4 := Lib.hid hb4; obtain ⟨HB4, i0, i1, i2, i3, i4, i5, i6, i7⟩ := H8.out w4 hb4; have HU4 := Lib.hid (HUp.out w4 hb4); clear hb4)
                      | (go_at_call 75; refine (HR.out _ Hb4.out).mono ?_; rintro e w5 ⟨rfl, hb5⟩; have Hb5 := Lib.hid (Hb4.out.trans (hb5.mono (by have := Hb4.out.size; omega))); obtain ⟨HB5, i0', i1', i2', i3', i4', i5', i6', i7'⟩ := H8.out w5 Hb5.out; have HU5 := Lib.hid (HUp.out w5 Hb5.out); clear hb5)
                      | (go_at_call 76; refine (HD.out _ Hb5.out).mono ?_; rintro e w6 ⟨rfl, hb6⟩; have HU6 := Lib.hid (HUp.out w6 (Hb5.out.trans (hb6.mono (by have := Hb5.out.size; omega)))); clear hb6)
                      | fail)
                    all_goals first
                      | (go_ret
                         exact ⟨by rw [HF2.out]; rfl, by first | exact HU6.out.2 | exact HU5.out.2 | exact HU4.out.2 | exact HBNV.out⟩)
                      | (exfalso
                         refine Hx.out ⟨⟨by omega, by omega⟩, ⟨by omega, by omega⟩, ?_⟩
                         first
                           | exact .inl (by first | assumption | (rw [← Bool.not_eq_false']; assumption))
                           | exact .inr ⟨by omega, by first | assumption | (rw [← Bool.not_eq_false']; assumption)⟩)
                · have b2 : ¬ (k : Int) < (c.needs.length : Int) := by omega
                  have HD : Hid (r = true) := Lib.hid (by
                    have : c.needs.take k = c.needs := List.take_of_length_le (by omega)
                    rw [HE.out, ← this]; exact HK.out)
                  go_wp2
                  go_ret
                  exact ⟨by rw [HD.out]; rfl, HBn.out⟩
            · have HE : Hid (r = false) := Lib.hid (by rw [Bool.eq_false_iff]; intro h; exact s4 (HS4.out.1 h).1)
              have Hs4 := Lib.hid s4
              clear HS4 s4
              go_wp2
              all_goals first
                | (go_ret
                   exact ⟨by rw [HE.out]; rfl, HBN.out⟩)
                | exact absurd ⟨by first | assumption | omega, by first | assumption | omega, by first | assumption | omega, by first | assumption | omega, by first | assumption | omega, by first | assumption | omega, by first | assumption | omega, by first | assumption | omega, by first | assumption | omega, by first | assumption | omega, by first | assumption | omega, by first | assumption | omega, by first | assumption | omega⟩ Hs4.out
    · have HE : Hid (r = false) := Lib.hid (by rw [Bool.eq_false_iff]; intro h; exact s2 (HS2.out.1 h).1)
      have Hs2 : Hid (¬ ((c.cur.size : Int) = 3 ∧ 1 ≤ c.amt ∧ c.amt ≤ 1099511627776)) := Lib.hid (fun h => s2 ⟨by omega, h.2⟩)
      clear HS2 s2
      rcases hc with hc | ⟨hc, hc2⟩
      all_goals
        go_enter Tryz.func42, Tryz.ntmps42
        go_wp2_with (first
          | (go_at_call 74; refine (HN1.out _ (by first | exact HQ.out.1 | exact HQ.out.2.1 | exact HQ.out.2.2.1 | exact HQ.out.2.2.2.1 | exact HQ.out.2.2.2.2.1 | exact HQ.out.2.2.2.2.2 | assumption) (by simp) _ Hb.out).mono ?_; rintro e w3 ⟨rfl, hb3⟩; have Hb' := Lib.hid (Hb.out.trans (hb3.mono (by have := Hb.out.size; omega))); clear Hb HBN hb3 k0 k1 k2 k3 k4 k5 k6 k7 k8 k9 k10 k11 k12 k13 k14 k15 k16 k17; obtain ⟨HBN, k0, k1, k2, k3, k4, k5, k6, k7, k8, k9, k10, k11, k12, k13, k14, k15, k16, k17⟩ := H18.out w3 Hb'.out; have Hb := Hb'; clear Hb')
          | fail)
        all_goals first
          | (go_ret
             exact ⟨by rw [HE.out]; rfl, HBN.out⟩)
          | (exfalso
             refine Hs2.out ⟨?_, ?_, ?_⟩
             all_goals first
               | assumption
               | omega)
  · have HE : Hid (r = false) := Lib.hid (by rw [Bool.eq_false_iff]; intro h; exact s1 (HS.out.1 h).1)
    have hs1 : ¬ (nmB c.num = true ∧ nmB c.app = true ∧ nmB c.ben = true ∧ nmB c.iss = true ∧ (c.con.toList = [] ∨ nmB c.con = true) ∧ nmB c.frm = true ∧ nmB c.dst = true) := fun h => s1 (by
      obtain ⟨h1, h2, h3, h4, h5, h6, h7⟩ := h
      refine ⟨fun s hs => ?_, ?_⟩
      · simp only [namesL, List.mem_cons, List.not_mem_nil, or_false] at hs
        rcases hs with rfl | rfl | rfl | rfl | rfl | rfl <;> assumption
      · by_cases he : c.con.toList = []
        · exact .inl he
        · exact .inr ⟨he, h5.resolve_left he⟩)
    have Hs1 := Lib.hid hs1
    clear HS s1 hs1
    go_enter Tryz.func42, Tryz.ntmps42
    go_wp2_with (first
      | (go_at_call 74; refine (HNm.out _ (by simp) _ Hb.out).mono ?_; rintro e w3 ⟨rfl, hb3⟩; have Hb' := Lib.hid (Hb.out.trans (hb3.mono (by have := Hb.out.size; omega))); clear Hb HBN hb3 k0 k1 k2 k3 k4 k5 k6 k7 k8 k9 k10 k11 k12 k13 k14 k15 k16 k17; obtain ⟨HBN, k0, k1, k2, k3, k4, k5, k6, k7, k8, k9, k10, k11, k12, k13, k14, k15, k16, k17⟩ := H18.out w3 Hb'.out; have Hb := Hb'; clear Hb')
      | fail)
    all_goals first
      | (go_ret
         exact ⟨by rw [HE.out]; rfl, HBN.out⟩)
      | (exfalso
         refine Hs1.out ⟨?_, ?_, ?_, ?_, ?_, ?_, ?_⟩
         all_goals first
           | assumption
           | (rw [← Bool.not_eq_false']; assumption)
           | exact .inl (by assumption)
           | exact .inr (by first | assumption | (rw [← Bool.not_eq_false']; assumption)))
end Go.Proofs.YtbkffdfboloogaaGreatDoor
