/- The document's count of a rule's cases: its walk. -/
import Derived.Test.YtehjkgfdfihfmaaDoorSManyP
import Derived.Test.YtehjkgfdfihfmaaDoorSAtoms
namespace Go.Proofs.YtehjkgfdfihfmaaDoor
open Go.RowKit Go.Maps Go.Lib
set_option linter.unusedVariables false
set_option maxRecDepth 100000

theorem no_int (W : World) : Ri (W.alloc (.cells #[] 3)) W.heap.size (.slice (some ⟨W.heap.size, 0, none⟩) 0 0) [] :=
  ⟨rfl, .inr ⟨W.heap.size, 0, _, rfl, Nat.le_refl _, heap_alloc_new _ _, Nat.le_refl _, by unfold maxLen; omega, rfl, rfl⟩⟩
theorem one_int (W : World) (n : Nat) : Ri (W.alloc (.cells #[.int .i64 (n : Int)] 3)) W.heap.size (.slice (some ⟨W.heap.size, 0, none⟩) 1 1) [n] :=
  ⟨rfl, .inr ⟨W.heap.size, 1, _, rfl, Nat.le_refl _, heap_alloc_new _ _, Nat.le_refl _, by unfold maxLen; omega, rfl, rfl⟩⟩
def ManySaid (x : Rl) : Prop := ∀ (A : Option Addr) (c : Nat) (w : World) (B : Nat), NL w B A x.l → B ≤ w.heap.size → nsz x ≤ 1000 →
  Calls Tryd.prog 18 #[.agg #[.int .i64 x.k, .int .i64 x.p, .string x.f, .string x.t, .int .i64 x.n, .slice A x.l.length c]] w fun e w' => e = .returned (.int .i64 (mN x : Int)) ∧ Below w.heap.size w w'

set_option maxHeartbeats 4000000 in
theorem many_all (x : Rl) (hx : x.k = 0) (hC : ∀ y ∈ x.l, ManySaid y) : ManySaid x := by
  intro A c w B hN hB hm
  have hb1 : Below w.heap.size w (w.alloc (.cells #[.int .i64 x.k, .int .i64 x.p, .string x.f, .string x.t, .int .i64 x.n, .slice A x.l.length c] 24)) := (Below.refl _ _).alloc (Nat.le_refl _) _
  have hs1 : (w.alloc (.cells #[.int .i64 x.k, .int .i64 x.p, .string x.f, .string x.t, .int .i64 x.n, .slice A x.l.length c] 24)).heap.size = w.heap.size + 1 := by simp
  have hr0 := no_int (w.alloc (.cells #[.int .i64 x.k, .int .i64 x.p, .string x.f, .string x.t, .int .i64 x.n, .slice A x.l.length c] 24))
  rw [hs1] at hr0
  have hb2 := hb1.alloc (by omega) (.cells #[] 3)
  have d5 : ((w.alloc (.cells #[.int .i64 x.k, .int .i64 x.p, .string x.f, .string x.t, .int .i64 x.n, .slice A x.l.length c] 24)).alloc (.cells #[] 3)).cell? ⟨w.heap.size, 5, none⟩ = some (.slice A x.l.length c) := Lib.cell?_alloc_some _ (by simp)
  have d0 : ((w.alloc (.cells #[.int .i64 x.k, .int .i64 x.p, .string x.f, .string x.t, .int .i64 x.n, .slice A x.l.length c] 24)).alloc (.cells #[] 3)).cell? ⟨w.heap.size, 0, none⟩ = some (.int .i64 x.k) := Lib.cell?_alloc_some _ (by simp)
  have HNs := Lib.hid (nsz_l x)
  have hXl : x.l.length ≤ 1000 := by have := len_nszL x.l; have := nsz_l x; omega
  have HN := Lib.hid hN
  have HC := Lib.hid hC
  have HR0 := Lib.hid hr0
  have HB2 := Lib.hid hb2
  have Hbad : Hid (∀ y ∈ x.l, (cnt y).2 = false → mN x = 4097) := Lib.hid (fun y hy h => mN_bad (.inl hx) hy h)
  have Hzero : Hid (∀ y ∈ x.l, (∀ z ∈ x.l, (cnt z).2 = true) → mN y = 0 → mN x = 0) := Lib.hid (fun y hy hk h => mN_zero hx hk hy h)
  have Hpro : Hid ((∀ y ∈ x.l, (cnt y).2 = true ∧ 0 < mN y) → mN x = if proN (x.l.map mN) ≤ 4096 then proN (x.l.map mN) else 4097) := Lib.hid (fun hk => mN_pro hx hk)
  clear hN hC hr0 hb2 hb1
  rw [hx] at d0 d5 HR0 HB2 hs1 ⊢
  clear hx
  generalize mN x = mx at *
  generalize nsz x = nx at *
  generalize x.l = X at *
  generalize x.p = xp at *
  generalize x.f = xf at *
  generalize x.t = xt at *
  generalize x.n = xn at *
  go_enter Tryd.func18, Tryd.ntmps18
  go_wp2
  generalize (w.alloc (.cells #[.int .i64 0, .int .i64 xp, .string xf, .string xt, .int .i64 xn, .slice A X.length c] 24)).alloc (.cells #[] 3) = V at *
  clear hs1
  go_loopw [4, 5, 6] (fun z v i wr => ∃ (k : Nat) (Av : Option Addr) (cv : Nat) (nb : Bool), k ≤ X.length ∧ i = .int .i64 (k : Int) ∧ z = .bool nb ∧ v = .slice Av k cv ∧ Hid (Ri wr (w.heap.size + 1) (.slice Av k cv) ((X.take k).map mN)) ∧ Hid (Below (w.heap.size + 1) V wr) ∧ Hid ((∀ y ∈ X.take k, (cnt y).2 = true) ∧ (nb = true ↔ ∃ y ∈ X.take k, mN y = 0))) (fun _ _ i _ => X.length - (RowKit.intOf i).toNat)
  case atStart => exact ⟨0, some ⟨w.heap.size + 1, 0, none⟩, 0, false, Nat.zero_le _, rfl, rfl, rfl, HR0, Lib.hid (Below.refl _ _), Lib.hid ⟨by simp, by simp⟩⟩
  case round =>
    clear HR0
    obtain ⟨k, Av, cv, nb, hk, rfl, rfl, rfl, HV, HB, HP⟩ := hrel
    have hz := HB.out.size
    have HBw := Lib.hid (HB2.out.trans (HB.out.mono (by omega)))
    have hwz := HBw.out.size
    have hVs : w.heap.size < V.heap.size := lt_of_cell' d5
    have e5 : wr.cell? ⟨w.heap.size, 5, none⟩ = some (.slice A X.length c) := (HB.out.cell (p := ⟨w.heap.size, 5, none⟩) (by show w.heap.size < _; omega)).trans d5
    have e0 : wr.cell? ⟨w.heap.size, 0, none⟩ = some (.int .i64 0) := (HB.out.cell (p := ⟨w.heap.size, 0, none⟩) (by show w.heap.size < _; omega)).trans d0
    by_cases hlt : k < X.length
    · have b1 : (k : Int) < (X.length : Int) := by omega
      obtain ⟨g, off, A', c', rfl, hg, h6, hch⟩ := (HN.out.kept (HBw.out.mono hB)).at_ hlt
      obtain ⟨c0, c1, c2, c3, c4, c5⟩ := h6
      have hst := nszL_take_step X k hlt
      have hmo := nszL_take_more X (k + 1)
      have hns := HNs.out
      have HCk := Lib.hid (HC.out X[k] (List.getElem_mem hlt) A' c' wr B hch (by omega) (by omega))
      have htk : X.take (k + 1) = X.take k ++ [X[k]] := by rw [← List.take_append_getElem hlt]
      have hle := mN_le X[k]
      have hkl : ((X.take k).map mN).length = k := by rw [List.length_map, List.length_take]; omega
      have HAp : Hid (∀ w3 (z : Int), z = (mN X[k] : Int) → Below wr.heap.size wr w3 → ∃ v' w4, (Builtin.append_ #[43, 43] 43 #[.slice Av k cv, .slice (some ⟨w3.heap.size, 0, none⟩) 1 1]).run Tryd.prog (w3.alloc (.cells #[.int .i64 z] 3)) = .ok v' w4 ∧ (∃ A4 c4, v' = .slice A4 (k + 1) c4) ∧ Ri w4 (w.heap.size + 1) v' ((X.take (k + 1)).map mN) ∧ Below (w.heap.size + 1) wr w4) := Lib.hid (by
        intro w3 z hz hb3
        subst hz
        have hz3 := hb3.size
        have hb4 := hb3.alloc hz3 (.cells #[.int .i64 (mN X[k] : Int)] 3)
        obtain ⟨v', w4, h1, h2, h3, h4⟩ := app_Ri 43 (HV.out.below hb4) (one_int w3 (mN X[k])) (by rw [hkl]; simp; omega) (by have := hb4.size; omega)
        have hmap : (X.take k).map mN ++ [mN X[k]] = (X.take (k + 1)).map mN := by rw [htk, List.map_append]; rfl
        rw [hmap] at h2
        refine ⟨v', w4, h1, ?_, h2, (hb4.mono (by omega)).grown h3 (by have := hb4.size; omega) (fun j hj => (HV.out.lt hj).1)⟩
        obtain ⟨A4, c4, e⟩ := h2.form
        rw [List.length_map, List.length_take, Nat.min_eq_left (by omega)] at e
        exact ⟨A4, c4, e⟩)
      have HX : Hid (X[k] ∈ X) := Lib.hid (List.getElem_mem hlt)
      have Hsm : Hid ((mN X[k] ≤ 4096 ↔ (cnt X[k]).2 = true)) := Lib.hid (mN_small X[k])
      have HtK := Lib.hid htk
      clear hch HC hst hmo hns htk hkl
      obtain ⟨y, hy⟩ : ∃ y, X[k] = y := ⟨_, rfl⟩
      rw [hy] at HAp HCk HX Hsm HtK hle c0 c1 c2 c3 c4 c5
      clear hy
      generalize hmy : mN y = my at *
      have Hmy := Lib.hid hmy
      clear hmy
      generalize y.l.length = yl at *
      generalize y.k = yk at *
      generalize y.p = yp at *
      generalize y.f = yf at *
      generalize y.t = yt at *
      generalize y.n = yn at *
      by_cases hbig : my ≤ 4096
      · have b2 : ¬ (4096 : Int) < (my : Int) := by omega
        have HP1 : Hid (∀ z ∈ X.take (k + 1), (cnt z).2 = true) := Lib.hid (fun z hz => by
          rw [HtK.out] at hz
          rcases List.mem_append.1 hz with hz | hz
          · exact HP.out.1 z hz
          · simp at hz; subst hz; exact Hsm.out.1 hbig)
        by_cases h0 : my = 0
        · have b3 : ((my : Int) == 0) = true := by rw [beq_iff_eq]; omega
          have HP2 : Hid (true = true ↔ ∃ z ∈ X.take (k + 1), mN z = 0) := Lib.hid ⟨fun _ => ⟨y, by rw [HtK.out]; simp, Hmy.out.trans h0⟩, fun _ => rfl⟩
          cases nb
          all_goals
            go_wp2_with (first
              | (go_at_call 18; refine HCk.out.mono ?_; rintro e w3 ⟨rfl, hb3⟩; obtain ⟨v4, w4, hrn, ⟨A4, c4', rfl⟩, har, hb4⟩ := HAp.out w3 0 (by omega) hb3; have HA4 := Lib.hid har; have HB4 := Lib.hid (HB.out.trans hb4); clear har hb4 hb3 HCk HAp)
              | (at_builtin; refine Lib.wpList_append_run _ rfl _ _ _ _ rfl _ _ rfl rfl _ _ hrn ?_)
              | fail)
            go_roundw
            case rel => exact ⟨k + 1, A4, c4', true, by omega, by go_num, rfl, rfl, HA4, HB4, Lib.hid ⟨HP1.out, by simpa using HP2.out⟩⟩
            case measure => simp [RowKit.intOf]; omega
        · have b3 : ((my : Int) == 0) = false := by rw [beq_eq_false_iff_ne]; omega
          have HP2 : Hid (nb = true ↔ ∃ z ∈ X.take (k + 1), mN z = 0) := Lib.hid (by
            rw [HP.out.2, HtK.out]
            constructor
            · rintro ⟨z, hz, e⟩; exact ⟨z, by simp [hz], e⟩
            · rintro ⟨z, hz, e⟩
              rcases List.mem_append.1 hz with hz | hz
              · exact ⟨z, hz, e⟩
              · simp at hz; subst hz; exact absurd (Hmy.out.symm.trans e) h0)
          cases nb
          all_goals
            go_wp2_with (first
              | (go_at_call 18; refine HCk.out.mono ?_; rintro e w3 ⟨rfl, hb3⟩; obtain ⟨v4, w4, hrn, ⟨A4, c4', rfl⟩, har, hb4⟩ := HAp.out w3 _ rfl hb3; have HA4 := Lib.hid har; have HB4 := Lib.hid (HB.out.trans hb4); clear har hb4 hb3 HCk HAp)
              | (at_builtin; refine Lib.wpList_append_run _ rfl _ _ _ _ rfl _ _ rfl rfl _ _ hrn ?_)
              | fail)
            go_roundw
            case rel => exact ⟨k + 1, A4, c4', _, by omega, by go_num, rfl, rfl, HA4, HB4, Lib.hid ⟨HP1.out, by simpa using HP2.out⟩⟩
            case measure => simp [RowKit.intOf]; omega
      · have b2 : (4096 : Int) < (my : Int) := by omega
        have HE : Hid (mx = 4097) := Lib.hid (Hbad.out y HX.out (by
          cases h : (cnt y).2 with
          | false => rfl
          | true => exact absurd (Hsm.out.2 h) hbig))
        go_wp2_with (first
          | (go_at_call 18; refine HCk.out.mono ?_; rintro e w3 ⟨rfl, hb3⟩; have HB3 := Lib.hid (HBw.out.trans (hb3.mono (by omega))); clear hb3)
          | fail)
        go_ret
        exact ⟨by rw [HE.out]; rfl, HB3.out⟩
    · have b1 : ¬ (k : Int) < (X.length : Int) := by omega
      obtain rfl : k = X.length := by omega
      have HK : Hid (X.take X.length = X) := Lib.hid List.take_length
      rw [HK.out] at HV HP
      clear HC HN hz d5 d0
      cases nb with
      | true =>
        have HE : Hid (mx = 0) := Lib.hid (by
          obtain ⟨y, hy, e⟩ := HP.out.2.1 rfl
          exact Hzero.out y hy HP.out.1 e)
        go_wp2
        go_ret
        exact ⟨by rw [HE.out]; rfl, HBw.out⟩
      | false =>
        have Hk : Hid (∀ y ∈ X, (cnt y).2 = true ∧ 0 < mN y) := Lib.hid (fun y hy => ⟨HP.out.1 y hy, by
          rcases Nat.eq_zero_or_pos (mN y) with h | h
          · have := HP.out.2.2 ⟨y, hy, h⟩; cases this
          · exact h⟩)
        have HV1 := HV
        obtain ⟨wq, rfl⟩ : ∃ wq : World, wq = wr := ⟨_, rfl⟩
        go_wp2
        go_loopw [3, 54] (fun s i wr => ∃ k : Nat, k ≤ X.length ∧ i = .int .i64 (k : Int) ∧ s = .int .i64 ((proN ((X.take k).map mN) : Nat) : Int) ∧ proN ((X.take k).map mN) ≤ 4096 ∧ wr = wq) (fun _ i _ => X.length - (RowKit.intOf i).toNat)
        case atStart => exact ⟨0, Nat.zero_le _, rfl, rfl, by simp [proN], rfl⟩
        case round =>
          obtain ⟨k, hk2, rfl, rfl, hsm, rfl⟩ := hrel
          by_cases hlt2 : k < X.length
          · have b4 : (k : Int) < (X.length : Int) := by omega
            have hcell : ∃ g, Av = some ⟨g, 0, none⟩ ∧ wr.cell? ⟨g, k, none⟩ = some (.int .i64 (mN X[k] : Int)) := by
              rcases HV1.out.cells with ⟨e, _⟩ | ⟨g, cap, e, _, _, _, hc⟩
              · injection e with _ e2; omega
              · injection e with e1
                exact ⟨g, e1, hc k (mN X[k]) (by simp [hlt2])⟩
            obtain ⟨g, rfl, hcell⟩ := hcell
            have hle := mN_le X[k]
            have hst : proN ((X.take (k + 1)).map mN) = proN ((X.take k).map mN) * mN X[k] := by
              rw [← List.take_append_getElem hlt2, List.map_append, proN_append]
              simp [proN]
            have hmore : proN ((X.take (k + 1)).map mN) ≤ proN (X.map mN) := by
              have e := proN_append ((X.take (k + 1)).map mN) ((X.drop (k + 1)).map mN)
              rw [← List.map_append, List.take_append_drop] at e
              rw [e]
              exact Nat.le_mul_of_pos_right _ (proN_pos (fun a ha => by
                obtain ⟨y, hy, rfl⟩ := List.mem_map.1 ha
                exact (Hk.out y (List.mem_of_mem_drop hy)).2))
            have Hst := Lib.hid hst
            generalize mN X[k] = my at *
            generalize proN ((X.take k).map mN) = so at *
            have hb : so * my ≤ 16781312 := by
              have h := Nat.mul_le_mul hsm hle
              omega
            have hcast : ((so : Int) * (my : Int)) = ((so * my : Nat) : Int) := by simp
            have q : IntKind.i64.wrap ((so : Int) * (my : Int)) = ((so * my : Nat) : Int) := by
              rw [hcast]
              exact IntWalk.i64_in _ (by omega)
            clear hst hcast
            generalize hs2 : so * my = s2 at *
            by_cases hbig : s2 ≤ 4096
            · have b5 : ¬ (4096 : Int) < (s2 : Int) := by omega
              have Hs2 := Lib.hid hs2
              clear hs2 hmore
              go_wp2
              go_roundw
              case rel => exact ⟨k + 1, by omega, by go_num, by rw [Hst.out], by rw [Hst.out]; exact hbig, by first | rfl | trivial⟩
              case measure => simp [RowKit.intOf]; omega
            · have b5 : (4096 : Int) < (s2 : Int) := by omega
              have HE : Hid (mx = 4097) := Lib.hid (by
                rw [Hpro.out Hk.out, if_neg]
                have := Hst.out
                omega)
              clear hs2 hmore
              go_wp2
              go_ret
              exact ⟨by rw [HE.out]; rfl, HBw.out⟩
          · have b4 : ¬ (k : Int) < (X.length : Int) := by omega
            have HE : Hid (mx = proN ((X.take k).map mN)) := Lib.hid (by
              have e : X.take k = X := List.take_of_length_le (by omega)
              rw [Hpro.out Hk.out, e, if_pos]
              rw [e] at hsm
              exact hsm)
            go_wp2
            go_ret
            exact ⟨by rw [HE.out, List.map_take]; rfl, HBw.out⟩
set_option maxHeartbeats 4000000 in
theorem many_any1 (x : Rl) (hx : x.k = 1) (hC : ∀ y ∈ x.l, ManySaid y) : ManySaid x := by
  intro A c w B hN hB hm
  have hb1 : Below w.heap.size w (w.alloc (.cells #[.int .i64 x.k, .int .i64 x.p, .string x.f, .string x.t, .int .i64 x.n, .slice A x.l.length c] 24)) := (Below.refl _ _).alloc (Nat.le_refl _) _
  have hs1 : (w.alloc (.cells #[.int .i64 x.k, .int .i64 x.p, .string x.f, .string x.t, .int .i64 x.n, .slice A x.l.length c] 24)).heap.size = w.heap.size + 1 := by simp
  have hr0 := no_int (w.alloc (.cells #[.int .i64 x.k, .int .i64 x.p, .string x.f, .string x.t, .int .i64 x.n, .slice A x.l.length c] 24))
  rw [hs1] at hr0
  have hb2 := hb1.alloc (by omega) (.cells #[] 3)
  have d5 : ((w.alloc (.cells #[.int .i64 x.k, .int .i64 x.p, .string x.f, .string x.t, .int .i64 x.n, .slice A x.l.length c] 24)).alloc (.cells #[] 3)).cell? ⟨w.heap.size, 5, none⟩ = some (.slice A x.l.length c) := Lib.cell?_alloc_some _ (by simp)
  have d0 : ((w.alloc (.cells #[.int .i64 x.k, .int .i64 x.p, .string x.f, .string x.t, .int .i64 x.n, .slice A x.l.length c] 24)).alloc (.cells #[] 3)).cell? ⟨w.heap.size, 0, none⟩ = some (.int .i64 x.k) := Lib.cell?_alloc_some _ (by simp)
  have HNs := Lib.hid (nsz_l x)
  have hXl : x.l.length ≤ 1000 := by have := len_nszL x.l; have := nsz_l x; omega
  have HN := Lib.hid hN
  have HC := Lib.hid hC
  have HR0 := Lib.hid hr0
  have HB2 := Lib.hid hb2
  have Hbad : Hid (∀ y ∈ x.l, (cnt y).2 = false → mN x = 4097) := Lib.hid (fun y hy h => mN_bad (.inr hx) hy h)
  have Hsum : Hid ((∀ y ∈ x.l, (cnt y).2 = true) → mN x = if sumN (x.l.map mN) ≤ 4096 then sumN (x.l.map mN) else 4097) := Lib.hid (fun hk => mN_sum hx hk)
  clear hN hC hr0 hb2 hb1
  rw [hx] at d0 d5 HR0 HB2 hs1 ⊢
  clear hx
  generalize mN x = mx at *
  generalize nsz x = nx at *
  generalize x.l = X at *
  generalize x.p = xp at *
  generalize x.f = xf at *
  generalize x.t = xt at *
  generalize x.n = xn at *
  go_enter Tryd.func18, Tryd.ntmps18
  go_wp2
  generalize (w.alloc (.cells #[.int .i64 1, .int .i64 xp, .string xf, .string xt, .int .i64 xn, .slice A X.length c] 24)).alloc (.cells #[] 3) = V at *
  clear hs1
  go_loopw [4, 5, 6] (fun z v i wr => ∃ (k : Nat) (Av : Option Addr) (cv : Nat) (nb : Bool), k ≤ X.length ∧ i = .int .i64 (k : Int) ∧ z = .bool nb ∧ v = .slice Av k cv ∧ Hid (Ri wr (w.heap.size + 1) (.slice Av k cv) ((X.take k).map mN)) ∧ Hid (Below (w.heap.size + 1) V wr) ∧ Hid ((∀ y ∈ X.take k, (cnt y).2 = true) ∧ (nb = true ↔ ∃ y ∈ X.take k, mN y = 0))) (fun _ _ i _ => X.length - (RowKit.intOf i).toNat)
  case atStart => exact ⟨0, some ⟨w.heap.size + 1, 0, none⟩, 0, false, Nat.zero_le _, rfl, rfl, rfl, HR0, Lib.hid (Below.refl _ _), Lib.hid ⟨by simp, by simp⟩⟩
  case round =>
    clear HR0
    obtain ⟨k, Av, cv, nb, hk, rfl, rfl, rfl, HV, HB, HP⟩ := hrel
    have hz := HB.out.size
    have HBw := Lib.hid (HB2.out.trans (HB.out.mono (by omega)))
    have hwz := HBw.out.size
    have hVs : w.heap.size < V.heap.size := lt_of_cell' d5
    have e5 : wr.cell? ⟨w.heap.size, 5, none⟩ = some (.slice A X.length c) := (HB.out.cell (p := ⟨w.heap.size, 5, none⟩) (by show w.heap.size < _; omega)).trans d5
    have e0 : wr.cell? ⟨w.heap.size, 0, none⟩ = some (.int .i64 1) := (HB.out.cell (p := ⟨w.heap.size, 0, none⟩) (by show w.heap.size < _; omega)).trans d0
    by_cases hlt : k < X.length
    · have b1 : (k : Int) < (X.length : Int) := by omega
      obtain ⟨g, off, A', c', rfl, hg, h6, hch⟩ := (HN.out.kept (HBw.out.mono hB)).at_ hlt
      obtain ⟨c0, c1, c2, c3, c4, c5⟩ := h6
      have hst := nszL_take_step X k hlt
      have hmo := nszL_take_more X (k + 1)
      have hns := HNs.out
      have HCk := Lib.hid (HC.out X[k] (List.getElem_mem hlt) A' c' wr B hch (by omega) (by omega))
      have htk : X.take (k + 1) = X.take k ++ [X[k]] := by rw [← List.take_append_getElem hlt]
      have hle := mN_le X[k]
      have hkl : ((X.take k).map mN).length = k := by rw [List.length_map, List.length_take]; omega
      have HAp : Hid (∀ w3 (z : Int), z = (mN X[k] : Int) → Below wr.heap.size wr w3 → ∃ v' w4, (Builtin.append_ #[43, 43] 43 #[.slice Av k cv, .slice (some ⟨w3.heap.size, 0, none⟩) 1 1]).run Tryd.prog (w3.alloc (.cells #[.int .i64 z] 3)) = .ok v' w4 ∧ (∃ A4 c4, v' = .slice A4 (k + 1) c4) ∧ Ri w4 (w.heap.size + 1) v' ((X.take (k + 1)).map mN) ∧ Below (w.heap.size + 1) wr w4) := Lib.hid (by
        intro w3 z hz hb3
        subst hz
        have hz3 := hb3.size
        have hb4 := hb3.alloc hz3 (.cells #[.int .i64 (mN X[k] : Int)] 3)
        obtain ⟨v', w4, h1, h2, h3, h4⟩ := app_Ri 43 (HV.out.below hb4) (one_int w3 (mN X[k])) (by rw [hkl]; simp; omega) (by have := hb4.size; omega)
        have hmap : (X.take k).map mN ++ [mN X[k]] = (X.take (k + 1)).map mN := by rw [htk, List.map_append]; rfl
        rw [hmap] at h2
        refine ⟨v', w4, h1, ?_, h2, (hb4.mono (by omega)).grown h3 (by have := hb4.size; omega) (fun j hj => (HV.out.lt hj).1)⟩
        obtain ⟨A4, c4, e⟩ := h2.form
        rw [List.length_map, List.length_take, Nat.min_eq_left (by omega)] at e
        exact ⟨A4, c4, e⟩)
      have HX : Hid (X[k] ∈ X) := Lib.hid (List.getElem_mem hlt)
      have Hsm : Hid ((mN X[k] ≤ 4096 ↔ (cnt X[k]).2 = true)) := Lib.hid (mN_small X[k])
      have HtK := Lib.hid htk
      clear hch HC hst hmo hns htk hkl
      obtain ⟨y, hy⟩ : ∃ y, X[k] = y := ⟨_, rfl⟩
      rw [hy] at HAp HCk HX Hsm HtK hle c0 c1 c2 c3 c4 c5
      clear hy
      generalize hmy : mN y = my at *
      have Hmy := Lib.hid hmy
      clear hmy
      generalize y.l.length = yl at *
      generalize y.k = yk at *
      generalize y.p = yp at *
      generalize y.f = yf at *
      generalize y.t = yt at *
      generalize y.n = yn at *
      by_cases hbig : my ≤ 4096
      · have b2 : ¬ (4096 : Int) < (my : Int) := by omega
        have HP1 : Hid (∀ z ∈ X.take (k + 1), (cnt z).2 = true) := Lib.hid (fun z hz => by
          rw [HtK.out] at hz
          rcases List.mem_append.1 hz with hz | hz
          · exact HP.out.1 z hz
          · simp at hz; subst hz; exact Hsm.out.1 hbig)
        by_cases h0 : my = 0
        · have b3 : ((my : Int) == 0) = true := by rw [beq_iff_eq]; omega
          have HP2 : Hid (true = true ↔ ∃ z ∈ X.take (k + 1), mN z = 0) := Lib.hid ⟨fun _ => ⟨y, by rw [HtK.out]; simp, Hmy.out.trans h0⟩, fun _ => rfl⟩
          cases nb
          all_goals
            go_wp2_with (first
              | (go_at_call 18; refine HCk.out.mono ?_; rintro e w3 ⟨rfl, hb3⟩; obtain ⟨v4, w4, hrn, ⟨A4, c4', rfl⟩, har, hb4⟩ := HAp.out w3 0 (by omega) hb3; have HA4 := Lib.hid har; have HB4 := Lib.hid (HB.out.trans hb4); clear har hb4 hb3 HCk HAp)
              | (at_builtin; refine Lib.wpList_append_run _ rfl _ _ _ _ rfl _ _ rfl rfl _ _ hrn ?_)
              | fail)
            go_roundw
            case rel => exact ⟨k + 1, A4, c4', true, by omega, by go_num, rfl, rfl, HA4, HB4, Lib.hid ⟨HP1.out, by simpa using HP2.out⟩⟩
            case measure => simp [RowKit.intOf]; omega
        · have b3 : ((my : Int) == 0) = false := by rw [beq_eq_false_iff_ne]; omega
          have HP2 : Hid (nb = true ↔ ∃ z ∈ X.take (k + 1), mN z = 0) := Lib.hid (by
            rw [HP.out.2, HtK.out]
            constructor
            · rintro ⟨z, hz, e⟩; exact ⟨z, by simp [hz], e⟩
            · rintro ⟨z, hz, e⟩
              rcases List.mem_append.1 hz with hz | hz
              · exact ⟨z, hz, e⟩
              · simp at hz; subst hz; exact absurd (Hmy.out.symm.trans e) h0)
          cases nb
          all_goals
            go_wp2_with (first
              | (go_at_call 18; refine HCk.out.mono ?_; rintro e w3 ⟨rfl, hb3⟩; obtain ⟨v4, w4, hrn, ⟨A4, c4', rfl⟩, har, hb4⟩ := HAp.out w3 _ rfl hb3; have HA4 := Lib.hid har; have HB4 := Lib.hid (HB.out.trans hb4); clear har hb4 hb3 HCk HAp)
              | (at_builtin; refine Lib.wpList_append_run _ rfl _ _ _ _ rfl _ _ rfl rfl _ _ hrn ?_)
              | fail)
            go_roundw
            case rel => exact ⟨k + 1, A4, c4', _, by omega, by go_num, rfl, rfl, HA4, HB4, Lib.hid ⟨HP1.out, by simpa using HP2.out⟩⟩
            case measure => simp [RowKit.intOf]; omega
      · have b2 : (4096 : Int) < (my : Int) := by omega
        have HE : Hid (mx = 4097) := Lib.hid (Hbad.out y HX.out (by
          cases h : (cnt y).2 with
          | false => rfl
          | true => exact absurd (Hsm.out.2 h) hbig))
        go_wp2_with (first
          | (go_at_call 18; refine HCk.out.mono ?_; rintro e w3 ⟨rfl, hb3⟩; have HB3 := Lib.hid (HBw.out.trans (hb3.mono (by omega))); clear hb3)
          | fail)
        go_ret
        exact ⟨by rw [HE.out]; rfl, HB3.out⟩
    · have b1 : ¬ (k : Int) < (X.length : Int) := by omega
      obtain rfl : k = X.length := by omega
      have HK : Hid (X.take X.length = X) := Lib.hid List.take_length
      rw [HK.out] at HV HP
      clear HC HN hz d5 d0
      have HV1 := HV
      obtain ⟨wq, rfl⟩ : ∃ wq : World, wq = wr := ⟨_, rfl⟩
      go_wp2
      go_loopw [3, 54] (fun s i wr => ∃ k : Nat, k ≤ X.length ∧ i = .int .i64 (k : Int) ∧ s = .int .i64 ((sumN ((X.take k).map mN) : Nat) : Int) ∧ sumN ((X.take k).map mN) ≤ 4096 ∧ wr = wq) (fun _ i _ => X.length - (RowKit.intOf i).toNat)
      case atStart => exact ⟨0, Nat.zero_le _, rfl, rfl, by simp [sumN], rfl⟩
      case round =>
        obtain ⟨k, hk2, rfl, rfl, hsm, rfl⟩ := hrel
        by_cases hlt2 : k < X.length
        · have b4 : (k : Int) < (X.length : Int) := by omega
          have hcell : ∃ g, Av = some ⟨g, 0, none⟩ ∧ wr.cell? ⟨g, k, none⟩ = some (.int .i64 (mN X[k] : Int)) := by
            rcases HV1.out.cells with ⟨e, _⟩ | ⟨g, cap, e, _, _, _, hc⟩
            · injection e with _ e2; omega
            · injection e with e1
              exact ⟨g, e1, hc k (mN X[k]) (by simp [hlt2])⟩
          obtain ⟨g, rfl, hcell⟩ := hcell
          have hle := mN_le X[k]
          have hst : sumN ((X.take (k + 1)).map mN) = sumN ((X.take k).map mN) + mN X[k] := by
            rw [← List.take_append_getElem hlt2, List.map_append, sumN_append]
            simp [sumN]
          have hmore : sumN ((X.take (k + 1)).map mN) ≤ sumN (X.map mN) := by
            have e := sumN_append ((X.take (k + 1)).map mN) ((X.drop (k + 1)).map mN)
            rw [← List.map_append, List.take_append_drop] at e
            omega
          have Hst := Lib.hid hst
          generalize mN X[k] = my at *
          generalize sumN ((X.take k).map mN) = so at *
          have hb : so + my ≤ 16781312 := by omega
          have hcast : ((so : Int) + (my : Int)) = ((so + my : Nat) : Int) := by simp
          have q : IntKind.i64.wrap ((so : Int) + (my : Int)) = ((so + my : Nat) : Int) := by
            rw [hcast]
            exact IntWalk.i64_in _ (by omega)
          clear hst hcast
          generalize hs2 : so + my = s2 at *
          by_cases hbig : s2 ≤ 4096
          · have b5 : ¬ (4096 : Int) < (s2 : Int) := by omega
            have Hs2 := Lib.hid hs2
            clear hs2 hmore
            go_wp2
            go_roundw
            case rel => exact ⟨k + 1, by omega, by go_num, by rw [Hst.out], by rw [Hst.out]; exact hbig, by first | rfl | trivial⟩
            case measure => simp [RowKit.intOf]; omega
          · have b5 : (4096 : Int) < (s2 : Int) := by omega
            have HE : Hid (mx = 4097) := Lib.hid (by
              rw [Hsum.out HP.out.1, if_neg]
              have := Hst.out
              omega)
            clear hs2 hmore
            go_wp2
            go_ret
            exact ⟨by rw [HE.out]; rfl, HBw.out⟩
        · have b4 : ¬ (k : Int) < (X.length : Int) := by omega
          have HE : Hid (mx = sumN ((X.take k).map mN)) := Lib.hid (by
            have e : X.take k = X := List.take_of_length_le (by omega)
            rw [Hsum.out HP.out.1, e, if_pos]
            rw [e] at hsm
            exact hsm)
          go_wp2
          go_ret
          exact ⟨by rw [HE.out, List.map_take]; rfl, HBw.out⟩
set_option maxHeartbeats 1000000 in
theorem many_other (x : Rl) (h0 : x.k ≠ 0) (h1 : x.k ≠ 1) : ManySaid x := by
  intro A c w B hN hB hm
  have hb1 : Below w.heap.size w (w.alloc (.cells #[.int .i64 x.k, .int .i64 x.p, .string x.f, .string x.t, .int .i64 x.n, .slice A x.l.length c] 24)) := (Below.refl _ _).alloc (Nat.le_refl _) _
  have HE : Hid (mN x = 1) := Lib.hid (by rw [mN_ok (by rw [cnt_2 x h0 h1]), cnt_2 x h0 h1])
  have HB1 := Lib.hid hb1
  clear hb1 hN hm
  have b0 : (x.k != 0) = true := by simp [h0]
  have b1 : (x.k != 1) = true := by simp [h1]
  have b0' : (x.k == 0) = false := by simp [h0]
  have b1' : (x.k == 1) = false := by simp [h1]
  clear h0 h1
  generalize mN x = mx at *
  generalize x.l.length = xl at *
  generalize x.k = xk at *
  generalize x.p = xp at *
  generalize x.f = xf at *
  generalize x.t = xt at *
  generalize x.n = xn at *
  go_enter Tryd.func18, Tryd.ntmps18
  go_wp2
  go_ret
  exact ⟨by rw [HE.out]; rfl, HB1.out⟩
theorem many_fuel (N : Nat) : ∀ x, SizeOf.sizeOf x ≤ N → ManySaid x := by
  induction N with
  | zero =>
    intro x h
    obtain ⟨k, p, f, t, n, l⟩ := x
    simp at h
  | succ N ih =>
    intro x hN
    have hk : ∀ y ∈ x.l, ManySaid y := fun y hy => ih y (by have := Rl.lt_mem hy; omega)
    by_cases h0 : x.k = 0
    · exact many_all x h0 hk
    · by_cases h1 : x.k = 1
      · exact many_any1 x h1 hk
      · exact many_other x h0 h1
theorem many_any (x : Rl) : ManySaid x := many_fuel _ x (Nat.le_refl _)
end Go.Proofs.YtehjkgfdfihfmaaDoor
