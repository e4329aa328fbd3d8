/- bank.New: the walk. -/
import Derived.Test.YtchkdidpnjakeaaGreatDoorGBNew3
namespace Go.Proofs.YtchkdidpnjakeaaGreatDoor
open Go.RowKit Go.Maps Go.Lib
set_option linter.unusedVariables false
set_option maxRecDepth 100000

set_option maxHeartbeats 8000000 in
theorem new_any {w : World} {nm : ByteArray} {u : Su} {a : Sa} (hu : SuOk u) (hA : SuAt w w.heap.size u a) (hG : Gb w) (h12 : 12 ≤ w.heap.size) (hnm : nm.size ≤ 1048576) :
    Calls Tryz.prog 107 #[.string nm, .agg #[.slice a.PA u.par.length a.pc, .slice a.DA u.dl.length a.dc, .slice a.FA u.fd.length a.fc, .slice a.RA u.rest.length a.rc, .slice a.HA u.hol.length a.hc]] w fun e w' => NewP nm u w e w' := by
  obtain ⟨V, hV⟩ : ∃ V, V = suA u a := ⟨_, rfl⟩
  obtain ⟨W1, hW1⟩ : ∃ W1, W1 = w.alloc (.cells V 29) := ⟨_, rfl⟩
  have hb1 : Below w.heap.size w W1 := by rw [hW1]; exact (Below.refl _ _).alloc (Nat.le_refl _) _
  have HBw := Lib.hid hb1
  have HSt : Hid (W1.heap[w.heap.size]? = some (.cells V 29 (0, 0)) ∧ w.heap.size < W1.heap.size) := Lib.hid (by rw [hW1]; exact ⟨heap_alloc_new _ _, by simp⟩)
  have HGb := Lib.hid hG
  have HA : Hid (∀ X, Below w.heap.size w X → SuAt X w.heap.size u a) := Lib.hid fun X hX => hA.below hX
  have HC : Hid (∀ X, Below W1.heap.size W1 X → X.cell? ⟨w.heap.size, 3, none⟩ = some (.slice a.RA u.rest.length a.rc) ∧ X.cell? ⟨w.heap.size, 4, none⟩ = some (.slice a.HA u.hol.length a.hc)) := Lib.hid fun X hX => by
    have h := (hX.block _ HSt.out.2).trans HSt.out.1
    rw [hV] at h
    exact ⟨by simp [World.cell?, h, suA], by simp [World.cell?, h, suA]⟩
  have hnil : ∀ (A : Option Addr) (l : List Int), It w w.heap.size A l → A = none → l.length = 0 := fun A l h e => by
    by_cases h0 : 0 < l.length
    · obtain ⟨g, off, e2, _⟩ := h h0
      rw [e] at e2
      cases e2
    · omega
  have HCl : Hid ((∀ X, Below W1.heap.size W1 X → Calls Tryz.prog 43 #[.slice a.RA u.rest.length a.rc] X fun e w' => ∃ A' c', e = .returned (.slice A' u.rest.length c') ∧ ItT w' A' u.rest ∧ (A' = none → u.rest.length = 0) ∧ Below X.heap.size X w') ∧ (∀ X, Below W1.heap.size W1 X → Calls Tryz.prog 43 #[.slice a.HA u.hol.length a.hc] X fun e w' => ∃ A' c', e = .returned (.slice A' u.hol.length c') ∧ ItT w' A' u.hol ∧ (A' = none → u.hol.length = 0) ∧ Below X.heap.size X w')) := Lib.hid
    ⟨fun X hX => cloneIt (HA.out X (hb1.trans (hX.mono hb1.size))).rest a.rc (by have := hu.rest; omega) (hnil _ _ hA.rest), fun X hX => cloneIt (HA.out X (hb1.trans (hX.mono hb1.size))).hol a.hc (by have := hu.hol; omega) (hnil _ _ hA.hol)⟩
  have HW := Lib.hid hW1
  have HVV := Lib.hid hV
  clear hA hG hW1 hV hb1 hnil
  go_enter Tryz.func107, Tryz.ntmps107
  go_upto_region 1 with fail
  have hE : #[Value.slice a.PA u.par.length a.pc, .slice a.DA u.dl.length a.dc, .slice a.FA u.fd.length a.fc, .slice a.RA u.rest.length a.rc, .slice a.HA u.hol.length a.hc] = V := HVV.out.symm
  rw [hE]
  rw [← HW.out]
  go_cut [5] from 16 to 31 (fun v wx => Hid (NewR w wx V nm u v))
  -- REGION
  · rename_i J K1 hJ hK1
    have hmm := @run_makeMap Tryz.prog
    refine wp_region_factsP (own := nwOwn) (Le := fun w w' => Below w.heap.size w w') (C := fun X => Below W1.heap.size W1 X) (R := nwR nm u a w.heap.size) 14 14 [15, 16] (by kernel_rfl) (by kernel_rfl) (by kernel_rfl) rfl (Below.refl _ _).drew (fun W W' h1 h2 => h2.trans (h1.mono h2.size)) (fun i v w w' h => nwR_kept i v w w' h) (fun i v w h q hq => nwR_own i v w h q hq) (steps_take ?_) ?_
    · simp only [List.take_succ_cons, List.take_zero, StepsFrom]
      refine ⟨fact_stepP ?_, fact_stepP ?_, fact_stepP ?_, fact_stepP ?_, fact_stepP ?_, fact_stepP ?_, fact_stepP ?_, fact_stepP ?_, fact_stepP ?_, fact_stepP ?_, fact_stepP ?_, fact_stepP ?_, fact_stepP ?_, fact_stepP ?_, trivial⟩
      all_goals (intro a2 W hs hc hd K hK)
      all_goals have t0 : a2.tmps[0]? = some (.string nm) := (hs.rest 0 (of_decide_eq_true (by kernel_rfl))).trans rfl
      all_goals have t3 : a2.tmps[3]? = some (.pointer (some ⟨w.heap.size, 0, none⟩)) := (hs.rest 3 (of_decide_eq_true (by kernel_rfl))).trans rfl
      all_goals clear hs
      -- 0
      · go_simp
        exact hK _ _ (Below.refl _ _) rfl (nw_no (by decide) (by decide) (by decide))
      -- 1
      · go_simp
        exact hK _ _ (Below.refl _ _) rfl (nw_no (by decide) (by decide) (by decide))
      -- 2
      · obtain ⟨v1, s1, r1⟩ := hd { on := 1, ground := .data } (by simp) (by rfl) _ (by rfl)
        replace s1 := s1 _ rfl
        obtain rfl := r1
        go_simp
        exact hK _ _ (Below.refl _ _) rfl (nw_no (by decide) (by decide) (by decide))
      -- 3
      · obtain ⟨v2, s2, r2⟩ := hd { on := 2, ground := .data } (by simp) (by rfl) _ (by rfl)
        replace s2 := s2 _ rfl
        obtain rfl := r2
        obtain ⟨k3, k4⟩ := HC.out W hc
        go_simp
        exact hK _ _ (Below.refl _ _) rfl (nw_no (by decide) (by decide) (by decide))
      -- 4
      · obtain ⟨v3, s3, r3⟩ := hd { on := 3, ground := .data } (by simp) (by rfl) _ (by rfl)
        replace s3 := s3 _ rfl
        obtain rfl := r3
        have HL := Lib.hid (HCl.out.1 W hc)
        go_simp
        refine HL.out.mono ?_
        rintro e w' ⟨A', c', rfl, hi, hn, hb'⟩
        exact hK _ _ hb' ⟨A', c', rfl, hi⟩ (nw_no (by decide) (by decide) (by decide))
      -- 5
      · go_simp
        exact hK _ _ (Below.refl _ _) rfl (nw_no (by decide) (by decide) (by decide))
      -- 6
      · obtain ⟨v5, s5, r5⟩ := hd { on := 5, ground := .data } (by simp) (by rfl) _ (by rfl)
        replace s5 := s5 _ rfl
        obtain rfl := r5
        go_simp
        exact hK _ _ (Below.refl _ _) rfl (nw_no (by decide) (by decide) (by decide))
      -- 7
      · obtain ⟨v6, s6, r6⟩ := hd { on := 6, ground := .data } (by simp) (by rfl) _ (by rfl)
        replace s6 := s6 _ rfl
        obtain rfl := r6
        obtain ⟨k3, k4⟩ := HC.out W hc
        go_simp
        exact hK _ _ (Below.refl _ _) rfl (nw_no (by decide) (by decide) (by decide))
      -- 8
      · obtain ⟨v7, s7, r7⟩ := hd { on := 7, ground := .data } (by simp) (by rfl) _ (by rfl)
        replace s7 := s7 _ rfl
        obtain rfl := r7
        have HL := Lib.hid (HCl.out.2 W hc)
        go_simp
        refine HL.out.mono ?_
        rintro e w' ⟨A', c', rfl, hi, hn, hb'⟩
        exact hK _ _ hb' ⟨A', c', rfl, hi⟩ (nw_no (by decide) (by decide) (by decide))
      -- 9
      · obtain ⟨v4, s4, r4⟩ := hd { on := 4, ground := .data } (by simp) (by rfl) _ (by rfl)
        replace s4 := s4 _ rfl
        obtain ⟨v8, s8, r8⟩ := hd { on := 8, ground := .data } (by simp) (by rfl) _ (by rfl)
        replace s8 := s8 _ rfl
        obtain ⟨A, c, rfl, h1⟩ := r4
        obtain ⟨A', c', rfl, h2⟩ := r8
        go_simp
        exact hK _ _ (Below.refl _ _) ⟨A, c, A', c', rfl, h1, h2⟩ (nw_no (by decide) (by decide) (by decide))
      -- 10
      · go_simp
        exact hK _ _ (Below.refl _ _) rfl (nw_no (by decide) (by decide) (by decide))
      -- 11
      · obtain ⟨v10, s10, r10⟩ := hd { on := 10, ground := .data } (by simp) (by rfl) _ (by rfl)
        replace s10 := s10 _ rfl
        obtain rfl := r10
        have HL := Lib.hid (Led.new_holds nm W)
        have hWs := hc.size
        have hWb := HBw.out.size
        go_simp
        refine HL.out.mono ?_
        rintro e w' ⟨rfl, hi, hb'⟩
        exact hK _ _ hb' ⟨W.heap.size, rfl, by omega, hi⟩ (fun q hq => nw_led rfl hq)
      -- 12
      · have hM := Mp.made (C := curC) (E := pyE) W
        have hWs := hc.size
        have hWb := HBw.out.size
        go_simp
        exact hK _ _ ((Below.refl _ _).alloc (Nat.le_refl _) _) ⟨W.heap.size, rfl, by omega, hM⟩ (fun q hq => nw_map rfl (by decide) hq)
      -- 13
      · have hM := Mp.made (C := curC) (E := ptE) W
        have hWs := hc.size
        have hWb := HBw.out.size
        go_simp
        exact hK _ _ ((Below.refl _ _).alloc (Nat.le_refl _) _) ⟨W.heap.size, rfl, by omega, hM⟩ (fun q hq => nw_map rfl (by decide) hq)
    · intro a2 W hs hc hf hap
      obtain ⟨v0, s0, rfl⟩ := hf 0 _ rfl (by omega)
      obtain ⟨v9, s9, A, c, A', c', rfl, hi1, hi2⟩ := hf 9 _ rfl (by omega)
      obtain ⟨v11, s11, z, rfl, hz, hLh⟩ := hf 11 _ rfl (by omega)
      obtain ⟨v12, s12, pm, rfl, hpm, hMp⟩ := hf 12 _ rfl (by omega)
      obtain ⟨v13, s13, dm, rfl, hdm, hMd⟩ := hf 13 _ rfl (by omega)
      have ap1 := hap 11 12 _ _ _ _ rfl rfl (by omega) (by omega) (by decide) rfl rfl _ _ (s11 _ rfl) (s12 _ rfl)
      have ap2 := hap 11 13 _ _ _ _ rfl rfl (by omega) (by omega) (by decide) rfl rfl _ _ (s11 _ rfl) (s13 _ rfl)
      have ap3 := hap 12 13 _ _ _ _ rfl rfl (by omega) (by omega) (by decide) rfl rfl _ _ (s12 _ rfl) (s13 _ rfl)
      have q1 : ∀ x, z ≤ x → x ≤ z + 2 → x ≠ pm := fun x h1 h2 e => ap1 x (.inl ⟨rfl, z, rfl, h1, h2⟩) (.inr ⟨.inl rfl, by rw [e]⟩)
      have q2 : ∀ x, z ≤ x → x ≤ z + 2 → x ≠ dm := fun x h1 h2 e => ap2 x (.inl ⟨rfl, z, rfl, h1, h2⟩) (.inr ⟨.inr rfl, by rw [e]⟩)
      have q3 : pm ≠ dm := fun e => ap3 pm (.inr ⟨.inl rfl, rfl⟩) (.inr ⟨.inr rfl, by rw [e]⟩)
      clear ap1 ap2 ap3 hap hf
      have e : a2 = ⟨#[.string nm, .agg V, undef, .pointer (some ⟨w.heap.size, 0, none⟩), .pointer none, a2.tmps.getD 5 undef, undef, undef, undef, undef, undef, undef, undef, undef, undef, undef, a2.tmps.getD 16 undef, a2.tmps.getD 17 undef, a2.tmps.getD 18 undef, a2.tmps.getD 19 undef, a2.tmps.getD 20 undef, a2.tmps.getD 21 undef, a2.tmps.getD 22 undef, a2.tmps.getD 23 undef, a2.tmps.getD 24 undef, a2.tmps.getD 25 undef, a2.tmps.getD 26 undef, a2.tmps.getD 27 undef, a2.tmps.getD 28 undef, a2.tmps.getD 29 undef, a2.tmps.getD 30 undef, a2.tmps.getD 31 undef, undef, undef, undef, undef, undef, undef, undef, undef, undef, undef, undef, undef, undef, undef, undef, undef, undef, undef, undef, undef, undef, undef, undef, undef, undef, undef, undef, undef, undef, undef, undef, undef, undef, undef, undef, undef, undef, undef, undef, undef, undef, undef, undef, undef, undef, undef, undef, undef, undef, undef, undef, undef, undef, undef, undef, undef, undef, undef, undef, undef, undef, undef, undef, undef, undef, undef, undef, undef, undef, undef, undef, undef, undef, undef, undef, undef, undef, undef, undef, undef, undef, undef, undef, undef, undef, undef, undef, undef, undef, undef, undef, undef, undef, undef], []⟩ := hs.frame.trans (by kernel_rfl)
      have g16 : a2.tmps.getD 16 undef = .string nm := by have := s0 16 rfl; simp [this]
      have g25 : a2.tmps.getD 25 undef = .agg #[.slice A u.rest.length c, .slice A' u.hol.length c'] := by have := s9 25 rfl; simp [this]
      have g27 : a2.tmps.getD 27 undef = .pointer (some ⟨z + 2, 0, none⟩) := by have := s11 27 rfl; simp [this]
      have g28 : a2.tmps.getD 28 undef = .map (some pm) := by have := s12 28 rfl; simp [this]
      have g29 : a2.tmps.getD 29 undef = .map (some dm) := by have := s13 29 rfl; simp [this]
      rw [g16, g25, g27, g28, g29] at e
      clear g16 g25 g27 g28 g29 s0 s9 s11 s12 s13 hs
      have HE2 := Lib.hid e
      clear e
      have HN : Hid (NewR w (W.alloc (.cells #[.string nm, .slice A u.rest.length c, .slice A' u.hol.length c', .pointer (some ⟨z + 2, 0, none⟩), .map (some pm), .map (some dm)] 220)) V nm u (.pointer (some ⟨W.heap.size, 0, none⟩))) := Lib.hid (by
        have hb : Below W.heap.size W (W.alloc (.cells #[.string nm, .slice A u.rest.length c, .slice A' u.hol.length c', .pointer (some ⟨z + 2, 0, none⟩), .map (some pm), .map (some dm)] 220)) := (Below.refl _ _).alloc (Nat.le_refl _) _
        have hbw : Below w.heap.size w W := HBw.out.trans (hc.mono HBw.out.size)
        have hws := hbw.size
        have hl1 := hLh.lg.plt
        have hl2 := hLh.lg.blt
        have hl3 := hLh.hlt
        refine ⟨W.heap.size, z, pm, dm, A, c, A', c', rfl, Bk.start (heap_alloc_new _ _) (hLh.below hb hl1 hl2 hl3) (hMp.alloc _) (hMd.alloc _) (q1 z (by omega) (by omega)).symm (q1 (z + 1) (by omega) (by omega)).symm (q2 z (by omega) (by omega)).symm (q2 (z + 1) (by omega) (by omega)).symm q3 (hi1.keep (Im.of_below hb)) (hi2.keep (Im.of_below hb)) h12 hws hz hpm hdm (HGb.out.low (hbw.trans (hb.mono hws)) h12), hMp.alloc _, hMd.alloc _, hbw.trans (hb.mono hws), (hb.block _ (by have := HBw.out.size; have := hc.size; have := HSt.out.2; omega)).trans ((hc.block _ HSt.out.2).trans HSt.out.1)⟩)
      clear hi1 hi2 hLh hMp hMd q1 q2 q3 hc
      rw [HE2.out]
      clear HE2
      refine wpOps_more (by rfl) rfl ?_
      go_simp
      refine wpOps_more (by rfl) rfl ?_
      go_simp
      refine wpOps_more (by rfl) rfl ?_
      go_simp
      refine wpOps_done ?_
      exact hK1 _ _ (hJ _ _ ⟨_, _, _, _, _, _, _, _, _, _, _, _, _, _, _, _, _, HN, rfl⟩)
  -- END
  case rest =>
    obtain ⟨bb, z, pm, dm, RA, rc, HA2, hc2, rfl, hx, hmp, hmd, hbw, hst⟩ := hcut.out
    clear hcut
    obtain ⟨K, hK⟩ : ∃ K, K = newK nm w.heap.size bb z pm dm RA rc u.rest HA2 hc2 u.hol := ⟨_, rfl⟩
    rw [← hK] at hx
    have hKb : K.bb = bb := by rw [hK]; rfl
    have hKp : K.pm = pm := by rw [hK]; rfl
    have hKd : K.dm = dm := by rw [hK]; rfl
    subst hKb hKp hKd
    have hpar := hu.par
    have hdl := hu.dl
    have HX := Lib.hid hx
    have hle : K.base = w.heap.size := by rw [hK]; rfl
    have hpm : w.heap.size ≤ K.pm ∧ K.pm < wc.heap.size := ⟨by rw [← hle]; exact hx.lo.2.2.1, hmp.lt⟩
    have hstl : w.heap.size < wc.heap.size := (Array.getElem?_eq_some_iff.1 hst).1
    have hbbl : K.bb < wc.heap.size := (Array.getElem?_eq_some_iff.1 hx.bank).1
    obtain ⟨es, cl, hpq⟩ := hmp.map?
    have HCq : Hid (∀ X, Kq K.pm wc X → X.cell? ⟨w.heap.size, 0, none⟩ = some (.slice a.PA u.par.length a.pc) ∧ X.cell? ⟨w.heap.size, 1, none⟩ = some (.slice a.DA u.dl.length a.dc) ∧ X.cell? ⟨K.bb, 4, none⟩ = some (.map (some K.pm)) ∧ X.cell? ⟨K.bb, 5, none⟩ = some (.map (some K.dm)) ∧ Hid (X.heap[w.heap.size]? = some (.cells V 29 (0, 0)))) := Lib.hid fun X hX => by
      have h0 := (hX.block _ hstl (fun e => by rw [e, hpq] at hst; cases hst)).trans hst
      have h1 := (hX.block _ hstl (fun e => by rw [e, hpq] at hst; cases hst)).trans hst
      have h2 := (hX.block _ hbbl (fun e => by have := hx.bank; rw [e, hpq] at this; cases this)).trans hx.bank
      rw [HVV.out] at h1
      exact ⟨by simp [World.cell?, h1, suA], by simp [World.cell?, h1, suA], by simp [World.cell?, h2], by simp [World.cell?, h2], Lib.hid h0⟩
    have HI0 : Hid (NpI w wc K u 0 (.slice none 0 0) wc) := Lib.hid ⟨⟨rfl, rfl, rfl, Nat.le_refl _, fun _ _ _ => rfl⟩, hbw, ⟨0, Nat.le_refl _, hmp⟩, World.ownsRow_nil _ _ _ _⟩
    have HMd := Lib.hid hmd
    have HKK := Lib.hid hK
    obtain ⟨k0, k1, kb4, kb5, _⟩ := HCq.out wc HI0.out.kq
    clear hx hmp hmd hbw hst hpq hK HCl HC HBw HSt hE
    go_wp2_with fail
    clear k0 k1 kb4 kb5
    go_loopw [35, 6, 8, 9, 10] (fun i v _ _ _ wr => ∃ k : Nat, k ≤ u.par.length ∧ i = .int .i64 (k : Int) ∧ Hid (NpI w wc K u k v wr)) (fun i _ _ _ _ _ => u.par.length - (RowKit.intOf i).toNat)
    case atStart => exact ⟨0, Nat.zero_le _, rfl, HI0⟩
    case round =>
      clear HI0
      obtain ⟨k, hk, rfl, HI⟩ := hrel
      by_cases hlt : k < u.par.length
      · have b1 : (k : Int) < (u.par.length : Int) := by omega
        obtain ⟨y, hy⟩ : ∃ y, u.par[k]? = some y := ⟨u.par[k], List.getElem?_eq_getElem hlt⟩
        have heq : u.par[k] = y := (List.getElem?_eq_some_iff.1 hy).2
        have hyz := (hu.py y (List.mem_of_getElem? hy)).1
        have hym : y.nm.size ≤ maxLen := by unfold maxLen; omega
        obtain ⟨g, off, hPA, hg, c0, c1, c2⟩ := (HA.out wr HI.out.bel).par.at_ hlt
        rw [heq] at c0 c1 c2
        have hgw : g < wr.heap.size := by have := HI.out.bel.size; omega
        obtain ⟨_, _, kb4, _⟩ := HCq.out wr HI.out.kq
        have hbr : K.bb < wr.heap.size := Nat.lt_of_lt_of_le hbbl HI.out.kq.size
        obtain ⟨X, hX⟩ : ∃ X, X = wr.alloc (.cells #[.string y.nm, .string y.bk, .int .i64 y.kd] 38) := ⟨_, rfl⟩
        have hbX : Below wr.heap.size wr X := by rw [hX]; exact (Below.refl _ _).alloc (Nat.le_refl _) _
        have hblk : X.heap[wr.heap.size]? = some (.cells #[.string y.nm, .string y.bk, .int .i64 y.kd] 38 (0, 0)) := by rw [hX]; exact heap_alloc_new _ _
        have kx4 : X.cell? ⟨K.bb, 4, none⟩ = some (.map (some K.pm)) := (hbX.cell (p := ⟨K.bb, 4, none⟩) hbr).trans kb4
        have z0 : X.cell? ⟨wr.heap.size, 0, none⟩ = some (.string y.nm) := by simp [World.cell?, hblk]
        have hzl : wr.heap.size < X.heap.size := (Array.getElem?_eq_some_iff.1 hblk).1
        have hbX2 : K.bb < X.heap.size := by omega
        obtain ⟨⟨pn, pb, pk⟩, hp⟩ : ∃ y2 : Py, (parF (u.par.take k) y.nm).getD ⟨⟨#[]⟩, ⟨#[]⟩, 0⟩ = y2 := ⟨_, rfl⟩
        obtain ⟨np, _, hMp⟩ := HI.out.mp
        have hMX := hMp.below hbX hMp.lt
        have hlk : (Instr.lookup 66 (.map (some K.pm)) (.string y.nm) true).run Tryz.prog X.drew = .ok (.tuple #[.agg #[.string pn, .string pb, .int .i64 pk], .bool (parF (u.par.take k) y.nm).isSome]) X.drew := by
          have := (hMX.drewN 1).look_ok Tryz.underlying66 (zeroPy _) trivial (x := y.nm) hym
          rw [hp] at this
          exact this
        have hlk2 : (Instr.lookup 66 (.map (some K.pm)) (.string y.nm) true).run Tryz.prog (X.alloc (.cells #[.string ⟨#[]⟩, .string ⟨#[]⟩, .int .i64 0] 38)).drew = .ok (.tuple #[.agg #[.string pn, .string pb, .int .i64 pk], .bool (parF (u.par.take k) y.nm).isSome]) (X.alloc (.cells #[.string ⟨#[]⟩, .string ⟨#[]⟩, .int .i64 0] 38)).drew := by
          have := ((hMX.alloc (.cells #[.string ⟨#[]⟩, .string ⟨#[]⟩, .int .i64 0] 38)).drewN 1).look_ok Tryz.underlying66 (zeroPy _) trivial (x := y.nm) hym
          rw [hp] at this
          exact this
        have e4 : (X.alloc (.cells #[.string ⟨#[]⟩, .string ⟨#[]⟩, .int .i64 0] 38)).cell? ⟨K.bb, 4, none⟩ = some (.map (some K.pm)) := Lib.cell?_alloc_some _ kx4
        have e0 : (X.alloc (.cells #[.string ⟨#[]⟩, .string ⟨#[]⟩, .int .i64 0] 38)).cell? ⟨wr.heap.size, 0, none⟩ = some (.string y.nm) := Lib.cell?_alloc_some _ z0
        have HX9 := Lib.hid hX
        have HBX := Lib.hid hbX
        have HBl := Lib.hid hblk
        clear hX hbX hblk hMp hMX hp heq
        rw [hPA]
        go_upto_region 6 with fail
        rw [← HX9.out]
        generalize his : (parF (u.par.take k) y.nm).isSome = is at *
        have HIs := Lib.hid his
        clear his c0 c1 c2 kb4
        cases is with
        | true =>
          have HN : Hid (∀ X', Below X.heap.size X X' → NpI w wc K u (k + 1) u6 X') := Lib.hid fun X' hX' => HI.out.same hy HIs.out (HBX.out.trans (hX'.mono HBX.out.size))
          clear HI hy
          go_region
          all_goals
            have HI' := Lib.hid (HN.out _ (by first | exact ((Below.refl _ _).alloc (Nat.le_refl _) (.cells #[.string pn, .string pb, .int .i64 pk] 38)).drew | exact (Below.refl _ _).drew))
            clear HN hlk hlk2 e4 e0 kx4 z0
            go_wp2_with fail
            go_roundw
            case rel => exact ⟨k + 1, by omega, by go_num, HI'⟩
            case measure => simp [RowKit.intOf]; omega
        | false =>
          have HM : Hid (∀ X', Below X.heap.size X X' → ∃ X1, (Instr.mapUpdate 66 (.map (some K.pm)) (.string y.nm) (.agg #[.string y.nm, .string y.bk, .int .i64 y.kd])).run Tryz.prog X' = .ok () X1 ∧ X1.heap.size = X'.heap.size ∧ X1.cell? ⟨wr.heap.size, 0, none⟩ = some (.string y.nm) ∧ X1.cell? ⟨wr.heap.size, 1, none⟩ = some (.string y.bk) ∧ X1.cell? ⟨wr.heap.size, 2, none⟩ = some (.int .i64 y.kd) ∧ ∃ v' X2, (Builtin.append_ #[22, 22] 22 #[u6, .slice (some ⟨X1.heap.size, 0, none⟩) 1 1]).run Tryz.prog (X1.alloc (.cells #[.string y.nm, .string y.bk, .int .i64 y.kd] 38)) = .ok v' X2 ∧ Hid (NpI w wc K u (k + 1) v' X2)) := Lib.hid fun X' hX' => by
            obtain ⟨X1, r1, h1, h2, v', X2, r2, h3⟩ := HI.out.more (by omega) hpm hy HIs.out hym (HBX.out.trans (hX'.mono HBX.out.size))
            have hb := (h2 wr.heap.size (by have := hX'.size; omega) (by have := hpm.2; have := HI.out.kq.size; omega)).trans ((hX'.block _ hzl).trans HBl.out)
            exact ⟨X1, r1, h1, by simp [World.cell?, hb], by simp [World.cell?, hb], by simp [World.cell?, hb], v', X2, r2, Lib.hid h3⟩
          have HCz : Hid (∀ X', Below X.heap.size X X' → X'.cell? ⟨K.bb, 4, none⟩ = some (.map (some K.pm)) ∧ X'.cell? ⟨wr.heap.size, 0, none⟩ = some (.string y.nm) ∧ X'.cell? ⟨wr.heap.size, 1, none⟩ = some (.string y.bk) ∧ X'.cell? ⟨wr.heap.size, 2, none⟩ = some (.int .i64 y.kd) ∧ K.bb < X'.heap.size ∧ wr.heap.size < X'.heap.size) := Lib.hid fun X' hX' => by
            have hb := (hX'.block _ hzl).trans HBl.out
            exact ⟨(hX'.cell (p := ⟨K.bb, 4, none⟩) hbX2).trans kx4, by simp [World.cell?, hb], by simp [World.cell?, hb], by simp [World.cell?, hb], by have := hX'.size; omega, by have := hX'.size; omega⟩
          obtain ⟨A6, c6, h6⟩ := HI.out.po.form
          clear HI hy
          generalize (firsts [] (u.par.take k)).length = n6 at *
          subst h6
          go_region
          all_goals
            have hbV : Below X.heap.size X ((X.alloc (.cells #[.string pn, .string pb, .int .i64 pk] 38)).drew) := ((Below.refl X.heap.size X).alloc (Nat.le_refl _) (.cells #[.string pn, .string pb, .int .i64 pk] 38)).drew
            clear hlk hlk2 e4 e0 kx4 z0
            generalize ((X.alloc (.cells #[.string pn, .string pb, .int .i64 pk] 38)).drew) = V8 at *
            obtain ⟨kv4, y0, y1, y2, hl1, hl2⟩ := HCz.out V8 hbV
            obtain ⟨X1, r1, hz1, x0, x1, x2, v', X2, r2, HI'⟩ := HM.out V8.drew hbV.drew
            clear HCz HM hbV
            go_upto_region 8 with fail
            go_region
            all_goals
              clear kv4 y0 y1 y2 hl1 hl2 r1 hz1
              go_wp2_with (at_builtin; refine Lib.wpList_append_run _ rfl (.tmp 58) (.tmp 60) 22 22 rfl (.slice A6 n6 c6) (.slice (some ⟨X1.heap.size, 0, none⟩) 1 1) (by rfl) (by rfl) _ _ r2 ?_)
              go_roundw
              case rel => exact ⟨k + 1, by omega, by go_num, HI'⟩
              case measure => simp [RowKit.intOf]; omega
      · have b1 : ¬ (k : Int) < (u.par.length : Int) := by omega
        obtain rfl : k = u.par.length := by omega
        obtain ⟨W2, rfl⟩ : ∃ W2, W2 = wr := ⟨_, rfl⟩
        obtain ⟨np, hnp, hMp⟩ := HI.out.mp
        rw [List.take_length] at hMp
        have hx1 := HX.out.addP HI.out.kq hMp (by omega)
        obtain ⟨K1, hK1⟩ : ∃ K1, K1 = { K with P := parF u.par } := ⟨_, rfl⟩
        rw [← hK1] at hx1
        have hb1 : K1.bb = K.bb := by rw [hK1]
        have hd1 : K1.dm = K.dm := by rw [hK1]
        have hn1 : K1.nm = nm := by rw [hK1, HKK.out]; rfl
        have hba1 : K1.base = w.heap.size := by rw [hK1, HKK.out]; rfl
        have HK1 : Hid (K1.P = parF u.par ∧ K1.rest = u.rest ∧ K1.hol = u.hol) := Lib.hid ⟨by rw [hK1], by rw [hK1, HKK.out]; rfl, by rw [hK1, HKK.out]; rfl⟩
        have hdl1 : K1.dl = (fun _ => none) ∧ K1.blk = (fun _ => none) := ⟨by rw [hK1, HKK.out]; rfl, by rw [hK1, HKK.out]; rfl⟩
        have hmd2 := HMd.out.kq HI.out.kq (fun e => HX.out.ne.2.2.2.2 e.symm)
        obtain ⟨A6, c6, h6⟩ := HI.out.po.form
        rw [List.take_length] at h6
        have hpo := HI.out.po
        rw [List.take_length, h6] at hpo
        obtain ⟨es2, cl2, hdq⟩ := hmd2.map?
        have HRow : Hid (∀ X, Kq K1.dm W2 X → PyT X A6 (firsts [] u.par)) := Lib.hid fun X hX => by
          rw [hd1] at hX
          exact hpo.pyt.keep (hX.imM hdq)
        obtain ⟨_, k1, _, kb5, HSb⟩ := HCq.out W2 HI.out.kq
        have hsl2 : w.heap.size < W2.heap.size := (Array.getElem?_eq_some_iff.1 HSb.out).1
        have HSu : Hid (∀ X, Kq K1.dm W2 X → X.heap[w.heap.size]? = some (.cells V 29 (0, 0))) := Lib.hid fun X hX => by
          rw [hd1] at hX
          exact (hX.block _ hsl2 (fun e => by have := HSb.out; rw [e, hdq] at this; cases this)).trans HSb.out
        have HI0 : Hid (NwI w W2 K1 nm u 0 W2) := Lib.hid ⟨fun _ => none, 0, ⟨by
          have e : ndK K1 (dlF nm (u.dl.take 0)) (fun _ => none) = K1 := by
            rw [hK1, HKK.out]; rfl
          rw [e]
          exact hx1, by rw [hd1]; exact hmd2, Nat.le_refl _, ⟨rfl, rfl, rfl, Nat.le_refl _, fun _ _ _ => rfl⟩, HI.out.bel⟩⟩
        have hdm : w.heap.size ≤ K1.dm := by rw [← hba1]; exact hx1.lo.2.2.2
        clear HI hMp hx1 hmd2 hpo hdq HX HMd HKK hK1 hdl1 hlt HCq
        subst h6
        obtain ⟨n6, hn6⟩ : ∃ n6, (firsts [] u.par).length = n6 := ⟨_, rfl⟩
        have HN6 := Lib.hid hn6
        rw [hn6]
        clear hn6
        go_wp2_with fail
        clear k1 kb5 b1
        go_loopw [66, 12, 13, 14, 15] (fun i _ _ _ _ wr => ∃ k : Nat, k ≤ u.dl.length ∧ i = .int .i64 (k : Int) ∧ Hid (NwI w W2 K1 nm u k wr)) (fun i _ _ _ _ _ => u.dl.length - (RowKit.intOf i).toNat)
        case atStart => exact ⟨0, Nat.zero_le _, rfl, HI0⟩
        case round =>
          clear HI0
          obtain ⟨k, hk, rfl, HI⟩ := hrel
          by_cases hlt : k < u.dl.length
          · have b1 : (k : Int) < (u.dl.length : Int) := by omega
            obtain ⟨F, nd, hI⟩ := HI.out
            clear HI
            have HI := Lib.hid hI
            obtain ⟨d, hd⟩ : ∃ d, u.dl[k]? = some d := ⟨u.dl[k], List.getElem?_eq_getElem hlt⟩
            obtain ⟨g, off, A', c', hDA, hg, hc, hbx, _⟩ := (HA.out wr hI.bel).dl.at_ hd
            have hdo := hu.dls d (List.mem_of_getElem? hd)
            have hgw : g < wr.heap.size := by have := hI.bel.size; omega
            have HRg := Lib.hid (show wr.rangeAt g (off + k * 17) (dlA d A' c').toList from fun j v hv => hc j v (by simpa using hv))
            have HIb := Lib.hid (show (Tryz.prog.info? 72).map (·.size) = some (dlA d A' c').toList.length from infoDl17)
            have HIs := Lib.hid (show (Tryz.prog.info? 72).map (·.size) = some (dlA d A' c').size from infoDl17)
            have HOn := Lib.hid (dlA_all d A' c')
            have HSz := Lib.hid (show 17 = (dlA d A' c').size from rfl)
            obtain ⟨X, hX⟩ : ∃ X, X = wr.alloc (.cells (dlA d A' c') 72) := ⟨_, rfl⟩
            have hbX : Below wr.heap.size wr X := by rw [hX]; exact (Below.refl _ _).alloc (Nat.le_refl _) _
            have hblk : X.heap[wr.heap.size]? = some (.cells (dlA d A' c') 72 (0, 0)) := by rw [hX]; exact heap_alloc_new _ _
            have hzl : wr.heap.size < X.heap.size := (Array.getElem?_eq_some_iff.1 hblk).1
            have hbb : K.bb < wr.heap.size := by rw [← hb1]; exact (Array.getElem?_eq_some_iff.1 hI.bk.bank).1
            have hbbX : K.bb < X.heap.size := by omega
            have HB5 : Hid (∀ Y, Below wr.heap.size wr Y → Y.cell? ⟨K.bb, 5, none⟩ = some (.map (some K.dm))) := Lib.hid fun Y hY => by
              have h := (hI.bk.below hY).cell.2.2.2.2.2
              have e : (ndK K1 (dlF nm (u.dl.take k)) F).bb = K.bb := hb1
              have e2 : (ndK K1 (dlF nm (u.dl.take k)) F).dm = K.dm := hd1
              rw [e, e2] at h
              exact h
            have kx5 := HB5.out X hbX
            have z0 : X.cell? ⟨wr.heap.size, 0, none⟩ = some (.string d.num) := by simp [World.cell?, hblk, dlA]
            have z4 : X.cell? ⟨wr.heap.size, 4, none⟩ = some (.string d.iss) := by simp [World.cell?, hblk, dlA]
            have z11 : X.cell? ⟨wr.heap.size, 11, none⟩ = some (.slice A' d.box.length c') := by simp [World.cell?, hblk, dlA]
            have hnz : d.num.size ≤ maxLen := by have := hdo.str d.num (by simp); unfold maxLen; omega
            have hlk : ∀ nq, (Instr.lookup 218 (.map (some K.dm)) (.string d.num) true).run Tryz.prog (X.drewN nq) = .ok (.tuple #[ptV (F d.num), .bool (F d.num).isSome]) (X.drewN nq) := fun nq => by
              have e2 : (ndK K1 (dlF nm (u.dl.take k)) F).dm = K.dm := hd1
              have := ((hI.bk.below hbX).below (drewN_below X nq)).lookD d.num hnz
              rw [e2] at this
              exact this
            have HCz : Hid (∀ Y, Below X.heap.size X Y → Y.cell? ⟨wr.heap.size, 0, none⟩ = some (.string d.num) ∧ Y.cell? ⟨wr.heap.size, 4, none⟩ = some (.string d.iss) ∧ Y.cell? ⟨wr.heap.size, 11, none⟩ = some (.slice A' d.box.length c') ∧ Y.frozen? ⟨wr.heap.size, 11, none⟩ = false ∧ wr.heap.size < Y.heap.size) := Lib.hid fun Y hY => by
              have h := (hY.block _ hzl).trans hblk
              exact ⟨by simp [World.cell?, h, dlA], by simp [World.cell?, h, dlA], by simp [World.cell?, h, dlA], by simp [World.frozen?, h], Nat.lt_of_lt_of_le hzl hY.size⟩
            have HX9 := Lib.hid hX
            have HBX := Lib.hid hbX
            have HBl := Lib.hid hblk
            have HBx := Lib.hid (Bxs.more hbx (show w.heap.size ≤ wr.heap.size from hI.bel.size))
            have HDo := Lib.hid hdo
            clear hX hbX hblk hI hc hbx hdo
            rw [hDA]
            obtain ⟨U, hU⟩ : ∃ U, dlA d A' c' = U := ⟨_, rfl⟩
            have HU := Lib.hid hU
            rw [hU] at HRg HIb HIs HOn HSz HX9 HBl
            clear hU
            go_upto_region 14 with (first
              | (refine wpList_load_mid rfl 72 (.tmp 68) rfl g (off + k * 17) rfl U.toList _ HRg.out Tryz.underlying72 rfl HIb.out ?_)
              | (refine wpList_store_row rfl 72 (.tmp 12) (.tmp 69) rfl wr.heap.size U rfl rfl 72 _ (heap_alloc_new _ _) HIs.out HSz.out HOn.out ?_; rw [setRow_allocB])
              | fail)
            rw [← HX9.out]
            clear HRg HIb HIs HOn HSz HX9
            generalize ptV (F d.num) = pv at *
            obtain ⟨is, his⟩ : ∃ is, (F d.num).isSome = is := ⟨_, rfl⟩
            rw [his] at hlk
            have HIs := Lib.hid his
            clear his
            go_quiet (fail)
            have HBq : Hid (Below X.heap.size X (X.drewN nq)) := Lib.hid (drewN_below _ _)
            clear hlk kx5 z0 z4 z11
            generalize X.drewN nq = V8 at *
            obtain ⟨y0, y4, y11, f11, hl8⟩ := HCz.out V8 HBq.out
            have HN : Hid ((F d.num).isSome = true ∨ ¬ d.iss = nm → NwI w W2 K1 nm u (k + 1) V8) := Lib.hid fun h => HI.out.same hd h (HBX.out.trans (HBq.out.mono HBX.out.size))
            cases is with
            | true =>
              have HI' := Lib.hid (HN.out (.inl HIs.out))
              clear HN HI hd
              go_wp2_with fail
              go_roundw
              case rel => exact ⟨k + 1, by omega, by go_num, HI'⟩
              case measure => simp [RowKit.intOf]; omega
            | false =>
              by_cases hin : d.iss = nm
              · have b2 : (d.iss.toList == nm.toList) = true := by rw [ba_beq]; simp [hin]
                have HIn := Lib.hid hin
                clear hin HN
                have HCl : Hid (Calls Tryz.prog 45 #[.slice A' d.box.length c'] V8 fun e w' => ∃ A2 c2, e = .returned (.slice A2 d.box.length c2) ∧ Hid (ClB wr d.box A2 c2 w') ∧ Hid (Below X.heap.size X w') ∧ w'.cell? ⟨wr.heap.size, 11, none⟩ = some (.slice A' d.box.length c') ∧ w'.frozen? ⟨wr.heap.size, 11, none⟩ = false ∧ wr.heap.size < w'.heap.size) := Lib.hid (by
                  have hb8 := HBX.out.trans (HBq.out.mono HBX.out.size)
                  refine (cloneBx c' hb8 (HBx.out.kept hb8) (by have := HDo.out.few; omega)).mono ?_
                  rintro e w' ⟨A2, c2, rfl, h1, h2⟩
                  have hbb := HBq.out.trans (h2.mono HBq.out.size)
                  obtain ⟨_, _, q11, qf, ql⟩ := HCz.out w' hbb
                  exact ⟨A2, c2, rfl, Lib.hid h1, Lib.hid hbb, q11, qf, ql⟩)
                go_upto_region 16 with fail
                clear y0 y4
                go_wp2_with (first | (go_at_call 45; refine HCl.out.mono ?_; rintro e w3 ⟨A2, c2, rfl, HCB, HB3, q11, qf, ql⟩; clear y11 f11 hl8) | fail)
                have HL0 : Hid (LpI wr (w3.setCell ⟨wr.heap.size, 11, none⟩ (.slice A2 d.box.length c2)) d A2 c2 0) := Lib.hid (by
                  have h := HBl.out
                  rw [← HU.out] at h
                  exact LpI.start HCB.out ((HB3.out.block _ hzl).trans h))
                have hfew := HDo.out.few
                have HLw : Hid (∀ l ∈ d.box, l.l.length ≤ 100000000) := Lib.hid fun l hl => by have := (HDo.out.box.of_mem hl).1; omega
                clear HCB HB3 q11 qf ql HCl HCz HBx
                obtain ⟨w7, rfl⟩ : ∃ w7, w7 = wr := ⟨_, rfl⟩
                go_loopw [95, 15] (fun i _ wx => ∃ j : Nat, j ≤ d.box.length ∧ i = .int .i64 (j : Int) ∧ Hid (LpI w7 wx d A2 c2 j)) (fun i _ _ => d.box.length - (RowKit.intOf i).toNat)
                case atStart => exact ⟨0, Nat.zero_le _, rfl, HL0⟩
                case round =>
                  clear HL0
                  obtain ⟨j, hj, rfl, HL⟩ := hrel
                  by_cases hlj : j < d.box.length
                  · have b3 : (j : Int) < (d.box.length : Int) := by omega
                    obtain ⟨g2, L, rfl, hzg, hCb⟩ : ∃ g L, A2 = some ⟨g, 0, none⟩ ∧ w7.heap.size ≠ g ∧ Cb w7 wr g c2 j d.box L := by
                      rcases HL.out.box with ⟨_, h2⟩ | h
                      · rw [h2] at hlj; exact absurd hlj (by simp)
                      · exact h
                    have hlL : j < L.length := by rw [hCb.len]; exact hlj
                    obtain ⟨x2, f2⟩ := hCb.at_ hlL
                    obtain ⟨y, hy⟩ : ∃ y : Bp, L[j] = y := ⟨_, rfl⟩
                    have hyg : L[j]? = some y := by rw [List.getElem?_eq_getElem hlL, hy]
                    have hyx : y.x ∈ d.box := by rw [← hCb.pts]; exact List.mem_map.2 ⟨y, List.mem_of_getElem? hyg, rfl⟩
                    rw [hy] at x2
                    have hgl := hCb.glt
                    have hcellz := HL.out.cell
                    have hzlr := HL.out.zlt
                    have HR : Hid (∀ Y, Below wr.heap.size wr Y → Calls Tryz.prog 46 #[.slice y.A y.x.l.length y.c] Y fun e w' => ∃ A3 c3, e = .returned (.slice A3 y.x.l.length c3) ∧ Hid (LpI w7 (w'.setCell ⟨g2, j * 3 + 2, none⟩ (.slice A3 y.x.l.length c3)) d (some ⟨g2, 0, none⟩) c2 (j + 1)) ∧ w'.cell? ⟨w7.heap.size, 11, none⟩ = some (.slice (some ⟨g2, 0, none⟩) d.box.length c2) ∧ w'.cell? ⟨g2, j * 3 + 2, none⟩ = some (.slice y.A y.x.l.length y.c) ∧ w'.frozen? ⟨g2, j * 3 + 2, none⟩ = false ∧ g2 < w'.heap.size ∧ w7.heap.size < w'.heap.size) := Lib.hid fun Y hY => by
                      have hCY := hCb.below hY
                      refine (cloneLt y.c (hCY.old j y hyg (Nat.le_refl _)).1 (HLw.out _ hyx)).mono ?_
                      rintro e w' ⟨A3, c3, rfl, h1, h2, h3⟩
                      have hbw := hY.trans (h3.mono hY.size)
                      have hst := HL.out.step hzg hCb hlL (A' := A3) (c' := c3) hbw (by rw [hy]; exact h1) h2
                      rw [hy] at hst
                      have hz := (hbw.block _ hzlr).trans hcellz
                      exact ⟨A3, c3, rfl, Lib.hid hst, by simp [World.cell?, hz, dlA], (hbw.cell (p := ⟨g2, j * 3 + 2, none⟩) hgl.2).trans x2, (hbw.frozen (p := ⟨g2, j * 3 + 2, none⟩) hgl.2).trans f2, Nat.lt_of_lt_of_le hgl.2 hbw.size, Nat.lt_of_lt_of_le hzlr hbw.size⟩
                    have z11 : wr.cell? ⟨w7.heap.size, 11, none⟩ = some (.slice (some ⟨g2, 0, none⟩) d.box.length c2) := by simp [World.cell?, hcellz, dlA]
                    have hgl2 := hgl.2
                    clear HL hCb hlL hy hyg hyx hgl hcellz
                    generalize y.x.l.length = yl at *
                    go_upto_region 20 with fail
                    go_region_with (first | (go_at_call 46; refine (HR.out _ (by first | exact (Below.refl _ _).drew | exact Below.refl _ _)).mono ?_; rintro e w5 ⟨A3, c3, rfl, HL5, q11, q2, qf2, ql2, ql7⟩))
                    all_goals
                      clear HR x2 f2 z11
                      go_wp2_with fail
                      go_roundw
                      case rel => exact ⟨j + 1, by omega, by go_num, HL5⟩
                      case measure => simp [RowKit.intOf]; omega
                  · have b3 : ¬ (j : Int) < (d.box.length : Int) := by omega
                    obtain rfl : j = d.box.length := by omega
                    go_upto_region 22 with fail
                    · have hb7 := HL.out.bel
                      have hzlr := HL.out.zlt
                      have HDm := Lib.hid (fun X (hX : Below wr.heap.size wr X) => (show BxT X A2 d.box from HL.out.bxt.keep (Im.of_below hX)))
                      have HCd : Hid (∀ X, Below wr.heap.size wr X → X.cell? ⟨K.bb, 5, none⟩ = some (.map (some K.dm)) ∧ X.cell? ⟨w7.heap.size, 0, none⟩ = some (.string d.num) ∧ X.rangeAt w7.heap.size 0 (dlA d A2 c2).toList) := Lib.hid fun X hX => by
                        have h := (hX.block _ hzlr).trans HL.out.cell
                        refine ⟨HB5.out X (hb7.trans (hX.mono hb7.size)), by simp [World.cell?, h, dlA], fun j v hv => ?_⟩
                        show X.cell? ⟨w7.heap.size, 0 + j, none⟩ = some v
                        rw [Nat.zero_add, World.cell?, h]
                        simpa using hv
                      clear HL
                      refine wp_region_facts (Le := fun w w' => Below w.heap.size w w') (C := fun X => Below wr.heap.size wr X) (R := ndR22 K.bb K.dm w7.heap.size wr.heap.size d A2 c2) 9 9 [] (by kernel_rfl) (by kernel_rfl) (by kernel_rfl) rfl (Below.refl _ _).drew (fun W W' h1 h2 => h2.trans (h1.mono h2.size)) (fun i v w w' h => ndR22_kept i v w w' h) (steps_take ?_) ?_
                      · simp only [List.take_succ_cons, List.take_zero, StepsFrom]
                        refine ⟨fact_step ?_, fact_step ?_, fact_step ?_, fact_step ?_, fact_step ?_, fact_step ?_, fact_step ?_, fact_step ?_, fact_step ?_, trivial⟩
                        all_goals (intro a2 W hs hc hd9 K9 hK)
                        all_goals have t5 : a2.tmps[5]? = some (.pointer (some ⟨K.bb, 0, none⟩)) := (hs.rest 5 (of_decide_eq_true (by kernel_rfl))).trans rfl
                        all_goals have t12 : a2.tmps[12]? = some (.pointer (some ⟨w7.heap.size, 0, none⟩)) := (hs.rest 12 (of_decide_eq_true (by kernel_rfl))).trans rfl
                        all_goals clear hs
                        -- 0
                        · go_simp
                          exact hK _ _ (Below.refl _ _) rfl
                        -- 1
                        · obtain ⟨v0, s0, r0⟩ := hd9 { on := 0, ground := .data } (by simp) (by rfl) _ (by rfl)
                          replace s0 := s0 _ rfl
                          obtain rfl := r0
                          go_simp
                          exact hK _ _ (Below.refl _ _) rfl
                        -- 2
                        · obtain ⟨v1, s1, r1⟩ := hd9 { on := 1, ground := .data } (by simp) (by rfl) _ (by rfl)
                          replace s1 := s1 _ rfl
                          obtain rfl := r1
                          go_simp
                          exact hK _ _ (Below.refl _ _) rfl
                        -- 3
                        · obtain ⟨v2, s2, r2⟩ := hd9 { on := 2, ground := .data } (by simp) (by rfl) _ (by rfl)
                          replace s2 := s2 _ rfl
                          obtain rfl := r2
                          obtain ⟨m1, m2, m3⟩ := HCd.out W hc
                          go_simp
                          exact hK _ _ (Below.refl _ _) rfl
                        -- 4
                        · go_simp
                          exact hK _ _ (Below.refl _ _) rfl
                        -- 5
                        · obtain ⟨v4, s4, r4⟩ := hd9 { on := 4, ground := .data } (by simp) (by rfl) _ (by rfl)
                          replace s4 := s4 _ rfl
                          obtain rfl := r4
                          obtain ⟨m1, m2, m3⟩ := HCd.out W hc
                          go_simp
                          exact hK _ _ (Below.refl _ _) rfl
                        -- 6
                        · exact wp_load_mid 72 (.tmp 12) rfl w7.heap.size 0 (by simp [Act.eval, t12]) (dlA d A2 c2).toList _ (HCd.out W hc).2.2 Tryz.underlying72 rfl infoDl17 (hK _ _ (Below.refl _ _) rfl)
                        -- 7
                        · obtain ⟨v6, s6, r6⟩ := hd9 { on := 6, ground := .data } (by simp) (by rfl) _ (by rfl)
                          replace s6 := s6 _ rfl
                          obtain rfl := r6
                          clear HCd HDm
                          unfold dlA at s6
                          go_simp
                          exact hK _ _ (Below.refl _ _) rfl
                        -- 8
                        · obtain ⟨v7, s7, r7⟩ := hd9 { on := 7, ground := .data } (by simp) (by rfl) _ (by rfl)
                          replace s7 := s7 _ rfl
                          obtain rfl := r7
                          have hWs := hc.size
                          have hnew := heap_alloc_new W (.cells (dealA d A2 c2 Dst.new none 0 none 0) 225)
                          generalize hDD : dealA d A2 c2 Dst.new none 0 none 0 = DD at *
                          go_simp
                          exact hK _ _ ((Below.refl _ _).alloc (Nat.le_refl _) _) ⟨W.heap.size, rfl, hWs, by rw [hDD]; exact hnew⟩
                      · intro a2 W hs hc hf
                        obtain ⟨v3, s3, rfl⟩ := hf 3 _ rfl (by omega)
                        obtain ⟨v5, s5, rfl⟩ := hf 5 _ rfl (by omega)
                        obtain ⟨v8, s8, q, rfl, hq, hqc⟩ := hf 8 _ rfl (by omega)
                        replace s3 := s3 _ rfl
                        replace s5 := s5 _ rfl
                        replace s8 := s8 _ rfl
                        have hFn : F d.num = none := by
                          have := HIs.out
                          cases hF : F d.num with
                          | none => rfl
                          | some q => rw [hF] at this; cases this
                        have hbW := hb7.trans (hc.mono hb7.size)
                        obtain ⟨X1, r1, HX1⟩ := HI.out.more (by omega) hdm hd hFn HIn.out hnz hbW (q := q) (by have := hb7.size; omega) (A := A2) (c := c2) ⟨hqc, HDm.out W hc, DcT.nil _ _, World.ownsRow_nil _ _ _ _⟩
                        rw [hd1] at r1
                        have hp := hs.puts [111, 112, 113, 114, 115, 116, 117, 118, 119] (by kernel_rfl)
                        simp only [List.foldl_cons, List.foldl_nil] at hp
                        have g114 : a2.tmps.getD 114 undef = .map (some K.dm) := by simp [s3]
                        have g116 : a2.tmps.getD 116 undef = .string d.num := by simp [s5]
                        have g119 : a2.tmps.getD 119 undef = .pointer (some ⟨q, 0, none⟩) := by simp [s8]
                        rw [g114, g116, g119] at hp
                        generalize a2.tmps.getD 111 undef = f111 at hp
                        generalize a2.tmps.getD 112 undef = f112 at hp
                        generalize a2.tmps.getD 113 undef = f113 at hp
                        generalize a2.tmps.getD 115 undef = f115 at hp
                        generalize a2.tmps.getD 117 undef = f117 at hp
                        generalize a2.tmps.getD 118 undef = f118 at hp
                        clear g114 g116 g119 s3 s5 s8 hs hf hqc HI HB5 HCd HDm
                        rw [hp]
                        clear hp
                        refine wpOps_more (by rfl) rfl ?_
                        go_simp
                        refine wpOps_done ?_
                        go_wp2_with fail
                        go_roundw
                        case rel => exact ⟨k + 1, by omega, by go_num, HX1⟩
                        case measure => simp [RowKit.intOf]; omega
              · have b2 : (d.iss.toList == nm.toList) = false := by rw [ba_beq]; simp [hin]
                have HI' := Lib.hid (HN.out (.inr hin))
                clear HN HI hd hin
                go_wp2_with fail
                go_roundw
                case rel => exact ⟨k + 1, by omega, by go_num, HI'⟩
                case measure => simp [RowKit.intOf]; omega
          · have b1 : ¬ (k : Int) < (u.dl.length : Int) := by omega
            obtain rfl : k = u.dl.length := by omega
            obtain ⟨F, nd, hI⟩ := HI.out
            have hst := HSu.out wr hI.kq
            have hsl := (Array.getElem?_eq_some_iff.1 hst).1
            have HBg : Hid (Calls Tryz.prog 147 #[.pointer (some ⟨K.bb, 0, none⟩), .agg #[.slice a.PA u.par.length a.pc, .slice a.DA u.dl.length a.dc, .slice a.FA u.fd.length a.fc, .slice a.RA u.rest.length a.rc, .slice a.HA u.hol.length a.hc], .slice A6 n6 c6] wr fun e w' => e = .returned (.tuple #[]) ∧ NewP nm u w (.returned (.pointer (some ⟨K.bb, 0, none⟩))) w') := Lib.hid (hI.begins hu hnm (HA.out wr hI.bel) (HRow.out wr hI.kq) HN6.out hn1 hba1 hb1 HK1.out)
            rw [HVV.out] at hst
            have i0 : wr.cell? ⟨w.heap.size, 0, none⟩ = some (.slice a.PA u.par.length a.pc) := by simp [World.cell?, hst, suA]
            have i1 : wr.cell? ⟨w.heap.size, 1, none⟩ = some (.slice a.DA u.dl.length a.dc) := by simp [World.cell?, hst, suA]
            have i2 : wr.cell? ⟨w.heap.size, 2, none⟩ = some (.slice a.FA u.fd.length a.fc) := by simp [World.cell?, hst, suA]
            have i3 : wr.cell? ⟨w.heap.size, 3, none⟩ = some (.slice a.RA u.rest.length a.rc) := by simp [World.cell?, hst, suA]
            have i4 : wr.cell? ⟨w.heap.size, 4, none⟩ = some (.slice a.HA u.hol.length a.hc) := by simp [World.cell?, hst, suA]
            clear HI hI hst HA HRow HSu HK1 HN6
            go_wp2_with (first | (go_at_call 147; refine HBg.out.mono ?_; rintro e w9 ⟨rfl, hN⟩; have HN9 := Lib.hid hN; clear hN HBg i0 i1 i2 i3 i4) | fail)
            first
              | exact HN9.out
              | (go_ret; exact HN9.out)
end Go.Proofs.YtchkdidpnjakeaaGreatDoor
