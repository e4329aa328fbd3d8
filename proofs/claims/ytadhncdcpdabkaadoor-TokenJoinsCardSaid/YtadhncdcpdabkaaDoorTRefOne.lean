/- The document's 'one': the token at a place. -/
import Derived.Test.YtadhncdcpdabkaaDoorTRef
namespace Go.Proofs.YtadhncdcpdabkaaDoor
open Go.RowKit Go.Lib
set_option linter.unusedVariables false

def RefPost (s : ByteArray) (i : Nat) (w : World) (e : Ending) (w' : World) : Prop :=
  ∃ (tv : Value) (code : Int) (j : Nat), e = .returned (.tuple #[tv, .int .i64 (j : Int), .int .i64 code]) ∧ NextIs s i tv code j ∧ Below w.heap.size w w'
theorem mkTok {s : ByteArray} {i k m : Nat} {t : Bs} (h : one (s.data.toList.drop i) = .tok k t m) {x : ByteArray} (hx : x.data.toList = t) {j : Nat} (hj : j = i + m) : NextIs s i (.agg #[.int .i64 (k : Nat), .int .i64 (i : Nat), .string x]) 0 j :=
  .inl ⟨k, t, m, h, by rw [← hx], rfl, hj⟩
theorem mkBad {s : ByteArray} {i e : Nat} (h : one (s.data.toList.drop i) = .bad e) (he : e ≠ 0) (x y : Int) (z : ByteArray) (j : Nat) : NextIs s i (.agg #[.int .i64 x, .int .i64 y, .string z]) (e : Nat) j :=
  .inr ⟨e, h, rfl, he, x, y, z, rfl⟩
theorem results_cell_two {fn : Func} {p u v : Tmp} {ty : TypeId} (h : fn.results = #[.cell p ty, .tmp u, .tmp v]) (tmps : Array Value) (P : Program) (w : World) :
    (results fn tmps).run P w =
      ((asAddr (tmps.getD p undef)).run P w).andThen fun a w₁ => ((loadVar ty a).run P w₁).andThen fun x w₂ => .ok (.tuple #[x, tmps.getD u undef, tmps.getD v undef]) w₂ := by
  simp only [results, h]
  simp [Sem.run_bind, Result.andThen]
theorem ret_tok3 {fn : Func} {p u v : Tmp} (hr : fn.results = #[.cell p 31, .tmp u, .tmp v]) {tmps : Array Value} {w : World} {b : Nat} {x y : Int} {z : ByteArray} {v1 v2 : Value} (hp : tmps.getD p undef = .pointer (some ⟨b, 0, none⟩)) (h1 : tmps.getD u undef = v1) (h2 : tmps.getD v undef = v2) (hT : Tb w b x y z) :
    (results fn tmps).run Tryd.prog w = .ok (.tuple #[.agg #[.int .i64 x, .int .i64 y, .string z], v1, v2]) w := by
  rw [results_cell_two hr, hp, h1, h2]
  simp [asAddr, run_loadVar_row w b 31 31 _ (0, 0) _ hT.blk Tryd.underlying31 rfl infoTok]
theorem small_one (s : ByteArray) (i : Nat) (hi : i < s.size) (hp : small s[i] = true) (X : Bs) (hX : (s.data.toList.drop i).takeWhile small = X) :
    one (s.data.toList.drop i) = if rankE X = 0 then .tok (rankK X) X X.length else .bad (rankE X) := by
  subst hX
  rw [← ranked_eq, one_at s i hi, one_cons, if_pos hp, ← drop_at s i hi]
theorem wordsB_in (x : ByteArray) : inL ((List.range 35).map wordB) x = isWord x.data.toList := by
  unfold inL isWord
  rw [Bool.eq_iff_iff, List.any_eq_true]
  constructor
  · rintro ⟨y, hy, he⟩
    obtain ⟨k, hk, rfl⟩ := List.mem_map.1 hy
    have := (eqB_iff _ _).1 he
    subst this
    have hk' : k < 35 := List.mem_range.1 hk
    have h2 : k < words.length := by rw [words_len]; exact hk'
    rw [List.contains_iff_mem]
    show words.getD k [] ∈ words
    rw [show words.getD k [] = words[k] by simp [List.getD, h2]]
    exact List.getElem_mem h2
  · intro h
    rw [List.contains_iff_mem] at h
    obtain ⟨k, hk, e⟩ := List.getElem_of_mem h
    refine ⟨wordB k, List.mem_map.2 ⟨k, List.mem_range.2 (by rw [← words_len]; exact hk), rfl⟩, (eqB_iff _ _).2 ?_⟩
    rw [ba_eq]
    show words.getD k [] = _
    rw [show words.getD k [] = words[k] by simp [List.getD, hk], e]
theorem in_words (x : ByteArray) (g c : Nat) (w : World) (hL : Wl w g) :
    Calls Tryd.prog 41 #[.slice (some ⟨g, 0, none⟩) 35 c, .string x] w fun e w' => e = .returned (.bool (isWord x.data.toList)) ∧ w = w' := by
  have := in_any ((List.range 35).map wordB) x g c w (by simp) (fun k y hy => by
    rw [List.getElem?_map, Option.map_eq_some_iff] at hy
    obtain ⟨k', hk', rfl⟩ := hy
    have hlt : k < 35 := by have := (List.getElem?_eq_some_iff.1 hk').1; simpa using this
    rw [List.getElem?_range hlt] at hk'
    injection hk' with hk'
    subst hk'
    exact hL.at_ k hlt)
  rw [wordsB_in] at this
  have e : ((List.range 35).map wordB).length = 35 := by simp
  rw [e] at this
  exact this

theorem refWords_at (w : World) (n : Nat) (hn : w.heap.size = n) : Calls Tryd.prog 16 #[] w fun e w' => e = .returned (.slice (some ⟨n, 0, none⟩) 35 35) ∧ Wl w' n ∧ Below w.heap.size w w' := by
  subst hn
  exact refWords_any w
theorem rank_zero {X : Bs} (h : allD X = true) (hz : 1 < X.length ∧ X.head? = some 48) : rankE X = 2 := by
  unfold rankE boundE; rw [show X.all digit = true from h, if_pos rfl, if_pos hz]
theorem rank_num {X : Bs} (h : allD X = true) (hz : ¬ (1 < X.length ∧ X.head? = some 48)) : rankE X = (if aboveL X then 3 else 0) ∧ rankK X = 2 := by
  have hd : ∀ c ∈ X, digit c = true := List.all_eq_true.1 h
  unfold rankE rankK boundE
  rw [show X.all digit = true from h, if_pos rfl, if_neg hz, if_pos rfl, above_eq hd hz]
  refine ⟨?_, rfl⟩
  by_cases hn : 1099511627776 < num X
  · rw [if_pos hn, decide_eq_true hn]; rfl
  · rw [if_neg hn, decide_eq_false hn]; rfl
theorem rank_text {X : Bs} (h : allD X = false) : rankE X = (if isWord X then 0 else if 16 < X.length then 2 else 0) ∧ rankK X = (if isWord X then 0 else 1) := by
  unfold rankE rankK
  rw [show X.all digit = false from h]
  exact ⟨rfl, rfl⟩

set_option maxHeartbeats 2000000 in
set_option maxRecDepth 100000 in
theorem refOne_small (s : ByteArray) (i : Nat) (w : World) (hs : s.size ≤ 1000000000) (hi : i < s.size) (hp : small s[i] = true) :
    Calls Tryd.prog 26 #[.string s, .int .i64 (i : Int)] w (RefPost s i w) := by
  have hi0 : (0 : Int) ≤ (i : Int) := by omega
  have hi1 : (i : Int) < (s.size : Int) := by omega
  have Hp := Lib.hid hp
  have HO := Lib.hid (small_one s i hi hp _ (ext_run small s i).symm)
  have Hst := Lib.hid (runTo_step hi hp)
  have Hne := Lib.hid (run_ne small s i hi hp)
  clear hp
  go_enter Tryd.func26, Tryd.ntmps26
  go_wp2_with fail
  refine (refRun_any s[i] _).mono ?_
  rintro e w' ⟨rfl, rfl⟩
  rw [Hp.out]
  go_wp2_with fail
  go_loop [8] (fun e => ∃ k : Nat, i + 1 ≤ k ∧ k ≤ s.size ∧ e = .int .i64 k ∧ Hid (runTo small s k = runTo small s i)) (fun e => s.size - (intOf e).toNat)
  case atStart => exact ⟨i + 1, Nat.le_refl _, by omega, by go_num, Hst⟩
  case round =>
    obtain ⟨k, hk1, hk2, rfl, Hk⟩ := hrel
    have hk0 : (0 : Int) ≤ (k : Int) := by omega
    by_cases hlt : ∃ h : k < s.size, small s[k] = true
    · obtain ⟨hlt, hsk⟩ := hlt
      have Hs1 := Lib.hid hsk
      have Hs2 := Lib.hid ((runTo_step hlt hsk).trans Hk.out)
      clear hsk
      have hk3 : (k : Int) < (s.size : Int) := by omega
      go_wp2_with fail
      refine (refRun_any s[k] _).mono ?_
      rintro e w' ⟨rfl, rfl⟩
      rw [Hs1.out]
      go_wp2_with fail
      go_round
      case rel => exact ⟨k + 1, by omega, by omega, by go_num, Hs2⟩
      case measure => simp [intOf]; omega
    · have HR : Hid (runTo small s i = k) := by
        refine Lib.hid (Hk.out.symm.trans ?_)
        by_cases h : k < s.size
        · refine runTo_stop h ?_
          cases hh : small s[k]
          · rfl
          · exact absurd ⟨h, hh⟩ hlt
        · exact runTo_end (by omega)
      have hO := HO.out
      rw [HR.out] at hO
      have HO := Lib.hid hO
      have Hxs := Lib.hid (ext_size s i k hk2)
      have Hxl := Lib.hid (show (s.extract i k).data.toList.length = (s.extract i k).size from Array.length_toList)
      clear hO Hk Hst Hne
      by_cases hks : k < s.size
      · have Hs1 := Lib.hid (show small s[k] = false by
          cases hh : small s[k]
          · rfl
          · exact absurd ⟨hks, hh⟩ hlt)
        have hk3 : (k : Int) < (s.size : Int) := by omega
        clear hlt
        go_wp2_with fail
        refine (refRun_any s[k] _).mono ?_
        rintro e w' ⟨rfl, rfl⟩
        rw [Hs1.out]
        go_wp2_with fail
        generalize s.extract i k = x at *
        have hz1 : 1 ≤ x.size := by rw [Hxs.out]; omega
        have hz2 : x.size ≤ 1000000000 := by rw [Hxs.out]; omega
        refine (refDigits_any x _ hz2).mono ?_
        rintro e w' ⟨rfl, rfl⟩
        cases hd : allD x.data.toList
        · obtain ⟨re, rk⟩ := rank_text hd
          have HE := Lib.hid re
          have HK := Lib.hid rk
          clear hd re rk
          go_wp2_with fail
          refine (refWords_at _ (w.heap.size + 1) (by simp)).mono ?_
          rintro e w2 ⟨rfl, hL2, hb2⟩
          have hT2 := (Tb.new w 0 0 ⟨#[]⟩).below hb2 (by simp)
          have H2 := Lib.hid (below_trans' (Nat.le_refl _) ((Below.refl w.heap.size w).alloc (Nat.le_refl _) _) hb2)
          clear hb2
          have hbn : w.heap.size < w2.heap.size := hT2.lt
          go_wp2_with fail
          refine (in_words x (w.heap.size + 1) 35 _ hL2).mono ?_
          rintro e w' ⟨rfl, rfl⟩
          have t0 := hT2.c0
          have t1 := hT2.c1
          have t2 := hT2.c2
          have g0 := hT2.f0
          have g1 := hT2.f1
          have g2 := hT2.f2
          cases hw : isWord x.data.toList
          · by_cases h16 : 16 < x.size
            · have HO2 := Lib.hid (show one (s.data.toList.drop i) = .bad 2 by rw [HO.out, HE.out, hw, Hxl.out]; simp [h16])
              have d16 : decide ((16 : Int) < (x.size : Int)) = true := by simp; omega
              clear hw
              go_wp2_with fail
              refine bodyPost_ret (ret_tok3 rfl rfl rfl rfl (hT2.set3 _ _ _)) rfl ?_
              exact ⟨_, _, i, rfl, mkBad HO2.out (by decide) _ _ _ _, H2.out.grown (set3_grown w2 w.heap.size _ _ _) (by omega) (fun q hq => by cases hq; omega)⟩
            · have HO2 := Lib.hid (show one (s.data.toList.drop i) = .tok 1 x.data.toList x.data.toList.length by rw [HO.out, HE.out, HK.out, hw, Hxl.out]; simp [h16])
              have d16 : decide ((16 : Int) < (x.size : Int)) = false := by simp; omega
              clear hw
              go_wp2_with fail
              refine bodyPost_ret (ret_tok3 rfl rfl rfl rfl (hT2.set3 _ _ _)) rfl ?_
              exact ⟨_, _, k, rfl, mkTok HO2.out rfl (by rw [Hxl.out, Hxs.out]; omega), H2.out.grown (set3_grown w2 w.heap.size _ _ _) (by omega) (fun q hq => by cases hq; omega)⟩
          · have HO2 := Lib.hid (show one (s.data.toList.drop i) = .tok 0 x.data.toList x.data.toList.length by rw [HO.out, HE.out, HK.out, hw]; simp)
            clear hw
            go_wp2_with fail
            refine bodyPost_ret (ret_tok3 rfl rfl rfl rfl (hT2.set3 _ _ _)) rfl ?_
            exact ⟨_, _, k, rfl, mkTok HO2.out rfl (by rw [Hxl.out, Hxs.out]; omega), H2.out.grown (set3_grown w2 w.heap.size _ _ _) (by omega) (fun q hq => by cases hq; omega)⟩
        · have hzc : (0 : Int) < (x.size : Int) := by omega
          by_cases hz : 1 < x.data.toList.length ∧ x.data.toList.head? = some 48
          · have HO2 := Lib.hid (show one (s.data.toList.drop i) = .bad 2 by rw [HO.out, rank_zero hd hz]; rfl)
            obtain ⟨z1, z2⟩ := hz
            rw [Hxl.out] at z1
            rw [head_at (by omega), eq48] at z2
            have e1 : decide ((1 : Int) < (x.size : Int)) = true := by simp; omega
            have e48 : ((x[0].toNat : Int) == 48) = true := by simp; omega
            clear z2 hd
            go_wp2_with fail
            refine bodyPost_ret (ret_tok3 rfl rfl rfl rfl (Tb.new w _ _ _)) rfl ?_
            exact ⟨_, _, i, rfl, mkBad HO2.out (by decide) _ _ _ _, (Below.refl w.heap.size w).alloc (Nat.le_refl _) _⟩
          · obtain ⟨re, rk⟩ := rank_num hd hz
            have HE := Lib.hid re
            have HK := Lib.hid rk
            rcases (show (∃ h : 1 < x.size, ((x[0].toNat : Int) == 48) = false ∧ decide ((1 : Int) < (x.size : Int)) = true) ∨ decide ((1 : Int) < (x.size : Int)) = false by
              by_cases h : 1 < x.size
              · refine .inl ⟨h, ?_, by simp; omega⟩
                have : ¬ x[0].toNat = 48 := fun e => hz ⟨by rw [Hxl.out]; exact h, by rw [head_at (by omega), eq48]; exact e⟩
                simp; omega
              · exact .inr (by simp; omega)) with ⟨h1, e48, e1⟩ | e1
            all_goals
              clear hz re rk hd
              go_wp2_with fail
              refine (above_any x _ hz2).mono ?_
              rintro e w' ⟨rfl, rfl⟩
              cases ha : aboveL x.data.toList
              · have HO2 := Lib.hid (show one (s.data.toList.drop i) = .tok 2 x.data.toList x.data.toList.length by rw [HO.out, HE.out, HK.out, ha]; simp)
                clear ha
                go_wp2_with fail
                refine bodyPost_ret (ret_tok3 rfl rfl rfl rfl (Tb.new w _ _ _)) rfl ?_
                exact ⟨_, _, k, rfl, mkTok HO2.out rfl (by rw [Hxl.out, Hxs.out]; omega), (Below.refl w.heap.size w).alloc (Nat.le_refl _) _⟩
              · have HO2 := Lib.hid (show one (s.data.toList.drop i) = .bad 3 by rw [HO.out, HE.out, ha]; simp)
                clear ha
                go_wp2_with fail
                refine bodyPost_ret (ret_tok3 rfl rfl rfl rfl (Tb.new w _ _ _)) rfl ?_
                exact ⟨_, _, i, rfl, mkBad HO2.out (by decide) _ _ _ _, (Below.refl w.heap.size w).alloc (Nat.le_refl _) _⟩
      · have hd : decide ((k : Int) < (s.size : Int)) = false := by simp; omega
        clear hlt
        go_wp2_with fail
        generalize s.extract i k = x at *
        have hz1 : 1 ≤ x.size := by rw [Hxs.out]; omega
        have hz2 : x.size ≤ 1000000000 := by rw [Hxs.out]; omega
        refine (refDigits_any x _ hz2).mono ?_
        rintro e w' ⟨rfl, rfl⟩
        clear hd
        cases hd : allD x.data.toList
        · obtain ⟨re, rk⟩ := rank_text hd
          have HE := Lib.hid re
          have HK := Lib.hid rk
          clear hd re rk
          go_wp2_with fail
          refine (refWords_at _ (w.heap.size + 1) (by simp)).mono ?_
          rintro e w2 ⟨rfl, hL2, hb2⟩
          have hT2 := (Tb.new w 0 0 ⟨#[]⟩).below hb2 (by simp)
          have H2 := Lib.hid (below_trans' (Nat.le_refl _) ((Below.refl w.heap.size w).alloc (Nat.le_refl _) _) hb2)
          clear hb2
          have hbn : w.heap.size < w2.heap.size := hT2.lt
          go_wp2_with fail
          refine (in_words x (w.heap.size + 1) 35 _ hL2).mono ?_
          rintro e w' ⟨rfl, rfl⟩
          have t0 := hT2.c0
          have t1 := hT2.c1
          have t2 := hT2.c2
          have g0 := hT2.f0
          have g1 := hT2.f1
          have g2 := hT2.f2
          cases hw : isWord x.data.toList
          · by_cases h16 : 16 < x.size
            · have HO2 := Lib.hid (show one (s.data.toList.drop i) = .bad 2 by rw [HO.out, HE.out, hw, Hxl.out]; simp [h16])
              have d16 : decide ((16 : Int) < (x.size : Int)) = true := by simp; omega
              clear hw
              go_wp2_with fail
              refine bodyPost_ret (ret_tok3 rfl rfl rfl rfl (hT2.set3 _ _ _)) rfl ?_
              exact ⟨_, _, i, rfl, mkBad HO2.out (by decide) _ _ _ _, H2.out.grown (set3_grown w2 w.heap.size _ _ _) (by omega) (fun q hq => by cases hq; omega)⟩
            · have HO2 := Lib.hid (show one (s.data.toList.drop i) = .tok 1 x.data.toList x.data.toList.length by rw [HO.out, HE.out, HK.out, hw, Hxl.out]; simp [h16])
              have d16 : decide ((16 : Int) < (x.size : Int)) = false := by simp; omega
              clear hw
              go_wp2_with fail
              refine bodyPost_ret (ret_tok3 rfl rfl rfl rfl (hT2.set3 _ _ _)) rfl ?_
              exact ⟨_, _, k, rfl, mkTok HO2.out rfl (by rw [Hxl.out, Hxs.out]; omega), H2.out.grown (set3_grown w2 w.heap.size _ _ _) (by omega) (fun q hq => by cases hq; omega)⟩
          · have HO2 := Lib.hid (show one (s.data.toList.drop i) = .tok 0 x.data.toList x.data.toList.length by rw [HO.out, HE.out, HK.out, hw]; simp)
            clear hw
            go_wp2_with fail
            refine bodyPost_ret (ret_tok3 rfl rfl rfl rfl (hT2.set3 _ _ _)) rfl ?_
            exact ⟨_, _, k, rfl, mkTok HO2.out rfl (by rw [Hxl.out, Hxs.out]; omega), H2.out.grown (set3_grown w2 w.heap.size _ _ _) (by omega) (fun q hq => by cases hq; omega)⟩
        · have hzc : (0 : Int) < (x.size : Int) := by omega
          by_cases hz : 1 < x.data.toList.length ∧ x.data.toList.head? = some 48
          · have HO2 := Lib.hid (show one (s.data.toList.drop i) = .bad 2 by rw [HO.out, rank_zero hd hz]; rfl)
            obtain ⟨z1, z2⟩ := hz
            rw [Hxl.out] at z1
            rw [head_at (by omega), eq48] at z2
            have e1 : decide ((1 : Int) < (x.size : Int)) = true := by simp; omega
            have e48 : ((x[0].toNat : Int) == 48) = true := by simp; omega
            clear z2 hd
            go_wp2_with fail
            refine bodyPost_ret (ret_tok3 rfl rfl rfl rfl (Tb.new w _ _ _)) rfl ?_
            exact ⟨_, _, i, rfl, mkBad HO2.out (by decide) _ _ _ _, (Below.refl w.heap.size w).alloc (Nat.le_refl _) _⟩
          · obtain ⟨re, rk⟩ := rank_num hd hz
            have HE := Lib.hid re
            have HK := Lib.hid rk
            rcases (show (∃ h : 1 < x.size, ((x[0].toNat : Int) == 48) = false ∧ decide ((1 : Int) < (x.size : Int)) = true) ∨ decide ((1 : Int) < (x.size : Int)) = false by
              by_cases h : 1 < x.size
              · refine .inl ⟨h, ?_, by simp; omega⟩
                have : ¬ x[0].toNat = 48 := fun e => hz ⟨by rw [Hxl.out]; exact h, by rw [head_at (by omega), eq48]; exact e⟩
                simp; omega
              · exact .inr (by simp; omega)) with ⟨h1, e48, e1⟩ | e1
            all_goals
              clear hz re rk hd
              go_wp2_with fail
              refine (above_any x _ hz2).mono ?_
              rintro e w' ⟨rfl, rfl⟩
              cases ha : aboveL x.data.toList
              · have HO2 := Lib.hid (show one (s.data.toList.drop i) = .tok 2 x.data.toList x.data.toList.length by rw [HO.out, HE.out, HK.out, ha]; simp)
                clear ha
                go_wp2_with fail
                refine bodyPost_ret (ret_tok3 rfl rfl rfl rfl (Tb.new w _ _ _)) rfl ?_
                exact ⟨_, _, k, rfl, mkTok HO2.out rfl (by rw [Hxl.out, Hxs.out]; omega), (Below.refl w.heap.size w).alloc (Nat.le_refl _) _⟩
              · have HO2 := Lib.hid (show one (s.data.toList.drop i) = .bad 3 by rw [HO.out, HE.out, ha]; simp)
                clear ha
                go_wp2_with fail
                refine bodyPost_ret (ret_tok3 rfl rfl rfl rfl (Tb.new w _ _ _)) rfl ?_
                exact ⟨_, _, i, rfl, mkBad HO2.out (by decide) _ _ _ _, (Below.refl w.heap.size w).alloc (Nat.le_refl _) _⟩
end Go.Proofs.YtadhncdcpdabkaaDoor
