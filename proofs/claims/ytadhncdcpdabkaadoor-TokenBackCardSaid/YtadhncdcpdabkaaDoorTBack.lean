/- TokenBack: the walk. -/
import Derived.Test.YtadhncdcpdabkaaDoorTSame
namespace Go.Proofs.YtadhncdcpdabkaaDoor
open Go.RowKit Go.Lib
set_option linter.unusedVariables false

theorem showG_gOf (t : Tok) : (showG (gOf t)).data.toList = shown t := by
  obtain ⟨k, p, x⟩ := t
  unfold showG gOf shown quo
  by_cases h : k = 3
  · rw [if_pos (by simp [h]), if_pos h]; simp [ByteArray.data_append]
  · rw [if_neg (by simp; omega), if_neg h]
theorem right_gOf {t : Tok} (h : Right t) : rightG (gOf t) = true := by
  have hs := scanned_scan (h.alone 0 0 (by decide))
  rw [← showG_gOf] at hs
  rw [rightG_one hs]
  simp [gOf]
theorem join_joinL : ∀ l : List Bs, Lib.join l sp = joinL l
  | [] => rfl
  | [x] => by rw [join_one]; rfl
  | x :: y :: r => by
    have ih := join_joinL (y :: r)
    rw [join_cons] at ih ⊢
    simp only [joinTail, List.map_cons, List.flatten_cons] at ih ⊢
    show x ++ ([32] ++ y ++ _) = x ++ 32 :: joinL (y :: r)
    rw [← ih]
    simp [sp]
theorem joinG_toks {T : List Tok} (h : ∀ t ∈ T, Right t) : joinG (T.map gOf) = ⟨(joined T).toArray⟩ := by
  unfold joinG
  rw [if_pos (List.all_eq_true.2 fun g hg => by obtain ⟨t, ht, rfl⟩ := List.mem_map.1 hg; exact right_gOf (h t ht))]
  unfold joinT
  rw [join_joinL, joined_joinL, List.map_map, List.map_map]
  have : (T.map ((((fun x => x.data.toList) : ByteArray → List UInt8) ∘ showG) ∘ gOf)) = T.map shown := List.map_congr_left fun t _ => showG_gOf t
  rw [this]
theorem join_toks (T : List Tok) (A : Option Addr) (c : Nat) (w : World) (hW : Wd w) (hR : Rt w w.heap.size A T) (hl : T.length ≤ 4096) (hx : ∀ t ∈ T, t.text.length ≤ 1000000) (h : ∀ t ∈ T, Right t) :
    Calls Tryd.prog 18 #[.slice A T.length c] w fun e w' => e = .returned (.string ⟨(joined T).toArray⟩) ∧ Below w.heap.size w w' := by
  have := join_any (T.map gOf) A c w hW hR.g (by simpa using hl) (fun g hg => by obtain ⟨t, ht, rfl⟩ := List.mem_map.1 hg; exact hx t ht)
  rw [List.length_map, joinG_toks h] at this
  exact this
theorem Scanned.texts {n at_ : Nat} {l : Bs} {T : List Tok} (h : Scanned n at_ l T) : ∀ t ∈ T, t.text.length ≤ l.length := by
  induction h with
  | done => intro t ht; simp at ht
  | tok n at_ k b x r t p T hb hn hp hs _ ih =>
    intro u hu
    rcases List.mem_cons.1 hu with rfl | hu
    · have := piece_shown hp 0
      have hl : t.length ≤ x.length := by rw [this]; unfold shown; split <;> simp; omega
      simp
      omega
    · have := ih u hu
      simp
      omega
/-- what the second scanning finds -/
theorem back_plain {s : Bs} {T : List Tok} (hs : s.length ≤ 3000) (h : scan 0 0 s = .ok T) :
    (∀ t ∈ T, Right t) ∧ (∀ t ∈ T, t.text.length ≤ 1000000) ∧ T.length ≤ 3000 ∧ (joined T).length ≤ 6000 ∧
    ∃ U, scan 0 0 (joined T) = .ok U ∧ alike T U ∧ (∀ t ∈ U, Right t) ∧ (∀ t ∈ U, t.text.length ≤ 1000000) ∧ joined U = joined T := by
  have hS := scan_scanned h
  have hr := hS.right
  have hc := hS.count
  have hsz := hS.size
  have hj := joined_size T
  obtain ⟨U, hU, ha⟩ := joined_scan T 0 0 hr (by omega)
  refine ⟨hr, fun t ht => by have := hS.texts t ht; omega, by omega, by omega, U, scanned_scan hU, ha, alike_right ha hr, fun t ht => by have := hU.texts t ht; omega, (alike_joined ha).symm⟩

set_option maxHeartbeats 4000000 in
set_option maxRecDepth 100000 in
theorem back_main (s : ByteArray) (w : World) (hW : Wd w) (hs : s.size ≤ 3000) :
    Calls Tryd.prog 7 #[.string s] w fun e w' => e = .returned (.bool true) ∧ Below w.heap.size w w' := by
  go_enter Tryd.func7, Tryd.ntmps7
  go_wp2_with fail
  refine (awake_any _ hW).mono ?_
  rintro e w1 ⟨rfl, hb1⟩
  have H1 := Lib.hid hb1
  have hW1 := hW.all hb1
  clear hb1
  go_wp2_with fail
  refine (scan_any s _ hW1 (by omega)).mono ?_
  rintro e w2 ⟨hb2, hp⟩
  have H2 := Lib.hid (below_trans' (Nat.le_refl _) H1.out hb2)
  have hW2 := hW1.all hb2
  clear hb2 hW1 H1
  rcases hp with ⟨T, A, c, hT, rfl, hR⟩ | ⟨a, er, hE, rfl⟩
  · obtain ⟨r1, r2, r3, r4, U, u1, u2, u3, u4, u5⟩ := back_plain (by simpa using hs) hT
    have R1 := Lib.hid r1
    have R2 := Lib.hid r2
    have U1 := Lib.hid u1
    have U2 := Lib.hid u2
    have U3 := Lib.hid u3
    have U4 := Lib.hid u4
    have U5 := Lib.hid u5
    have UL := Lib.hid (alike_len u2)
    have RN := Lib.hid (joined_nil r1)
    clear r1 r2 u1 u2 u3 u4 u5 hT
    go_wp2_with fail
    refine (join_toks T A c _ hW2 hR (by omega) R2.out R1.out).mono ?_
    rintro e w3 ⟨rfl, hb3⟩
    have hW3 := hW2.all hb3
    have hR3 := hR.all hb3
    have H3 := Lib.hid (below_trans' (Nat.le_refl _) H2.out hb3)
    clear hb3 hR hW2 H2
    have hjz : (⟨(joined T).toArray⟩ : ByteArray).size = (joined T).length := by simp [ByteArray.size]
    have HX := Lib.hid (show (⟨(joined T).toArray⟩ : ByteArray).data.toList = joined T from rfl)
    have Hjz := Lib.hid hjz
    clear hjz
    generalize (⟨(joined T).toArray⟩ : ByteArray) = J at *
    have hJ : J.size ≤ 6000 := by rw [Hjz.out]; exact r4
    go_wp2_with fail
    refine (scan_ok J U _ hW3 (by omega) (by rw [HX.out]; exact U1.out) _ rfl).mono ?_
    rintro e w4 ⟨A', c', rfl, hR4, hb4⟩
    have hW4 := hW3.all hb4
    have hR5 := hR3.all hb4
    have H4 := Lib.hid (below_trans' (Nat.le_refl _) H3.out hb4)
    clear hb4 hR3 hW3 H3
    go_wp2_with fail
    refine (alike_any T U A A' c c' _ _ _ hR5 hR4 (by omega) U2.out).mono ?_
    rintro e w5 ⟨rfl, hb5⟩
    have hW5 := hW4.all hb5
    have hR6 := hR4.all hb5
    have H5 := Lib.hid (below_trans' (Nat.le_refl _) H4.out hb5)
    clear hb5 hR5 hR4 hW4 H4
    have hUl : U.length ≤ 3000 := by have := UL.out; omega
    have hJ2 := join_toks U A' c' w5 hW5 hR6 (by omega) U4.out U3.out
    have hJe : (⟨(joined U).toArray⟩ : ByteArray) = J := by rw [U5.out, ba_eq, HX.out]
    rw [hJe] at hJ2
    have HJ2 := Lib.hid hJ2
    clear hJ2 hJe
    by_cases h0 : T.length = 0
    · obtain rfl : T = [] := List.length_eq_zero_iff.1 h0
      have hJ0 : J = ⟨#[]⟩ := by rw [ba_eq, HX.out]; rfl
      subst hJ0
      clear h0
      go_wp2_with fail
      refine HJ2.out.mono ?_
      rintro e w6 ⟨rfl, hb6⟩
      go_wp2_with fail
      go_ret
      exact ⟨rfl, below_trans' (Nat.le_refl _) H5.out hb6⟩
    · have z0 : ((T.length : Int) == 0) = false := beq_eq_false_iff_ne.2 (by omega)
      have hne : J.toList ≠ [] := by
        rw [ByteArray.toList_eq, HX.out]
        intro h
        have := RN.out.1 h
        rw [this] at h0
        exact h0 rfl
      have z1 : J.toList.isEmpty = false := by simpa using hne
      have z2 : (J.toList == []) = false := by simpa using hne
      clear h0 hne
      go_wp2_with fail
      refine HJ2.out.mono ?_
      rintro e w6 ⟨rfl, hb6⟩
      go_wp2_with fail
      go_ret
      exact ⟨rfl, below_trans' (Nat.le_refl _) H5.out hb6⟩
  · have hn := scan_error hE
    have hc : ((er : Int) != 0) = true := by simp; omega
    have hlen : s.data.toList.length = s.size := by simp
    rw [hlen] at hn
    have a1 : (0 : Int) ≤ (a : Int) := by omega
    have a2 : (a : Int) < (s.size : Int) := by omega
    clear hE hlen
    go_wp2_with fail
    go_ret
    exact ⟨rfl, H2.out⟩

set_option maxHeartbeats 400000 in
theorem back_any (s : ByteArray) (w : World) (hW : Wd w) (hl : s.size ≤ maxLen) :
    Calls Tryd.prog 7 #[.string s] w fun e w' => e = .returned (.bool true) ∧ Below w.heap.size w w' := by
  by_cases hs : s.size ≤ 3000
  · exact back_main s w hW hs
  · simp only [maxLen] at hl
    have h3 : (3000 : Int) < (s.size : Int) := by omega
    go_enter Tryd.func7, Tryd.ntmps7
    go_wp2_with fail
    refine (awake_any _ hW).mono ?_
    rintro e w1 ⟨rfl, hb1⟩
    go_wp2_with fail
    go_ret
    exact ⟨rfl, hb1⟩
end Go.Proofs.YtadhncdcpdabkaaDoor
