/- TokenQuotes: the walk. -/
import Derived.Test.YtadhncdcpdabkaaDoorTJoin
namespace Go.Proofs.YtadhncdcpdabkaaDoor
open Go.RowKit Go.Lib
set_option linter.unusedVariables false

theorem quo_list (s : ByteArray) : (quo s).data.toList = 34 :: s.data.toList ++ [34] := by
  unfold quo; simp [ByteArray.data_append]
theorem quo_size (s : ByteArray) : (quo s).size = s.size + 2 := by
  unfold quo
  rw [ByteArray.size_append, ByteArray.size_append]
  show 1 + s.size + 1 = _
  omega
theorem mk_toArray (s : ByteArray) : (⟨s.data.toList.toArray⟩ : ByteArray) = s := by rw [ba_eq]
def allq (s : ByteArray) (k : Nat) : Bool := (s.data.toList.take k).all quotd
theorem allq_succ (s : ByteArray) (k : Nat) (h : k < s.size) : allq s (k + 1) = (allq s k && quotd s[k]) := by
  unfold allq; rw [take_snoc s k h]; simp
theorem quo_scan {s : ByteArray} (h : allq s s.size = true) : scan 0 0 (quo s).data.toList = .ok [⟨3, 0, s.data.toList⟩] := by
  rw [quo_list]
  refine quotes_yes fun c hc => ?_
  unfold allq at h
  rw [List.take_of_length_le (by simp)] at h
  exact List.all_eq_true.1 h c hc
theorem quo_not {s : ByteArray} (h : allq s s.size = false) {l : Bs} {t : Tok} (ht : scan 0 0 l = .ok [t]) : ¬ ((t.kind : Int) = 3 ∧ (t.place : Int) = 0 ∧ (⟨t.text.toArray⟩ : ByteArray) = s) := by
  rintro ⟨h1, h2, h3⟩
  obtain ⟨k, p, x⟩ := t
  obtain rfl : k = 3 := by simp at h1; omega
  have hx : x = s.data.toList := by rw [← h3]
  subst hx
  have := quotes_no ht
  unfold allq at h
  rw [List.take_of_length_le (by simp), List.all_eq_false] at h
  obtain ⟨c, hc, hn⟩ := h
  exact hn (this c hc)
theorem quo_join {s : ByteArray} (h : allq s s.size = true) : joinG [gOf ⟨3, 0, s.data.toList⟩] = quo s := by
  have hg : gOf ⟨3, 0, s.data.toList⟩ = ⟨3, 0, s⟩ := by unfold gOf; rw [mk_toArray]; rfl
  rw [hg]
  have hs : showG ⟨3, 0, s⟩ = quo s := by unfold showG; rw [if_pos rfl]
  have hr : rightG ⟨3, 0, s⟩ = true := by
    rw [rightG_one (t := ⟨3, 0, s.data.toList⟩) (by rw [hs]; exact quo_scan h), mk_toArray]
    simp
  unfold joinG
  rw [if_pos (by simp [hr])]
  unfold joinT
  simp only [List.map_cons, List.map_nil, hs, join_one]

set_option maxHeartbeats 4000000 in
set_option maxRecDepth 100000 in
theorem quotes_main (s : ByteArray) (w : World) (hW : Wd w) (hs : s.size ≤ 1000) :
    Calls Tryd.prog 8 #[.string s] w fun e w' => e = .returned (.bool true) ∧ Below w.heap.size w w' := by
  go_enter Tryd.func8, Tryd.ntmps8
  go_wp2_with fail
  refine (awake_any _ hW).mono ?_
  rintro e w1 ⟨rfl, hb1⟩
  have H1 := Lib.hid hb1
  have hW1 := hW.all hb1
  clear hb1
  go_wp2_with fail
  go_loop [3, 4] (fun p i => ∃ k : Nat, k ≤ s.size ∧ i = .int .i64 k ∧ p = .bool (allq s k)) (fun _ i => s.size - (intOf i).toNat)
  case atStart => exact ⟨0, Nat.zero_le _, rfl, rfl⟩
  case round =>
    obtain ⟨k, hk, rfl, rfl⟩ := hrel
    by_cases hlt : k < s.size
    · have HS := Lib.hid (allq_succ s k hlt)
      have HQ := Lib.hid (quotd_nat s[k])
      generalize allq s k = q at *
      cases q
      · go_wp2_with fail
        go_round
        case rel => exact ⟨k + 1, by omega, by go_num, by rw [HS.out]; rfl⟩
        case measure => simp [intOf]; omega
      · rcases (show s[k].toNat < 32 ∨ (32 ≤ s[k].toNat ∧ s[k].toNat ≤ 126 ∧ s[k].toNat ≠ 34) ∨ s[k].toNat = 34 ∨ 126 < s[k].toNat by omega) with h | h | h | h
        all_goals
          first | have a1 : decide (32 ≤ (s[k].toNat : Int)) = true := by simp; omega
                | have a1 : decide (32 ≤ (s[k].toNat : Int)) = false := by simp; omega
          first | have a2 : decide ((s[k].toNat : Int) ≤ 126) = true := by simp; omega
                | have a2 : decide ((s[k].toNat : Int) ≤ 126) = false := by simp; omega
          first | have a3 : ((s[k].toNat : Int) != 34) = true := by simp; omega
                | have a3 : ((s[k].toNat : Int) != 34) = false := by simp; omega
          first | have Hq := Lib.hid (show quotd s[k] = true by rw [HQ.out]; simp; omega)
                | have Hq := Lib.hid (show quotd s[k] = false by rw [HQ.out]; simp; omega)
          clear h HQ
          go_wp2_with fail
          go_round
          case rel => exact ⟨k + 1, by omega, by go_num, by rw [HS.out, Hq.out]; rfl⟩
          case measure => simp [intOf]; omega
    · obtain rfl : k = s.size := by omega
      have hqs := quo_size s
      go_wp2_with fail
      cases hq : allq s s.size
      · have HQ := Lib.hid hq
        clear hq
        refine (scan_any (quo s) _ hW1 (by omega)).mono ?_
        rintro e w2 ⟨hb2, hp⟩
        have H2 := Lib.hid (below_trans' (Nat.le_refl _) H1.out hb2)
        clear hb2 hqs
        rcases hp with ⟨T, A, c, hT, rfl, hR⟩ | ⟨a, er, hE, rfl⟩
        · by_cases h1 : T.length = 1
          · obtain ⟨t, rfl⟩ : ∃ t, T = [t] := List.length_eq_one_iff.1 h1
            obtain ⟨g, off, rfl, hg, hc⟩ := hR (by simp)
            obtain ⟨b0, b1, b2⟩ := hc 0 _ rfl
            simp only [Nat.zero_mul, Nat.add_zero] at b0 b1 b2
            have hq := eq_tok t.kind t.place 3 0 ⟨t.text.toArray⟩ s
            rw [decide_eq_false (quo_not HQ.out hT)] at hq
            have hG := hGTok
            clear hT hR hc h1
            generalize (⟨t.text.toArray⟩ : ByteArray) = tx at *
            go_wp2_with fail
            go_ret
            exact ⟨rfl, H2.out⟩
          · have n1 : ((T.length : Int) == 1) = false := by simp; omega
            clear hT h1
            go_wp2_with fail
            go_ret
            exact ⟨rfl, H2.out⟩
        · have hn := scan_error hE
          have n1 : ((er : Int) == 0) = false := by simp; omega
          clear hE
          go_wp2_with fail
          go_ret
          exact ⟨rfl, H2.out⟩
      · have HQ := Lib.hid hq
        have HJ := Lib.hid (show joinG [gOf ⟨3, 0, s.data.toList⟩] = ⟨#[34]⟩ ++ s ++ ⟨#[34]⟩ from quo_join hq)
        have Hsz := Lib.hid (show ∀ t ∈ [gOf ⟨3, 0, s.data.toList⟩], t.x.size ≤ 1000000 from fun t ht => by
          rw [List.mem_singleton.1 ht]
          show (⟨s.data.toList.toArray⟩ : ByteArray).size ≤ _
          rw [mk_toArray]
          omega)
        clear hq
        refine (scan_ok (quo s) _ _ hW1 (by omega) (quo_scan HQ.out) _ hqs).mono ?_
        rintro e w2 ⟨A, c, rfl, hR, hb2⟩
        have hW2 := hW1.all hb2
        have H2 := Lib.hid (below_trans' (Nat.le_refl _) H1.out hb2)
        obtain ⟨g, off, rfl, hg, hc⟩ := hR (by simp)
        obtain ⟨b0, b1, b2⟩ := hc 0 _ rfl
        simp only [Nat.zero_mul, Nat.add_zero, mk_toArray] at b0 b1 b2
        have hq := eq_tok 3 0 3 0 s s
        simp only [and_self, decide_true] at hq
        have hG := hGTok
        clear hc hb2
        have hGt := hR.g
        clear hR
        go_wp2_with fail
        refine (join_any [gOf ⟨3, 0, s.data.toList⟩] _ _ _ hW2 hGt (by simp) Hsz.out).mono ?_
        rintro e w3 ⟨rfl, hb3⟩
        rw [HJ.out]
        go_wp2_with fail
        go_ret
        exact ⟨rfl, below_trans' (Nat.le_refl _) H2.out hb3⟩

set_option maxHeartbeats 400000 in
theorem quotes_any (s : ByteArray) (w : World) (hW : Wd w) (hl : s.size ≤ maxLen) :
    Calls Tryd.prog 8 #[.string s] w fun e w' => e = .returned (.bool true) ∧ Below w.heap.size w w' := by
  by_cases hs : s.size ≤ 1000
  · exact quotes_main s w hW hs
  · simp only [maxLen] at hl
    have h3 : (1000 : Int) < (s.size : Int) := by omega
    go_enter Tryd.func8, Tryd.ntmps8
    go_wp2_with fail
    refine (awake_any _ hW).mono ?_
    rintro e w1 ⟨rfl, hb1⟩
    go_wp2_with fail
    go_ret
    exact ⟨rfl, hb1⟩
end Go.Proofs.YtadhncdcpdabkaaDoor
