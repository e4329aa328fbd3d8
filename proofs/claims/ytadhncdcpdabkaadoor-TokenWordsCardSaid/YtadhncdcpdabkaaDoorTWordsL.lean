/- TokenWords: the walk. -/
import Derived.Test.YtadhncdcpdabkaaDoorTNameR
import Derived.Test.YtadhncdcpdabkaaDoorTSame
import Derived.IntWalk
namespace Go.Proofs.YtadhncdcpdabkaaDoor
open Go.RowKit Go.Lib
set_option linter.unusedVariables false

/-- is a text one of the first words? -/
def isW (s : ByteArray) (k : Nat) : Bool := (words.take k).contains s.data.toList
theorem isW_yes {s : ByteArray} {k : Nat} (h : isW s k = true) : isW s (k + 1) = true := by
  unfold isW at *
  generalize words = L at *
  simp at h ⊢
  rw [List.take_add_one]
  exact List.mem_append_left _ h
theorem isW_no {s : ByteArray} {k : Nat} (hk : k < 35) (h : isW s k = false) : isW s (k + 1) = eqB (wordB k) s := words_snoc s k hk h
theorem isW_all (s : ByteArray) : isW s 35 = isWord s.data.toList := rfl
theorem nameB_iff {l : Bs} (h : nameB l = true) : l ≠ [] ∧ l.length ≤ 16 ∧ ∀ c ∈ l, small c = true := by
  unfold nameB at h
  simp only [Bool.and_eq_true, decide_eq_true_eq, List.all_eq_true] at h
  exact ⟨fun e => by rw [e] at h; simp at h, h.1.2, h.2⟩

set_option maxHeartbeats 4000000 in
set_option maxRecDepth 100000 in
theorem words_law (s : ByteArray) (w : World) (hW : Wd w) (hl : s.size ≤ maxLen) :
    Calls Tryd.prog 6 #[.string s] w fun e w' => e = .returned (.bool true) ∧ Below w.heap.size w w' := by
  have Hl := Lib.hid hl
  simp only [maxLen] at hl
  go_enter Tryd.func6, Tryd.ntmps6
  go_wp2_with fail
  refine (awake_any _ hW).mono ?_
  rintro e w1 ⟨rfl, hb1⟩
  have hW1 := hW.all hb1
  have H1 := Lib.hid hb1
  clear hb1
  go_wp2_with fail
  refine (tokWords_any _ hW1).mono ?_
  rintro e w2 ⟨g, c, rfl, hL2, hb2⟩
  have hW2 := hW1.all hb2
  have H2 := Lib.hid (below_trans' (Nat.le_refl _) H1.out hb2)
  clear hb2 hW1 H1
  go_wp2_with fail
  go_loopw [4, 5] (fun b i wr => ∃ k : Nat, k ≤ 35 ∧ i = .int .i64 k ∧ b = .bool (isW s k) ∧ Wl wr g ∧ Wd wr ∧ Hid (Below w.heap.size w wr)) (fun _ i _ => 35 - (intOf i).toNat)
  case atStart => exact ⟨0, Nat.zero_le _, rfl, rfl, hL2, hW2, H2⟩
  case round =>
    clear hL2 hW2 H2
    obtain ⟨k, hk, rfl, rfl, hL, hWr, Hb⟩ := hrel
    by_cases hlt : k < 35
    · have hk0 : (0 : Int) ≤ (k : Int) := by omega
      have hk1 : (k : Int) < 35 := by omega
      have c0 := hL.at_ k hlt
      have hsm := word_small k hlt
      have Hsc := Lib.hid (word_scans k hlt)
      have Hy := Lib.hid (fun h => isW_yes (s := s) (k := k) h)
      have Hn := Lib.hid (fun h => isW_no (s := s) hlt h)
      go_wp2_with fail
      refine (scan_ok (wordB k) _ _ hWr (by omega) Hsc.out _ rfl).mono ?_
      rintro e w3 ⟨A, c3, rfl, hR, hb3⟩
      have hL3 := hL.all hb3
      have hW3 := hWr.all hb3
      have H3 := Lib.hid (below_trans' (Nat.le_refl _) Hb.out hb3)
      clear hb3 hL hWr Hb c0
      obtain ⟨g1, o1, rfl, hg1, hc1⟩ := hR (by simp)
      obtain ⟨a0, a1, a2⟩ := hc1 0 _ rfl
      simp only [Nat.zero_mul, Nat.add_zero] at a0 a1 a2
      have e2 : (⟨(wordB k).data.toList.toArray⟩ : ByteArray) = wordB k := by rw [ba_eq]
      rw [e2] at a2
      have c0 := hL3.at_ k hlt
      have hq := neq_tok 0 0 0 0 (wordB k) (wordB k)
      simp only [and_self, decide_true, Bool.not_true] at hq
      have hG := hGTok
      clear hR hc1 e2 Hsc
      have HL3 := Lib.hid hL3
      rcases Nat.eq_zero_or_pos k with h0 | h0
      · have j4 : decide ((0 : Int) < (k : Int)) = false := by simp; omega
        have j5 : decide (0 < k) = false := by simp; omega
        clear hL3 h0
        go_wp2_with fail
        go_quiet (fail)
        have HL4 := Lib.hid (show Wl (w3.drewN nq) g from ⟨HL3.out.lt, HL3.out.at_⟩)
        have hW4 := hW3.drewN nq
        have H4 := Lib.hid (below_drewN H3.out nq)
        clear a0 a1 a2 c0 hq HL3 hW3 H3
        generalize w3.drewN nq = w4 at *
        have c0 := HL4.out.at_ k hlt
        cases hb : isW s k
        · have Hn2 := Lib.hid (Hn.out hb)
          clear hb Hn Hy
          cases he : eqB (wordB k) s
          all_goals
            have HE := Lib.hid he
            unfold eqB at he
            go_wp2_with fail
            go_roundw
            case rel => exact ⟨k + 1, by omega, by go_num, by rw [Hn2.out, HE.out], HL4.out, hW4, H4⟩
            case measure => simp [intOf]; omega
        · have Hy2 := Lib.hid (Hy.out hb)
          clear hb Hn Hy
          go_wp2_with fail
          go_roundw
          case rel => exact ⟨k + 1, by omega, by go_num, by rw [Hy2.out], HL4.out, hW4, H4⟩
          case measure => simp [intOf]; omega
      · have hp : k - 1 < 34 := by omega
        have c1 := hL3.at_ (k - 1) (by omega)
        have hrs := words_rise (k - 1) hp
        rw [show k - 1 + 1 = k by omega] at hrs
        have j0 : (0 : Int) ≤ (k : Int) - 1 := by omega
        have j1 : (k : Int) - 1 < 35 := by omega
        have j2 : ((k : Int) - 1).toNat = k - 1 := by omega
        have j3 : IntKind.i64.wrap ((k : Int) - 1) = (k : Int) - 1 := IntWalk.i64_in _ (by omega)
        have j4 : decide ((0 : Int) < (k : Int)) = true := by simp; omega
        clear hL3
        go_wp2_with fail
        go_quiet (fail)
        clear j2 j3 c1 hrs
        have HL4 := Lib.hid (show Wl (w3.drewN nq) g from ⟨HL3.out.lt, HL3.out.at_⟩)
        have hW4 := hW3.drewN nq
        have H4 := Lib.hid (below_drewN H3.out nq)
        clear a0 a1 a2 c0 hq HL3 hW3 H3
        generalize w3.drewN nq = w4 at *
        have c0 := HL4.out.at_ k hlt
        cases hb : isW s k
        · have Hn2 := Lib.hid (Hn.out hb)
          clear hb Hn Hy
          cases he : eqB (wordB k) s
          all_goals
            have HE := Lib.hid he
            unfold eqB at he
            go_wp2_with fail
            go_roundw
            case rel => exact ⟨k + 1, by omega, by go_num, by rw [Hn2.out, HE.out], HL4.out, hW4, H4⟩
            case measure => simp [intOf]; omega
        · have Hy2 := Lib.hid (Hy.out hb)
          clear hb Hn Hy
          go_wp2_with fail
          go_roundw
          case rel => exact ⟨k + 1, by omega, by go_num, by rw [Hy2.out], HL4.out, hW4, H4⟩
          case measure => simp [intOf]; omega
    · obtain rfl : k = 35 := by omega
      have HW := Lib.hid (isW_all s)
      generalize isW s 35 = is at *
      go_wp2_with fail
      refine (refWords_any _).mono ?_
      rintro e w3 ⟨rfl, _, hb3⟩
      have hW3 := hWr.all hb3
      have H3 := Lib.hid (below_trans' (Nat.le_refl _) Hb.out hb3)
      clear hb3 hWr Hb hL
      go_wp2_with fail
      refine (refName_any s _ Hl.out).mono ?_
      rintro e w' ⟨rfl, rfl⟩
      cases hn : nameB s.data.toList
      · go_wp2_with fail
        refine (refWords_any _).mono ?_
        rintro e w4 ⟨rfl, _, hb4⟩
        go_wp2_with fail
        go_ret
        exact ⟨rfl, below_trans' (Nat.le_refl _) H3.out hb4⟩
      · obtain ⟨m1, m2, m3⟩ := nameB_iff hn
        have hsz : s.size ≤ 16 := by simpa using m2
        have Hr := Lib.hid (run_scan m1 m3)
        have Hk := Lib.hid (word_kinds (S := s.data.toList))
        clear hn m1 m2 m3
        go_wp2_with fail
        cases hr : ranked s.data.toList with
        | bad er =>
          have Hsc := Lib.hid (show scan 0 0 s.data.toList = .error (0, er) by rw [Hr.out, hr])
          have his : is = false := by rw [HW.out]; exact Hk.out.1 er hr
          subst his
          have hne := scan_error Hsc.out
          refine (scan_any s _ hW3 (by omega)).mono ?_
          rintro e w4 ⟨hb4, hp4⟩
          rcases hp4 with ⟨V, A5, c5, hV, rfl, hR5⟩ | ⟨a5, e5, hE5, rfl⟩
          · rw [Hsc.out] at hV; cases hV
          · have hn5 := scan_error hE5
            have n5 : ((e5 : Int) != 0) = true := by simp; omega
            clear hE5 hr
            go_wp2_with fail
            go_ret
            exact ⟨rfl, below_trans' (Nat.le_refl _) H3.out hb4⟩
        | tok kd t m =>
          obtain ⟨rfl, hkd⟩ := Hk.out.2 kd t m hr
          have Hsc := Lib.hid (show scan 0 0 s.data.toList = .ok [⟨kd, 0, s.data.toList⟩] by rw [Hr.out, hr])
          clear hr Hr Hk
          refine (scan_ok s _ _ hW3 (by omega) Hsc.out _ rfl).mono ?_
          rintro e w4 ⟨A, c3, rfl, hR, hb4⟩
          obtain ⟨g1, o1, rfl, hg1, hc1⟩ := hR (by simp)
          obtain ⟨a0, a1, a2⟩ := hc1 0 _ rfl
          simp only [Nat.zero_mul, Nat.add_zero] at a0 a1 a2
          have e2 : (⟨s.data.toList.toArray⟩ : ByteArray) = s := by rw [ba_eq]
          rw [e2] at a2
          have H4 := Lib.hid (below_trans' (Nat.le_refl _) H3.out hb4)
          clear hR hc1 e2 Hsc hb4
          rcases hkd with ⟨rfl, hw⟩ | ⟨h12, hw⟩
          · obtain rfl : is = true := by rw [HW.out]; exact hw
            clear hw HW
            go_wp2_with fail
            go_ret
            exact ⟨rfl, H4.out⟩
          · obtain rfl : is = false := by rw [HW.out]; exact hw
            clear hw HW
            rcases h12 with rfl | rfl
            all_goals
              go_wp2_with fail
              go_ret
              exact ⟨rfl, H4.out⟩
end Go.Proofs.YtadhncdcpdabkaaDoor
