/- TokenScans: the walk. -/
import Derived.Test.YtadhncdcpdabkaaDoorTRefScan
import Derived.Test.YtadhncdcpdabkaaDoorTSame
namespace Go.Proofs.YtadhncdcpdabkaaDoor
open Go.RowKit Go.Lib
set_option linter.unusedVariables false

set_option maxHeartbeats 2000000 in
set_option maxRecDepth 100000 in
theorem scans_main (s : ByteArray) (w : World) (hW : Wd w) (hs : s.size ≤ 3000) :
    Calls Tryd.prog 3 #[.string s] w fun e w' => e = .returned (.bool true) ∧ Below w.heap.size w w' := by
  go_enter Tryd.func3, Tryd.ntmps3
  go_wp2_with fail
  refine (awake_any _ hW).mono ?_
  rintro e w1 ⟨rfl, hb1⟩
  have hW1 := hW.all hb1
  have H1 := Lib.hid hb1
  clear hb1
  go_wp2_with fail
  refine (scan_any s _ hW1 (by omega)).mono ?_
  rintro e w2 ⟨hb2, hp⟩
  have H2 := Lib.hid (below_trans' (Nat.le_refl _) H1.out hb2)
  clear hb2 H1 hW1
  rcases hp with ⟨T, A, c, hT, rfl, hR⟩ | ⟨a, er, hE, rfl⟩
  · have HT := Lib.hid hT
    have hTl := (scan_scanned hT).count.1
    have hlen : s.data.toList.length = s.size := by simp
    rw [hlen] at hTl
    clear hT hlen
    go_wp2_with fail
    refine (refScan_any s _ (by omega)).mono ?_
    rintro e w3 ⟨hb3, hp3⟩
    have H3 := Lib.hid (below_trans' (Nat.le_refl _) H2.out hb3)
    have hR3 := hR.all hb3
    clear hb3 H2 hR
    rcases hp3 with ⟨T', A', c', hT', rfl, hR'⟩ | ⟨a', er', hE', rfl⟩
    · obtain rfl : T' = T := by
        have := HT.out
        rw [hT'] at this
        injection this
      clear hT' HT
      go_wp2_with fail
      refine (same_any T' A A' c c' _ _ _ hR3 hR' (by omega)).mono ?_
      rintro e w4 ⟨rfl, hb4⟩
      go_wp2_with fail
      go_ret
      exact ⟨rfl, below_trans' (Nat.le_refl _) H3.out hb4⟩
    · have := HT.out
      rw [hE'] at this
      cases this
  · have HE := Lib.hid hE
    have hn := scan_error hE
    have hlen : s.data.toList.length = s.size := by simp
    rw [hlen] at hn
    clear hE hlen
    go_wp2_with fail
    refine (refScan_any s _ (by omega)).mono ?_
    rintro e w3 ⟨hb3, hp3⟩
    have H3 := Lib.hid (below_trans' (Nat.le_refl _) H2.out hb3)
    clear hb3 H2
    rcases hp3 with ⟨T', A', c', hT', rfl, hR'⟩ | ⟨a', er', hE', rfl⟩
    · have := HE.out
      rw [hT'] at this
      cases this
    · obtain ⟨rfl, rfl⟩ : a' = a ∧ er' = er := by
        have := HE.out
        rw [hE'] at this
        injection this with this
        injection this with h1 h2
        exact ⟨h1, h2⟩
      clear hE' HE
      go_wp2_with fail
      refine (same_any [] none none 0 0 0 0 _ (fun h => absurd h (by simp)) (fun h => absurd h (by simp)) (by simp)).mono ?_
      rintro e w4 ⟨rfl, hb4⟩
      go_wp2_with fail
      go_ret
      exact ⟨rfl, below_trans' (Nat.le_refl _) H3.out hb4⟩

set_option maxHeartbeats 400000 in
theorem scans_any (s : ByteArray) (w : World) (hW : Wd w) (hl : s.size ≤ maxLen) :
    Calls Tryd.prog 3 #[.string s] w fun e w' => e = .returned (.bool true) ∧ Below w.heap.size w w' := by
  by_cases hs : s.size ≤ 3000
  · exact scans_main s w hW hs
  · simp only [maxLen] at hl
    have h3 : (3000 : Int) < (s.size : Int) := by omega
    go_enter Tryd.func3, Tryd.ntmps3
    go_wp2_with fail
    refine (awake_any _ hW).mono ?_
    rintro e w1 ⟨rfl, hb1⟩
    go_wp2_with fail
    go_ret
    exact ⟨rfl, hb1⟩
end Go.Proofs.YtadhncdcpdabkaaDoor
