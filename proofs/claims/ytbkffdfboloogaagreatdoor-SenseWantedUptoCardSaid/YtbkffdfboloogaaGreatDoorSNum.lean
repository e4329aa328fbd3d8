/- field.Number: the number whose digits a text is. -/
import Derived.Test.YtbkffdfboloogaaGreatDoorMB
import Derived.Test.YtbkffdfboloogaaGreatDoorFShelf
import Derived.Lib.AppendIntMem
import Derived.Lib.SmallJoins
import Derived.Lib.ParseIntB
import Derived.Lib.ItoaNum
namespace Go.Proofs.YtbkffdfboloogaaGreatDoor
open Go.RowKit Go.Maps Go.Lib
set_option linter.unusedVariables false
set_option maxRecDepth 100000

/-- what is read of the package variables -/
structure Gl (w : World) : Prop where
  e1 : ∃ te pe, w.cell? ⟨1, 0, none⟩ = some (.iface te pe)
  e2 : ∃ te pe, w.cell? ⟨2, 0, none⟩ = some (.iface te pe)
  tab : Lib.TabIs Tryz.prog w "internal/strconv.uint64pow10" .u64 Lib.pow10Tab
  ml : ∃ m, w.cell? ⟨4, 0, none⟩ = some (.int .i64 m)
theorem lt_of_cell' {w : World} {p : Addr} {v : Value} (h : w.cell? p = some v) : p.block < w.heap.size := World.block_lt_of_cell? w _ h
theorem Gl.below {w w' : World} (h : Gl w) (hb : Below w.heap.size w w') : Gl w' := by
  obtain ⟨t1, p1, h1⟩ := h.e1
  obtain ⟨t2, p2, h2⟩ := h.e2
  obtain ⟨m, h4⟩ := h.ml
  exact ⟨⟨t1, p1, (hb.cell (p := ⟨1, 0, none⟩) (lt_of_cell' h1)).trans h1⟩, ⟨t2, p2, (hb.cell (p := ⟨2, 0, none⟩) (lt_of_cell' h2)).trans h2⟩, tabBelow_of_tabIs h.tab w' hb, ⟨m, (hb.cell (p := ⟨4, 0, none⟩) (lt_of_cell' h4)).trans h4⟩⟩

/-- the text of a number -/
def decT (v : Int) : ByteArray := ⟨(Lib.itoa v).toArray⟩
def numB (s : ByteArray) : Int × Bool := match Lib.parseIntB 64 s.data.toList with
  | .ok v => if -4611686018427387904 ≤ v ∧ v ≤ 4611686018427387904 ∧ ((decT v).toList == s.toList) = true then (v, true) else (0, false)
  | _ => (0, false)
theorem parse_ok (s : ByteArray) (v : Int) (w : World) (hs : s.size ≤ 4000000) (h : Lib.parseIntB 64 s.data.toList = .ok v) : Calls Tryz.prog 62 #[.string s, .int .i64 10, .int .i64 64] w fun e w' => e = .returned (.tuple #[.int .i64 v, .nilIface]) ∧ Below w.heap.size w w' := by
  refine (Tryz.strconv_ParseInt_10_at64_ok s (by omega) v h w).mono ?_
  rintro e w' ⟨he, rfl | ⟨t, rfl⟩⟩
  · exact ⟨he, Below.refl _ _⟩
  · exact ⟨he, Go.Joins.below_bytesWorld _ _ _ _ (Nat.le_refl _)⟩
theorem parse_no (s : ByteArray) (w : World) (hG : Gl w) (hs : s.size ≤ 4000000) (h : ∀ v, Lib.parseIntB 64 s.data.toList ≠ .ok v) : Calls Tryz.prog 62 #[.string s, .int .i64 10, .int .i64 64] w fun e w' => (∃ v t N, e = .returned (.tuple #[.int .i64 v, .iface t (.pointer (some ⟨N, 0, none⟩))])) ∧ Below w.heap.size w w' := by
  obtain ⟨t1, p1, h1⟩ := hG.e1
  obtain ⟨t2, p2, h2⟩ := hG.e2
  by_cases hp : Lib.parseIntB 64 s.data.toList = .range
  · refine (Tryz.strconv_ParseInt_10_at64_range s (by omega) hp _ w h2 (.inr ⟨t2, p2, rfl⟩)).mono ?_
    rintro e w' ⟨N, he, _, _, hb⟩
    exact ⟨⟨_, _, N, he⟩, hb⟩
  · refine (Tryz.strconv_ParseInt_10_at64_syn s (by omega) h hp _ w h1 (.inr ⟨t1, p1, rfl⟩)).mono ?_
    rintro e w' ⟨N, he, _, _, hb⟩
    exact ⟨⟨_, _, N, he⟩, hb⟩
theorem parse_bound {l : List UInt8} {v : Int} (h : Lib.parseIntB 64 l = .ok v) : -9223372036854775808 ≤ v ∧ v ≤ 9223372036854775807 := by
  unfold Lib.parseIntB at h
  split at h
  · cases h
  · simp only at h
    split at h
    · cases h
    · cases h
    · split at h
      · cases h
      · split at h
        · cases h
        · rename_i u hu a1 a2
          injection h with h
          split at h
          · rename_i hn
            have : ¬ 2 ^ (64 - 1) < u := fun hlt => a2 ⟨hn, hlt⟩
            simp at this
            omega
          · rename_i hn
            have : ¬ 2 ^ (64 - 1) ≤ u := fun hlt => a1 ⟨hn, hlt⟩
            simp at this
            omega
theorem format_any (n : Int) (w : World) (hG : Gl w) (h0 : -9223372036854775808 ≤ n) (h1 : n ≤ 9223372036854775807) : Calls Tryz.prog 63 #[.int .i64 n, .int .i64 10] w fun e w' => e = .returned (.string (decT n)) ∧ Below w.heap.size w w' := by
  refine (Tryz.strconv_FormatInt_10 n h0 h1 w hG.tab).mono ?_
  rintro e w' ⟨he, k, os, rfl⟩
  exact ⟨he, below_grow _ _ (Nat.le_refl _) _ _⟩

set_option maxHeartbeats 1000000 in
theorem number_any (s : ByteArray) (w : World) (hG : Gl w) (hs : s.size ≤ 4000000) : Calls Tryz.prog 32 #[.string s] w fun e w' => e = .returned (.tuple #[.int .i64 (numB s).1, .bool (numB s).2]) ∧ Below w.heap.size w w' := by
  have HG := Lib.hid hG
  by_cases hok : ∃ v, Lib.parseIntB 64 s.data.toList = .ok v
  · obtain ⟨v, hv⟩ := hok
    have hbd := parse_bound hv
    obtain ⟨hb0, hb1v⟩ := hbd
    have Hn : Hid (numB s = if -4611686018427387904 ≤ v ∧ v ≤ 4611686018427387904 ∧ ((decT v).toList == s.toList) = true then (v, true) else (0, false)) := Lib.hid (by unfold numB; rw [hv])
    have HP := Lib.hid (parse_ok s v w hs hv)
    clear hv hG
    by_cases h1 : v < -4611686018427387904
    · have HE : Hid (numB s = (0, false)) := Lib.hid (by rw [Hn.out, if_neg (by omega)])
      go_enter Tryz.func32, Tryz.ntmps32
      go_wp2_with (first
        | (go_at_call 62; refine HP.out.mono ?_; rintro e w1 ⟨rfl, hb1⟩; have HB1 := Lib.hid hb1; clear hb1)
        | fail)
      go_ret2
      exact ⟨by rw [HE.out]; rfl, HB1.out⟩
    · by_cases h2 : 4611686018427387904 < v
      · have HE : Hid (numB s = (0, false)) := Lib.hid (by rw [Hn.out, if_neg (by omega)])
        go_enter Tryz.func32, Tryz.ntmps32
        go_wp2_with (first
          | (go_at_call 62; refine HP.out.mono ?_; rintro e w1 ⟨rfl, hb1⟩; have HB1 := Lib.hid hb1; clear hb1)
          | fail)
        go_ret2
        exact ⟨by rw [HE.out]; rfl, HB1.out⟩
      · cases hE : ((decT v).toList == s.toList) with
        | true =>
          have HE : Hid (numB s = (v, true)) := Lib.hid (by rw [Hn.out, if_pos ⟨by omega, by omega, hE⟩])
          go_enter Tryz.func32, Tryz.ntmps32
          go_wp2_with (first
            | (go_at_call 62; refine HP.out.mono ?_; rintro e w1 ⟨rfl, hb1⟩; have HB1 := Lib.hid hb1; have HF := Lib.hid (format_any v w1 (HG.out.below HB1.out) hb0 hb1v); clear hb1)
            | (go_at_call 63; refine HF.out.mono ?_; rintro e w2 ⟨rfl, hb2⟩; have HB2 := Lib.hid hb2; clear hb2)
            | fail)
          go_ret2
          exact ⟨by rw [HE.out]; rfl, HB1.out.trans (HB2.out.mono HB1.out.size)⟩
        | false =>
          have HE : Hid (numB s = (0, false)) := Lib.hid (by rw [Hn.out, if_neg (fun h => by rw [hE] at h; exact absurd h.2.2 (by simp))])
          go_enter Tryz.func32, Tryz.ntmps32
          go_wp2_with (first
            | (go_at_call 62; refine HP.out.mono ?_; rintro e w1 ⟨rfl, hb1⟩; have HB1 := Lib.hid hb1; have HF := Lib.hid (format_any v w1 (HG.out.below HB1.out) hb0 hb1v); clear hb1)
            | (go_at_call 63; refine HF.out.mono ?_; rintro e w2 ⟨rfl, hb2⟩; have HB2 := Lib.hid hb2; clear hb2)
            | fail)
          go_ret2
          exact ⟨by rw [HE.out]; rfl, HB1.out.trans (HB2.out.mono HB1.out.size)⟩
  · have HE : Hid (numB s = (0, false)) := Lib.hid (by
      unfold numB
      split
      · rename_i v hv
        exact absurd ⟨v, hv⟩ hok
      · rfl)
    have HP := Lib.hid (parse_no s w hG hs (fun v hv => hok ⟨v, hv⟩))
    clear hG
    go_enter Tryz.func32, Tryz.ntmps32
    go_wp2_with (first
      | (go_at_call 62; refine HP.out.mono ?_; rintro e w1 ⟨⟨v, t, N, rfl⟩, hb1⟩; have HB1 := Lib.hid hb1; clear hb1)
      | fail)
    go_ret2
    exact ⟨by rw [HE.out]; rfl, HB1.out⟩
end Go.Proofs.YtbkffdfboloogaaGreatDoor
