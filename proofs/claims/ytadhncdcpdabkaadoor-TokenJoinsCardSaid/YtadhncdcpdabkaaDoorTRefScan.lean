/- The document's Scan. -/
import Derived.Test.YtadhncdcpdabkaaDoorTRefOne2
namespace Go.Proofs.YtadhncdcpdabkaaDoor
open Go.RowKit Go.Lib
set_option linter.unusedVariables false

set_option maxHeartbeats 4000000 in
set_option maxRecDepth 100000 in
theorem refScan_any (s : ByteArray) (w : World) (hs : s.size ≤ 1000000000) : Calls Tryd.prog 12 #[.string s] w (ScanPost s w) := by
  obtain ⟨i0, hi0, hz0, hz1, hz2⟩ := info_parts tok_info
  go_enter Tryd.func12, Tryd.ntmps12
  go_wp2_with fail
  go_loopg [5, 6] (s.size + 1) (fun n v x wr => ∃ T i A c, n = s.size + 1 - i ∧ i ≤ s.size ∧ x = .int .i64 (i : Int) ∧ v = .slice A T.length c ∧ wr.ownsRow w.heap.size 31 3 (.slice A T.length c) T.length (cellsT T) ∧ Hid (Sofar s T i) ∧ T.length ≤ 4096 ∧ Hid (Below w.heap.size w wr))
  case atStart => exact ⟨[], 0, some ⟨w.heap.size, 0, none⟩, 0, by omega, Nat.zero_le _, rfl, rfl, World.ownsRow_made w #[] 0 (Nat.le_refl _) (by decide) rfl, Lib.hid (sofar_start s), by simp, Lib.hid ((Below.refl _ _).alloc (Nat.le_refl _) _)⟩
  case round =>
    obtain ⟨T, i, A, c, rfl, hi, rfl, rfl, hown, HF, hT, Hb⟩ := hrel
    have hzr : w.heap.size ≤ wr.heap.size := Hb.out.size
    go_wp2_with fail
    go_loop [6] (fun x => ∃ k : Nat, i ≤ k ∧ k ≤ s.size ∧ x = .int .i64 k ∧ Hid (runTo blank s k = runTo blank s i)) (fun x => s.size - (intOf x).toNat)
    case atStart => exact ⟨i, Nat.le_refl _, hi, rfl, Lib.hid rfl⟩
    case round =>
      obtain ⟨j, hj1, hj2, rfl, Hj⟩ := hrel
      have hj0 : (0 : Int) ≤ (j : Int) := by omega
      by_cases hlt : j < s.size
      · have hj3 : (j : Int) < (s.size : Int) := by omega
        cases hbl : blank s[j]
        · have HR := Lib.hid (Hj.out.symm.trans (runTo_stop hlt hbl))
          rw [blank_nat] at hbl
          simp at hbl
          have e32 : ((s[j].toNat : Int) == 32) = false := by simp; omega
          have e10 : ((s[j].toNat : Int) == 10) = false := by simp; omega
          have nl : ((j : Int) == (s.size : Int)) = false := beq_eq_false_iff_ne.2 (by omega)
          clear hbl
          by_cases hfull : 4096 ≤ T.length
          · have HD := Lib.hid (show scan 0 0 s.data.toList = .error (j, 7) by have := sofar_err HF.out (step_full (by rw [HR.out]; omega) hfull); rwa [HR.out] at this)
            go_wp2_with fail
            go_ret3
            exact ⟨Hb.out, .inr ⟨_, _, HD.out, rfl⟩⟩
          · have HB := Lib.hid (show ∀ e, one (s.data.toList.drop j) = .bad e → scan 0 0 s.data.toList = .error (j, e) from fun e ho => by have := sofar_err HF.out (step_bad (e := e) (by rw [HR.out]; omega) (by omega) (by rw [HR.out]; exact ho)); rwa [HR.out] at this)
            have HT := Lib.hid (show ∀ k m t, one (s.data.toList.drop j) = .tok k t m → Sofar s (T ++ [⟨k, j, t⟩]) (j + m) from fun k m t ho => by have := sofar_tok (k := k) (m := m) (t := t) HF.out (by omega) (by rw [HR.out]; exact ho); rwa [HR.out] at this)
            clear HF HR Hj
            go_wp2_with fail
            refine (refOne_any s j _ hs hlt).mono ?_
            rintro e w2 ⟨tv, code, j', rfl, hN, hb2⟩
            have hown2 := hown.kept (grown_of_below hb2 none) (by cases hv : (Value.slice A T.length c).ownBlock <;> simp)
            have hz2' : wr.heap.size ≤ w2.heap.size := hb2.size
            have Hb2 := Lib.hid (below_trans' (Nat.le_refl _) Hb.out hb2)
            clear hown hb2 Hb
            rcases hN with ⟨k, t, m, ho, rfl, rfl, rfl⟩ | ⟨er, ho, rfl, hne0, x, y, z, rfl⟩
            · have HD := Lib.hid (HT.out k m t ho)
              have hm := one_len ho
              have hlen : (s.data.toList.drop j).length = s.size - j := by simp
              rw [hlen] at hm
              clear HB HT ho hlen
              have hnew : ((w2.alloc (.cells #[.int .i64 (k : Int), .int .i64 (j : Int), .string ⟨t.toArray⟩] 31)).alloc (.cells #[.int .i64 (k : Int), .int .i64 (j : Int), .string ⟨t.toArray⟩] 31)).heap[w2.heap.size + 1]? = some (.cells #[.int .i64 (k : Int), .int .i64 (j : Int), .string ⟨t.toArray⟩] 31 (0, 0)) := heap_alloc2_new w2 _ _
              have Hnew := Lib.hid hnew
              clear hnew
              go_wp2_with (first
                | (at_builtin; refine wpList_append_own _ rfl _ _ 23 rfl w.heap.size 31 i0 _ 3 32 Tryd.underlying23 hi0 hz0 hz1 hz2 rfl (by decide) _ _ _ rfl ((hown2.alloc _).alloc _) ⟨w2.heap.size + 1, 0, none⟩ 1 1 [.int .i64 (k : Int), .int .i64 (j : Int), .string ⟨t.toArray⟩] rfl rfl (World.news_of_block (cs := #[.int .i64 (k : Int), .int .i64 (j : Int), .string ⟨t.toArray⟩]) (t := 31) (fr := (0, 0)) Hnew.out) (by simp [Value.oneCell']) (by unfold maxLen; omega) (by omega) (by simp; omega) ?_; intro v3 w3 hown3 hg3 hnil3))
              obtain ⟨A3, c3, rfl⟩ : ∃ A3 c3, v3 = .slice A3 (T.length + 1) c3 := by
                rcases hown3.2 with ⟨h0, hn⟩ | ⟨g, cap, cur, he, _⟩
                · omega
                · exact ⟨_, _, he⟩
              go_roundg (s.size + 1 - (j + m))
              case measure => omega
              case rel =>
                have hb3 : Below w.heap.size w ((w2.alloc (.cells #[.int .i64 (k : Int), .int .i64 (j : Int), .string ⟨t.toArray⟩] 31)).alloc (.cells #[.int .i64 (k : Int), .int .i64 (j : Int), .string ⟨t.toArray⟩] 31)) := (Hb2.out.alloc (by omega) _).alloc (by simp; omega) _
                refine ⟨T ++ [⟨k, j, t⟩], j + m, A3, c3, rfl, by omega, by go_num, by simp, ?_, HD, by simp; omega, Lib.hid (hb3.grown hg3 (by simp; omega) (fun q hq => by have := (hown2.lt q hq).1; omega))⟩
                rw [cellsT_snoc, List.length_append]; exact hown3
            · have HD := Lib.hid (HB.out er ho)
              have hc : ((er : Int) != 0) = true := by simp; omega
              clear HB HT ho
              go_wp2_with fail
              go_ret3
              exact ⟨Hb2.out.alloc (by omega) _, .inr ⟨_, _, HD.out, rfl⟩⟩
        · have Hs2 := Lib.hid ((runTo_step hlt hbl).trans Hj.out)
          rw [blank_nat] at hbl
          simp at hbl
          rcases (show s[j].toNat = 32 ∨ (s[j].toNat ≠ 32 ∧ s[j].toNat = 10) by omega) with h | ⟨h, h'⟩
          · have e32 : ((s[j].toNat : Int) == 32) = true := by simp; omega
            clear hbl h
            go_wp2_with fail
            go_round
            case rel => exact ⟨j + 1, by omega, by omega, by go_num, Hs2⟩
            case measure => simp [intOf]; omega
          · have e32 : ((s[j].toNat : Int) == 32) = false := by simp; omega
            have e10 : ((s[j].toNat : Int) == 10) = true := by simp; omega
            clear hbl h h'
            go_wp2_with fail
            go_round
            case rel => exact ⟨j + 1, by omega, by omega, by go_num, Hs2⟩
            case measure => simp [intOf]; omega
      · obtain rfl : j = s.size := by omega
        have HR := Lib.hid (Hj.out.symm.trans (runTo_end (p := blank) (s := s) (k := s.size) (by omega)))
        have HD := Lib.hid (sofar_end HF.out (by rw [HR.out]; exact Nat.le_refl _))
        go_wp2_with fail
        go_ret3
        exact ⟨Hb.out, .inl ⟨T, A, c, HD.out, rfl, Rt.of_row hown⟩⟩
end Go.Proofs.YtadhncdcpdabkaaDoor
