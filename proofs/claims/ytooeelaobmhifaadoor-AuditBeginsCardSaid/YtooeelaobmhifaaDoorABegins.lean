/- law56.AuditBegins answers true: of some sums. -/
import Derived.Test.YtooeelaobmhifaaDoorABeginsO
import Derived.Deep.Cut
namespace Go.Proofs.YtooeelaobmhifaaDoor
open Go.RowKit Go.Maps Go.Lib
set_option linter.unusedVariables false
set_option maxRecDepth 100000

set_option maxHeartbeats 8000000 in
theorem begins_on (xs : List Nat) (A : Option Addr) (c : Nat) (n more : Nat) (w : World) (hx : ∀ x ∈ xs, x < 65536) (hn : n < 256) (hmo : more < 256) (hR : Ru w w.heap.size A xs) (h0 : 0 < xs.length) (h30 : xs.length ≤ 30) :
    Calls Tryd.prog 4 #[.slice A xs.length c, .int .u8 n, .int .u8 more] w fun e w' => e = .returned (.bool true) ∧ Below w.heap.size w w' := by
  obtain ⟨i0, hi0, hy0, hy1, hy2⟩ := info_parts move_info
  have HRu := Lib.hid hR
  have Hx := Lib.hid hx
  clear hR hx
  have q1 : decide ((30 : Int) < (xs.length : Int)) = false := by simp; omega
  have q2 : ((xs.length : Int) == 0) = false := by rw [beq_eq_false_iff_ne]; omega
  have q3 : ¬ ((xs.length : Int) = 0) := by omega
  have q4 : ¬ (xs.length = 0) := by omega
  have q5 : ¬ (xs = []) := by rintro rfl; exact absurd h0 (by decide)
  obtain ⟨m, hm⟩ : ∃ m, n % (xs.length + 1) = m := ⟨_, rfl⟩
  have hml : m ≤ xs.length := by have := Nat.mod_lt n (show 0 < xs.length + 1 by omega); omega
  have q6 : Int.tmod (n : Int) ((xs.length : Int) + 1) = (m : Int) := by rw [← hm]; rfl
  have q7 : ¬ ((xs.length : Int) + 1 = 0) := by omega
  have q8 : IntKind.i64.wrap ((xs.length : Int) + 1) = (xs.length : Int) + 1 := IntWalk.i64_in _ (by omega)
  have q9 : IntKind.i64.wrap (n : Int) = (n : Int) := IntWalk.i64_in _ (by omega)
  have q10 : IntKind.i64.wrap (more : Int) = (more : Int) := IntWalk.i64_in _ (by omega)
  clear hm
  go_enter Tryd.func4, Tryd.ntmps4
  go_wp2_with fail
  refine (awake_any w).mono ?_
  rintro e w1 ⟨rfl, hb1⟩
  have HB1 := Lib.hid hb1
  clear hb1
  go_wp2_with fail
  have HT0 := Lib.hid (show Tw w1 ((w1.alloc (.cells #[] 37)).alloc (.cells #[] 37)) w1.heap.size 0 (w1.heap.size + 1) 0 [] [] from by
    refine ⟨(World.ownsRow_made w1 #[] 0 (Nat.le_refl _) (Nat.zero_le _) rfl).alloc _, ?_, by omega, ((Below.refl _ _).alloc (Nat.le_refl _) _).alloc (by simp) _⟩
    have := World.ownsRow_made (w1.alloc (.cells #[] 37)) (base := w1.heap.size) (e := 37) (size := 3) #[] 0 (by simp) (Nat.zero_le _) rfl
    simpa [cellsV] using this)
  generalize (w1.alloc (.cells #[] 37)).alloc (.cells #[] 37) = w2 at *
  go_loopw [7, 8, 30] (fun a b i wr => ∃ (k ga ca gb cb : Nat) (al bs : List Mv), k ≤ xs.length ∧ i = .int .i64 k ∧ a = .slice (some ⟨ga, 0, none⟩) al.length ca ∧ b = .slice (some ⟨gb, 0, none⟩) bs.length cb ∧ Hid (Tw w1 wr ga ca gb cb al bs) ∧ Hid (al = ((redu xs).take k).map upM) ∧ Hid (bs = downs (redu xs) (min k m))) (fun _ _ i _ => xs.length - (RowKit.intOf i).toNat)
  case atStart => exact ⟨0, _, 0, _, 0, [], [], Nat.zero_le _, rfl, rfl, rfl, HT0, Lib.hid rfl, Lib.hid (by simp [downs])⟩
  case round =>
    clear HT0
    obtain ⟨k, ga, ca, gb, cb, al, bs, hk, rfl, rfl, rfl, HT, Has, Hbs⟩ := hrel
    have hal : al.length = k := by rw [Has.out]; simp [redu_len]; omega
    have hbl : bs.length = min k m := by rw [Hbs.out]; simp [downs, redu_len]; omega
    have Hal := Lib.hid hal
    have Hbl := Lib.hid hbl
    have ha30 : al.length ≤ 30 := by omega
    have hb30 : bs.length ≤ 30 := by omega
    clear hal hbl
    by_cases hlt : k < xs.length
    · obtain ⟨gx, ox, rfl, hgx, hcx⟩ := (HRu.out.below (HB1.out.trans (HT.out.bel.mono HB1.out.size))).at_ hlt
      have hx1 := Hx.out xs[k] (List.getElem_mem hlt)
      obtain ⟨x, hxe⟩ : ∃ x, xs[k] = x := ⟨_, rfl⟩
      rw [hxe] at hcx hx1
      obtain ⟨r, hr⟩ : ∃ r, x % 30000 = r := ⟨_, rfl⟩
      have hr1 : r < 30000 := by have := Nat.mod_lt x (show 0 < 30000 by omega); omega
      have q11 : Int.tmod (x : Int) 30000 = (r : Int) := by rw [← hr]; rfl
      have hrk : (redu xs)[k]'(by rw [redu_len]; exact hlt) = r := by simp [redu, hxe, hr]
      have Has2 : Hid (al ++ [upM r] = ((redu xs).take (k + 1)).map upM) := Lib.hid (by rw [List.take_succ_eq_append_getElem (by rw [redu_len]; exact hlt), List.map_append, ← Has.out, hrk]; rfl)
      have q12 : IntKind.i16.wrap (r : Int) = (r : Int) := IntWalk.i16_in _ (by omega)
      have q13 : IntKind.i16.wrap ((r : Int) + 1) = (r : Int) + 1 := IntWalk.i16_in _ (by omega)
      have q14 : IntKind.i16.wrap (-(r : Int)) = -(r : Int) := IntWalk.i16_in _ (by omega)
      have q15 : IntKind.i16.wrap (-(r : Int) - 1) = -(r : Int) - 1 := IntWalk.i16_in _ (by omega)
      have HTa := Lib.hid (HT.out.alloc (.cells #[.int .i16 ((r : Int) + 1), .bool false, .int .u8 0] 37))
      have hra := HTa.out.ra
      have hbs := HTa.out.bel.size
      clear HT hr hxe
      have tokA : True := trivial
      by_cases hkm : k < m
      · have q16 : decide ((k : Int) < (m : Int)) = true := by simp; omega
        have Hbs2 : Hid (bs ++ [downM r] = downs (redu xs) (min (k + 1) m)) := Lib.hid (by
          rw [show min (k + 1) m = k + 1 by omega]
          have e : bs = downs (redu xs) k := by rw [Hbs.out, show min k m = k by omega]
          unfold downs at e ⊢
          rw [List.take_succ_eq_append_getElem (by rw [redu_len]; exact hlt), List.map_append, ← e, hrk]
          rfl)
        clear hrk
        go_upto_region 9 with (first
          | (have _t := tokA; at_builtin; refine wpList_append_lies _ rfl (.tmp 35) (.tmp 41) 22 rfl w1.heap.size 37 i0 _ 3 4 Tryd.underlying22 hi0 hy0 hy1 hy2 rfl (by decide) (.slice (some ⟨ga, 0, none⟩) al.length ca) al.length (cellsV al) rfl hra ⟨wr.heap.size, 0, none⟩ 1 1 [.int .i16 ((r : Int) + 1), .bool false, .int .u8 0] rfl rfl (World.news_of_block (cs := #[.int .i16 ((r : Int) + 1), .bool false, .int .u8 0]) (t := 37) (fr := (0, 0)) (heap_alloc_new wr _)) (by simp [Value.oneCell']) (by decide) (by unfold maxLen; omega) (by omega) hbs (wr.heap.size + 1) (by simp) ?_; intro g2 cap2 w3 hown3 hg3 hloc3 hlt3; clear tokA _t)
          | go_in)
        have HT3 := Lib.hid (HTa.out.appA (m := upM r) hown3 hg3 (by simpa [Value.ownBlock] using hloc3))
        have HTb := Lib.hid (HT3.out.alloc (.cells #[.int .i16 (-(r : Int) - 1), .bool false, .int .u8 0] 37))
        have hrb := HTb.out.rb
        have hbs3 := HTb.out.bel.size
        clear hown3 hg3 hloc3
        go_wp2_with (first
          | (at_builtin; refine wpList_append_lies _ rfl (.tmp 51) (.tmp 58) 22 rfl w1.heap.size 37 i0 _ 3 4 Tryd.underlying22 hi0 hy0 hy1 hy2 rfl (by decide) (.slice (some ⟨gb, 0, none⟩) bs.length cb) bs.length (cellsV bs) rfl hrb ⟨w3.heap.size, 0, none⟩ 1 1 [.int .i16 (-(r : Int) - 1), .bool false, .int .u8 0] rfl rfl (World.news_of_block (cs := #[.int .i16 (-(r : Int) - 1), .bool false, .int .u8 0]) (t := 37) (fr := (0, 0)) (heap_alloc_new w3 _)) (by simp [Value.oneCell']) (by decide) (by unfold maxLen; omega) (by omega) hbs3 (w3.heap.size + 1) (by simp) ?_; intro g4 cap4 w5 hown5 hg5 hloc5 hlt5)
          | go_in)
        have HT5 := Lib.hid (HTb.out.appB (m := downM r) hown5 hg5 (by simpa [Value.ownBlock] using hloc5))
        clear hown5 hg5 hloc5
        go_roundw
        case rel => exact ⟨k + 1, g2, cap2, g4, cap4, _, _, by omega, by go_num, by simp, by simp, HT5, Has2, Hbs2⟩
        case measure => simp [RowKit.intOf]; omega
      · have q16 : decide ((k : Int) < (m : Int)) = false := by simp; omega
        have Hbs2 : Hid (bs = downs (redu xs) (min (k + 1) m)) := Lib.hid (by rw [Hbs.out, show min k m = min (k + 1) m by omega])
        clear hrk
        go_wp2_with (first
          | (have _t := tokA; at_builtin; refine wpList_append_lies _ rfl (.tmp 35) (.tmp 41) 22 rfl w1.heap.size 37 i0 _ 3 4 Tryd.underlying22 hi0 hy0 hy1 hy2 rfl (by decide) (.slice (some ⟨ga, 0, none⟩) al.length ca) al.length (cellsV al) rfl hra ⟨wr.heap.size, 0, none⟩ 1 1 [.int .i16 ((r : Int) + 1), .bool false, .int .u8 0] rfl rfl (World.news_of_block (cs := #[.int .i16 ((r : Int) + 1), .bool false, .int .u8 0]) (t := 37) (fr := (0, 0)) (heap_alloc_new wr _)) (by simp [Value.oneCell']) (by decide) (by unfold maxLen; omega) (by omega) hbs (wr.heap.size + 1) (by simp) ?_; intro g2 cap2 w3 hown3 hg3 hloc3 hlt3; clear tokA _t)
          | go_in)
        have HT3 := Lib.hid (HTa.out.appA (m := upM r) hown3 hg3 (by simpa [Value.ownBlock] using hloc3))
        clear hown3 hg3 hloc3
        go_roundw
        case rel => exact ⟨k + 1, g2, cap2, gb, cb, _, _, by omega, by go_num, by simp, rfl, HT3, Has2, Hbs2⟩
        case measure => simp [RowKit.intOf]; omega
    · have hke : k = xs.length := by omega
      have HasF : Hid (al = (redu xs).map upM) := Lib.hid (by rw [Has.out, hke, List.take_of_length_le (by rw [redu_len]; exact Nat.le_refl _)])
      have HbsF : Hid (bs = downs (redu xs) m) := Lib.hid (by rw [Hbs.out, show min k m = m by omega])
      have HfA : Hid (∀ y ∈ al, y.Fine) := Lib.hid (by rw [Has.out]; exact up_fine xs k)
      have HfB : Hid (∀ y ∈ bs, y.Fine) := Lib.hid (by rw [Hbs.out]; exact down_fine xs _)
      have hbm : bs.length = m := by have := Hbl.out; omega
      have hl0 : (linesB namesV namesF al bs).length = 0 := by rw [HasF.out, HbsF.out, lines_none]; rfl
      have HTV := Lib.hid (HT.out.alloc (.cells #[.string ⟨#[118, 111, 115, 116, 114, 111, 58, 116, 111]⟩] 9))
      have HgB := Lib.hid (HTV.out.rb.lt gb rfl).2
      have Hbm := Lib.hid hbm
      clear HT Has Hbs Hal Hbl hbm q6 q7 q8 q9 HRu Hx
      go_wp2_with fail
      refine (booked_be namesV al (some ⟨ga, 0, none⟩) _ ca 1 _ nmV HfA.out ha30 (Rm.of_row HTV.out.ra) (rs_one (V := wr) (a := vtT))).mono ?_
      rintro e w3 ⟨p1, rfl, hBe, hb3⟩
      have HBe3 := Lib.hid hBe
      have HT3 := Lib.hid (HTV.out.below hb3)
      have HTV3 := Lib.hid (HT3.out.alloc (.cells #[.string ⟨#[110, 111, 115, 116, 114, 111, 58, 102, 114, 111, 109]⟩] 9))
      have HBeV3 := Lib.hid (HBe3.out.below ((Below.refl w3.heap.size w3).alloc (Nat.le_refl _) (.cells #[.string ⟨#[110, 111, 115, 116, 114, 111, 58, 102, 114, 111, 109]⟩] 9)))
      clear hBe hb3 HBe3 HT3 HTV
      generalize (wr.alloc (.cells #[.string ⟨#[118, 111, 115, 116, 114, 111, 58, 116, 111]⟩] 9)).heap.size = B at *
      go_wp2_with fail
      refine (booked_be namesF bs (some ⟨gb, 0, none⟩) _ cb 1 _ nmF HfB.out hb30 (Rm.of_row HTV3.out.rb) (rs_one (V := w3) (a := nfT))).mono ?_
      rintro e w4 ⟨p2, rfl, hBe, hb4⟩
      have HBe4 := Lib.hid (HBeV3.out.below hb4)
      have HBf4 := Lib.hid hBe
      have HT4 := Lib.hid (HTV3.out.below hb4)
      clear hBe hb4 HBeV3 HTV3
      go_wp2_with fail
      refine (bd_remits HBe4.out.bd HBf4.out.bd ha30 hb30).mono ?_
      rintro e w5 ⟨A5, c5, rfl, hR5, hb5⟩
      have HBe5 := Lib.hid (HBe4.out.below hb5)
      have HT5 := Lib.hid (HT4.out.below hb5)
      rw [hl0]
      clear hR5 hb5 HBe4 HBf4 HT4
      have hbm := Hbm.out
      by_cases hm0 : m = 0
      · have q17 : ((bs.length : Int) == 0) = true := by rw [hbm, hm0]; rfl
        have q18 : bs.length = 0 := by omega
        rw [q18] at *
        go_wp2
        go_ret
        exact ⟨rfl, HB1.out.trans (HT5.out.bel.mono HB1.out.size)⟩
      · have q17 : ((bs.length : Int) == 0) = false := by rw [beq_eq_false_iff_ne]; omega
        have q18 : ¬ ((bs.length : Int) = 0) := by omega
        have q19 : ¬ (bs.length = 0) := by omega
        have q20 : ¬ (bs = []) := by intro e; rw [e] at q19; exact q19 rfl
        obtain ⟨kk, hkk⟩ : ∃ kk, more % bs.length = kk := ⟨_, rfl⟩
        have hkl : kk < bs.length := by rw [← hkk]; exact Nat.mod_lt _ (by omega)
        have q21 : Int.tmod (more : Int) (bs.length : Int) = (kk : Int) := by rw [← hkk]; rfl
        have hkr : kk < (redu xs).length := by rw [redu_len]; omega
        obtain ⟨r, hr⟩ : ∃ r, (redu xs)[kk] = r := ⟨_, rfl⟩
        have hr1 : r < 30000 := by rw [← hr]; simp [redu]; omega
        have hbk : bs[kk] = downM r := by
          have e : bs[kk]? = some (downM r) := by
            rw [HbsF.out]
            unfold downs
            rw [List.getElem?_map, List.getElem?_take_of_lt (by omega), List.getElem?_eq_getElem hkr, hr]
            rfl
          rw [List.getElem?_eq_getElem hkl] at e
          exact Option.some.inj e
        have hbk? : bs[kk]? = some (downM r) := by rw [List.getElem?_eq_getElem hkl, hbk]
        have d0 : w5.cell? ⟨gb, kk * 3, none⟩ = some (.int .i16 (-(r : Int) - 1)) := (HT5.out.rb.cellAt _ (by omega)).trans (cellsV_at bs kk _ hbk?).1
        have d1 : w5.frozen? ⟨gb, kk * 3, none⟩ = false := HT5.out.rb.frozenAt _
        have q22 : IntKind.i16.wrap (-(r : Int) - 1 - 1) = -(r : Int) - 1 - 1 := IntWalk.i16_in _ (by omega)
        have HT6 := Lib.hid (HT5.out.set hbk? (-(r : Int) - 1 - 1))
        have HBe6 := Lib.hid (HBe5.out.set (a := ⟨gb, kk * 3, none⟩) HgB.out (.int .i16 (-(r : Int) - 1 - 1)))
        have hl1 : (linesB namesV namesF al (bs.set kk ⟨-(r : Int) - 1 - 1, false, 0⟩)).length = 1 := by rw [HasF.out, HbsF.out]; exact lines_one (redu xs) m kk (by rw [redu_len]; exact hml) (by omega) _ (by rw [hr])
        have HfC : Hid (∀ y ∈ bs.set kk ⟨-(r : Int) - 1 - 1, false, 0⟩, y.Fine) := Lib.hid (by
          intro y hy
          rcases List.mem_or_eq_of_mem_set hy with hy | rfl
          · exact HfB.out y hy
          · exact ⟨by simp only; omega, by simp only; omega, by simp⟩)
        clear hkk hbk? hbk hr hbm
        go_wp2_with fail
        have hsz : (w5.setCell ⟨gb, kk * 3, none⟩ (.int .i16 (-(r : Int) - 1 - 1))).heap.size = w5.heap.size := by simp
        change Hid (Tw w1 _ ga ca gb cb al (bs.set kk ⟨-(r : Int) - 1 - 1, false, 0⟩)) at HT6
        generalize w5.setCell ⟨gb, kk * 3, none⟩ (.int .i16 (-(r : Int) - 1 - 1)) = w6 at *
        have HTV6 := Lib.hid (HT6.out.alloc (.cells #[.string ⟨#[110, 111, 115, 116, 114, 111, 58, 102, 114, 111, 109]⟩] 9))
        have HBeV6 := Lib.hid (HBe6.out.below ((Below.refl w6.heap.size w6).alloc (Nat.le_refl _) (.cells #[.string ⟨#[110, 111, 115, 116, 114, 111, 58, 102, 114, 111, 109]⟩] 9)))
        have hrs := rs_one (V := w6) (a := nfT)
        rw [hsz] at hrs
        have hP := booked_be namesF (bs.set kk ⟨-(r : Int) - 1 - 1, false, 0⟩) (some ⟨gb, 0, none⟩) _ cb 1 _ nmF HfC.out (by rw [List.length_set]; exact hb30) (Rm.of_row HTV6.out.rb) hrs
        rw [List.length_set] at hP
        refine hP.mono ?_
        rintro e w7 ⟨p7, rfl, hBe, hb7⟩
        have HBe7 := Lib.hid (HBeV6.out.below hb7)
        have HBf7 := Lib.hid hBe
        have HT7 := Lib.hid (HTV6.out.below hb7)
        clear hBe hb7 HBeV6 HTV6 hP hrs hsz HT6 HBe6 d0 d1 HT5 HBe5
        go_wp2_with fail
        refine (bd_remits HBe7.out.bd HBf7.out.bd ha30 (by rw [List.length_set]; exact hb30)).mono ?_
        rintro e w8 ⟨A8, c8, rfl, hR8, hb8⟩
        have HT8 := Lib.hid (HT7.out.below hb8)
        rw [hl1]
        clear hR8 hb8 HBe7 HBf7 HT7
        go_wp2
        go_ret
        exact ⟨rfl, HB1.out.trans (HT8.out.bel.mono HB1.out.size)⟩

theorem auditBegins_any (xs : List Nat) (A : Option Addr) (c : Nat) (n more : Nat) (w : World) (hx : ∀ x ∈ xs, x < 65536) (hn : n < 256) (hmo : more < 256) (hR : Ru w w.heap.size A xs) :
    Calls Tryd.prog 4 #[.slice A xs.length c, .int .u8 n, .int .u8 more] w fun e w' => e = .returned (.bool true) ∧ Below w.heap.size w w' := by
  by_cases h : 30 < xs.length ∨ xs.length = 0
  · exact begins_off xs A c n more w h
  · exact begins_on xs A c n more w hx hn hmo hR (by omega) (by omega)
end Go.Proofs.YtooeelaobmhifaaDoor
