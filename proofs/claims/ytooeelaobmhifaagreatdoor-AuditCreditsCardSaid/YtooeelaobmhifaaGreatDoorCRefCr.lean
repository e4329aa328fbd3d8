/- ref56.Credits. -/
import Derived.Test.YtooeelaobmhifaaGreatDoorCRefP
import Derived.Deep.QuietTactic
import Derived.BigQuiet
import Derived.Deep.Cut
namespace Go.Proofs.YtooeelaobmhifaaGreatDoor
open Go.RowKit Go.Maps Go.Lib
set_option linter.unusedVariables false
set_option maxRecDepth 100000

set_option maxHeartbeats 4000000 in
theorem refCredits_any (name : ByteArray) (pl : Value) (L : List Pl) (Ah : Option Addr) (ch : Nat) (hs : List Hd) (base : Nat) (w : World) (hP : Pw w base w.heap.size pl L) (hH : Rh w w.heap.size Ah hs) (hl : L.length ≤ 100) (hhl : hs.length ≤ 100) (ht : ∀ x ∈ L, x.pt.text.size ≤ 100) (txt : List ByteArray) (htx : L.map (fun x => x.pt.text) = txt) (hn : name.size ≤ 140737488351232) :
    Calls Tryz.prog 12 #[.string name, pl, .slice Ah hs.length ch] w fun e w' => ∃ g' c', e = .returned (.slice (some ⟨g', 0, none⟩) (linesC name txt hs (idsOf txt)).length c') ∧ Rw w' 0 g' c' (linesC name txt hs (idsOf txt)) ∧ Below w.heap.size w w' := by
  obtain ⟨i0, hi0, hy0, hy1, hy2⟩ := info_parts str_info
  have HH := Lib.hid hH
  have hLl : txt.length = L.length := by rw [← htx]; simp
  have Htx : Hid (∀ (j : Nat) (h : j < L.length) (h' : j < txt.length), txt[j] = L[j].pt.text) := Lib.hid (fun j h h' => by subst htx; simp)
  have HLl := Lib.hid hLl
  clear hH htx hLl
  have HP := Lib.hid hP
  have Ht := Lib.hid ht
  obtain ⟨Ap, cp, rfl⟩ := hP.form
  clear hP ht
  go_enter Tryz.func12, Tryz.ntmps12
  go_wp2_with fail
  have HB0 := Lib.hid ((Below.refl w.heap.size w).alloc (Nat.le_refl _) (.cells #[] 9))
  have HR0 := Lib.hid (show Rw (w.alloc (.cells #[] 9)) 0 w.heap.size 0 [] from World.ownsRow_made w #[] 0 (Nat.zero_le _) (Nat.zero_le _) rfl)
  generalize w.alloc (.cells #[] 9) = w1 at *
  go_loopw [7, 8] (fun v i wr => ∃ (k g cap : Nat) (ids : List ByteArray), k ≤ L.length ∧ i = .int .i64 k ∧ v = .slice (some ⟨g, 0, none⟩) ids.length cap ∧ Hid (ids = idsOf (txt.take k)) ∧ Hid (Rw wr 0 g cap ids) ∧ Hid (Below w.heap.size w wr)) (fun _ i _ => L.length - (RowKit.intOf i).toNat)
  case atStart => exact ⟨0, _, 0, [], Nat.zero_le _, rfl, rfl, Lib.hid rfl, HR0, HB0⟩
  case round =>
    clear HR0 HB0
    obtain ⟨k, g, cap, ids, hk, rfl, rfl, Hids, HR, HB⟩ := hrel
    have hidl : ids.length ≤ 100 := by rw [Hids.out]; have := idsOf_len (txt.take k); simp only [List.length_take] at this; have := HLl.out; omega
    by_cases hlt : k < L.length
    · obtain ⟨gp, cpp, he, hgp, c0, c1, c2⟩ := (HP.out.below HB.out).at_ hlt
      injection he with e1 _ e2
      subst e1 e2
      have hts := Ht.out L[k] (List.getElem_mem hlt)
      have Hst := Lib.hid (idsOf_step txt k (by have := HLl.out; omega))
      have htk := Htx.out k hlt (by have := HLl.out; omega)
      rw [htk] at Hst
      generalize L[k].pt.text = t at *
      clear c0 c2 htk
      by_cases h12 : 12 ≤ t.size
      · have q1 : decide ((12 : Int) ≤ (t.size : Int)) = true := by simp; omega
        by_cases hhd : ((t.extract 0 12).toList == [116, 97, 107, 101, 32, 99, 114, 101, 100, 105, 116, 58]) = true
        · have hcr : isCr t = true := by unfold isCr; rw [hhd]; simp [h12]
          have Hst2 := Lib.hid (show putS ids (idOf t) = idsOf (txt.take (k + 1)) from by rw [Hst.out, hcr, if_pos rfl, ← Hids.out])
          go_wp2_with fail
          refine (put_any ids (idOf t) g cap 0 wr HR.out (by omega)).mono ?_
          rintro e w2 ⟨g2, c2, rfl, hr2, hb2⟩
          have HR2 := Lib.hid hr2
          have HB2 := Lib.hid (HB.out.trans (hb2.mono HB.out.size))
          clear hr2 hb2
          go_wp2_with fail
          go_roundw
          case rel => exact ⟨k + 1, g2, c2, _, by omega, by go_num, rfl, Hst2, HR2, HB2⟩
          case measure => simp [RowKit.intOf]; omega
        · have hhd' : ((t.extract 0 12).toList == [116, 97, 107, 101, 32, 99, 114, 101, 100, 105, 116, 58]) = false := by simpa using hhd
          have hcr : isCr t = false := by unfold isCr; rw [hhd']; simp
          have Hst2 := Lib.hid (show ids = idsOf (txt.take (k + 1)) from by rw [Hst.out, hcr]; exact Hids.out)
          go_wp2_with fail
          go_roundw
          case rel => exact ⟨k + 1, g, cap, ids, by omega, by go_num, rfl, Hst2, HR, HB⟩
          case measure => simp [RowKit.intOf]; omega
      · have q1 : decide ((12 : Int) ≤ (t.size : Int)) = false := by simp; omega
        have hcr : isCr t = false := by simp [isCr]; omega
        have Hst2 := Lib.hid (show ids = idsOf (txt.take (k + 1)) from by rw [Hst.out, hcr]; exact Hids.out)
        go_wp2_with fail
        go_roundw
        case rel => exact ⟨k + 1, g, cap, ids, by omega, by go_num, rfl, Hst2, HR, HB⟩
        case measure => simp [RowKit.intOf]; omega
    · obtain ⟨wq, rfl⟩ : ∃ wq : World, wq = wr := ⟨_, rfl⟩
      have hke : k = L.length := by omega
      have Hids2 := Hids
      rw [List.take_of_length_le (by have := HLl.out; omega)] at Hids2
      clear Hids hke
      go_wp2_with fail
      have HB3 := Lib.hid ((Below.refl wq.heap.size wq).alloc (Nat.le_refl _) (.cells #[] 9))
      have HR3 := Lib.hid (show Rw (wq.alloc (.cells #[] 9)) wq.heap.size wq.heap.size 0 [] from World.ownsRow_made wq #[] 0 (Nat.le_refl _) (Nat.zero_le _) rfl)
      generalize wq.alloc (.cells #[] 9) = w3 at *
      go_loopw [9, 10] (fun v i wx => ∃ (k2 g2 cap2 : Nat) (out : List ByteArray), k2 ≤ ids.length ∧ i = .int .i64 k2 ∧ v = .slice (some ⟨g2, 0, none⟩) out.length cap2 ∧ Hid (out = linesC name txt hs (ids.take k2)) ∧ Hid (Rw wx wq.heap.size g2 cap2 out) ∧ Hid (Below wq.heap.size wq wx)) (fun _ i _ => ids.length - (RowKit.intOf i).toNat)
      case atStart => exact ⟨0, _, 0, [], Nat.zero_le _, rfl, rfl, Lib.hid rfl, HR3, HB3⟩
      case round =>
        clear HR3 HB3
        obtain ⟨k2, g2, cap2, out, hk2, rfl, rfl, Hout, HRo, HBo⟩ := hrel
        by_cases h2 : k2 < ids.length
        · have Hcid : Hid (∀ X, Below wq.heap.size wq X → X.cell? ⟨g, k2, none⟩ = some (.string ids[k2])) := Lib.hid (fun X hX => by
            rw [(HR.out.below hX).cellAt k2 (by omega)]
            simp [h2])
          have HPq : Hid (∀ X, Below wq.heap.size wq X → Below w.heap.size w X) := Lib.hid (fun X hX => HB.out.trans (hX.mono HB.out.size))
          have hids : ids[k2].size ≤ 100 := by
            have hm := List.getElem_mem h2
            generalize ids[k2] = z at hm ⊢
            rw [Hids2.out] at hm
            obtain ⟨t, ht, rfl⟩ := idsOf_mem txt z hm
            obtain ⟨j, hj, rfl⟩ := List.getElem_of_mem ht
            refine idOf_size _ ?_
            rw [Htx.out j (by have := HLl.out; omega) (by have := HLl.out; omega)]
            exact Ht.out _ (List.getElem_mem (by have := HLl.out; omega))
          have Hls := Lib.hid (linesC_step name txt hs ids k2 h2)
          generalize ids[k2] = id at *
          have s1 : (⟨#[116, 97, 107, 101, 32]⟩ : ByteArray).size = 5 := rfl
          have s2 : ¬ (9223372036854775807 < (⟨#[116, 97, 107, 101, 32]⟩ : ByteArray).size + id.size) := by omega
          have s3 : ¬ (9223372036854775807 < 5 + id.size) := by omega
          have s4 : (⟨#[32]⟩ : ByteArray).size = 1 := rfl
          have s5 : (⟨#[32, 116, 119, 105, 99, 101]⟩ : ByteArray).size = 6 := rfl
          have s6 : (⟨#[32, 98, 111, 116, 104]⟩ : ByteArray).size = 5 := rfl
          have s7 : (name ++ (⟨#[32]⟩ : ByteArray)).size ≤ 140737488351233 := by rw [ByteArray.size_append]; omega
          have s8 : (name ++ (⟨#[32]⟩ : ByteArray) ++ id).size ≤ 140737488351333 := by rw [ByteArray.size_append]; omega
          go_wp2_with fail
          go_loopw [11, 12] (fun nn i wx => ∃ k3 : Nat, k3 ≤ L.length ∧ i = .int .i64 k3 ∧ nn = .int .i64 ((countT (txt.take k3) id : Nat) : Int) ∧ Hid (Rw wx wq.heap.size g2 cap2 out) ∧ Hid (Below wq.heap.size wq wx)) (fun _ i _ => L.length - (RowKit.intOf i).toNat)
          case atStart => exact ⟨0, Nat.zero_le _, rfl, rfl, HRo, HBo⟩
          case round =>
            obtain ⟨k3, hk3, rfl, rfl, HR3, HB3⟩ := hrel
            by_cases h3 : k3 < L.length
            · obtain ⟨gp, cpp, he, hgp, c0, c1, c2⟩ := (HP.out.below (HPq.out _ HB3.out)).at_ h3
              injection he with e1 _ e2
              subst e1 e2
              have ci := Hcid.out _ HB3.out
              have Hct := Lib.hid (countT_step txt id k3 (by have := HLl.out; omega))
              rw [Htx.out k3 h3 (by have := HLl.out; omega)] at Hct
              generalize L[k3].pt.text = t at *
              have hcl : countT (txt.take k3) id ≤ 100 := Nat.le_trans (List.countP_le_length) (by simp; omega)
              have q3 : IntKind.i64.wrap (((countT (txt.take k3) id : Nat) : Int) + 1) = ((countT (txt.take k3) id : Nat) : Int) + 1 := IntWalk.i64_in _ (by omega)
              clear c0 c2
              cases hit : isTake id t with
              | true =>
                have q1 : (t.toList == ((⟨#[116, 97, 107, 101, 32]⟩ : ByteArray) ++ id).toList) = true := hit
                rw [hit, if_pos rfl] at Hct
                generalize countT (txt.take k3) id = cn at *
                go_wp2_with fail
                go_quiet (fail)
                go_wp2_with fail
                go_roundw
                case rel => exact ⟨k3 + 1, by omega, by go_num, by rw [Hct.out]; go_num, Lib.hid (show Rw (wr.drewN nq) wq.heap.size g2 cap2 out from HR3.out), Lib.hid (below_drewN HB3.out nq)⟩
                case measure => simp [RowKit.intOf]; omega
              | false =>
                have q1 : (t.toList == ((⟨#[116, 97, 107, 101, 32]⟩ : ByteArray) ++ id).toList) = false := hit
                rw [hit] at Hct
                generalize countT (txt.take k3) id = cn at *
                go_wp2_with fail
                go_quiet (fail)
                go_wp2_with fail
                go_roundw
                case rel => exact ⟨k3 + 1, by omega, by go_num, by rw [Hct.out]; rfl, Lib.hid (show Rw (wr.drewN nq) wq.heap.size g2 cap2 out from HR3.out), Lib.hid (below_drewN HB3.out nq)⟩
                case measure => simp [RowKit.intOf]; omega
            · have Hcn := Lib.hid (show countT (txt.take k3) id = countT txt id from by rw [List.take_of_length_le (by have := HLl.out; omega)])
              generalize countT (txt.take k3) id = cn at *
              have hol : out.length ≤ 10100 := by
                have := linesC_len name txt hs hhl (ids.take k2)
                rw [Hout.out]
                simp only [List.length_take] at this
                omega
              by_cases hcn : 1 < cn
              · have q1 : decide ((1 : Int) < (cn : Int)) = true := by simp; omega
                have hRq : Rw wr wq.heap.size g2 cap2 out := HR3.out
                have hrA : (wr.alloc (.cells #[.string (twiceT name id)] 9)).ownsRow wq.heap.size 9 1 (.slice (some ⟨g2, 0, none⟩) out.length cap2) out.length (out.map Value.string) := HR3.out.alloc _
                have hbsA : wq.heap.size ≤ (wr.alloc (.cells #[.string (twiceT name id)] 9)).heap.size := by have := HB3.out.size; simp; omega
                have ci := Hcid.out _ HB3.out
                have Holen : Hid ((out ++ [twiceT name id]).length ≤ 10101) := Lib.hid (by simp; omega)
                go_wp2_with (first
                  | (at_builtin; refine wpList_append_lies _ rfl (.tmp 73) (.tmp 82) 31 rfl wq.heap.size 9 i0 _ 1 16 Tryz.underlying31 hi0 hy0 hy1 hy2 rfl (by decide) (.slice (some ⟨g2, 0, none⟩) out.length cap2) out.length (out.map Value.string) rfl hrA ⟨wr.heap.size, 0, none⟩ 1 1 [.string (twiceT name id)] rfl rfl (World.news_of_block (cs := #[.string (twiceT name id)]) (t := 9) (fr := (0, 0)) (heap_alloc_new wr _)) (by simp [Value.oneCell']) (by decide) (by unfold maxLen; omega) (by omega) hbsA (wr.heap.size + 1) (by simp) ?_; intro yg yc yw yown ygr yloc ylt)
                  | go_in)
                have hro : some g2 = (Value.slice (some ⟨g2, 0, none⟩) out.length cap2).ownBlock := rfl
                have HRs := Lib.hid (show Rw yw wq.heap.size yg yc (out ++ [twiceT name id]) from by unfold Rw; simpa using yown)
                have HBs := Lib.hid ((HB3.out.alloc HB3.out.size (.cells #[.string (twiceT name id)] 9)).grown ygr hbsA (fun j hj => by rw [← hro] at hj; injection hj with hj; rw [← hj]; exact (hRq.lt g2 rfl).1))
                clear yown ygr yloc hrA ci
                go_loopw [9, 13] (fun v i wx => ∃ (k4 g4 cap4 : Nat) (out4 : List ByteArray), k4 ≤ hs.length ∧ i = .int .i64 k4 ∧ v = .slice (some ⟨g4, 0, none⟩) out4.length cap4 ∧ Hid (out4 = (out ++ [twiceT name id]) ++ bothL name id (hs.take k4)) ∧ Hid (Rw wx wq.heap.size g4 cap4 out4) ∧ Hid (Below wq.heap.size wq wx)) (fun _ i _ => hs.length - (RowKit.intOf i).toNat)
                case atStart => exact ⟨0, _, _, (out ++ [twiceT name id]), Nat.zero_le _, rfl, by (try simp), Lib.hid (by simp [bothL]), HRs, HBs⟩
                case round =>
                  clear HRs HBs
                  obtain ⟨k4, g4, cap4, out4, hk4, rfl, rfl, Hout4, HR4, HB4⟩ := hrel
                  have hol4 : out4.length ≤ 20000 := by
                    have h1 := bothL_len name id (hs.take k4)
                    rw [Hout4.out, List.length_append]
                    simp only [List.length_take] at h1
                    have := Holen.out
                    (try simp)
                    omega
                  by_cases h4 : k4 < hs.length
                  · obtain ⟨gh, oh, rfl, hgh, hch⟩ := (HH.out.below (HPq.out _ HB4.out)).at_ h4
                    have ci := Hcid.out _ HB4.out
                    have Hbs4 := Lib.hid (bothL_step name id hs k4 h4)
                    generalize hs[k4].id = hid at *
                    cases hq : (hid.toList == id.toList) with
                    | true =>
                      rw [hq, if_pos rfl] at Hbs4
                      go_wp2_with fail
                      go_quiet (fail)
                      have hRq : Rw (wr.drewN nq) wq.heap.size g4 cap4 out4 := HR4.out
                      have HBq := Lib.hid (below_drewN HB4.out nq)
                      clear hch ci
                      generalize wr.drewN nq = wr at *
                      have ci := Hcid.out _ HBq.out
                      have hrA : (wr.alloc (.cells #[.string (bothT name id)] 9)).ownsRow wq.heap.size 9 1 (.slice (some ⟨g4, 0, none⟩) out4.length cap4) out4.length (out4.map Value.string) := hRq.alloc _
                      have hbsA : wq.heap.size ≤ (wr.alloc (.cells #[.string (bothT name id)] 9)).heap.size := by have := HBq.out.size; simp; omega
                      go_wp2_with (first
                        | (at_builtin; refine wpList_append_lies _ rfl (.tmp 100) (.tmp 109) 31 rfl wq.heap.size 9 i0 _ 1 16 Tryz.underlying31 hi0 hy0 hy1 hy2 rfl (by decide) (.slice (some ⟨g4, 0, none⟩) out4.length cap4) out4.length (out4.map Value.string) rfl hrA ⟨wr.heap.size, 0, none⟩ 1 1 [.string (bothT name id)] rfl rfl (World.news_of_block (cs := #[.string (bothT name id)]) (t := 9) (fr := (0, 0)) (heap_alloc_new wr _)) (by simp [Value.oneCell']) (by decide) (by unfold maxLen; omega) (by omega) hbsA (wr.heap.size + 1) (by simp) ?_; intro zg zc zw zown zgr zloc zlt)
                        | go_in)
                      have hro : some g4 = (Value.slice (some ⟨g4, 0, none⟩) out4.length cap4).ownBlock := rfl
                      have HRn := Lib.hid (show Rw zw wq.heap.size zg zc (out4 ++ [bothT name id]) from by unfold Rw; simpa using zown)
                      have HBn := Lib.hid ((HBq.out.alloc HBq.out.size (.cells #[.string (bothT name id)] 9)).grown zgr hbsA (fun j hj => by rw [← hro] at hj; injection hj with hj; rw [← hj]; exact (hRq.lt g4 rfl).1))
                      clear zown zgr zloc hrA ci
                      go_roundw
                      case rel => exact ⟨k4 + 1, zg, zc, out4 ++ [bothT name id], by omega, by go_num, by simp, Lib.hid (by rw [Hbs4.out, Hout4.out, List.append_assoc]), HRn, HBn⟩
                      case measure => simp [RowKit.intOf]; omega
                    | false =>
                      rw [hq] at Hbs4
                      go_wp2_with fail
                      go_quiet (fail)
                      go_wp2_with fail
                      go_roundw
                      case rel => exact ⟨k4 + 1, g4, cap4, out4, by omega, by go_num, rfl, Lib.hid (by rw [Hbs4.out]; simpa using Hout4.out), Lib.hid (show Rw (wr.drewN nq) wq.heap.size g4 cap4 out4 from HR4.out), Lib.hid (below_drewN HB4.out nq)⟩
                      case measure => simp [RowKit.intOf]; omega
                  · have Hfin := Lib.hid (show out4 = linesC name txt hs (ids.take (k2 + 1)) from by
                      rw [Hls.out, Hout4.out, List.take_of_length_le (by omega)]
                      unfold lineC
                      rw [if_pos (by rw [← Hcn.out]; exact hcn), Hout.out, List.append_assoc])
                    go_wp2_with fail
                    go_roundw
                    case rel => exact ⟨k2 + 1, g4, cap4, out4, by omega, by go_num, rfl, Hfin, HR4, HB4⟩
                    case measure => simp [RowKit.intOf]; omega
              · have q1 : decide ((1 : Int) < (cn : Int)) = false := by simp; omega
                have HRs := HR3
                have HBs := HB3
                have Holen : Hid (out.length ≤ 10101) := Lib.hid (by omega)
                go_wp2_with fail
                go_loopw [9, 13] (fun v i wx => ∃ (k4 g4 cap4 : Nat) (out4 : List ByteArray), k4 ≤ hs.length ∧ i = .int .i64 k4 ∧ v = .slice (some ⟨g4, 0, none⟩) out4.length cap4 ∧ Hid (out4 = out ++ bothL name id (hs.take k4)) ∧ Hid (Rw wx wq.heap.size g4 cap4 out4) ∧ Hid (Below wq.heap.size wq wx)) (fun _ i _ => hs.length - (RowKit.intOf i).toNat)
                case atStart => exact ⟨0, _, _, out, Nat.zero_le _, rfl, by (try simp), Lib.hid (by simp [bothL]), HRs, HBs⟩
                case round =>
                  clear HRs HBs
                  obtain ⟨k4, g4, cap4, out4, hk4, rfl, rfl, Hout4, HR4, HB4⟩ := hrel
                  have hol4 : out4.length ≤ 20000 := by
                    have h1 := bothL_len name id (hs.take k4)
                    rw [Hout4.out, List.length_append]
                    simp only [List.length_take] at h1
                    have := Holen.out
                    (try simp)
                    omega
                  by_cases h4 : k4 < hs.length
                  · obtain ⟨gh, oh, rfl, hgh, hch⟩ := (HH.out.below (HPq.out _ HB4.out)).at_ h4
                    have ci := Hcid.out _ HB4.out
                    have Hbs4 := Lib.hid (bothL_step name id hs k4 h4)
                    generalize hs[k4].id = hid at *
                    cases hq : (hid.toList == id.toList) with
                    | true =>
                      rw [hq, if_pos rfl] at Hbs4
                      go_wp2_with fail
                      go_quiet (fail)
                      have hRq : Rw (wr.drewN nq) wq.heap.size g4 cap4 out4 := HR4.out
                      have HBq := Lib.hid (below_drewN HB4.out nq)
                      clear hch ci
                      generalize wr.drewN nq = wr at *
                      have ci := Hcid.out _ HBq.out
                      have hrA : (wr.alloc (.cells #[.string (bothT name id)] 9)).ownsRow wq.heap.size 9 1 (.slice (some ⟨g4, 0, none⟩) out4.length cap4) out4.length (out4.map Value.string) := hRq.alloc _
                      have hbsA : wq.heap.size ≤ (wr.alloc (.cells #[.string (bothT name id)] 9)).heap.size := by have := HBq.out.size; simp; omega
                      go_wp2_with (first
                        | (at_builtin; refine wpList_append_lies _ rfl (.tmp 100) (.tmp 109) 31 rfl wq.heap.size 9 i0 _ 1 16 Tryz.underlying31 hi0 hy0 hy1 hy2 rfl (by decide) (.slice (some ⟨g4, 0, none⟩) out4.length cap4) out4.length (out4.map Value.string) rfl hrA ⟨wr.heap.size, 0, none⟩ 1 1 [.string (bothT name id)] rfl rfl (World.news_of_block (cs := #[.string (bothT name id)]) (t := 9) (fr := (0, 0)) (heap_alloc_new wr _)) (by simp [Value.oneCell']) (by decide) (by unfold maxLen; omega) (by omega) hbsA (wr.heap.size + 1) (by simp) ?_; intro zg zc zw zown zgr zloc zlt)
                        | go_in)
                      have hro : some g4 = (Value.slice (some ⟨g4, 0, none⟩) out4.length cap4).ownBlock := rfl
                      have HRn := Lib.hid (show Rw zw wq.heap.size zg zc (out4 ++ [bothT name id]) from by unfold Rw; simpa using zown)
                      have HBn := Lib.hid ((HBq.out.alloc HBq.out.size (.cells #[.string (bothT name id)] 9)).grown zgr hbsA (fun j hj => by rw [← hro] at hj; injection hj with hj; rw [← hj]; exact (hRq.lt g4 rfl).1))
                      clear zown zgr zloc hrA ci
                      go_roundw
                      case rel => exact ⟨k4 + 1, zg, zc, out4 ++ [bothT name id], by omega, by go_num, by simp, Lib.hid (by rw [Hbs4.out, Hout4.out, List.append_assoc]), HRn, HBn⟩
                      case measure => simp [RowKit.intOf]; omega
                    | false =>
                      rw [hq] at Hbs4
                      go_wp2_with fail
                      go_quiet (fail)
                      go_wp2_with fail
                      go_roundw
                      case rel => exact ⟨k4 + 1, g4, cap4, out4, by omega, by go_num, rfl, Lib.hid (by rw [Hbs4.out]; simpa using Hout4.out), Lib.hid (show Rw (wr.drewN nq) wq.heap.size g4 cap4 out4 from HR4.out), Lib.hid (below_drewN HB4.out nq)⟩
                      case measure => simp [RowKit.intOf]; omega
                  · have Hfin := Lib.hid (show out4 = linesC name txt hs (ids.take (k2 + 1)) from by
                      rw [Hls.out, Hout4.out, List.take_of_length_le (by omega)]
                      unfold lineC
                      rw [if_neg (by rw [← Hcn.out]; exact hcn), Hout.out, List.nil_append])
                    go_wp2_with fail
                    go_roundw
                    case rel => exact ⟨k2 + 1, g4, cap4, out4, by omega, by go_num, rfl, Hfin, HR4, HB4⟩
                    case measure => simp [RowKit.intOf]; omega
        · have Hend := Lib.hid (show out = linesC name txt hs ids from by rw [Hout.out, List.take_of_length_le (by omega)])
          rw [Hids2.out] at Hend
          go_wp2
          go_ret
          refine ⟨g2, cap2, by rw [← Hend.out]; rfl, ?_, HB.out.trans (HBo.out.mono HB.out.size)⟩
          rw [← Hend.out]
          exact ownsRow_base (Nat.zero_le _) HRo.out
end Go.Proofs.YtooeelaobmhifaaGreatDoor
