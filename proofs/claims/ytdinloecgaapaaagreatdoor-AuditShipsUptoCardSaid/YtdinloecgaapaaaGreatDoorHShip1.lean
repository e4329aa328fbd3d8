/- audit.Ship's closure. -/
import Derived.Test.YtdinloecgaapaaaGreatDoorMHPlain
import Derived.Deep.Cut
import Derived.Deep.CutRange
namespace Go.Proofs.YtdinloecgaapaaaGreatDoor
open Go.RowKit Go.Maps Go.Lib Go.Sort
set_option linter.unusedVariables false
set_option maxRecDepth 100000

set_option maxHeartbeats 4000000 in
theorem ship1_r (w : World) (po p1 p2 p3 p4 p5 p6 p7 base r N b n cb p b2 kc mt nt ml nl ms ns : Nat) (ca : ByteArray) (G : ByteArray → Option (Option Nat)) (S : Nat → Option En) (H : ByteArray → List Hn) (OA : Option Addr) (oc : Nat) (D : Shp) (FT : ByteArray → Option Int) (FL : ByteArray → Option ByteArray) (FS : Nt → Option Bool)
    (hX : Sc w p1 p2 p3 p4 p5 p6 p7 base r N b n cb p b2 kc mt nt ml nl ms ns ca G S H OA oc D FT FL FS) (hD : Sd n kc G S H D FT FL FS) (hO : Rho w w.heap.size OA D.out) (hpo : w.heap[po]? = some (.cells #[.slice none 0 0] 22 (0, 0))) :
    Calls Tryz.prog 39 #[.func (.func 60) #[] #[.pointer (some ⟨po, 0, none⟩)], .pointer (some ⟨p1, 0, none⟩), .pointer (some ⟨p2, 0, none⟩), .pointer (some ⟨p3, 0, none⟩), .pointer (some ⟨p4, 0, none⟩), .pointer (some ⟨p5, 0, none⟩), .pointer (some ⟨p6, 0, none⟩), .pointer (some ⟨p7, 0, none⟩)] w fun e w' =>
      e = .returned (.tuple #[]) ∧ ∃ A c M, Srt M ∧ (∀ s, s ∈ M ↔ allB G S H D.out s) ∧ w'.cell? ⟨po, 0, none⟩ = some (.slice A (docS D M).length c) ∧ Rs w' w'.heap.size A (docS D M) ∧ Kp (fun q => q = po) w w' := by
  have d1 := cell_of hX.c1 0
  have d2 := cell_of hX.c2 0
  have d3 := cell_of hX.c3 0
  simp only [List.getElem?_toArray, List.getElem?_cons_zero] at d1 d2 d3
  have HX := Lib.hid hX
  have HD := Lib.hid hD
  have Hpo := Lib.hid hpo
  have hkc := hD.k
  have hnn := hD.n
  have hol := hD.o
  have HB := Lib.hid (boxesOf_r base r N b n ca G S cb p b2 kc H OA oc D.out w hX.rg (by omega) hX.ch (by omega) hO (by omega) hD.ob)
  have hpl := lt_of_some hpo
  clear hX hpo hO hD
  go_enter Tryz.func39, Tryz.ntmps39
  go_wp2_with fail
  refine HB.out.mono ?_
  rintro e w2 ⟨A9, c9, M, rfl, hS, hmem, hMl, hown, hb2⟩
  have hpo2 := keep_of_below hb2 Hpo.out
  have HL0 : Hid (Ln w2 w2 po []) := Lib.hid ⟨⟨rfl, rfl, rfl, Nat.le_refl _, fun _ _ _ => rfl⟩, ⟨none, 0, hpo2, World.ownsRow_nil _ _ _ _⟩, lt_of_some hpo2⟩
  have HX2 := Lib.hid (HX.out.keepU (KpU.below hb2))
  have Hpo2 := Lib.hid hpo2
  have HB2 := Lib.hid hb2
  have HOw := Lib.hid hown
  have HSr := Lib.hid (And.intro hS hmem)
  have hMl' : (M.length : Int) ≤ 100000 := by omega
  have HMl : Hid (M.length ≤ 20000) := Lib.hid (by omega)
  have HMs : Hid (∀ s ∈ M, s.size ≤ 100000000) := Lib.hid fun s hs => by
    rcases (hmem s).1 hs with h | ⟨h, h1, rfl⟩ | ⟨kk, e, x, h2, h3, h4⟩
    · have := HX.out.ch.key s h; omega
    · exact HD.out.ob h h1
    · have := (HX.out.rg.fit e x h3).b s h4; omega
  clear hb2 hpo2 hown hS hmem HB HX d1 d2 d3 Hpo hMl
  go_wp2_with fail
  go_loopw [21] (fun i wr => ∃ (k : Nat) (out : List ByteArray), i = .int .i64 (k : Int) ∧ k ≤ M.length ∧ out.length ≤ 4 * k ∧ Hid (out = docS D (M.take k)) ∧ Hid (Ln w2 wr po out)) (fun i _ => M.length - (RowKit.intOf i).toNat)
  case atStart => exact ⟨0, [], rfl, Nat.zero_le _, Nat.zero_le _, Lib.hid rfl, HL0⟩
  case round =>
    clear HL0
    obtain ⟨k, out, rfl, hk, hol2, Hout, HL⟩ := hrel
    by_cases hlt : k < M.length
    · have hlt' : (k : Int) < (M.length : Int) := by omega
      have hst := docS_step D M k hlt
      have hsz := HMs.out _ (List.getElem_mem hlt)
      obtain ⟨A', c', he9, hsr9⟩ := sr_of_row rfl HOw.out
      injection he9 with he9 _ he9c
      subst he9 he9c
      obtain ⟨g9, o9, rfl, hg9, hc9⟩ := hsr9.rs.at_ hlt
      have hgp : g9 ≠ po := by
        have := (HOw.out.lt (q := g9) rfl).1
        omega
      have hcr : wr.cell? ⟨g9, o9 + k, none⟩ = some (.string M[k]) := (HL.out.kp.cell (p := ⟨g9, o9 + k, none⟩) hg9 hgp).trans hc9
      generalize M[k] = box at *
      have HXr := Lib.hid (HX2.out.keepU (KpU.kp HL.out.kp Hpo2.out))
      have d2 := cell_of HXr.out.c2 0
      simp only [List.getElem?_toArray, List.getElem?_cons_zero] at d2
      have hbm : box.size ≤ maxLen := by unfold maxLen; omega
      have HNw := Lib.hid (now_c cb p b2 kc H box wr HXr.out.ch hbm (by omega))
      have Hst := Lib.hid (show docS D (M.take (k + 1)) = out ++ shipL D box from by rw [hst, ← Hout.out])
      have HMl2 := HMl.out
      clear hst hc9 hsr9 Hout
      go_wp2_with fail
      refine HNw.out.mono ?_
      rintro e w3 ⟨pl, rfl, hb3⟩
      have HL3 := Lib.hid (HL.out.below hb3)
      clear hb3 HNw HXr d2 hcr HL
      have HFx : Hid (∀ W outx, Ln w2 W po outx → Sc W p1 p2 p3 p4 p5 p6 p7 base r N b n cb p b2 kc mt nt ml nl ms ns ca G S H OA oc D FT FL FS) := Lib.hid fun W outx hW => HX2.out.keepU (KpU.kp hW.kp Hpo2.out)
      have hla : (lastO D.out box).size ≤ 100000000 := lastO_size HD.out.ot box
      have hcn : cntO D.out box ≤ 1000 := Nat.le_trans (cntO_le _ _) hol
      have HFt : Hid (∀ W outx, Ln w2 W po outx → W.cell? ⟨p4, 0, none⟩ = some (.map (some mt)) ∧ W.cell? ⟨p5, 0, none⟩ = some (.string D.name) ∧ W.cell? ⟨p6, 0, none⟩ = some (.map (some ml)) ∧ W.cell? ⟨p7, 0, none⟩ = some (.map (some ms)) ∧ W.cell? ⟨p1, 0, none⟩ = some (.pointer (some ⟨r, 0, none⟩)) ∧
          (Instr.lookup 90 (.map (some mt)) (.string box) false).run Tryz.prog W = .ok (.int .i64 (cntO D.out box : Nat)) W ∧ (Instr.lookup 91 (.map (some ml)) (.string box) false).run Tryz.prog W = .ok (.string (lastO D.out box)) W ∧ (Instr.lookup 92 (.map (some ms)) (.agg #[.string (lastO D.out box), .string box]) false).run Tryz.prog W = .ok (.bool (D.su (lastO D.out box, box))) W) := Lib.hid fun W outx hW => by
        have h := HFx.out W outx hW
        exact ⟨cell_of h.c4 0, cell_of h.c5 0, cell_of h.c6 0, cell_of h.c7 0, cell_of h.c1 0, h.lookT HD.out hbm, h.lookL HD.out hbm, h.lookS HD.out hbm (by unfold maxLen; omega)⟩
      have HBx : Hid (∀ W outx, Ln w2 W po outx → Calls Tryz.prog 41 #[.pointer (some ⟨r, 0, none⟩), .string box] W fun e w' => ∃ t : ByteArray, e = .returned (.tuple #[.string t, .bool (D.lv box)]) ∧ Below W.heap.size W w') := Lib.hid fun W outx hW => (box_r base r N b n ca G S box W (HFx.out W outx hW).rg (by omega)).mono fun e w' ⟨t, ok, he, hok, hb⟩ => ⟨t, by
        rw [he]
        have : ok = D.lv box := by
          have h2 := HD.out.lv box
          cases ok <;> cases hl : D.lv box <;> simp_all
        rw [this], hb⟩
      have HLi : Hid (∀ W outx, Ln w2 W po outx → outx.length ≤ 100000 → ∀ wd J : ByteArray, wd.size ≤ 100 → (⟨(Lib.join ([D.name, box, wd].map (·.data.toList)) [32]).toArray⟩ : ByteArray) = J → J.size ≤ 1000000000 → Calls Tryz.prog 60 #[.slice (some ⟨W.heap.size, 0, none⟩) 3 3, .pointer (some ⟨po, 0, none⟩)] (W.alloc (.cells #[.string D.name, .string box, .string wd] 9)) fun e w' => e = .returned (.tuple #[]) ∧ Ln w2 w' po (outx ++ [J])) := Lib.hid fun W outx hW hl wd J hwd hJ hz => line3 w2 po D.name box wd J W outx hW hl HD.out.nm hsz hwd hJ hz
      have hnm := HD.out.nm
      have z1 : (lineU D.name box wTw).size ≤ 1000000000 := by rw [line_size]; have : wTw.size = 6 := rfl; omega
      have z2 : (lineU D.name box wEl).size ≤ 1000000000 := by rw [line_size]; have : wEl.size = 10 := rfl; omega
      have z3 : (lineU D.name box wUn).size ≤ 1000000000 := by rw [line_size]; have : wUn.size = 14 := rfl; omega
      have z4 : (lineU D.name box wGo).size ≤ 1000000000 := by rw [line_size]; have : wGo.size = 5 := rfl; omega
      have J1 := join_tw D.name box
      have J2 := join_el D.name box
      have J3 := join_un D.name box
      have J4 := join_go D.name box
      have HZ := Lib.hid (And.intro (And.intro z1 z2) (And.intro z3 z4))
      have HJ := Lib.hid (And.intro (And.intro J1 J2) (And.intro J3 J4))
      have HSh := Lib.hid (show shipL D box = s1 D.name (cntO D.out box) box ++ s2 D.name (cntO D.out box) (whoOf H box) (lastO D.out box) box ++ s3 D.name (cntO D.out box) (D.su (lastO D.out box, box)) box ++ s4 D.name (D.lv box) (whoOf H box) box from by unfold shipL; rw [HD.out.wh])
      clear z1 z2 z3 z4 J1 J2 J3 J4 HFx
      generalize whoOf H box = wo at *
      generalize D.lv box = lv at *
      generalize D.su (lastO D.out box, box) = su at *
      generalize lastO D.out box = la at *
      generalize cntO D.out box = cn at *
      generalize D.name = name at *
      obtain ⟨t4, t5, t6, t7, t1, l4, l6, l7⟩ := HFt.out _ _ HL3.out
      go_upto_if 35 with fail
      go_cut [35] from 36 to 40 (fun _ wx => Hid (Ln w2 wx po (out ++ s1 name cn box)))
      case first =>
        clear HBx
        by_cases h1 : 1 < cn
        · have h1' : (1 : Int) < (cn : Int) := by omega
          have he : s1 name cn box = [lineU name box wTw] := by unfold s1; rw [if_pos h1]
          have HC := Lib.hid (HLi.out _ _ HL3.out (by omega) _ _ (by decide) HJ.out.1.1 HZ.out.1.1)
          clear HFt HLi HJ HZ
          go_wp2_with fail
          refine HC.out.mono ?_
          rintro e w5 ⟨rfl, hL5⟩
          have HN := Lib.hid hL5
          clear hL5 HC
          go_wp2_with fail
          go_meet
          case rel => exact Lib.hid (by rw [he]; exact HN.out)
        · have h1' : ¬ (1 : Int) < (cn : Int) := by omega
          have he : s1 name cn box = [] := by unfold s1; rw [if_neg h1]
          go_wp2_with fail
          go_meet
          case rel => exact Lib.hid (by rw [he, List.append_nil]; exact HL3.out)
      case rest =>
        have HL4 := hcut
        clear HL3 hcut t4 t5 t6 t7 t1 l4 l6 l7
        have HT1 := Lib.hid (s1_len name cn box)
        generalize s1 name cn box = x1 at *
        obtain ⟨t4, t5, t6, t7, t1, l4, l6, l7⟩ := HFt.out _ _ HL4.out
        clear t1 t5 t7 l7
        go_upto_region 6 with fail
        go_cut [55] from 41 to 54 (fun v wx => v = .bool (decide (0 < cn ∧ wo ≠ some la)) ∧ Hid (Ln w2 wx po (out ++ x1)))
        case first =>
          clear HBx HFt HLi HJ HZ HSh HX2 HD Hst
          by_cases h1 : 0 < cn
          · have h1' : (0 : Int) < (cn : Int) := by omega
            cases wo with
            | none =>
              simp only [Option.isSome_none, Option.getD_none]
              go_wp2_with fail
              go_meet
              case rel => exact ⟨by simp [h1], Lib.hid (by first | exact HL4.out | exact HL4.out.below ⟨rfl, rfl, rfl, Nat.le_refl _, fun _ _ => rfl⟩)⟩
            | some ww =>
              simp only [Option.isSome_some, Option.getD_some]
              by_cases hwl : ww = la
              · have hq : (ww.toList != la.toList) = false := by rw [hwl]; simp
                go_wp2_with fail
                go_meet
                case rel => exact ⟨by simp [hwl], Lib.hid (by first | exact HL4.out | exact HL4.out.below ⟨rfl, rfl, rfl, Nat.le_refl _, fun _ _ => rfl⟩)⟩
              · have hq : (ww.toList != la.toList) = true := by simpa using fun e => hwl (tl_inj e)
                go_wp2_with fail
                go_meet
                case rel => exact ⟨by first | simp [h1, hwl]; done | (simp [h1, hwl]; exact fun e => hwl (tl_inj e)), Lib.hid (by first | exact HL4.out | exact HL4.out.below ⟨rfl, rfl, rfl, Nat.le_refl _, fun _ _ => rfl⟩)⟩
          · have h1' : ¬ (0 : Int) < (cn : Int) := by omega
            go_wp2_with fail
            go_meet
            case rel => exact ⟨by simp [h1], Lib.hid (by first | exact HL4.out | exact HL4.out.below ⟨rfl, rfl, rfl, Nat.le_refl _, fun _ _ => rfl⟩)⟩
        case rest =>
          obtain ⟨rfl, HL5⟩ := hcut
          clear HL4 t4 t6 l4 l6
          go_upto_if 55 with fail
          go_cut [55] from 56 to 60 (fun _ wx => Hid (Ln w2 wx po (out ++ x1 ++ s2 name cn wo la box)))
          case first =>
            obtain ⟨_, t5, _⟩ := HFt.out _ _ HL5.out
            clear HBx
            by_cases h1 : 0 < cn ∧ wo ≠ some la
            · have h1' : decide (0 < cn ∧ wo ≠ some la) = true := decide_eq_true h1
              have he : s2 name cn wo la box = [lineU name box wEl] := by unfold s2; rw [if_pos h1]
              rw [h1']
              clear h1 h1'
              have HC := Lib.hid (HLi.out _ _ HL5.out (by have := HT1.out; simp only [List.length_append]; omega) _ _ (by decide) HJ.out.1.2 HZ.out.1.2)
              clear HFt HLi HJ HZ
              go_wp2_with fail
              refine HC.out.mono ?_
              rintro e w5 ⟨rfl, hL5⟩
              have HN := Lib.hid hL5
              clear hL5 HC
              go_wp2_with fail
              go_meet
              case rel => exact Lib.hid (by rw [he]; exact HN.out)
            · have h1' : decide (0 < cn ∧ wo ≠ some la) = false := decide_eq_false h1
              have he : s2 name cn wo la box = [] := by unfold s2; rw [if_neg h1]
              rw [h1']
              clear h1 h1'
              go_wp2_with fail
              go_meet
              case rel => exact Lib.hid (by rw [he, List.append_nil]; exact HL5.out)
          case rest =>
            have HL6 := hcut
            clear HL5 hcut
            have HT2 := Lib.hid (s2_len name cn wo la box)
            generalize s2 name cn wo la box = x2 at *
            obtain ⟨t4, t5, t6, t7, t1, l4, l6, l7⟩ := HFt.out _ _ HL6.out
            clear t1 t5
            go_upto_region 8 with fail
            go_cut [74] from 61 to 73 (fun v wx => v = .bool (decide (0 < cn ∧ su = false)) ∧ Hid (Ln w2 wx po (out ++ x1 ++ x2)))
            case first =>
              clear HBx HFt HLi HJ HZ HSh HX2 HD Hst
              by_cases h1 : 0 < cn
              · have h1' : (0 : Int) < (cn : Int) := by omega
                go_wp2_with fail
                go_meet
                case rel => exact ⟨by cases su <;> simp [h1], Lib.hid (by first | exact HL6.out | exact HL6.out.below ⟨rfl, rfl, rfl, Nat.le_refl _, fun _ _ => rfl⟩)⟩
              · have h1' : ¬ (0 : Int) < (cn : Int) := by omega
                go_wp2_with fail
                go_meet
                case rel => exact ⟨by simp [h1], Lib.hid (by first | exact HL6.out | exact HL6.out.below ⟨rfl, rfl, rfl, Nat.le_refl _, fun _ _ => rfl⟩)⟩
            case rest =>
              obtain ⟨rfl, HL7⟩ := hcut
              clear HL6 t4 t6 t7 l4 l6 l7
              go_upto_if 74 with fail
              go_cut [74] from 75 to 79 (fun _ wx => Hid (Ln w2 wx po (out ++ x1 ++ x2 ++ s3 name cn su box)))
              case first =>
                obtain ⟨_, t5, _⟩ := HFt.out _ _ HL7.out
                clear HBx
                by_cases h1 : 0 < cn ∧ su = false
                · have h1' : decide (0 < cn ∧ su = false) = true := decide_eq_true h1
                  have he : s3 name cn su box = [lineU name box wUn] := by unfold s3; rw [if_pos h1]
                  rw [h1']
                  clear h1 h1'
                  have HC := Lib.hid (HLi.out _ _ HL7.out (by have := HT1.out; have := HT2.out; simp only [List.length_append]; omega) _ _ (by decide) HJ.out.2.1 HZ.out.2.1)
                  clear HFt HLi HJ HZ
                  go_wp2_with fail
                  refine HC.out.mono ?_
                  rintro e w5 ⟨rfl, hL5⟩
                  have HN := Lib.hid hL5
                  clear hL5 HC
                  go_wp2_with fail
                  go_meet
                  case rel => exact Lib.hid (by rw [he]; exact HN.out)
                · have h1' : decide (0 < cn ∧ su = false) = false := decide_eq_false h1
                  have he : s3 name cn su box = [] := by unfold s3; rw [if_neg h1]
                  rw [h1']
                  clear h1 h1'
                  go_wp2_with fail
                  go_meet
                  case rel => exact Lib.hid (by rw [he, List.append_nil]; exact HL7.out)
              case rest =>
                have HL8 := hcut
                clear HL7 hcut
                have HT3 := Lib.hid (s3_len name cn su box)
                generalize s3 name cn su box = x3 at *
                have t1 := (HFt.out _ _ HL8.out).2.2.2.2.1
                have HBc := Lib.hid (HBx.out _ _ HL8.out)
                go_wp2_with fail
                refine HBc.out.mono ?_
                rintro e w7 ⟨tx, rfl, hb7⟩
                have HL9 := Lib.hid (HL8.out.below hb7)
                clear hb7 HBc HBx t1 HL8
                have t5 := (HFt.out _ _ HL9.out).2.1
                clear HFt
                have HEnd : Hid (∀ W, Ln w2 W po (out ++ x1 ++ x2 ++ x3 ++ s4 name lv wo box) → (∃ (k' : Nat) (out' : List ByteArray), (Value.int IntKind.i64 ((k : Int) + 1)) = .int .i64 (k' : Int) ∧ k' ≤ M.length ∧ out'.length ≤ 4 * k' ∧ Hid (out' = docS D (M.take k')) ∧ Hid (Ln w2 W po out'))) := Lib.hid fun W hW => ⟨k + 1, _, by go_num, by omega, by have := HT1.out; have := HT2.out; have := HT3.out; have := s4_len name lv wo box; simp only [List.length_append]; omega, Lib.hid (by rw [Hst.out, HSh.out]; simp only [List.append_assoc]), Lib.hid hW⟩
                clear Hst HSh
                cases lv with
                | false =>
                  have he : s4 name false wo box = [] := by unfold s4; rw [if_neg (by simp)]
                  have HE2 := Lib.hid (HEnd.out w7 (by rw [he, List.append_nil]; exact HL9.out))
                  clear HEnd HLi HJ HZ HL9
                  go_wp2_with fail
                  exact ⟨HE2.out, by simp [RowKit.intOf]; omega⟩
                | true =>
                  cases wo with
                  | none =>
                    have he : s4 name true none box = [lineU name box wGo] := by unfold s4; rw [if_pos ⟨rfl, by simp⟩]
                    simp only [Option.isSome_none, Option.getD_none]
                    have HE2 := Lib.hid (fun W (h : Ln w2 W po (out ++ x1 ++ x2 ++ x3 ++ [lineU name box wGo])) => HEnd.out W (by rw [he]; exact h))
                    clear HEnd
                    have HC := Lib.hid (HLi.out _ _ HL9.out (by have := HT1.out; have := HT2.out; have := HT3.out; simp only [List.length_append]; omega) _ _ (by decide) HJ.out.2.2 HZ.out.2.2)
                    clear HLi HJ HZ
                    go_wp2_with fail
                    refine HC.out.mono ?_
                    rintro e w5 ⟨rfl, hL8⟩
                    have HE3 := Lib.hid (HE2.out w5 hL8)
                    clear hL8 HC HE2
                    go_wp2_with fail
                    exact ⟨HE3.out, by simp [RowKit.intOf]; omega⟩
                  | some ww =>
                    simp only [Option.isSome_some, Option.getD_some]
                    by_cases hwl : ww = name
                    · have hq : (ww.toList != name.toList) = false := by rw [hwl]; simp
                      have hq2 : (ww.toList == name.toList) = true := by rw [hwl]; simp
                      have hq3 : ww.toList = name.toList := by rw [hwl]
                      have he : s4 name true (some ww) box = [] := by unfold s4; rw [if_neg (by rw [hwl]; simp)]
                      have HE2 := Lib.hid (HEnd.out w7 (by rw [he, List.append_nil]; exact HL9.out))
                      clear HEnd HLi HJ HZ HL9 hwl
                      go_wp2_with fail
                      exact ⟨HE2.out, by simp [RowKit.intOf]; omega⟩
                    · have hq : (ww.toList != name.toList) = true := by simpa using fun e => hwl (tl_inj e)
                      have hq2 : (ww.toList == name.toList) = false := by simpa using fun e => hwl (tl_inj e)
                      have hq3 : ¬ ww.toList = name.toList := fun e => hwl (tl_inj e)
                      have he : s4 name true (some ww) box = [lineU name box wGo] := by unfold s4; rw [if_pos ⟨rfl, fun e => hwl (Option.some.inj e)⟩]
                      have HE2 := Lib.hid (fun W (h : Ln w2 W po (out ++ x1 ++ x2 ++ x3 ++ [lineU name box wGo])) => HEnd.out W (by rw [he]; exact h))
                      clear HEnd
                      have HC := Lib.hid (HLi.out _ _ HL9.out (by have := HT1.out; have := HT2.out; have := HT3.out; simp only [List.length_append]; omega) _ _ (by decide) HJ.out.2.2 HZ.out.2.2)
                      clear HLi HJ HZ
                      go_wp2_with fail
                      refine HC.out.mono ?_
                      rintro e w5 ⟨rfl, hL8⟩
                      have HE3 := Lib.hid (HE2.out w5 hL8)
                      clear hL8 HC HE2
                      go_wp2_with fail
                      exact ⟨HE3.out, by simp [RowKit.intOf]; omega⟩
    · have hlt' : ¬ (k : Int) < (M.length : Int) := by omega
      have hke : M.take k = M := List.take_of_length_le (by omega)
      have Ho := Lib.hid (show out = docS D M from by rw [Hout.out, hke])
      clear hke Hout
      go_wp2_with fail
      go_end0
      obtain ⟨A, c, hp, hr⟩ := HL.out.row
      refine ⟨rfl, A, c, M, HSr.out.1, HSr.out.2, by rw [← Ho.out]; simp [World.cell?, hp], ?_, (Kp.of_below _ HB2.out).trans (HL.out.kp)⟩
      rw [← Ho.out]
      rcases hr.2 with ⟨_, h0⟩ | ⟨g, cap, cur, he, _⟩
      · intro h; omega
      · injection he with e1 e2 e3
        subst e1 e3
        exact Rs.of_row hr
end Go.Proofs.YtdinloecgaapaaaGreatDoor
