/- ref56.Ship: the document's lines of a carrier. -/
import Derived.Test.YtdinloecgaapaaaGreatDoorMHDoc
import Derived.Deep.Cut
import Derived.Deep.CutRange
namespace Go.Proofs.YtdinloecgaapaaaGreatDoor
open Go.RowKit Go.Maps Go.Lib Go.Sort
set_option linter.unusedVariables false
set_option maxRecDepth 100000

theorem Rho.all {w : World} {B : Nat} {A : Option Addr} {L : List Hn} (h : Rho w B A L) {k : Nat} (hk : k < L.length) : ∃ g off, A = some ⟨g, off, none⟩ ∧ ∀ X, Below B w X → X.cell? ⟨g, off + k * 5, none⟩ = some (.string L[k].bx) ∧ X.cell? ⟨g, off + k * 5 + 2, none⟩ = some (.string L[k].tt) := by
  obtain ⟨g, off, e, hg, hr⟩ := h.at_ hk
  exact ⟨g, off, e, fun X hX => ⟨(range_below hr hX hg) 0 _ rfl, (range_below hr hX hg) 2 _ rfl⟩⟩
theorem map_step {α : Type} (f : α → ByteArray) (L : List α) (k : Nat) (h : k < L.length) : (L.take (k + 1)).map f = (L.take k).map f ++ [f L[k]] := by
  rw [List.take_succ_eq_append_getElem h, List.map_append]
  rfl
theorem cnt_step (L : List Hn) (s : ByteArray) (k : Nat) (h : k < L.length) : cntO (L.take (k + 1)) s = cntO (L.take k) s + (if L[k].bx = s then 1 else 0) ∧ lastO (L.take (k + 1)) s = if L[k].bx = s then L[k].tt else lastO (L.take k) s := by
  rw [List.take_succ_eq_append_getElem h]
  exact ⟨cntO_snoc _ _ _, lastO_snoc _ _ _⟩
theorem line_le1 (name s : ByteArray) (hn : name.size ≤ 100000000) (hs : s.size ≤ 100000000) : (name ++ (⟨#[32]⟩ : ByteArray) ++ s ++ (⟨#[32, 116, 119, 105, 99, 101]⟩ : ByteArray)).size ≤ 300000000 := by
  have h := line_size name s wTw
  have h2 : wTw.size ≤ 20 := by decide
  show (lineU name s wTw).size ≤ _
  omega
theorem line_le2 (name s : ByteArray) (hn : name.size ≤ 100000000) (hs : s.size ≤ 100000000) : (name ++ (⟨#[32]⟩ : ByteArray) ++ s ++ (⟨#[32, 101, 108, 115, 101, 119, 104, 101, 114, 101]⟩ : ByteArray)).size ≤ 300000000 := by
  have h := line_size name s wEl
  have h2 : wEl.size ≤ 20 := by decide
  show (lineU name s wEl).size ≤ _
  omega
theorem line_le3 (name s : ByteArray) (hn : name.size ≤ 100000000) (hs : s.size ≤ 100000000) : (name ++ (⟨#[32]⟩ : ByteArray) ++ s ++ (⟨#[32, 117, 110, 115, 117, 114, 114, 101, 110, 100, 101, 114, 101, 100]⟩ : ByteArray)).size ≤ 300000000 := by
  have h := line_size name s wUn
  have h2 : wUn.size ≤ 20 := by decide
  show (lineU name s wUn).size ≤ _
  omega
theorem line_le4 (name s : ByteArray) (hn : name.size ≤ 100000000) (hs : s.size ≤ 100000000) : (name ++ (⟨#[32]⟩ : ByteArray) ++ s ++ (⟨#[32, 103, 111, 110, 101]⟩ : ByteArray)).size ≤ 300000000 := by
  have h := line_size name s wGo
  have h2 : wGo.size ≤ 20 := by decide
  show (lineU name s wGo).size ≤ _
  omega
/-- lines so far -/
def Rl (wq w : World) (v : Value) (l : List ByteArray) : Prop := ∃ g cap, v = .slice (some ⟨g, 0, none⟩) l.length cap ∧ Rw w wq.heap.size g cap l ∧ Below wq.heap.size wq w

theorem Rl.add {wq yw : World} {L : List ByteArray} {yg yc : Nat} {J : ByteArray} (h : yw.ownsRow wq.heap.size 9 1 (.slice (some ⟨yg, 0, none⟩) (L.length + 1) yc) (L.length + 1) (L.map Value.string ++ [.string J])) (hb : Below wq.heap.size wq yw) : Rl wq yw (.slice (some ⟨yg, 0, none⟩) (L.length + 1) yc) (L ++ [J]) :=
  ⟨yg, yc, by simp, by unfold Rw; simpa using h, hb⟩

set_option maxHeartbeats 8000000 in
theorem refShip_r (name : ByteArray) (BL : List Bm) (BA : Option Addr) (bc : Nat) (CH : List Wh) (CA : Option Addr) (cc : Nat) (out : List Hn) (OA : Option Addr) (oc : Nat) (w : World) (hB : Rbo w w.heap.size BA BL) (hC : Rwh w w.heap.size CA CH) (hO : Rho w w.heap.size OA out)
    (hBl : BL.length ≤ 1000) (hBb : ∀ m ∈ BL, m.x.l.length ≤ 64 ∧ ∀ s ∈ m.x.l, s.size ≤ 16) (hCl : CH.length ≤ 1000) (hCs : ∀ p ∈ CH, p.1.size ≤ 16) (hOl : out.length ≤ 1000) (hOs : ∀ h ∈ out, h.bx.size ≤ 100000000) (hn : name.size ≤ 100000000) :
    Calls Tryz.prog 18 #[.string name, .slice BA BL.length bc, .slice CA CH.length cc, .slice OA out.length oc] w fun e w' => ∃ A c, e = .returned (.slice A (docS (docD name CH out BL) (docM CH out BL)).length c) ∧ Rs w' w'.heap.size A (docS (docD name CH out BL) (docM CH out BL)) ∧ Below w.heap.size w w' := by
  obtain ⟨i0, hi0, hy0, hy1, hy2⟩ := info_parts str_info
  have HBo := Lib.hid hB
  have HC := Lib.hid hC
  have HO := Lib.hid hO
  have HBb := Lib.hid hBb
  have HCs := Lib.hid hCs
  have HOs := Lib.hid hOs
  clear hB hC hO hBb hCs hOs
  generalize hCP : (fun (e : Ending) (w' : World) => ∃ A c, e = .returned (.slice A (docS (docD name CH out BL) (docM CH out BL)).length c) ∧ Rs w' w'.heap.size A (docS (docD name CH out BL) (docM CH out BL)) ∧ Below w.heap.size w w') = CP
  have HF : Hid (∀ A c w' D, D = docS (docD name CH out BL) (docM CH out BL) → Rs w' w'.heap.size A D → Below w.heap.size w w' → CP (.returned (.slice A D.length c)) w') := Lib.hid fun A c w' D hD h1 h2 => by subst hD; rw [← hCP]; exact ⟨A, c, rfl, h1, h2⟩
  clear hCP
  go_enter Tryz.func18, Tryz.ntmps18
  go_wp2_with fail
  have HR0 := Lib.hid (show Rw (w.alloc (.cells #[] 9)) 0 w.heap.size 0 [] from ownsRow_base (Nat.zero_le _) (World.ownsRow_made w #[] 0 (Nat.le_refl _) (Nat.zero_le _) rfl))
  have HB0 := Lib.hid ((Below.refl w.heap.size w).alloc (Nat.le_refl _) (.cells #[] 9))
  generalize w.alloc (.cells #[] 9) = w1 at *
  go_loopw [9, 10] (fun v i wr => ∃ (k g cap : Nat) (M : List ByteArray), k ≤ CH.length ∧ i = .int .i64 k ∧ v = .slice (some ⟨g, 0, none⟩) M.length cap ∧ M.length ≤ k ∧ Hid (M = putsB [] ((CH.take k).map (·.1))) ∧ Hid (Rw wr 0 g cap M) ∧ Hid (Below w.heap.size w wr)) (fun _ i _ => CH.length - (intOf i).toNat)
  case atStart => exact ⟨0, _, _, [], Nat.zero_le _, rfl, rfl, Nat.zero_le _, Lib.hid rfl, HR0, HB0⟩
  case round =>
    clear HR0 HB0
    obtain ⟨k, g, cap, M, hk, rfl, rfl, hMl, HM, HRw, HB⟩ := hrel
    by_cases hlt : k < CH.length
    · have hlt' : (k : Int) < (CH.length : Int) := by omega
      obtain ⟨ga, rfl, hga, c1, _⟩ := (HC.out.below HB.out).at_ hlt
      have HSt := Lib.hid (map_step (·.1) CH k hlt)
      generalize CH[k] = p at *
      obtain ⟨t, tw⟩ := p
      simp only at c1 HSt
      have HP := Lib.hid (put_any M t g cap 0 wr HRw.out (by omega))
      have hpl := putS_len M t
      go_wp2_with fail
      refine HP.out.mono ?_
      rintro e w2 ⟨g4, c4, rfl, hr4, hb4⟩
      have HR4 := Lib.hid hr4
      have HB4 := Lib.hid (HB.out.trans (hb4.mono HB.out.size))
      clear hr4 hb4 HRw HB HP c1
      go_wp2_with fail
      exact ⟨⟨k + 1, g4, c4, _, by omega, by go_num, rfl, by omega, Lib.hid (by rw [HSt.out, puts_snoc, ← HM.out]), HR4, HB4⟩, by simp [intOf]; omega⟩
    · have hlt' : ¬ (k : Int) < (CH.length : Int) := by omega
      have hke : CH.take k = CH := List.take_of_length_le (by omega)
      rw [hke] at HM
      have hMl2 : M.length ≤ 1000 := by omega
      clear hke hlt hMl hk
      go_wp2_with fail
      clear hlt'
      go_loopw [9, 11] (fun v i wr => ∃ (k g cap : Nat) (M1 : List ByteArray), k ≤ out.length ∧ i = .int .i64 k ∧ v = .slice (some ⟨g, 0, none⟩) M1.length cap ∧ M1.length ≤ 1000 + k ∧ Hid (M1 = putsB M ((out.take k).map (·.bx))) ∧ Hid (Rw wr 0 g cap M1) ∧ Hid (Below w.heap.size w wr)) (fun _ i _ => out.length - (intOf i).toNat)
      case atStart => exact ⟨0, _, _, M, Nat.zero_le _, rfl, rfl, by omega, Lib.hid rfl, HRw, HB⟩
      case round =>
        clear HRw HB
        obtain ⟨k1, g1, cap1, M1, hk1, rfl, rfl, hMl1, HM1, HRw, HB⟩ := hrel
        by_cases hlt : k1 < out.length
        · have hlt' : (k1 : Int) < (out.length : Int) := by omega
          obtain ⟨go, oo, rfl, hat⟩ := HO.out.all hlt
          obtain ⟨c1, _⟩ := hat _ HB.out
          have HSt := Lib.hid (map_step (·.bx) out k1 hlt)
          clear hat
          generalize out[k1] = h at *
          obtain ⟨t, fr, tt, pl, dy⟩ := h
          simp only at c1 HSt
          have HP := Lib.hid (put_any M1 t g1 cap1 0 wr HRw.out (by omega))
          have hpl := putS_len M1 t
          go_wp2_with fail
          refine HP.out.mono ?_
          rintro e w2 ⟨g4, c4, rfl, hr4, hb4⟩
          have HR4 := Lib.hid hr4
          have HB4 := Lib.hid (HB.out.trans (hb4.mono HB.out.size))
          clear hr4 hb4 HRw HB HP c1
          go_wp2_with fail
          exact ⟨⟨k1 + 1, g4, c4, _, by omega, by go_num, rfl, by omega, Lib.hid (by rw [HSt.out, puts_snoc, ← HM1.out]), HR4, HB4⟩, by simp [intOf]; omega⟩
        · have hlt' : ¬ (k1 : Int) < (out.length : Int) := by omega
          have hke : out.take k1 = out := List.take_of_length_le (by omega)
          rw [hke] at HM1
          have hMl3 : M1.length ≤ 2000 := by omega
          clear hke hlt hMl1 hk1
          go_wp2_with fail
          clear hlt'
          go_loopw [9, 12] (fun v i wr => ∃ (k g cap : Nat) (M2 : List ByteArray), k ≤ BL.length ∧ i = .int .i64 k ∧ v = .slice (some ⟨g, 0, none⟩) M2.length cap ∧ M2.length ≤ 2000 + 64 * k ∧ Hid (M2 = putsB M1 (boxL (BL.take k))) ∧ Hid (Rw wr 0 g cap M2) ∧ Hid (Below w.heap.size w wr)) (fun _ i _ => BL.length - (intOf i).toNat)
          case atStart => exact ⟨0, _, _, M1, Nat.zero_le _, rfl, rfl, by omega, Lib.hid rfl, HRw, HB⟩
          case round =>
            clear HRw HB
            obtain ⟨q, g2, cap2, M2, hq, rfl, rfl, hM2l, HM2, HRw, HB⟩ := hrel
            by_cases hltq : q < BL.length
            · have hltq' : (q : Int) < (BL.length : Int) := by omega
              have HSt2 := Lib.hid (boxL_step BL q hltq)
              have hb64 := (HBb.out _ (List.getElem_mem hltq)).1
              obtain ⟨gl, gq, rfl, hgl, hat⟩ := HBo.out.at_ hltq
              have HX2 : Hid (∀ X, Below w.heap.size w X → X.cell? ⟨gl, q * 3, none⟩ = some (.slice BL[q].A BL[q].x.l.length BL[q].c) ∧ Rs X w.heap.size BL[q].A BL[q].x.l) := Lib.hid fun X hX => ⟨(hat X hX).1, (hat X hX).2.2.2.1⟩
              clear hat
              generalize BL[q] = m at *
              obtain ⟨mk, x, mA, mc, mO, moc⟩ := m
              simp only at hb64 HX2 HSt2
              generalize x.l = xl at *
              obtain ⟨c1, _⟩ := HX2.out _ HB.out
              go_wp2_with fail
              clear c1
              go_loopw [9, 13] (fun v i wr => ∃ (j g cap : Nat) (M3 : List ByteArray), j ≤ xl.length ∧ i = .int .i64 j ∧ v = .slice (some ⟨g, 0, none⟩) M3.length cap ∧ M3.length ≤ 2000 + 64 * q + j ∧ Hid (M3 = putsB M2 (xl.take j)) ∧ Hid (Rw wr 0 g cap M3) ∧ Hid (Below w.heap.size w wr)) (fun _ i _ => xl.length - (intOf i).toNat)
              case atStart => exact ⟨0, _, _, M2, Nat.zero_le _, rfl, rfl, by omega, Lib.hid rfl, HRw, HB⟩
              case round =>
                clear HRw HB
                obtain ⟨j, g3, cap3, M3, hj, rfl, rfl, hM3l, HM3, HRw, HB⟩ := hrel
                obtain ⟨c1, hrs⟩ := HX2.out _ HB.out
                by_cases hltj : j < xl.length
                · have hltj' : (j : Int) < (xl.length : Int) := by omega
                  obtain ⟨gt, ot, rfl, _, ct⟩ := hrs.at_ hltj
                  have HSt3 := Lib.hid (take_step xl j hltj)
                  clear hrs
                  generalize xl[j] = t at *
                  have HP := Lib.hid (put_any M3 t g3 cap3 0 wr HRw.out (by omega))
                  have hpl := putS_len M3 t
                  go_wp2_with fail
                  refine HP.out.mono ?_
                  rintro e w2 ⟨g4, c4, rfl, hr4, hb4⟩
                  have HR4 := Lib.hid hr4
                  have HB4 := Lib.hid (HB.out.trans (hb4.mono HB.out.size))
                  clear hr4 hb4 HRw HB HP c1 ct
                  go_wp2_with fail
                  go_roundw
                  case rel => exact ⟨j + 1, g4, c4, _, by omega, by go_num, rfl, by omega, Lib.hid (by rw [HSt3.out, puts_snoc, ← HM3.out]), HR4, HB4⟩
                  case measure => simp [intOf]; omega
                · have hltj' : ¬ (j : Int) < (xl.length : Int) := by omega
                  have hje : xl.take j = xl := List.take_of_length_le (by omega)
                  clear hrs
                  go_wp2_with fail
                  go_roundw
                  case rel => exact ⟨q + 1, g3, cap3, M3, by omega, by go_num, rfl, by omega, Lib.hid (by rw [HSt2.out, puts_app, ← HM2.out, HM3.out, hje]), HRw, HB⟩
                  case measure => simp [intOf]; omega
            · have hltq' : ¬ (q : Int) < (BL.length : Int) := by omega
              have hke : BL.take q = BL := List.take_of_length_le (by omega)
              have HM' := Lib.hid (show M2 = docM CH out BL from by unfold docM; rw [HM2.out, hke, puts_app, puts_app, ← HM.out, ← HM1.out])
              have hMN : M2.length ≤ 66000 := by omega
              have HMs := Lib.hid (show ∀ s ∈ M2, s.size ≤ 100000000 from fun s hs => by
                rw [HM'.out] at hs
                rcases ((docM_srt CH out BL).2 s).1 hs with ⟨p, hp, rfl⟩ | ⟨h, hh, rfl⟩ | ⟨m, hm, hs⟩
                · have := HCs.out p hp; omega
                · exact HOs.out h hh
                · have := (HBb.out m hm).2 s hs; omega)
              clear HM HM1 HM2 hke hltq hM2l hq hMl2 hMl3 HCs HOs
              go_wp2_with fail
              clear hltq'
              have HS0 := Lib.hid (show Rl wr (wr.alloc (.cells #[] 9)) (.slice (some ⟨wr.heap.size, 0, none⟩) 0 0) [] from ⟨_, _, rfl, World.ownsRow_made wr #[] 0 (Nat.le_refl _) (Nat.zero_le _) rfl, (Below.refl wr.heap.size wr).alloc (Nat.le_refl _) (.cells #[] 9)⟩)
              obtain ⟨wq, rfl⟩ : ∃ wq : World, wq = wr := ⟨_, rfl⟩
              generalize wq.alloc (.cells #[] 9) = w3 at *
              have HD := Lib.hid (show docD name CH out BL = ⟨name, out, hasW CH, surB BL, liveB (BL.map Bm.bl)⟩ from rfl)
              have HBd := Lib.hid (show ∀ X, Below wq.heap.size wq X → Below w.heap.size w X from fun X hX => HB.out.trans (hX.mono HB.out.size))
              go_loopw [14, 15] (fun v i wx => ∃ (k2 : Nat) (l : List ByteArray), k2 ≤ M2.length ∧ i = .int .i64 k2 ∧ l.length ≤ 4 * k2 ∧ Hid (l = docS (docD name CH out BL) (M2.take k2)) ∧ Hid (Rl wq wx v l)) (fun _ i _ => M2.length - (intOf i).toNat)
              case atStart => exact ⟨0, [], Nat.zero_le _, rfl, Nat.zero_le _, Lib.hid rfl, HS0⟩
              case round =>
                clear HS0
                obtain ⟨k2, l, hk2, rfl, hol, Hout, HRo⟩ := hrel
                by_cases h2 : k2 < M2.length
                · have h2' : (k2 : Int) < (M2.length : Int) := by omega
                  have hbq : Below wq.heap.size wq wr := by obtain ⟨_, _, _, _, h⟩ := HRo.out; exact h
                  have ci : wr.cell? ⟨g2, k2, none⟩ = some (.string M2[k2]) := by
                    rw [(HRw.out.below hbq).cellAt k2 (by omega)]
                    simp [h2]
                  have hsz := HMs.out _ (List.getElem_mem h2)
                  have HDs := Lib.hid (show docS (docD name CH out BL) (M2.take (k2 + 1)) = l ++ shipL (docD name CH out BL) M2[k2] from by rw [docS_step _ _ _ h2, ← Hout.out])
                  generalize M2[k2] = s at *
                  have hbw := HBd.out _ hbq
                  have HHs := Lib.hid (has_r CH s CA cc wr ((HC.out.below hbw).more hbw.size) (by omega))
                  have Hbq := Lib.hid hbq
                  clear hbq hbw Hout
                  go_wp2_with fail
                  refine HHs.out.mono ?_
                  rintro e w4 ⟨rfl, hb4⟩
                  have HR4 : Hid (Rl wq w4 _ l) := Lib.hid (by
                    obtain ⟨g, cap, e, h1, h2⟩ := HRo.out
                    exact ⟨g, cap, e, h1.below hb4, h2.trans (hb4.mono h2.size)⟩)
                  clear hb4 HHs ci HRo Hbq
                  go_wp2_with fail
                  go_loopw [19, 20, 21] (fun nn tv i wx => ∃ k3 : Nat, k3 ≤ out.length ∧ i = .int .i64 k3 ∧ nn = .int .i64 ((cntO (out.take k3) s : Nat) : Int) ∧ tv = .string (lastO (out.take k3) s) ∧ wx = w4) (fun _ _ i _ => out.length - (intOf i).toNat)
                  case atStart => exact ⟨0, Nat.zero_le _, rfl, rfl, rfl, rfl⟩
                  case round =>
                    obtain ⟨k3, hk3, rfl, rfl, rfl, hw4⟩ := hrel
                    obtain rfl : w4 = wr := hw4.symm
                    clear hw4
                    by_cases h3 : k3 < out.length
                    · have h3' : (k3 : Int) < (out.length : Int) := by omega
                      obtain ⟨go, oo, rfl, hat⟩ := HO.out.all h3
                      have hbw : Below w.heap.size w w4 := HBd.out _ (by obtain ⟨_, _, _, _, h⟩ := HR4.out; exact h)
                      obtain ⟨c1, c2⟩ := hat _ hbw
                      obtain ⟨q1, q2⟩ := cnt_step out s k3 h3
                      have hcl := Nat.le_trans (cntO_le (out.take k3) s) (by rw [List.length_take]; exact Nat.min_le_left _ _)
                      clear hat hbw
                      generalize out[k3] = h at *
                      obtain ⟨t, fr, tt, pl, dy⟩ := h
                      simp only at c1 c2 q1 q2
                      by_cases e : t = s
                      · subst e
                        rw [if_pos rfl] at q1 q2
                        have hq : (t.toList == t.toList) = true := by simp
                        have HE := Lib.hid (And.intro q1 q2)
                        clear q1 q2
                        generalize cntO (List.take k3 out) t = cn at *
                        generalize lastO (List.take k3 out) t = la at *
                        go_wp2_with fail
                        go_roundw
                        case rel => exact ⟨k3 + 1, by omega, by go_num, by rw [HE.out.1]; go_num, by rw [HE.out.2], by first | rfl | trivial⟩
                        case measure => simp [intOf]; omega
                      · rw [if_neg e] at q1 q2
                        have hq : (t.toList == s.toList) = false := by simpa using fun e2 => e (tl_inj e2)
                        have HE := Lib.hid (And.intro q1 q2)
                        clear q1 q2 e
                        generalize cntO (List.take k3 out) s = cn at *
                        generalize lastO (List.take k3 out) s = la at *
                        go_wp2_with fail
                        go_roundw
                        case rel => exact ⟨k3 + 1, by omega, by go_num, by rw [HE.out.1, Nat.add_zero], by rw [HE.out.2], by first | rfl | trivial⟩
                        case measure => simp [intOf]; omega
                    · have h3' : ¬ (k3 : Int) < (out.length : Int) := by omega
                      have hke : out.take k3 = out := List.take_of_length_le (by omega)
                      rw [hke]
                      have hcl := cntO_le out s
                      have Hsu : Hid (∀ X a, Below wq.heap.size wq X → Calls Tryz.prog 43 #[.slice BA BL.length bc, .string s, .string a] X fun e w' => e = .returned (.bool (surB BL (a, s))) ∧ Below X.heap.size X w') := Lib.hid fun X a hX => by
                        have h := HBd.out X hX
                        exact sur_r BL s a BA bc X ((HBo.out.below h).more h.size) (by omega) (fun m hm => (HBb.out m hm).1)
                      have Hlv : Hid (∀ X, Below wq.heap.size wq X → Calls Tryz.prog 33 #[.slice BA BL.length bc, .string s] X fun e w' => e = .returned (.bool (liveB (BL.map Bm.bl) s)) ∧ Below X.heap.size X w') := Lib.hid fun X hX => by
                        have h := HBd.out X hX
                        exact live_r BL s BA bc X ((HBo.out.rb.below h).more h.size) (by omega) (fun m hm => (HBb.out m hm).1)
                      have HSh := Lib.hid (show shipL (docD name CH out BL) s = s1 name (cntO out s) s ++ s2 name (cntO out s) (hasW CH s) (lastO out s) s ++ s3 name (cntO out s) (surB BL (lastO out s, s)) s ++ s4 name (liveB (BL.map Bm.bl) s) (hasW CH s) s from rfl)
                      have Hsu2 := Lib.hid (fun X hX => Hsu.out X (lastO out s) hX)
                      clear hke h3 hk3 Hsu
                      generalize hasW CH s = wo at *
                      generalize liveB (BL.map Bm.bl) s = lv at *
                      generalize surB BL (lastO out s, s) = su at *
                      generalize lastO out s = la at *
                      generalize cntO out s = cn at *
                      have z1 : (name ++ (⟨#[32]⟩ : ByteArray)).size ≤ 100000001 := by rw [ByteArray.size_append]; have : (⟨#[32]⟩ : ByteArray).size = 1 := rfl; omega
                      have z2 : (name ++ (⟨#[32]⟩ : ByteArray) ++ s).size ≤ 200000001 := by rw [ByteArray.size_append]; omega
                      have z0 : (⟨#[32]⟩ : ByteArray).size = 1 := rfl
                      have HT := Lib.hid (show l.length ≤ 4 * 66000 from by omega)
                      go_upto_if 113 with fail
                      go_cut [14, 113] from 114 to 121 (fun v _ wx => Hid (Rl wq wx v (l ++ s1 name cn s)))
                      case first =>
                        clear Hsu2 Hlv HDs HSh
                        by_cases h1 : 1 < cn
                        · have h1' : (1 : Int) < (cn : Int) := by omega
                          have he : s1 name cn s = [lineU name s wTw] := by unfold s1; rw [if_pos h1]

                          obtain ⟨g9, cap9, rfl, hRw, hbq⟩ := HR4.out
                          have hll : (l).length ≤ 1000000 := by have := HT.out; (try simp only [List.length_append]); omega
                          have hrA : (w4.alloc (.cells #[.string (name ++ (⟨#[32]⟩ : ByteArray) ++ s ++ (⟨#[32, 116, 119, 105, 99, 101]⟩ : ByteArray))] 9)).ownsRow wq.heap.size 9 1 (.slice (some ⟨g9, 0, none⟩) (l).length cap9) (l).length ((l).map Value.string) := hRw.alloc _
                          have hbsA : wq.heap.size ≤ (w4.alloc (.cells #[.string (name ++ (⟨#[32]⟩ : ByteArray) ++ s ++ (⟨#[32, 116, 119, 105, 99, 101]⟩ : ByteArray))] 9)).heap.size := by have := hbq.size; simp; omega
                          have hJz : (name ++ (⟨#[32]⟩ : ByteArray) ++ s ++ (⟨#[32, 116, 119, 105, 99, 101]⟩ : ByteArray)).size ≤ 300000000 := line_le1 name s hn hsz
                          have hwz : (⟨#[32, 116, 119, 105, 99, 101]⟩ : ByteArray).size ≤ 20 := by decide
                          have HRw := Lib.hid hRw
                          have Hbq := Lib.hid hbq
                          clear hRw hbq
                          go_wp2_with (first
                            | (at_builtin; refine wpList_append_lies _ rfl (.tmp 114) (.tmp 120) 22 rfl wq.heap.size 9 i0 _ 1 16 Tryz.underlying22 hi0 hy0 hy1 hy2 rfl (by decide) (.slice (some ⟨g9, 0, none⟩) (l).length cap9) (l).length ((l).map Value.string) rfl hrA ⟨w4.heap.size, 0, none⟩ 1 1 [.string (name ++ (⟨#[32]⟩ : ByteArray) ++ s ++ (⟨#[32, 116, 119, 105, 99, 101]⟩ : ByteArray))] rfl rfl (World.news_of_block (cs := #[.string (name ++ (⟨#[32]⟩ : ByteArray) ++ s ++ (⟨#[32, 116, 119, 105, 99, 101]⟩ : ByteArray))]) (t := 9) (fr := (0, 0)) (heap_alloc_new w4 _)) (by simp [Value.oneCell']) (by decide) (by unfold maxLen; omega) (by omega) hbsA (w4.heap.size + 1) (by simp) ?_; intro yg yc yw yown ygr yloc ylt)
                            | fail)
                          have HN9 : Hid (Rl wq yw (.slice (some ⟨yg, 0, none⟩) ((l).length + 1) yc) (l ++ [lineU name s wTw])) := Lib.hid (Rl.add (L := l) (J := lineU name s wTw) yown ((Hbq.out.alloc Hbq.out.size (.cells #[.string (name ++ (⟨#[32]⟩ : ByteArray) ++ s ++ (⟨#[32, 116, 119, 105, 99, 101]⟩ : ByteArray))] 9)).grown ygr hbsA (fun j hj => by injection hj with hj; rw [← hj]; exact (HRw.out.lt g9 rfl).1)))
                          clear yown ygr yloc hrA hbsA HRw Hbq hll hJz hwz
                          go_meet
                          case rel => exact Lib.hid (by rw [he]; simpa using HN9.out)
                        · have h1' : ¬ (1 : Int) < (cn : Int) := by omega
                          have he : s1 name cn s = [] := by unfold s1; rw [if_neg h1]
                          go_wp2_with fail
                          go_meet
                          case rel => exact Lib.hid (by rw [he, List.append_nil]; exact HR4.out)
                      case rest =>
                        have HR5 := hcut
                        clear HR4 hcut
                        have HT1 := Lib.hid (s1_len name cn s)
                        generalize s1 name cn s = x1 at *
                        go_upto_region 33 with fail
                        go_cut [132] from 122 to 131 (fun v wx => v = .bool (decide (0 < cn ∧ wo ≠ some la)) ∧ Hid (Rl wq wx u14 (l ++ x1)))
                        case first =>
                          clear Hsu2 Hlv HDs HSh
                          by_cases h1 : 0 < cn
                          · have h1' : (0 : Int) < (cn : Int) := by omega
                            cases wo with
                            | none =>
                              simp only [Option.isSome_none, Option.getD_none]
                              go_wp2_with fail
                              go_meet
                              case rel => exact ⟨by simp [h1], Lib.hid (by first | exact HR5.out | (obtain ⟨g9, cap9, e9, q1, q2⟩ := HR5.out; exact ⟨g9, cap9, e9, q1.below ⟨rfl, rfl, rfl, Nat.le_refl _, fun _ _ => rfl⟩, q2.trans ⟨rfl, rfl, rfl, Nat.le_refl _, fun _ _ => rfl⟩⟩))⟩
                            | some ww =>
                              simp only [Option.isSome_some, Option.getD_some]
                              by_cases hwl : ww = la
                              · have hq : (ww.toList != la.toList) = false := by rw [hwl]; simp
                                have Hw := Lib.hid hwl
                                clear hwl
                                go_wp2_with fail
                                go_meet
                                case rel => exact ⟨by simp [Hw.out], Lib.hid (by first | exact HR5.out | (obtain ⟨g9, cap9, e9, q1, q2⟩ := HR5.out; exact ⟨g9, cap9, e9, q1.below ⟨rfl, rfl, rfl, Nat.le_refl _, fun _ _ => rfl⟩, q2.trans ⟨rfl, rfl, rfl, Nat.le_refl _, fun _ _ => rfl⟩⟩))⟩
                              · have hq : (ww.toList != la.toList) = true := by simpa using fun e => hwl (tl_inj e)
                                have Hw := Lib.hid hwl
                                clear hwl
                                go_wp2_with fail
                                go_meet
                                case rel => exact ⟨by first | simp [h1, Hw.out]; done | (simp [h1, Hw.out]; exact fun e => Hw.out (tl_inj e)), Lib.hid (by first | exact HR5.out | (obtain ⟨g9, cap9, e9, q1, q2⟩ := HR5.out; exact ⟨g9, cap9, e9, q1.below ⟨rfl, rfl, rfl, Nat.le_refl _, fun _ _ => rfl⟩, q2.trans ⟨rfl, rfl, rfl, Nat.le_refl _, fun _ _ => rfl⟩⟩))⟩
                          · have h1' : ¬ (0 : Int) < (cn : Int) := by omega
                            go_wp2_with fail
                            go_meet
                            case rel => exact ⟨by simp [h1], Lib.hid (by first | exact HR5.out | (obtain ⟨g9, cap9, e9, q1, q2⟩ := HR5.out; exact ⟨g9, cap9, e9, q1.below ⟨rfl, rfl, rfl, Nat.le_refl _, fun _ _ => rfl⟩, q2.trans ⟨rfl, rfl, rfl, Nat.le_refl _, fun _ _ => rfl⟩⟩))⟩
                        case rest =>
                          obtain ⟨rfl, HR6⟩ := hcut
                          clear HR5
                          go_upto_if 132 with fail
                          go_cut [14, 132] from 133 to 140 (fun v _ wx => Hid (Rl wq wx v (l ++ x1 ++ s2 name cn wo la s)))
                          case first =>
                            clear Hsu2 Hlv HDs HSh
                            by_cases h1 : 0 < cn ∧ wo ≠ some la
                            · have h1' : decide (0 < cn ∧ wo ≠ some la) = true := decide_eq_true h1
                              have he : s2 name cn wo la s = [lineU name s wEl] := by unfold s2; rw [if_pos h1]
                              rw [h1']
                              clear h1 h1'

                              obtain ⟨g9, cap9, rfl, hRw, hbq⟩ := HR6.out
                              have hll : (l ++ x1).length ≤ 1000000 := by have := HT.out; have := HT1.out; (try simp only [List.length_append]); omega
                              have hrA : (wc.alloc (.cells #[.string (name ++ (⟨#[32]⟩ : ByteArray) ++ s ++ (⟨#[32, 101, 108, 115, 101, 119, 104, 101, 114, 101]⟩ : ByteArray))] 9)).ownsRow wq.heap.size 9 1 (.slice (some ⟨g9, 0, none⟩) (l ++ x1).length cap9) (l ++ x1).length ((l ++ x1).map Value.string) := hRw.alloc _
                              have hbsA : wq.heap.size ≤ (wc.alloc (.cells #[.string (name ++ (⟨#[32]⟩ : ByteArray) ++ s ++ (⟨#[32, 101, 108, 115, 101, 119, 104, 101, 114, 101]⟩ : ByteArray))] 9)).heap.size := by have := hbq.size; simp; omega
                              have hJz : (name ++ (⟨#[32]⟩ : ByteArray) ++ s ++ (⟨#[32, 101, 108, 115, 101, 119, 104, 101, 114, 101]⟩ : ByteArray)).size ≤ 300000000 := line_le2 name s hn hsz
                              have hwz : (⟨#[32, 101, 108, 115, 101, 119, 104, 101, 114, 101]⟩ : ByteArray).size ≤ 20 := by decide
                              have HRw := Lib.hid hRw
                              have Hbq := Lib.hid hbq
                              clear hRw hbq
                              go_wp2_with (first
                                | (at_builtin; refine wpList_append_lies _ rfl (.tmp 133) (.tmp 139) 22 rfl wq.heap.size 9 i0 _ 1 16 Tryz.underlying22 hi0 hy0 hy1 hy2 rfl (by decide) (.slice (some ⟨g9, 0, none⟩) (l ++ x1).length cap9) (l ++ x1).length ((l ++ x1).map Value.string) rfl hrA ⟨wc.heap.size, 0, none⟩ 1 1 [.string (name ++ (⟨#[32]⟩ : ByteArray) ++ s ++ (⟨#[32, 101, 108, 115, 101, 119, 104, 101, 114, 101]⟩ : ByteArray))] rfl rfl (World.news_of_block (cs := #[.string (name ++ (⟨#[32]⟩ : ByteArray) ++ s ++ (⟨#[32, 101, 108, 115, 101, 119, 104, 101, 114, 101]⟩ : ByteArray))]) (t := 9) (fr := (0, 0)) (heap_alloc_new wc _)) (by simp [Value.oneCell']) (by decide) (by unfold maxLen; omega) (by omega) hbsA (wc.heap.size + 1) (by simp) ?_; intro yg yc yw yown ygr yloc ylt)
                                | fail)
                              have HN9 : Hid (Rl wq yw (.slice (some ⟨yg, 0, none⟩) ((l ++ x1).length + 1) yc) (l ++ x1 ++ [lineU name s wEl])) := Lib.hid (Rl.add (L := l ++ x1) (J := lineU name s wEl) yown ((Hbq.out.alloc Hbq.out.size (.cells #[.string (name ++ (⟨#[32]⟩ : ByteArray) ++ s ++ (⟨#[32, 101, 108, 115, 101, 119, 104, 101, 114, 101]⟩ : ByteArray))] 9)).grown ygr hbsA (fun j hj => by injection hj with hj; rw [← hj]; exact (HRw.out.lt g9 rfl).1)))
                              clear yown ygr yloc hrA hbsA HRw Hbq hll hJz hwz
                              go_meet
                              case rel => exact Lib.hid (by rw [he]; simpa using HN9.out)
                            · have h1' : decide (0 < cn ∧ wo ≠ some la) = false := decide_eq_false h1
                              have he : s2 name cn wo la s = [] := by unfold s2; rw [if_neg h1]
                              rw [h1']
                              clear h1 h1'
                              go_wp2_with fail
                              go_meet
                              case rel => exact Lib.hid (by rw [he, List.append_nil]; exact HR6.out)
                          case rest =>
                            have HR7 := hcut
                            clear HR6 hcut
                            have HT2 := Lib.hid (s2_len name cn wo la s)
                            generalize s2 name cn wo la s = x2 at *
                            go_upto_region 35 with fail
                            go_cut [149] from 141 to 148 (fun v wx => v = .bool (decide (0 < cn ∧ su = false)) ∧ Hid (Rl wq wx u14 (l ++ x1 ++ x2)))
                            case first =>
                              clear Hlv HDs HSh
                              by_cases h1 : 0 < cn
                              · have h1' : (0 : Int) < (cn : Int) := by omega
                                have HC := Lib.hid (Hsu2.out wc (by obtain ⟨_, _, _, _, h⟩ := HR7.out; exact h))
                                clear Hsu2
                                go_wp2_with fail
                                refine HC.out.mono ?_
                                rintro e w5 ⟨rfl, hb5⟩
                                have HR8 : Hid (Rl wq w5 u14 (l ++ x1 ++ x2)) := Lib.hid (by
                                  obtain ⟨g, cap, e, h1, h2⟩ := HR7.out
                                  exact ⟨g, cap, e, h1.below hb5, h2.trans (hb5.mono h2.size)⟩)
                                clear hb5 HC HR7
                                go_wp2_with fail
                                go_meet
                                case rel => exact ⟨by cases su <;> simp [h1], HR8⟩
                              · have h1' : ¬ (0 : Int) < (cn : Int) := by omega
                                clear Hsu2
                                go_wp2_with fail
                                go_meet
                                case rel => exact ⟨by simp [h1], Lib.hid (by first | exact HR7.out | (obtain ⟨g9, cap9, e9, q1, q2⟩ := HR7.out; exact ⟨g9, cap9, e9, q1.below ⟨rfl, rfl, rfl, Nat.le_refl _, fun _ _ => rfl⟩, q2.trans ⟨rfl, rfl, rfl, Nat.le_refl _, fun _ _ => rfl⟩⟩))⟩
                            case rest =>
                              obtain ⟨rfl, HR8⟩ := hcut
                              clear HR7 Hsu2
                              go_upto_if 149 with fail
                              go_cut [14, 149] from 150 to 157 (fun v _ wx => Hid (Rl wq wx v (l ++ x1 ++ x2 ++ s3 name cn su s)))
                              case first =>
                                clear Hlv HDs HSh
                                by_cases h1 : 0 < cn ∧ su = false
                                · have h1' : decide (0 < cn ∧ su = false) = true := decide_eq_true h1
                                  have he : s3 name cn su s = [lineU name s wUn] := by unfold s3; rw [if_pos h1]
                                  rw [h1']
                                  clear h1 h1'

                                  obtain ⟨g9, cap9, rfl, hRw, hbq⟩ := HR8.out
                                  have hll : (l ++ x1 ++ x2).length ≤ 1000000 := by have := HT.out; have := HT1.out; have := HT2.out; (try simp only [List.length_append]); omega
                                  have hrA : (wc.alloc (.cells #[.string (name ++ (⟨#[32]⟩ : ByteArray) ++ s ++ (⟨#[32, 117, 110, 115, 117, 114, 114, 101, 110, 100, 101, 114, 101, 100]⟩ : ByteArray))] 9)).ownsRow wq.heap.size 9 1 (.slice (some ⟨g9, 0, none⟩) (l ++ x1 ++ x2).length cap9) (l ++ x1 ++ x2).length ((l ++ x1 ++ x2).map Value.string) := hRw.alloc _
                                  have hbsA : wq.heap.size ≤ (wc.alloc (.cells #[.string (name ++ (⟨#[32]⟩ : ByteArray) ++ s ++ (⟨#[32, 117, 110, 115, 117, 114, 114, 101, 110, 100, 101, 114, 101, 100]⟩ : ByteArray))] 9)).heap.size := by have := hbq.size; simp; omega
                                  have hJz : (name ++ (⟨#[32]⟩ : ByteArray) ++ s ++ (⟨#[32, 117, 110, 115, 117, 114, 114, 101, 110, 100, 101, 114, 101, 100]⟩ : ByteArray)).size ≤ 300000000 := line_le3 name s hn hsz
                                  have hwz : (⟨#[32, 117, 110, 115, 117, 114, 114, 101, 110, 100, 101, 114, 101, 100]⟩ : ByteArray).size ≤ 20 := by decide
                                  have HRw := Lib.hid hRw
                                  have Hbq := Lib.hid hbq
                                  clear hRw hbq
                                  go_wp2_with (first
                                    | (at_builtin; refine wpList_append_lies _ rfl (.tmp 150) (.tmp 156) 22 rfl wq.heap.size 9 i0 _ 1 16 Tryz.underlying22 hi0 hy0 hy1 hy2 rfl (by decide) (.slice (some ⟨g9, 0, none⟩) (l ++ x1 ++ x2).length cap9) (l ++ x1 ++ x2).length ((l ++ x1 ++ x2).map Value.string) rfl hrA ⟨wc.heap.size, 0, none⟩ 1 1 [.string (name ++ (⟨#[32]⟩ : ByteArray) ++ s ++ (⟨#[32, 117, 110, 115, 117, 114, 114, 101, 110, 100, 101, 114, 101, 100]⟩ : ByteArray))] rfl rfl (World.news_of_block (cs := #[.string (name ++ (⟨#[32]⟩ : ByteArray) ++ s ++ (⟨#[32, 117, 110, 115, 117, 114, 114, 101, 110, 100, 101, 114, 101, 100]⟩ : ByteArray))]) (t := 9) (fr := (0, 0)) (heap_alloc_new wc _)) (by simp [Value.oneCell']) (by decide) (by unfold maxLen; omega) (by omega) hbsA (wc.heap.size + 1) (by simp) ?_; intro yg yc yw yown ygr yloc ylt)
                                    | fail)
                                  have HN9 : Hid (Rl wq yw (.slice (some ⟨yg, 0, none⟩) ((l ++ x1 ++ x2).length + 1) yc) (l ++ x1 ++ x2 ++ [lineU name s wUn])) := Lib.hid (Rl.add (L := l ++ x1 ++ x2) (J := lineU name s wUn) yown ((Hbq.out.alloc Hbq.out.size (.cells #[.string (name ++ (⟨#[32]⟩ : ByteArray) ++ s ++ (⟨#[32, 117, 110, 115, 117, 114, 114, 101, 110, 100, 101, 114, 101, 100]⟩ : ByteArray))] 9)).grown ygr hbsA (fun j hj => by injection hj with hj; rw [← hj]; exact (HRw.out.lt g9 rfl).1)))
                                  clear yown ygr yloc hrA hbsA HRw Hbq hll hJz hwz
                                  go_meet
                                  case rel => exact Lib.hid (by rw [he]; simpa using HN9.out)
                                · have h1' : decide (0 < cn ∧ su = false) = false := decide_eq_false h1
                                  have he : s3 name cn su s = [] := by unfold s3; rw [if_neg h1]
                                  rw [h1']
                                  clear h1 h1'
                                  go_wp2_with fail
                                  go_meet
                                  case rel => exact Lib.hid (by rw [he, List.append_nil]; exact HR8.out)
                              case rest =>
                                have HR9 := hcut
                                clear HR8 hcut
                                have HT3 := Lib.hid (s3_len name cn su s)
                                generalize s3 name cn su s = x3 at *
                                have HC := Lib.hid (Hlv.out wc (by obtain ⟨_, _, _, _, h⟩ := HR9.out; exact h))
                                go_wp2_with fail
                                refine HC.out.mono ?_
                                rintro e w5 ⟨rfl, hb5⟩
                                have HRa : Hid (Rl wq w5 u14 (l ++ x1 ++ x2 ++ x3)) := Lib.hid (by
                                  obtain ⟨g, cap, e, h1, h2⟩ := HR9.out
                                  exact ⟨g, cap, e, h1.below hb5, h2.trans (hb5.mono h2.size)⟩)
                                clear hb5 HC HR9 Hlv
                                have HEnd : Hid (∀ W v, Rl wq W v (l ++ x1 ++ x2 ++ x3 ++ s4 name lv wo s) → ∃ (k' : Nat) (l' : List ByteArray), k' ≤ M2.length ∧ (Value.int IntKind.i64 ((k2 : Int) + 1)) = .int .i64 (k' : Int) ∧ l'.length ≤ 4 * k' ∧ Hid (l' = docS (docD name CH out BL) (M2.take k')) ∧ Hid (Rl wq W v l')) := Lib.hid fun W v hW => ⟨k2 + 1, _, by omega, by go_num, by have := HT1.out; have := HT2.out; have := HT3.out; have := s4_len name lv wo s; simp only [List.length_append]; omega, Lib.hid (by rw [HDs.out, HSh.out]; simp only [List.append_assoc]), Lib.hid hW⟩
                                clear HDs HSh
                                cases lv with
                                | false =>
                                  have he : s4 name false wo s = [] := by unfold s4; rw [if_neg (by simp)]
                                  have HE2 := Lib.hid (HEnd.out w5 u14 (by rw [he, List.append_nil]; exact HRa.out))
                                  clear HEnd HRa
                                  go_wp2_with fail
                                  go_roundw
                                  case rel => exact HE2.out
                                  case measure => simp [intOf]; omega
                                | true =>
                                  by_cases hw : wo ≠ some name
                                  · have he : s4 name true wo s = [lineU name s wGo] := by unfold s4; rw [if_pos ⟨rfl, hw⟩]
                                    rw [he] at HEnd
                                    clear he
                                    cases wo with
                                    | none =>
                                      simp only [Option.isSome_none, Option.getD_none]
                                      clear hw
                                      obtain ⟨g9, cap9, rfl, hRw, hbq⟩ := HRa.out
                                      have hll : (l ++ x1 ++ x2 ++ x3).length ≤ 1000000 := by have := HT.out; have := HT1.out; have := HT2.out; have := HT3.out; (try simp only [List.length_append]); omega
                                      have hrA : (w5.alloc (.cells #[.string (name ++ (⟨#[32]⟩ : ByteArray) ++ s ++ (⟨#[32, 103, 111, 110, 101]⟩ : ByteArray))] 9)).ownsRow wq.heap.size 9 1 (.slice (some ⟨g9, 0, none⟩) (l ++ x1 ++ x2 ++ x3).length cap9) (l ++ x1 ++ x2 ++ x3).length ((l ++ x1 ++ x2 ++ x3).map Value.string) := hRw.alloc _
                                      have hbsA : wq.heap.size ≤ (w5.alloc (.cells #[.string (name ++ (⟨#[32]⟩ : ByteArray) ++ s ++ (⟨#[32, 103, 111, 110, 101]⟩ : ByteArray))] 9)).heap.size := by have := hbq.size; simp; omega
                                      have hJz : (name ++ (⟨#[32]⟩ : ByteArray) ++ s ++ (⟨#[32, 103, 111, 110, 101]⟩ : ByteArray)).size ≤ 300000000 := line_le4 name s hn hsz
                                      have hwz : (⟨#[32, 103, 111, 110, 101]⟩ : ByteArray).size ≤ 20 := by decide
                                      have HRw := Lib.hid hRw
                                      have Hbq := Lib.hid hbq
                                      clear hRw hbq
                                      go_wp2_with (first
                                        | (at_builtin; refine wpList_append_lies _ rfl (.tmp 170) (.tmp 176) 22 rfl wq.heap.size 9 i0 _ 1 16 Tryz.underlying22 hi0 hy0 hy1 hy2 rfl (by decide) (.slice (some ⟨g9, 0, none⟩) (l ++ x1 ++ x2 ++ x3).length cap9) (l ++ x1 ++ x2 ++ x3).length ((l ++ x1 ++ x2 ++ x3).map Value.string) rfl hrA ⟨w5.heap.size, 0, none⟩ 1 1 [.string (name ++ (⟨#[32]⟩ : ByteArray) ++ s ++ (⟨#[32, 103, 111, 110, 101]⟩ : ByteArray))] rfl rfl (World.news_of_block (cs := #[.string (name ++ (⟨#[32]⟩ : ByteArray) ++ s ++ (⟨#[32, 103, 111, 110, 101]⟩ : ByteArray))]) (t := 9) (fr := (0, 0)) (heap_alloc_new w5 _)) (by simp [Value.oneCell']) (by decide) (by unfold maxLen; omega) (by omega) hbsA (w5.heap.size + 1) (by simp) ?_; intro yg yc yw yown ygr yloc ylt)
                                        | fail)
                                      have HN9 : Hid (Rl wq yw (.slice (some ⟨yg, 0, none⟩) ((l ++ x1 ++ x2 ++ x3).length + 1) yc) (l ++ x1 ++ x2 ++ x3 ++ [lineU name s wGo])) := Lib.hid (Rl.add (L := l ++ x1 ++ x2 ++ x3) (J := lineU name s wGo) yown ((Hbq.out.alloc Hbq.out.size (.cells #[.string (name ++ (⟨#[32]⟩ : ByteArray) ++ s ++ (⟨#[32, 103, 111, 110, 101]⟩ : ByteArray))] 9)).grown ygr hbsA (fun j hj => by injection hj with hj; rw [← hj]; exact (HRw.out.lt g9 rfl).1)))
                                      clear yown ygr yloc hrA hbsA HRw Hbq hll hJz hwz
                                      have HE2 := Lib.hid (HEnd.out yw _ HN9.out)
                                      clear HEnd HN9
                                      go_wp2_with fail
                                      go_roundw
                                      case rel => simpa using HE2.out
                                      case measure => simp [intOf]; omega
                                    | some ww =>
                                      simp only [Option.isSome_some, Option.getD_some]
                                      have hwl : ¬ ww = name := fun e => hw (by rw [e])
                                      have hq : (ww.toList != name.toList) = true := by simpa using fun e => hwl (tl_inj e)
                                      have hq2 : (ww.toList == name.toList) = false := by simpa using fun e => hwl (tl_inj e)
                                      have hq3 : ¬ ww.toList = name.toList := fun e => hwl (tl_inj e)
                                      clear hw hwl
                                      obtain ⟨g9, cap9, rfl, hRw, hbq⟩ := HRa.out
                                      have hll : (l ++ x1 ++ x2 ++ x3).length ≤ 1000000 := by have := HT.out; have := HT1.out; have := HT2.out; have := HT3.out; (try simp only [List.length_append]); omega
                                      have hrA : (w5.alloc (.cells #[.string (name ++ (⟨#[32]⟩ : ByteArray) ++ s ++ (⟨#[32, 103, 111, 110, 101]⟩ : ByteArray))] 9)).ownsRow wq.heap.size 9 1 (.slice (some ⟨g9, 0, none⟩) (l ++ x1 ++ x2 ++ x3).length cap9) (l ++ x1 ++ x2 ++ x3).length ((l ++ x1 ++ x2 ++ x3).map Value.string) := hRw.alloc _
                                      have hbsA : wq.heap.size ≤ (w5.alloc (.cells #[.string (name ++ (⟨#[32]⟩ : ByteArray) ++ s ++ (⟨#[32, 103, 111, 110, 101]⟩ : ByteArray))] 9)).heap.size := by have := hbq.size; simp; omega
                                      have hJz : (name ++ (⟨#[32]⟩ : ByteArray) ++ s ++ (⟨#[32, 103, 111, 110, 101]⟩ : ByteArray)).size ≤ 300000000 := line_le4 name s hn hsz
                                      have hwz : (⟨#[32, 103, 111, 110, 101]⟩ : ByteArray).size ≤ 20 := by decide
                                      have HRw := Lib.hid hRw
                                      have Hbq := Lib.hid hbq
                                      clear hRw hbq
                                      go_wp2_with (first
                                        | (at_builtin; refine wpList_append_lies _ rfl (.tmp 170) (.tmp 176) 22 rfl wq.heap.size 9 i0 _ 1 16 Tryz.underlying22 hi0 hy0 hy1 hy2 rfl (by decide) (.slice (some ⟨g9, 0, none⟩) (l ++ x1 ++ x2 ++ x3).length cap9) (l ++ x1 ++ x2 ++ x3).length ((l ++ x1 ++ x2 ++ x3).map Value.string) rfl hrA ⟨w5.heap.size, 0, none⟩ 1 1 [.string (name ++ (⟨#[32]⟩ : ByteArray) ++ s ++ (⟨#[32, 103, 111, 110, 101]⟩ : ByteArray))] rfl rfl (World.news_of_block (cs := #[.string (name ++ (⟨#[32]⟩ : ByteArray) ++ s ++ (⟨#[32, 103, 111, 110, 101]⟩ : ByteArray))]) (t := 9) (fr := (0, 0)) (heap_alloc_new w5 _)) (by simp [Value.oneCell']) (by decide) (by unfold maxLen; omega) (by omega) hbsA (w5.heap.size + 1) (by simp) ?_; intro yg yc yw yown ygr yloc ylt)
                                        | fail)
                                      have HN9 : Hid (Rl wq yw (.slice (some ⟨yg, 0, none⟩) ((l ++ x1 ++ x2 ++ x3).length + 1) yc) (l ++ x1 ++ x2 ++ x3 ++ [lineU name s wGo])) := Lib.hid (Rl.add (L := l ++ x1 ++ x2 ++ x3) (J := lineU name s wGo) yown ((Hbq.out.alloc Hbq.out.size (.cells #[.string (name ++ (⟨#[32]⟩ : ByteArray) ++ s ++ (⟨#[32, 103, 111, 110, 101]⟩ : ByteArray))] 9)).grown ygr hbsA (fun j hj => by injection hj with hj; rw [← hj]; exact (HRw.out.lt g9 rfl).1)))
                                      clear yown ygr yloc hrA hbsA HRw Hbq hll hJz hwz
                                      have HE2 := Lib.hid (HEnd.out yw _ HN9.out)
                                      clear HEnd HN9
                                      go_wp2_with fail
                                      go_roundw
                                      case rel => simpa using HE2.out
                                      case measure => simp [intOf]; omega
                                  · have hw2 : wo = some name := Decidable.byContradiction hw
                                    subst hw2
                                    have he : s4 name true (some name) s = [] := by unfold s4; rw [if_neg (by simp)]
                                    have HE2 := Lib.hid (HEnd.out w5 u14 (by rw [he, List.append_nil]; exact HRa.out))
                                    simp only [Option.isSome_some, Option.getD_some]
                                    have hq : (name.toList != name.toList) = false := by simp
                                    have hq2 : (name.toList == name.toList) = true := by simp
                                    clear HEnd HRa hw
                                    go_wp2_with fail
                                    go_roundw
                                    case rel => exact HE2.out
                                    case measure => simp [intOf]; omega
                · have h2' : ¬ (k2 : Int) < (M2.length : Int) := by omega
                  have hke : M2.take k2 = M2 := List.take_of_length_le (by omega)
                  obtain ⟨g, cap, rfl, hRw, hbq⟩ := HRo.out
                  have HF2 := Lib.hid (HF.out (some ⟨g, 0, none⟩) cap wr l (by rw [Hout.out, hke, HM'.out]) (Rs.of_row hRw) (HBd.out _ hbq))
                  clear HF hRw hbq Hout hke HRo
                  go_wp2_with fail
                  first
                    | exact HF2.out
                    | (go_ret; exact HF2.out)
end Go.Proofs.YtdinloecgaapaaaGreatDoor
