/- The law AuditShips. The frame's common parts. -/
import Derived.Test.YtdinloecgaapaaaGreatDoorMHShip
import Derived.Test.YtdinloecgaapaaaGreatDoorHRef
import Derived.Test.YtdinloecgaapaaaGreatDoorMHEq
import Derived.Test.YtdinloecgaapaaaGreatDoorMHOpen
import Derived.Test.YtdinloecgaapaaaGreatDoorAAwake
import Derived.Test.YtdinloecgaapaaaGreatDoorCards
import Derived.Test.YtdinloecgaapaaaGreatDoorTie
import Derived.ProofKit
import Derived.OpenShut
import Derived.Deep.DeepHandedRow
import Derived.ShutString
import Derived.ChangeOld
import Derived.Deep.Slices
import Derived.Deep.Fields
import Derived.ChangeSame
namespace Go.Proofs.YtdinloecgaapaaaGreatDoor
open Go.RowKit Go.Maps Go.Lib Go.Sort
set_option linter.unusedVariables false
set_option maxRecDepth 100000

theorem Ra.moreU {w : World} {B B' : Nat} {A : Option Addr} {L : List Aa} (h : Ra w B A L) (hB : B ≤ B') : Ra w B' A L := fun hl => by
  obtain ⟨g, off, e, hg, hc⟩ := h hl
  exact ⟨g, off, e, by omega, fun i a ha => ⟨(hc i a ha).1, (hc i a ha).2.1.more hB, (hc i a ha).2.2.1.more hB, (hc i a ha).2.2.2⟩⟩
theorem infoWho : (Tryz.prog.info? 50).map (fun i => (i.zero, i.size, i.bytes)) = some (some (.agg #[.string ⟨#[]⟩, .string ⟨#[]⟩]), 2, 32) := by kernel_rfl
theorem flat2 (L : List Wh) (i : Nat) (p : Wh) (h : L[i]? = some p) : (L.flatMap whC)[i * 2]? = some (.string p.1) ∧ (L.flatMap whC)[i * 2 + 1]? = some (.string p.2) :=
  ⟨(flat_at whC 2 (fun _ => rfl) L i p h 0 (by omega)).trans rfl, (flat_at whC 2 (fun _ => rfl) L i p h 1 (by omega)).trans rfl⟩
theorem rwh_row {w : World} {base : Nat} {A : Option Addr} {c : Nat} {L : List Wh} (h : w.ownsRow base 50 2 (.slice A L.length c) L.length (L.flatMap whC)) : Rwh w w.heap.size A L := fun hl => by
  rcases h.2 with ⟨h1, h2⟩ | ⟨g, cap, cur, e, hb, hg, h4, h5, h6, h7⟩
  · omega
  · injection e with e _ _
    have hat : ∀ j v, (L.flatMap whC)[j]? = some v → w.cell? ⟨g, j, none⟩ = some v := fun j v hv => by
      rw [cell_of hg j, ← Array.getElem?_toList]
      rw [← h7, List.getElem?_take] at hv
      split at hv
      · exact hv
      · cases hv
    exact ⟨g, e, lt_of_some hg, fun i p hp => ⟨hat _ _ (flat2 L i p hp).1, hat _ _ (flat2 L i p hp).2⟩⟩
theorem whL_step (H : ByteArray → List Hn) (keys : List ByteArray) (k : Nat) (h : k < keys.length) : whL H (keys.take (k + 1)) = whL H (keys.take k) ++ [(keys[k], (whoOf H keys[k]).getD ⟨#[]⟩)] := by
  rw [List.take_succ_eq_append_getElem h]
  unfold whL
  rw [List.map_append]
  rfl
theorem whL_len (H : ByteArray → List Hn) (keys : List ByteArray) : (whL H keys).length = keys.length := by simp [whL]
theorem Sr.keepU {w w' : World} {A : Option Addr} {L : List ByteArray} (h : Sr w A L) (hk : KpU w w') : Sr w' A L := h.keep fun g cs hg => hk g _ hg (notU_cells (by decide))
/-- how far the chain's row has come -/
structure Lh (wb w6 w : World) (A : Option Addr) (c : Nat) (CH : List Wh) : Prop where
  row : w.ownsRow wb.heap.size 50 2 (.slice A CH.length c) CH.length (CH.flatMap whC)
  ku : KpU w6 w
  bel : Below wb.heap.size wb w
theorem Lh.below {wb w6 w w' : World} {A : Option Addr} {c : Nat} {CH : List Wh} (h : Lh wb w6 w A c CH) (hb : Below w.heap.size w w') : Lh wb w6 w' A c CH := ⟨ownsRow_kp h.row (Kp.of_below (fun _ => False) hb) (fun _ _ e => e), h.ku.trans (KpU.below hb), h.bel.trans (hb.mono h.bel.size)⟩
theorem Lh.add {wb w6 w w' : World} {A : Option Addr} {c : Nat} {CH : List Wh} (h : Lh wb w6 w A c CH) {g cap : Nat} (p : Wh) (hown : w'.ownsRow wb.heap.size 50 2 (.slice (some ⟨g, 0, none⟩) (CH.length + 1) cap) (CH.length + 1) (CH.flatMap whC ++ whC p)) (hg : (w.alloc (.cells #[.string p.1, .string p.2] 50)).grownBy w' (Value.slice A CH.length c).ownBlock) : Lh wb w6 w' (some ⟨g, 0, none⟩) cap (CH ++ [p]) := by
  have hal : Below w.heap.size w (w.alloc (.cells #[.string p.1, .string p.2] 50)) := (Below.refl _ _).alloc (Nat.le_refl _) _
  have hrA := h.row.alloc (.cells #[.string p.1, .string p.2] 50)
  refine ⟨?_, h.ku.trans ((KpU.below hal).trans (KpU.grown hrA hg)), (h.bel.trans (hal.mono h.bel.size)).grown hg (Nat.le_trans h.bel.size hal.size) (fun j hj => (hrA.lt j hj).1)⟩
  rw [List.flatMap_append, List.length_append]
  simpa using hown
theorem flat_lenU {α β : Type} (l : List α) (f : α → List β) (c : Nat) (h : ∀ x ∈ l, (f x).length ≤ c) : (l.flatMap f).length ≤ c * l.length := by
  induction l with
  | nil => simp
  | cons x l ih =>
    have h1 := ih fun y hy => h y (List.mem_cons_of_mem _ hy)
    have h2 := h x (List.mem_cons_self ..)
    rw [List.flatMap_cons, List.length_append, List.length_cons, Nat.mul_add]
    omega
theorem docS_len (D : Shp) (M : List ByteArray) : (docS D M).length ≤ 4 * M.length := flat_lenU M (shipL D) 4 fun s _ => by
  have h1 := s1_len D.name (cntO D.out s) s
  have h2 := s2_len D.name (cntO D.out s) (D.wh s) (lastO D.out s) s
  have h3 := s3_len D.name (cntO D.out s) (D.su (lastO D.out s, s)) s
  have h4 := s4_len D.name (D.lv s) (D.wh s) s
  unfold shipL
  simp only [List.length_append]
  omega
theorem docM_len (ch : List Wh) (out : List Hn) (L : List Bm) (h : ∀ m ∈ L, m.x.l.length ≤ 64) : (docM ch out L).length ≤ ch.length + out.length + 64 * L.length := by
  have h1 := puts_len (ch.map (·.1) ++ out.map (·.bx) ++ boxL L) []
  have h2 : (boxL L).length ≤ 64 * L.length := flat_lenU L (fun m => m.x.l) 64 h
  simp only [List.length_append, List.length_map, List.length_nil] at h1
  unfold docM
  omega

set_option maxHeartbeats 8000000 in
theorem ships_any (name : ByteArray) (L : List Aa) (LA : Option Addr) (lc : Nat) (HD : List Hn) (HA : Option Addr) (hc : Nat) (out : List Hn) (OA : Option Addr) (oc : Nat) (w : World) (hL : Ra w w.heap.size LA L) (hH : Rho w w.heap.size HA HD) (hO : Rho w w.heap.size OA out)
    (hLl : L.length ≤ 1048576) (hHl : HD.length ≤ 1048576) (hOl : out.length ≤ 1048576) (hHs : ∀ x ∈ HD, HnOk x) (hOs : ∀ x ∈ out, HnOk x) (hnm : name.size ≤ 1048576) :
    Calls Tryz.prog 4 #[.string name, .slice LA L.length lc, .slice HA HD.length hc, .slice OA out.length oc] w fun e w' => e = .returned (.bool true) ∧ Below w.heap.size w w' := by
  obtain ⟨i6, hi6, hy60, hy61, hy62⟩ := info_parts infoWho
  have HL := Lib.hid hL
  have HH := Lib.hid hH
  have HO := Lib.hid hO
  have HHs := Lib.hid hHs
  have HOs := Lib.hid hOs
  clear hL hH hO hHs hOs
  generalize hCP : (fun (e : Ending) (w' : World) => e = .returned (.bool true) ∧ Below w.heap.size w w') = CP
  have HF : Hid (∀ w', Below w.heap.size w w' → CP (.returned (.bool true)) w') := Lib.hid fun w' h => by rw [← hCP]; exact ⟨rfl, h⟩
  clear hCP
  go_enter Tryz.func4, Tryz.ntmps4
  go_wp2_with fail
  refine (awake_any _).mono ?_
  rintro e w1 ⟨rfl, hb1⟩
  have HB1 := Lib.hid hb1
  have HFw := Lib.hid (few_r L LA lc w1 ((HL.out.below hb1).moreU hb1.size) (by omega))
  clear hb1
  go_wp2_with fail
  refine HFw.out.mono ?_
  rintro e w2 ⟨ok, rfl, hok, hb2⟩
  have HB2 := Lib.hid (HB1.out.trans (hb2.mono HB1.out.size))
  clear hb2 HFw HB1
  have HAw := Lib.hid (awake_any w2)
  have HF1 : Hid (∀ w', Below w2.heap.size w2 w' → CP (.returned (.bool true)) w') := Lib.hid fun w' h => HF.out w' (HB2.out.trans (h.mono HB2.out.size))
  cases ok with
  | false =>
    clear HF HL HH HO HHs HOs hok
    go_wp2_with fail
    refine HAw.out.mono ?_
    rintro e w3 ⟨rfl, hb3⟩
    have HF2 := Lib.hid (HF1.out w3 hb3)
    clear hb3 HF1
    go_wp2_with fail
    first
      | exact HF2.out
      | (go_ret; exact HF2.out)
  | true =>
    have h41 := hok (by first | trivial | rfl)
    clear hok
    by_cases hH30 : HD.length ≤ 30
    · have q1 : ¬ (30 : Int) < (HD.length : Int) := by omega
      by_cases hO30 : out.length ≤ 30
      · have q2 : ¬ (30 : Int) < (out.length : Int) := by omega
        have HRg := Lib.hid (registered_r name L LA lc w2 ((HL.out.below HB2.out).moreU HB2.out.size) (by omega))
        clear HF1 HAw
        go_wp2_with fail
        refine HRg.out.mono ?_
        rintro e w3 ⟨rfl, hreg3, hb3⟩
        obtain ⟨b3, n3, G, S, hR3⟩ := hreg3
        have HR3 := Lib.hid hR3
        have HB3 := Lib.hid hb3
        have hn41 : n3 ≤ 41 := by have := hR3.num; omega
        have HNw := Lib.hid (newC_c w3)
        clear hR3 hb3 HRg
        go_wp2_with fail
        refine HNw.out.mono ?_
        rintro e w4 ⟨rfl, hC4, hb4⟩
        have HC4 := Lib.hid hC4
        have HB4 := Lib.hid hb4
        clear hC4 hb4 HNw
        have hw3 : w2.heap.size ≤ w3.heap.size := HB3.out.size
        generalize hbr : w2.heap.size + 1 = rr at *
        generalize hbp : w3.heap.size + 1 = pp at *
        go_wp2_with fail
        go_loopw [43] (fun i wr => ∃ k : Nat, k ≤ HD.length ∧ i = .int .i64 k ∧ Hid (Chn wr w3.heap.size pp k) ∧ Hid (Below w3.heap.size w3 wr)) (fun i _ => HD.length - (RowKit.intOf i).toNat)
        case atStart => exact ⟨0, Nat.zero_le _, rfl, HC4, HB4⟩
        case round =>
          clear HC4 HB4
          obtain ⟨k, hk, rfl, HC, HB⟩ := hrel
          by_cases hlt : k < HD.length
          · have hlt' : (k : Int) < (HD.length : Int) := by omega
            have hbw : Below w.heap.size w wr := HB2.out.trans ((HB3.out.trans (HB.out.mono HB3.out.size)).mono HB2.out.size)
            obtain ⟨g, off, rfl, hg, hr⟩ := (HH.out.below hbw).at_ hlt
            have hok := HHs.out _ (List.getElem_mem hlt)
            clear hbw
            generalize HD[k] = x at *
            obtain ⟨hb5, hz5⟩ := laid_below wr znA (hnA x) 41
            have hm := heap_alloc_new wr (.cells znA 41)
            obtain ⟨W1, hW1⟩ : ∃ W1, W1 = wr.alloc (.cells znA 41) := ⟨_, rfl⟩
            rw [← hW1] at hb5 hz5 hm
            have l0 := laid_act W1 wr.heap.size znA (hnA x) _ _ hm
            have HM := Lib.hid hm
            obtain ⟨W2, hW2⟩ : ∃ W2, W2 = W1.setRow wr.heap.size (hnA x) := ⟨_, rfl⟩
            rw [← hW2] at hb5 hz5 l0
            have d0 : W2.cell? ⟨wr.heap.size, 0, none⟩ = some (.string x.bx) := cell_of l0 0
            have d1 : W2.cell? ⟨wr.heap.size, 1, none⟩ = some (.string x.fr) := cell_of l0 1
            have d2 : W2.cell? ⟨wr.heap.size, 2, none⟩ = some (.string x.tt) := cell_of l0 2
            have d3 : W2.cell? ⟨wr.heap.size, 3, none⟩ = some (.string x.pl) := cell_of l0 3
            have d4 : W2.cell? ⟨wr.heap.size, 4, none⟩ = some (.int .i64 x.day) := cell_of l0 4
            have HB5 := Lib.hid hb5
            have HC5 := Lib.hid (HC.out.below hb5)
            have HR' := Lib.hid hr
            have HOn := Lib.hid (hnA_one x)
            have HIb := Lib.hid (show (Tryz.prog.info? 41).map (·.size) = some (hnA x).toList.length from infoHn)
            have HIs := Lib.hid (show (Tryz.prog.info? 41).map (·.size) = some (hnA x).size from infoHn)
            have HSz := Lib.hid (show znA.size = (hnA x).size from rfl)
            have HR2 := Lib.hid (show W2.rangeAt wr.heap.size 0 (hnA x).toList from fun j v hv => by rw [Nat.zero_add, cell_of l0 j, ← Array.getElem?_toList]; exact hv)
            have HBg := Lib.hid (begin_c w3.heap.size pp k x.bx x.tt x.pl x.day W2 HC5.out (by omega) (by have := hok.b; omega) (by have := hok.t; omega) (by have := hok.p; omega))
            have HHd := Lib.hid (hand_c w3.heap.size pp k x W2 HC5.out (by omega) (by have := hok.b; omega) (by have := hok.f; omega) (by have := hok.t; omega) (by have := hok.p; omega))
            have HNx : Hid (∀ e w5, OcP w3.heap.size pp k W2 e w5 → ∃ v, e = .returned v ∧ Hid (Chn w5 w3.heap.size pp (k + 1)) ∧ Hid (Below w3.heap.size w3 w5)) := Lib.hid fun e w5 ⟨v, h1, h2, h3⟩ => ⟨v, h1, Lib.hid h2, Lib.hid ((HB.out.trans (HB5.out.mono HB.out.size)).trans h3)⟩
            clear hr hm l0 hb5 hz5 hok
            unfold znA at hW1
            by_cases hfr : x.fr = ⟨#[]⟩
            · have hq : (x.fr.toList == []) = true := by rw [hfr]; simp
              clear HHd HR2 hfr
              generalize hV : hnA x = V at *
              clear hV
              go_wp2_with (first
                | (have _t := hW1; clear _t; refine wpList_load_mid rfl 41 (.tmp 45) rfl g (off + k * 5) rfl V.toList _ HR'.out Tryz.underlying41 rfl HIb.out ?_)
                | (rw [← hW1]; clear hW1; refine wpList_store_row rfl 41 (.tmp 12) (.tmp 46) rfl wr.heap.size V rfl rfl 41 _ HM.out HIs.out HSz.out HOn.out ?_; rw [← hW2]; clear hW2)
                | fail)
              refine HBg.out.mono ?_
              intro e w5 he
              obtain ⟨v, rfl, HC6, HB6⟩ := HNx.out e w5 he
              clear he HNx HBg HC HB HC5 HB5
              go_wp2_with fail
              exact ⟨⟨k + 1, by omega, by go_num, HC6, HB6⟩, by simp [RowKit.intOf]; omega⟩
            · have hq : (x.fr.toList == []) = false := by simpa using fun e2 => hfr (tl_inj e2)
              clear HBg hfr
              generalize hV : hnA x = V at *
              clear hV
              go_wp2_with (first
                | (have _t := hW1; clear _t; refine wpList_load_mid rfl 41 (.tmp 45) rfl g (off + k * 5) rfl V.toList _ HR'.out Tryz.underlying41 rfl HIb.out ?_)
                | (rw [← hW1]; clear hW1; refine wpList_store_row rfl 41 (.tmp 12) (.tmp 46) rfl wr.heap.size V rfl rfl 41 _ HM.out HIs.out HSz.out HOn.out ?_; rw [← hW2]; clear hW2)
                | (refine wpList_load_mid rfl 41 (.tmp 12) rfl wr.heap.size 0 rfl V.toList _ HR2.out Tryz.underlying41 rfl HIb.out ?_)
                | fail)
              refine HHd.out.mono ?_
              intro e w5 he
              obtain ⟨v, rfl, HC6, HB6⟩ := HNx.out e w5 he
              clear he HNx HHd HC HB HC5 HB5
              go_wp2_with fail
              exact ⟨⟨k + 1, by omega, by go_num, HC6, HB6⟩, by simp [RowKit.intOf]; omega⟩
          · have hlt' : ¬ (k : Int) < (HD.length : Int) := by omega
            have HR4 := Lib.hid (HR3.out.below HB.out)
            have HB4 := Lib.hid (show Below w.heap.size w wr from HB2.out.trans ((HB3.out.trans (HB.out.mono HB3.out.size)).mono HB2.out.size))
            have hwr : w3.heap.size ≤ wr.heap.size := HB.out.size
            obtain ⟨b4, H, hC4⟩ := HC.out.more (show k ≤ 30 by omega)
            have HC4 := Lib.hid hC4
            clear hC4 HC HB HR3 HB3 HB2 hk hlt HH HHs HL
            have hal := alloc_at wr (.cells #[] 50)
            have HBx := Lib.hid (boxes_c w3.heap.size pp b4 30 H (wr.alloc (.cells #[] 50)) (HC4.out.below hal.1) (by omega))
            have HV0 : Hid (Lh wr (wr.alloc (.cells #[] 50)) (wr.alloc (.cells #[] 50)) (some ⟨wr.heap.size, 0, none⟩) 0 []) := Lib.hid ⟨World.ownsRow_made wr #[] 0 (Nat.le_refl _) (Nat.zero_le _) rfl, fun _ _ h _ => h, hal.1⟩
            go_wp2_with fail
            refine HBx.out.mono ?_
            rintro e w6 ⟨A9, c9, keys, rfl, _, hmem, hkl, hown, hb6⟩
            obtain ⟨A9', c9', he9, hsr9⟩ := sr_of_row rfl hown
            injection he9 with he9 _ he9c
            subst he9 he9c
            have HKy := Lib.hid (And.intro hsr9 hmem)
            have HV6 : Hid (Lh wr w6 w6 (some ⟨wr.heap.size, 0, none⟩) 0 []) := Lib.hid (by
              have h := HV0.out.below hb6
              exact ⟨h.row, fun _ _ h _ => h, h.bel⟩)
            have HR6 := Lib.hid (HR4.out.below HV6.out.bel)
            have HC6 := Lib.hid (HC4.out.below HV6.out.bel)
            clear hown hb6 hsr9 hmem HBx HV0 hal HR4 HC4
            obtain ⟨wb, rfl⟩ : ∃ wb : World, wb = wr := ⟨_, rfl⟩
            have hkl' : (keys.length : Int) ≤ 30 := by omega
            go_wp2_with fail
            go_loopw [13, 68] (fun v i wr => ∃ (k : Nat) (A : Option Addr) (c : Nat) (CH : List Wh), k ≤ keys.length ∧ i = .int .i64 (k : Int) ∧ v = .slice A CH.length c ∧ CH.length = k ∧ Hid (CH = whL H (keys.take k)) ∧ Hid (Lh wb w6 wr A c CH)) (fun _ i _ => keys.length - (RowKit.intOf i).toNat)
            case atStart => exact ⟨0, _, _, [], Nat.zero_le _, rfl, rfl, rfl, Lib.hid rfl, HV6⟩
            case round =>
              clear HV6
              obtain ⟨k, A, c, CH, hk, rfl, rfl, hCk, HCh, HV⟩ := hrel
              subst hCk
              by_cases hlt : CH.length < keys.length
              · have hlt' : (CH.length : Int) < (keys.length : Int) := by omega
                obtain ⟨g9, o9, rfl, hg9, hc9⟩ := (HKy.out.1.keepU HV.out.ku).rs.at_ hlt
                have hs16 := HC6.out.key _ ((HKy.out.2 _).1 (List.getElem_mem hlt))
                have HSt := Lib.hid (whL_step H keys CH.length hlt)
                generalize keys[CH.length] = s at *
                have HNw := Lib.hid (now_c w3.heap.size pp b4 30 H s wr (HC6.out.keepU HV.out.ku) (by unfold maxLen; omega) (by omega))
                go_wp2_with fail
                refine HNw.out.mono ?_
                rintro e w7 ⟨pl, rfl, hb7⟩
                have HV7 := Lib.hid (HV.out.below hb7)
                clear hb7 HNw hc9 HV
                generalize (whoOf H s).getD ⟨#[]⟩ = t at *
                generalize (whoOf H s).isSome = ok at *
                have hrA := HV7.out.row.alloc (.cells #[.string s, .string t] 50)
                have hbsA : wb.heap.size ≤ (w7.alloc (.cells #[.string s, .string t] 50)).heap.size := by have := HV7.out.bel.size; simp; omega
                go_wp2_with (first
                  | (at_builtin; refine wpList_append_lies _ rfl (.tmp 79) (.tmp 83) 45 rfl wb.heap.size 50 i6 _ 2 32 Tryz.underlying45 hi6 hy60 hy61 hy62 rfl (by decide) (.slice A CH.length c) CH.length (CH.flatMap whC) rfl hrA ⟨w7.heap.size, 0, none⟩ 1 1 [.string s, .string t] rfl rfl (World.news_of_block (cs := #[.string s, .string t]) (t := 50) (fr := (0, 0)) (heap_alloc_new w7 _)) (by simp [Value.oneCell']) (by decide) (by unfold maxLen; omega) (by omega) hbsA (w7.heap.size + 1) (by simp) ?_; intro yg yc yw yown ygr yloc ylt)
                  | fail)
                have HV9 := Lib.hid (HV7.out.add (s, t) yown ygr)
                have HCh9 := Lib.hid (show CH ++ [(s, t)] = whL H (keys.take (CH.length + 1)) from by rw [HSt.out, ← HCh.out])
                clear yown ygr yloc hrA hbsA HV7 HCh HSt
                go_wp2_with fail
                exact ⟨⟨CH.length + 1, _, _, CH ++ [(s, t)], by omega, by go_num, by simp, by simp, HCh9, HV9⟩, by simp [RowKit.intOf]; omega⟩
              · have hlt' : ¬ (CH.length : Int) < (keys.length : Int) := by omega
                have hke : keys.take CH.length = keys := List.take_of_length_le (by omega)
                rw [hke] at HCh
                have HBr := Lib.hid (HB4.out.trans (HV.out.bel.mono HB4.out.size))
                have HRr := Lib.hid (HR6.out.keepU HV.out.ku)
                have HCr := HC6.out.keepU HV.out.ku
                have HSp := Lib.hid (ship_r name w2.heap.size rr L.length b3 n3 name G S w3.heap.size pp b4 30 H OA oc out wr HRr.out (by omega) HCr (by omega) ((HO.out.below HBr.out).more HBr.out.size) (by omega) (fun h hh => ⟨by have := (HOs.out h hh).b; omega, by have := (HOs.out h hh).t; omega⟩) (by omega))
                clear HCr
                go_wp2_with fail
                refine HSp.out.mono ?_
                rintro e w7 ⟨A7, c7, M, D, rfl, hS, hm, e1, e2, e3, e4, e5, hR7, hb7⟩
                have HV7 := Lib.hid (HV.out.below hb7)
                have HR7 := Lib.hid (HRr.out.below hb7)
                have HRs7 := Lib.hid hR7
                have HP := Lib.hid (And.intro hS (And.intro hm (And.intro e1 (And.intro e2 (And.intro e3 (And.intro e4 e5))))))
                have HB7 := Lib.hid (HBr.out.trans (hb7.mono HBr.out.size))
                have HBi := Lib.hid (billsOf_r w2.heap.size rr L.length b3 n3 name G S w7 HR7.out (by omega))
                clear hS hm e1 e2 e3 e4 e5 hR7 hb7 HSp HV HRr HBr HR6
                go_wp2_with fail
                refine HBi.out.mono ?_
                rintro e w8 ⟨BA, bc, BL, rfl, hBw, hBx, hBl, hb8⟩
                have HV8 := Lib.hid (HV7.out.below hb8)
                have HRs8 := Lib.hid ((HRs7.out.below hb8).more hb8.size)
                have HB8 := Lib.hid (HB7.out.trans (hb8.mono HB7.out.size))
                have HBx := Lib.hid hBx
                have hfit : ∀ m ∈ BL, m.x.l.length ≤ 64 ∧ ∀ s ∈ m.x.l, s.size ≤ 16 := fun m hm => by
                  obtain ⟨k9, e9, hG, hS⟩ := (hBx m.x).1 ⟨m, hm, rfl⟩
                  exact ⟨(HR7.out.fit e9 m.x hS).l, (HR7.out.fit e9 m.x hS).b⟩
                have hCs : ∀ q ∈ CH, q.1.size ≤ 16 := fun q hq => by
                  rw [HCh.out] at hq
                  obtain ⟨y, hy, rfl⟩ := List.mem_map.1 hq
                  exact HC6.out.key y ((HKy.out.2 y).1 hy)
                have HRf := Lib.hid (refShip_r name BL BA bc CH A c out OA oc w8 hBw.rbo (rwh_row HV8.out.row) ((HO.out.below HB8.out).more HB8.out.size) (by omega) hfit (by omega) hCs (by omega) (fun h hh => by have := (HOs.out h hh).b; omega) (by omega))
                have hlw : docS D M = docS (docD name CH out BL) (docM CH out BL) := by
                  obtain ⟨hS, hm, e1, e2, e3, e4, e5⟩ := HP.out
                  rw [HCh.out]
                  exact ship_law name out G S H BL keys M D (fun k v hk => (HR7.out.ent k v hk).2) hBx (fun s => HKy.out.2 s) hS hm e1 e2 e3 e4 e5
                have hdl : (docS (docD name CH out BL) (docM CH out BL)).length ≤ 1000000 := by
                  have h1 := docS_len (docD name CH out BL) (docM CH out BL)
                  have h2 := docM_len CH out BL (fun m hm => (hfit m hm).1)
                  omega
                rw [hlw] at HRs8 ⊢
                have HDl := Lib.hid hdl
                clear hlw hdl hCs hfit hBx hBw hb8 HP HBi HRs7 HV7 HV8 HR7 HB7 HCh HKy HC6 HOs HO
                generalize docS (docD name CH out BL) (docM CH out BL) = DL at *
                go_wp2_with fail
                refine HRf.out.mono ?_
                rintro e w9 ⟨A9, c9, rfl, hR9, hb9⟩
                have HSm := Lib.hid (same_eq DL A7 A9 c7 c9 w9 ((HRs8.out.below hb9).more hb9.size) hR9 HDl.out)
                have HB9 := Lib.hid (HB8.out.trans (hb9.mono HB8.out.size))
                clear hR9 hb9 HRf HRs8 HB8
                go_wp2_with fail
                refine HSm.out.mono ?_
                rintro e w10 ⟨rfl, hb10⟩
                have HF2 := Lib.hid (HF.out w10 (HB9.out.trans (hb10.mono HB9.out.size)))
                clear hb10 HSm
                go_wp2_with fail
                first
                  | exact HF2.out
                  | (go_ret; exact HF2.out)
      · have q2 : (30 : Int) < (out.length : Int) := by omega
        clear HF HL HH HO HHs HOs
        go_wp2_with fail
        refine HAw.out.mono ?_
        rintro e w3 ⟨rfl, hb3⟩
        have HF2 := Lib.hid (HF1.out w3 hb3)
        clear hb3 HF1
        go_wp2_with fail
        first
          | exact HF2.out
          | (go_ret; exact HF2.out)
    · have q1 : (30 : Int) < (HD.length : Int) := by omega
      clear HF HL HH HO HHs HOs
      go_wp2_with fail
      refine HAw.out.mono ?_
      rintro e w3 ⟨rfl, hb3⟩
      have HF2 := Lib.hid (HF1.out w3 hb3)
      clear hb3 HF1
      go_wp2_with fail
      first
        | exact HF2.out
        | (go_ret; exact HF2.out)
end Go.Proofs.YtdinloecgaapaaaGreatDoor
namespace Go.Proofs.YtdinloecgaapaaaGreatDoor
open Go.ChangeShapes Go.WideShapes Go.ChangeAt Go.RowKit Go.Deep Go.Lib
set_option linter.unusedVariables false
set_option maxRecDepth 100000

theorem own : ownKnob Tryz.prog.godebug = none := by kernel_rfl
def tab32 : Array Value := #[.int .u8 0, .int .u8 1, .int .u8 28, .int .u8 2, .int .u8 29, .int .u8 14, .int .u8 24, .int .u8 3, .int .u8 30, .int .u8 22, .int .u8 20, .int .u8 15, .int .u8 25, .int .u8 17, .int .u8 4, .int .u8 8, .int .u8 31, .int .u8 27, .int .u8 13, .int .u8 23, .int .u8 21, .int .u8 19, .int .u8 16, .int .u8 7, .int .u8 26, .int .u8 12, .int .u8 18, .int .u8 6, .int .u8 11, .int .u8 5, .int .u8 10, .int .u8 9]
def tab64 : Array Value := #[.int .u8 0, .int .u8 1, .int .u8 56, .int .u8 2, .int .u8 57, .int .u8 49, .int .u8 28, .int .u8 3, .int .u8 61, .int .u8 58, .int .u8 42, .int .u8 50, .int .u8 38, .int .u8 29, .int .u8 17, .int .u8 4, .int .u8 62, .int .u8 47, .int .u8 59, .int .u8 36, .int .u8 45, .int .u8 43, .int .u8 51, .int .u8 22, .int .u8 53, .int .u8 39, .int .u8 33, .int .u8 30, .int .u8 24, .int .u8 18, .int .u8 12, .int .u8 5, .int .u8 63, .int .u8 55, .int .u8 48, .int .u8 27, .int .u8 60, .int .u8 41, .int .u8 37, .int .u8 16, .int .u8 46, .int .u8 35, .int .u8 44, .int .u8 21, .int .u8 52, .int .u8 32, .int .u8 23, .int .u8 11, .int .u8 54, .int .u8 26, .int .u8 40, .int .u8 15, .int .u8 34, .int .u8 20, .int .u8 31, .int .u8 10, .int .u8 25, .int .u8 14, .int .u8 19, .int .u8 9, .int .u8 13, .int .u8 8, .int .u8 7, .int .u8 6]
def tabP : Array Value := #[.int .u64 1, .int .u64 10, .int .u64 100, .int .u64 1000, .int .u64 10000, .int .u64 100000, .int .u64 1000000, .int .u64 10000000, .int .u64 100000000, .int .u64 1000000000, .int .u64 10000000000, .int .u64 100000000000, .int .u64 1000000000000, .int .u64 10000000000000, .int .u64 100000000000000, .int .u64 1000000000000000, .int .u64 10000000000000000, .int .u64 100000000000000000, .int .u64 1000000000000000000, .int .u64 10000000000000000000]
def relaid (cs : Array Value) (o : Obj) : Obj := match o with
  | .cells _ t frozen => .cells cs t frozen
  | o => o
/-- a world for the witness: the settled one, the three tables holding what their initialisers lay -/
noncomputable def laidWorld (os : Os) : World :=
  { World.holding Tryz.prog os ⟨#[], #[], []⟩ with heap := (((World.holding Tryz.prog os ⟨#[], #[], []⟩).heap.modify 0 (relaid tabP)).modify 2 (relaid tab32)).modify 3 (relaid tab64) }
end Go.Proofs.YtdinloecgaapaaaGreatDoor
