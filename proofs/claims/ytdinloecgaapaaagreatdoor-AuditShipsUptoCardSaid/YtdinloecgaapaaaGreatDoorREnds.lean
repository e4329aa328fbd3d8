/- Register.Endorse. -/
import Derived.Test.YtdinloecgaapaaaGreatDoorMREndo
import Derived.Deep.RegionLaw
import Derived.Deep.AppendLies
import Derived.OneCell
import Derived.Deep.Cut
import Derived.Deep.CutRange
namespace Go.Proofs.YtdinloecgaapaaaGreatDoor
open Go.RowKit Go.Maps Go.Lib
set_option linter.unusedVariables false
set_option maxRecDepth 100000
set_option linter.unusedSimpArgs false

theorem infoEnd : (Tryz.prog.info? 167).map (·.size) = some 4 := by kernel_rfl
theorem infoEnd3 : (Tryz.prog.info? 167).map (fun i => (i.zero, i.size, i.bytes)) = some (some (.agg #[.string ⟨#[]⟩, .string ⟨#[]⟩, .int .i64 0, .int .i64 0]), 4, 48) := by kernel_rfl
set_option maxHeartbeats 8000000 in
theorem endorse_r (base r N : Nat) (ca k by_ tt : ByteArray) (ix day : Int) (w : World) (hR : Reg w base r ca N) (hN : N ≤ 100000) (hk : k.size ≤ maxLen) (htz : tt.size ≤ 100000000) :
    Calls Tryz.prog 51 #[.pointer (some ⟨r, 0, none⟩), .string k, .int .i64 ix, .string by_, .string tt, .int .i64 day] w fun en w' => OpP base r ca (N + 1) w en w' := by
  obtain ⟨b, n, G, S, hR⟩ := hR
  have HNm := Lib.hid (name_r' tt w)
  have HA : Hid (∀ W wr, Below w.heap.size w W → Calls Tryz.prog 85 #[.pointer (some ⟨r, 0, none⟩), .agg #[.string k, .int .i64 ix, .int .i64 (-1), .string by_, .int .i64 0, .int .i64 day, .bool true, .bool wr]] W fun en w' => AskP ⟨k, ix, -1, by_, 0, day, true, wr⟩ G W en w') := Lib.hid (fun W wr hb => ask_r base r N b n ca G S ⟨k, ix, -1, by_, 0, day, true, wr⟩ W (hR.below hb) (by omega) hk)
  have HL := Lib.hid hR.lo
  have HR := Lib.hid hR
  clear hR
  generalize hCP : OpP base r ca (N + 1) w = CP
  go_enter Tryz.func51, Tryz.ntmps51
  go_upto_region 1 with fail
  go_cut [13] from 13 to 32 (fun a wx => ∃ code : Int, a = .int .i64 code ∧ Hid (code = 0 → (∃ e, G k = some (some e)) ∧ -1 ≤ ix ∧ ix < 3) ∧ Hid (Below w.heap.size w wx))
  case first =>
    go_wp2_with fail
    refine HNm.out.mono ?_
    rintro en w1 ⟨rb, rfl, _, hb1⟩
    have HB1 := Lib.hid hb1
    clear hb1 HNm
    have HAW : Hid (∀ wr, Calls Tryz.prog 85 #[.pointer (some ⟨r, 0, none⟩), .agg #[.string k, .int .i64 ix, .int .i64 (-1), .string by_, .int .i64 0, .int .i64 day, .bool true, .bool wr]] w1 fun en w' => AskP ⟨k, ix, -1, by_, 0, day, true, wr⟩ G w1 en w') := Lib.hid (fun wr => HA.out w1 wr HB1.out)
    clear HA
    generalize hwb : (tt.toList == by_.toList) = hb
    cases rb
    all_goals
      go_wp2_with (first
        | (go_at_call 85; refine (HAW.out _).mono ?_; rintro en w2 ⟨code, rfl, hok, hb2⟩; have HOK := Lib.hid hok; have HB2 : Hid (Below w.heap.size w w2) := Lib.hid (HB1.out.trans (hb2.mono HB1.out.size)); clear hok hb2)
        | fail)
      go_meet
      case rel => exact ⟨_, rfl, HOK, HB2⟩
  case rest =>
    obtain ⟨code, rfl, hok, HB2⟩ := hcut
    clear HA HNm
    by_cases hc : code = 0
    · obtain ⟨⟨e, hG⟩, h1, h2⟩ := hok.out hc
      have R2 := HR.out.below HB2.out
      obtain ⟨_, e', x, he', hS⟩ := R2.ent _ _ hG
      cases he'
      obtain ⟨_, m1⟩ := R2.cell
      have hlk := R2.look (k := k) hk
      rw [hG] at hlk
      have hlk' : (Instr.lookup 113 (.map (some b)) (.string k) false).run Tryz.prog wc = .ok (.pointer (some ⟨e, 0, none⟩)) wc := hlk
      have HI0 : Hid (EdI base r N b n e 0 ca G S x w wc) := Lib.hid ⟨R2.more (Nat.le_succ N), hS, fun j _ hj => (R2.fit e x hS).o j hj, HB2.out.mono HL.out⟩
      have HF : Hid (∀ v wr k S x, EdI base r N b n e k ca G S x w wr → CP (.returned v) wr) := Lib.hid (fun v wr k S x h => by rw [← hCP]; exact ⟨v, rfl, ⟨b, n, G, S, h.rg⟩, h.bel⟩)
      subst hc
      clear hlk hok hG R2 HR hCP hS HB2 HL
      go_wp2_with fail
      clear hlk' m1
      go_loopw [42] (fun i wr => ∃ (k : Nat) (S : Nat → Option En) (x : En), k ≤ 3 ∧ i = .int .i64 (k : Int) ∧ Hid (EdI base r N b n e k ca G S x w wr)) (fun i _ => 3 - (RowKit.intOf i).toNat)
      case atStart => exact ⟨0, S, x, by omega, rfl, HI0⟩
      case round =>
        clear HI0
        obtain ⟨j, S, x, hj, rfl, HI⟩ := hrel
        by_cases hlt : j < 3
        · by_cases hsel : ix = -1 ∨ ix = (j : Int)
          · obtain ⟨W0, hW0⟩ : ∃ W0, W0 = wr.alloc (.cells (edA by_ tt day) 167) := ⟨_, rfl⟩
            have b0 : Below wr.heap.size wr W0 := by rw [hW0]; exact (Below.refl _ _).alloc (Nat.le_refl _) _
            have z0 : W0.heap.size = wr.heap.size + 1 := by rw [hW0]; simp
            have g0 : W0.heap[wr.heap.size]? = some (.cells (edA by_ tt day) 167 (0, 0)) := by rw [hW0]; exact heap_alloc_new _ _
            have R0 := HI.out.rg.below b0
            have hat := R0.at_ e x HI.out.en
            obtain ⟨c0, f0⟩ := hat.chc j hlt
            obtain ⟨cs, hown, hday⟩ := hat.ch j hlt
            have hcs := hown.1
            have hn0 := HI.out.le j (Nat.le_refl _) hlt
            have q0 : W0.cell? ⟨wr.heap.size, 0, none⟩ = some (.string by_) := by simp [World.cell?, g0, edA]
            have q1 : W0.cell? ⟨wr.heap.size, 1, none⟩ = some (.string tt) := by simp [World.cell?, g0, edA]
            have q2 : W0.cell? ⟨wr.heap.size, 2, none⟩ = some (.int .i64 0) := by simp [World.cell?, g0, edA]
            have q3 : W0.cell? ⟨wr.heap.size, 3, none⟩ = some (.int .i64 day) := by simp [World.cell?, g0, edA]
            have hrow5 : (W0.drew.alloc (.cells (edA by_ tt day) 167)).ownsRow base 167 4 (.slice (x.o j).A (x.o j).n (x.o j).c) (x.o j).n cs := (show W0.drew.ownsRow base 167 4 (.slice (x.o j).A (x.o j).n (x.o j).c) (x.o j).n cs from hown).alloc _
            have hbs5 : base ≤ (W0.drew.alloc (.cells (edA by_ tt day) 167)).heap.size := by have := R0.lo; simp; omega
            obtain ⟨i0, hi0, hy0, hy1, hy2⟩ := info_parts infoEnd3
            have hne : (Value.slice (x.o j).A (x.o j).n (x.o j).c).ownBlock ≠ some e := fun he => by
              obtain ⟨cur, hcur⟩ := (hat.ch j hlt).obj he
              rw [hat.obj] at hcur
              injection hcur with hcur
              injection hcur with _ h2 _
              exact absurd h2 (by decide)
            have hne2 : (Value.slice (x.o j).A (x.o j).n (x.o j).c).ownBlock ≠ some wr.heap.size := fun he => by
              have := ((HI.out.rg.at_ e x HI.out.en).ch j hlt).lt he
              omega
            have helt : e < wr.heap.size := lt_of_some (HI.out.rg.at_ e x HI.out.en).obj
            have HR0 := Lib.hid R0
            have HHat := Lib.hid hat
            have HG0 := Lib.hid g0
            have HB0 := Lib.hid b0
            have helt0 : e < W0.heap.size := by omega
            have HZ0 := Lib.hid z0
            have b1 : (j : Int) < 3 := by omega
            clear R0 hat hown b0 z0
            generalize hA : (x.o j).A = A at *
            generalize hn : (x.o j).n = m at *
            generalize hcc : (x.o j).c = cc at *
            unfold edA at *
            have s1 : (ix == -1) = true ∨ (ix == -1) = false ∧ (ix == (j : Int)) = true := by
              rcases hsel with h | h
              · left; simpa using h
              · by_cases h' : ix = -1
                · left; simpa using h'
                · right; exact ⟨by simpa using h', by simpa using h⟩
            clear hsel
            have HA := Lib.hid hA
            have HN := Lib.hid hn
            have HC := Lib.hid hcc
            have HGr := Lib.hid (fun w6 g cap hown6 hg6 hl6 => HI.out.grow (by_ := by_) (tt := tt) (day := day) (w6 := w6) (g := g) (cap := cap) hlt HB0.out HZ0.out HG0.out hn hA hcc hcs hday hown6 hg6 hl6)
            clear hA hn hcc hday hcs
            go_upto_region 8 with fail
            go_cut [51] from 45 to 51 (fun a wx => a = .bool true ∧ wx = wr)
            case first =>
              rcases s1 with s1 | ⟨s1, s2⟩
              all_goals
                go_wp2_with fail
                go_meet
                case rel => exact ⟨rfl, rfl⟩
            case rest =>
              obtain ⟨rfl, hwr⟩ := hcut
              replace hwr := hwr.symm
              subst hwr
              clear s1
              obtain rfl | rfl | rfl : j = 0 ∨ j = 1 ∨ j = 2 := by omega
              · simp only [Nat.mul_zero, Nat.add_zero, Int.cast_ofNat_Int, Nat.reduceMul, Nat.reduceAdd] at c0 f0 ⊢
                go_upto_region 11 with fail
                rw [← hW0]
                clear hW0
                go_cut [61] from 61 to 68 (fun _ wx => ∃ S' x', Hid (EdM base r N b n e 0 ca by_ tt day wr.heap.size G S' x' w wx))
                case first =>
                  go_region_law (first
                    | ((try simp only [Act.put, List.setIfInBounds_toArray, List.set_cons_zero, List.set_cons_succ]); rw [if_pos (by rfl)]; refine wp_append_lies _ (.tmp 65) (.tmp 67) 127 (by rfl) base 167 i0 _ 4 48 Tryz.underlying127 hi0 hy0 hy1 hy2 rfl (by decide) (.slice A m cc) m cs (by rfl) hrow5 ⟨W0.heap.size, 0, none⟩ 1 1 [.string by_, .string tt, .int .i64 0, .int .i64 day] (by rfl) rfl (World.news_of_block (cs := #[.string by_, .string tt, .int .i64 0, .int .i64 day]) (t := 167) (fr := (0, 0)) (heap_alloc_new W0.drew _)) (by simp [Value.oneCell']) (by decide) (by unfold maxLen; omega) (by omega) hbs5 (W0.heap.size + 1) (by simp) ?_; intro g cap w6 hown6 hg6 hloc6 hlt6; have c6 := (hg6.cell_far ⟨e, _, none⟩ (by simp; omega) (fun he => hne he.symm)).trans (Lib.cell?_alloc_some _ (show W0.drew.cell? _ = _ from c0)); have f6 := (hg6.frozen_far ⟨e, _, none⟩ (by simp; omega) (fun he => hne he.symm)).trans ((World.frozen?_of_block (w := W0.drew) (a := ⟨e, _, none⟩) (Below.heap_alloc W0.drew _ e (by simp; omega))).trans f0)))
                  all_goals
                    have HM := Lib.hid (HGr.out w6 g cap hown6 hg6 hloc6)
                    clear hown6 hg6 hloc6 c6 f6 c0 f0 q0 q1 q2 q3 hrow5 hbs5 hne hne2 HGr
                    obtain ⟨S', x', hM⟩ := HM.out
                    have HM' := Lib.hid hM
                    clear HM hM
                    go_wp2_with fail
                    go_meet
                    case rel => exact ⟨S', x', HM'⟩
                case rest =>
                  obtain ⟨S', x', HM⟩ := hcut
                  clear HGr HI HF c0 f0 q0 q1 q2 q3 hrow5 hbs5 hne hne2 HHat HG0 HB0 helt helt0 HZ0 HA HN HC hi0 hy0 hy1 hy2
                  have hatV := HM.out.rg.at_ e x' HM.out.en
                  obtain ⟨c0, f0⟩ := hatV.hdc 0 (by decide)
                  have gv := HM.out.giv
                  have helt : e < wc.heap.size := lt_of_some hatV.obj
                  have HC : Hid (Calls Tryz.prog 86 #[.string (x'.o 0).h, .slice (some ⟨wc.heap.size, 0, none⟩) 1 1] (wc.drew.alloc (.cells (edA by_ tt day) 167)) fun en w' => HdP (wc.drew.alloc (.cells (edA by_ tt day) 167)) en w') := Lib.hid (holder_e (x'.o 0).h by_ tt day wc.heap.size 1 _ htz (fun i v hv => by
                    have h : (wc.drew.alloc (.cells (edA by_ tt day) 167)).heap[wc.heap.size]? = _ := heap_alloc_new wc.drew (.cells (edA by_ tt day) 167)
                    simp only [World.cell?, h]
                    exact hv) (by simp))
                  have hbV : Below wc.heap.size wc (wc.drew.alloc (.cells (edA by_ tt day) 167)) := (show Below wc.heap.size wc wc.drew from ⟨rfl, rfl, rfl, Nat.le_refl _, fun _ _ => rfl⟩).alloc (Nat.le_refl _) _
                  have HBV := Lib.hid hbV
                  have HFin := Lib.hid (fun w8 t ht hb => HM.out.fin (t := t) (w8 := w8) (j := 0) (by decide) ht hb)
                  have q0 : wc.cell? ⟨wr.heap.size, 0, none⟩ = some (.string by_) := by simp [World.cell?, gv, edA]
                  have q1 : wc.cell? ⟨wr.heap.size, 1, none⟩ = some (.string tt) := by simp [World.cell?, gv, edA]
                  have q2 : wc.cell? ⟨wr.heap.size, 2, none⟩ = some (.int .i64 0) := by simp [World.cell?, gv, edA]
                  have q3 : wc.cell? ⟨wr.heap.size, 3, none⟩ = some (.int .i64 day) := by simp [World.cell?, gv, edA]
                  clear hatV HM gv hbV
                  generalize wr.heap.size = q at *
                  generalize (x'.o 0).h = hh at *
                  unfold edA at *
                  simp only [Nat.mul_zero, Nat.add_zero, Nat.reduceMul, Nat.reduceAdd] at c0 f0 HFin
                  go_wp2_with fail
                  go_region_law (first
                    | (go_simp; go_at_call 86; refine HC.out.mono ?_; rintro en w8 ⟨t8, rfl, hz8, hb8⟩; have HB8 : Hid (Below wc.heap.size wc w8) := Lib.hid (HBV.out.trans (hb8.mono HBV.out.size)); have c8 := (HB8.out.cell (p := ⟨e, _, none⟩) helt).trans c0; have f8 := (HB8.out.frozen (p := ⟨e, _, none⟩) helt).trans f0; clear hb8))
                  all_goals
                    obtain ⟨S9, x9, hI9⟩ := HFin.out w8 t8 hz8 HB8.out
                    have HI9 := Lib.hid hI9
                    clear hI9 HFin HC HB8 HBV c8 f8 c0 f0 q0 q1 q2 q3
                    go_wp2_with fail
                    exact ⟨⟨1, S9, x9, by omega, by go_num, HI9⟩, by simp [RowKit.intOf]⟩
              · simp only [Nat.mul_zero, Nat.add_zero, Int.cast_ofNat_Int, Nat.reduceMul, Nat.reduceAdd] at c0 f0 ⊢
                go_upto_region 11 with fail
                rw [← hW0]
                clear hW0
                go_cut [61] from 61 to 68 (fun _ wx => ∃ S' x', Hid (EdM base r N b n e 1 ca by_ tt day wr.heap.size G S' x' w wx))
                case first =>
                  go_region_law (first
                    | ((try simp only [Act.put, List.setIfInBounds_toArray, List.set_cons_zero, List.set_cons_succ]); rw [if_pos (by rfl)]; refine wp_append_lies _ (.tmp 65) (.tmp 67) 127 (by rfl) base 167 i0 _ 4 48 Tryz.underlying127 hi0 hy0 hy1 hy2 rfl (by decide) (.slice A m cc) m cs (by rfl) hrow5 ⟨W0.heap.size, 0, none⟩ 1 1 [.string by_, .string tt, .int .i64 0, .int .i64 day] (by rfl) rfl (World.news_of_block (cs := #[.string by_, .string tt, .int .i64 0, .int .i64 day]) (t := 167) (fr := (0, 0)) (heap_alloc_new W0.drew _)) (by simp [Value.oneCell']) (by decide) (by unfold maxLen; omega) (by omega) hbs5 (W0.heap.size + 1) (by simp) ?_; intro g cap w6 hown6 hg6 hloc6 hlt6; have c6 := (hg6.cell_far ⟨e, _, none⟩ (by simp; omega) (fun he => hne he.symm)).trans (Lib.cell?_alloc_some _ (show W0.drew.cell? _ = _ from c0)); have f6 := (hg6.frozen_far ⟨e, _, none⟩ (by simp; omega) (fun he => hne he.symm)).trans ((World.frozen?_of_block (w := W0.drew) (a := ⟨e, _, none⟩) (Below.heap_alloc W0.drew _ e (by simp; omega))).trans f0)))
                  all_goals
                    have HM := Lib.hid (HGr.out w6 g cap hown6 hg6 hloc6)
                    clear hown6 hg6 hloc6 c6 f6 c0 f0 q0 q1 q2 q3 hrow5 hbs5 hne hne2 HGr
                    obtain ⟨S', x', hM⟩ := HM.out
                    have HM' := Lib.hid hM
                    clear HM hM
                    go_wp2_with fail
                    go_meet
                    case rel => exact ⟨S', x', HM'⟩
                case rest =>
                  obtain ⟨S', x', HM⟩ := hcut
                  clear HGr HI HF c0 f0 q0 q1 q2 q3 hrow5 hbs5 hne hne2 HHat HG0 HB0 helt helt0 HZ0 HA HN HC hi0 hy0 hy1 hy2
                  have hatV := HM.out.rg.at_ e x' HM.out.en
                  obtain ⟨c0, f0⟩ := hatV.hdc 1 (by decide)
                  have gv := HM.out.giv
                  have helt : e < wc.heap.size := lt_of_some hatV.obj
                  have HC : Hid (Calls Tryz.prog 86 #[.string (x'.o 1).h, .slice (some ⟨wc.heap.size, 0, none⟩) 1 1] (wc.drew.alloc (.cells (edA by_ tt day) 167)) fun en w' => HdP (wc.drew.alloc (.cells (edA by_ tt day) 167)) en w') := Lib.hid (holder_e (x'.o 1).h by_ tt day wc.heap.size 1 _ htz (fun i v hv => by
                    have h : (wc.drew.alloc (.cells (edA by_ tt day) 167)).heap[wc.heap.size]? = _ := heap_alloc_new wc.drew (.cells (edA by_ tt day) 167)
                    simp only [World.cell?, h]
                    exact hv) (by simp))
                  have hbV : Below wc.heap.size wc (wc.drew.alloc (.cells (edA by_ tt day) 167)) := (show Below wc.heap.size wc wc.drew from ⟨rfl, rfl, rfl, Nat.le_refl _, fun _ _ => rfl⟩).alloc (Nat.le_refl _) _
                  have HBV := Lib.hid hbV
                  have HFin := Lib.hid (fun w8 t ht hb => HM.out.fin (t := t) (w8 := w8) (j := 1) (by decide) ht hb)
                  have q0 : wc.cell? ⟨wr.heap.size, 0, none⟩ = some (.string by_) := by simp [World.cell?, gv, edA]
                  have q1 : wc.cell? ⟨wr.heap.size, 1, none⟩ = some (.string tt) := by simp [World.cell?, gv, edA]
                  have q2 : wc.cell? ⟨wr.heap.size, 2, none⟩ = some (.int .i64 0) := by simp [World.cell?, gv, edA]
                  have q3 : wc.cell? ⟨wr.heap.size, 3, none⟩ = some (.int .i64 day) := by simp [World.cell?, gv, edA]
                  clear hatV HM gv hbV
                  generalize wr.heap.size = q at *
                  generalize (x'.o 1).h = hh at *
                  unfold edA at *
                  simp only [Nat.mul_zero, Nat.add_zero, Nat.reduceMul, Nat.reduceAdd] at c0 f0 HFin
                  go_wp2_with fail
                  go_region_law (first
                    | (go_simp; go_at_call 86; refine HC.out.mono ?_; rintro en w8 ⟨t8, rfl, hz8, hb8⟩; have HB8 : Hid (Below wc.heap.size wc w8) := Lib.hid (HBV.out.trans (hb8.mono HBV.out.size)); have c8 := (HB8.out.cell (p := ⟨e, _, none⟩) helt).trans c0; have f8 := (HB8.out.frozen (p := ⟨e, _, none⟩) helt).trans f0; clear hb8))
                  all_goals
                    obtain ⟨S9, x9, hI9⟩ := HFin.out w8 t8 hz8 HB8.out
                    have HI9 := Lib.hid hI9
                    clear hI9 HFin HC HB8 HBV c8 f8 c0 f0 q0 q1 q2 q3
                    go_wp2_with fail
                    exact ⟨⟨2, S9, x9, by omega, by go_num, HI9⟩, by simp [RowKit.intOf]⟩
              · simp only [Nat.mul_zero, Nat.add_zero, Int.cast_ofNat_Int, Nat.reduceMul, Nat.reduceAdd] at c0 f0 ⊢
                go_upto_region 11 with fail
                rw [← hW0]
                clear hW0
                go_cut [61] from 61 to 68 (fun _ wx => ∃ S' x', Hid (EdM base r N b n e 2 ca by_ tt day wr.heap.size G S' x' w wx))
                case first =>
                  go_region_law (first
                    | ((try simp only [Act.put, List.setIfInBounds_toArray, List.set_cons_zero, List.set_cons_succ]); rw [if_pos (by rfl)]; refine wp_append_lies _ (.tmp 65) (.tmp 67) 127 (by rfl) base 167 i0 _ 4 48 Tryz.underlying127 hi0 hy0 hy1 hy2 rfl (by decide) (.slice A m cc) m cs (by rfl) hrow5 ⟨W0.heap.size, 0, none⟩ 1 1 [.string by_, .string tt, .int .i64 0, .int .i64 day] (by rfl) rfl (World.news_of_block (cs := #[.string by_, .string tt, .int .i64 0, .int .i64 day]) (t := 167) (fr := (0, 0)) (heap_alloc_new W0.drew _)) (by simp [Value.oneCell']) (by decide) (by unfold maxLen; omega) (by omega) hbs5 (W0.heap.size + 1) (by simp) ?_; intro g cap w6 hown6 hg6 hloc6 hlt6; have c6 := (hg6.cell_far ⟨e, _, none⟩ (by simp; omega) (fun he => hne he.symm)).trans (Lib.cell?_alloc_some _ (show W0.drew.cell? _ = _ from c0)); have f6 := (hg6.frozen_far ⟨e, _, none⟩ (by simp; omega) (fun he => hne he.symm)).trans ((World.frozen?_of_block (w := W0.drew) (a := ⟨e, _, none⟩) (Below.heap_alloc W0.drew _ e (by simp; omega))).trans f0)))
                  all_goals
                    have HM := Lib.hid (HGr.out w6 g cap hown6 hg6 hloc6)
                    clear hown6 hg6 hloc6 c6 f6 c0 f0 q0 q1 q2 q3 hrow5 hbs5 hne hne2 HGr
                    obtain ⟨S', x', hM⟩ := HM.out
                    have HM' := Lib.hid hM
                    clear HM hM
                    go_wp2_with fail
                    go_meet
                    case rel => exact ⟨S', x', HM'⟩
                case rest =>
                  obtain ⟨S', x', HM⟩ := hcut
                  clear HGr HI HF c0 f0 q0 q1 q2 q3 hrow5 hbs5 hne hne2 HHat HG0 HB0 helt helt0 HZ0 HA HN HC hi0 hy0 hy1 hy2
                  have hatV := HM.out.rg.at_ e x' HM.out.en
                  obtain ⟨c0, f0⟩ := hatV.hdc 2 (by decide)
                  have gv := HM.out.giv
                  have helt : e < wc.heap.size := lt_of_some hatV.obj
                  have HC : Hid (Calls Tryz.prog 86 #[.string (x'.o 2).h, .slice (some ⟨wc.heap.size, 0, none⟩) 1 1] (wc.drew.alloc (.cells (edA by_ tt day) 167)) fun en w' => HdP (wc.drew.alloc (.cells (edA by_ tt day) 167)) en w') := Lib.hid (holder_e (x'.o 2).h by_ tt day wc.heap.size 1 _ htz (fun i v hv => by
                    have h : (wc.drew.alloc (.cells (edA by_ tt day) 167)).heap[wc.heap.size]? = _ := heap_alloc_new wc.drew (.cells (edA by_ tt day) 167)
                    simp only [World.cell?, h]
                    exact hv) (by simp))
                  have hbV : Below wc.heap.size wc (wc.drew.alloc (.cells (edA by_ tt day) 167)) := (show Below wc.heap.size wc wc.drew from ⟨rfl, rfl, rfl, Nat.le_refl _, fun _ _ => rfl⟩).alloc (Nat.le_refl _) _
                  have HBV := Lib.hid hbV
                  have HFin := Lib.hid (fun w8 t ht hb => HM.out.fin (t := t) (w8 := w8) (j := 2) (by decide) ht hb)
                  have q0 : wc.cell? ⟨wr.heap.size, 0, none⟩ = some (.string by_) := by simp [World.cell?, gv, edA]
                  have q1 : wc.cell? ⟨wr.heap.size, 1, none⟩ = some (.string tt) := by simp [World.cell?, gv, edA]
                  have q2 : wc.cell? ⟨wr.heap.size, 2, none⟩ = some (.int .i64 0) := by simp [World.cell?, gv, edA]
                  have q3 : wc.cell? ⟨wr.heap.size, 3, none⟩ = some (.int .i64 day) := by simp [World.cell?, gv, edA]
                  clear hatV HM gv hbV
                  generalize wr.heap.size = q at *
                  generalize (x'.o 2).h = hh at *
                  unfold edA at *
                  simp only [Nat.mul_zero, Nat.add_zero, Nat.reduceMul, Nat.reduceAdd] at c0 f0 HFin
                  go_wp2_with fail
                  go_region_law (first
                    | (go_simp; go_at_call 86; refine HC.out.mono ?_; rintro en w8 ⟨t8, rfl, hz8, hb8⟩; have HB8 : Hid (Below wc.heap.size wc w8) := Lib.hid (HBV.out.trans (hb8.mono HBV.out.size)); have c8 := (HB8.out.cell (p := ⟨e, _, none⟩) helt).trans c0; have f8 := (HB8.out.frozen (p := ⟨e, _, none⟩) helt).trans f0; clear hb8))
                  all_goals
                    obtain ⟨S9, x9, hI9⟩ := HFin.out w8 t8 hz8 HB8.out
                    have HI9 := Lib.hid hI9
                    clear hI9 HFin HC HB8 HBV c8 f8 c0 f0 q0 q1 q2 q3
                    go_wp2_with fail
                    exact ⟨⟨3, S9, x9, by omega, by go_num, HI9⟩, by simp [RowKit.intOf]⟩
          · have s1 : (ix == -1) = false := by simpa using fun h => hsel (.inl h)
            have s2 : (ix == (j : Int)) = false := by simpa using fun h => hsel (.inr h)
            have b1 : (j : Int) < 3 := by omega
            have HI1 : Hid (EdI base r N b n e (j + 1) ca G S x w wr) := Lib.hid ⟨HI.out.rg, HI.out.en, fun i hi hi3 => HI.out.le i (by omega) hi3, HI.out.bel⟩
            clear HI HF
            go_wp2_with fail
            exact ⟨⟨j + 1, S, x, by omega, by go_num, HI1⟩, by simp [RowKit.intOf]; omega⟩
        · obtain rfl : j = 3 := by omega
          have HF' := Lib.hid (fun v => HF.out v wr 3 S x HI.out)
          clear HI HF
          go_wp2_with fail
          first
            | exact HF'.out _
            | (go_ret; exact HF'.out _)
    · have b1 : (code == 0) = false := by simpa using hc
      have HF : Hid (∀ v, CP (.returned v) wc) := Lib.hid (fun v => by rw [← hCP]; exact ⟨v, rfl, ⟨b, n, G, S, (HR.out.below HB2.out).more (Nat.le_succ N)⟩, HB2.out.mono HL.out⟩)
      clear hok HB2 HR HL hCP
      go_wp2_with fail
      first
        | exact HF.out _
        | (go_ret; exact HF.out _)
end Go.Proofs.YtdinloecgaapaaaGreatDoor
