/- trader.New: a trader comes back. -/
import Derived.Test.YtchkdidpnjakeaaGreatDoorGMDealT
import Derived.Test.YtchkdidpnjakeaaGreatDoorGMDay
import Derived.Laws.EntriesVeiled
import Derived.Deep.CutRange
import Derived.Deep.CutBlock
namespace Go.Proofs.YtchkdidpnjakeaaGreatDoor
open Go.RowKit Go.Maps Go.Lib Led
set_option linter.unusedVariables false
set_option maxRecDepth 100000

/-- some pointer comes back; what stood stands -/
def NwQ (w : World) (e : Ending) (w' : World) : Prop := ∃ p, e = .returned (.pointer (some ⟨p, 0, none⟩)) ∧ Below w.heap.size w w'
/-- a map of pointers in block m, something in it -/
def PmI (w wr : World) (m n : Nat) : Prop := Below w.heap.size w wr ∧ w.heap.size ≤ m ∧ ∃ F : ByteArray → Option (Option Nat), Mp curC ptE wr m n F
theorem PmI.low {w wr : World} {m n : Nat} (h : PmI w wr m n) : m < wr.heap.size := by
  obtain ⟨_, _, F, h⟩ := h
  exact h.lt
theorem PmI.below {w wr X : World} {m n : Nat} (h : PmI w wr m n) (hb : Below wr.heap.size wr X) : PmI w X m n := by
  obtain ⟨h1, h2, F, h3⟩ := h
  exact ⟨h1.trans (hb.mono h1.size), h2, F, h3.below hb h3.lt⟩
theorem PmI.put {w wr : World} {m n : Nat} (h : PmI w wr m n) (hn : n ≤ 1000) {t e : TypeId} (ht : Tryz.prog.underlying t = some (.map 9 e)) {s : ByteArray} (hs : s.size ≤ maxLen) (q : Nat) : ∃ w', (Instr.mapUpdate t (.map (some m)) (.string s) (.pointer (some ⟨q, 0, none⟩))).run Tryz.prog wr = .ok () w' ∧ PmI w w' m (n + 1) ∧ Sbf m wr w' := by
  obtain ⟨h1, h2, F, h3⟩ := h
  obtain ⟨w', e1, e2, e3⟩ := h3.store ht (by unfold maxLen; omega) (x := s) (show curC.ok s from hs) (v := some q) trivial
  exact ⟨w', e1, ⟨turned_below h1 e3 h2 h1.size, h2, _, e2⟩, e3.grown.size, fun k hk hks => e3.grown.block k hks (fun e => by injection e with e; omega)⟩
/-- a trader in block b -/
def TrI (w wr : World) (b m n : Nat) : Prop := PmI w wr m n ∧ ∃ x y : ByteArray, wr.heap[b]? = some (.cells #[.string x, .string y, .map (some m)] 197 (0, 0))
theorem TrI.cells {w wr : World} {b m n : Nat} (h : TrI w wr b m n) : wr.cell? ⟨b, 2, none⟩ = some (.map (some m)) ∧ b < wr.heap.size := by
  obtain ⟨_, x, y, h⟩ := h
  exact ⟨by simp [World.cell?, h], (Array.getElem?_eq_some_iff.1 h).1⟩
theorem TrI.below {w wr X : World} {b m n : Nat} (h : TrI w wr b m n) (hb : Below wr.heap.size wr X) : TrI w X b m n := by
  have hl := h.cells.2
  obtain ⟨h1, x, y, h2⟩ := h
  exact ⟨h1.below hb, x, y, (hb.block b hl).trans h2⟩
theorem TrI.bank {w wr : World} {b m n : Nat} (h : TrI w wr b m n) (hb : w.heap.size ≤ b) (s : ByteArray) : (∃ y : ByteArray, wr.cell? ⟨b, 1, none⟩ = some (.string y)) ∧ wr.frozen? ⟨b, 1, none⟩ = false ∧ TrI w (wr.setCell ⟨b, 1, none⟩ (.string s)) b m n := by
  obtain ⟨⟨h1, h2, F, h3⟩, x, y, h⟩ := h
  refine ⟨⟨y, by simp [World.cell?, h]⟩, by simp [World.frozen?, h], ⟨h1.setCell hb _, h2, F, h3.setCell (fun e => h3.neCells h e.symm) _⟩, x, s, ?_⟩
  exact heap_setCell_same wr b 1 _ _ _ h
theorem TrI.put {w wr : World} {b m n : Nat} (h : TrI w wr b m n) (hn : n ≤ 1000) {s : ByteArray} (hs : s.size ≤ maxLen) (q : Nat) {X : World} (hX : Below wr.heap.size wr X) : ∃ w', (Instr.mapUpdate 195 (.map (some m)) (.string s) (.pointer (some ⟨q, 0, none⟩))).run Tryz.prog X = .ok () w' ∧ TrI w w' b m (n + 1) := by
  obtain ⟨h1, x, y, h2⟩ := h.below hX
  obtain ⟨w', e1, e2, e3⟩ := h1.put hn Tryz.underlying195 hs q
  obtain ⟨_, _, F, h3⟩ := h1
  exact ⟨w', e1, e2, x, y, (e3.same b (h3.neCells h2) (Array.getElem?_eq_some_iff.1 h2).1).trans h2⟩
/-- what the operations give that lay a trader's deal -/
def trR (b m z n : Nat) (nm : ByteArray) (d : Dl) (A : Option Addr) (c : Nat) : Nat → Value → World → Prop
  | 0, v, _ => v = .pointer (some ⟨b, 0, none⟩)
  | 1, v, _ => v = .pointer (some ⟨b, 0, none⟩)
  | 2, v, _ => v = .pointer (some ⟨b, 2, none⟩)
  | 3, v, _ => v = .map (some m)
  | 4, v, _ => v = .pointer (some ⟨z, 0, none⟩)
  | 5, v, _ => v = .string d.num
  | 6, v, _ => v = .agg (dlA d A c)
  | 7, v, _ => ∃ A2 c2, v = .agg (dlA d A2 c2)
  | 8, v, _ => v = .pointer (some ⟨z, 1, none⟩)
  | 9, v, _ => v = .string d.sel
  | 10, v, _ => v = .string nm
  | 11, v, _ => ∃ b, v = .bool b
  | 12, v, _ => ∃ q, v = .map (some q)
  | 13, v, _ => ∃ cs, v = .agg cs
  | 14, v, _ => ∃ q, v = .pointer (some ⟨q, 0, none⟩)
  | _, _, _ => True
theorem trR_kept {b m z n : Nat} {nm : ByteArray} {d : Dl} {A : Option Addr} {c : Nat} (i : Nat) (v : Value) (w w' : World) (h : trR b m z n nm d A c i v w) : trR b m z n nm d A c i v w' := by
  match i, h with
  | 0, h => exact h
  | 1, h => exact h
  | 2, h => exact h
  | 3, h => exact h
  | 4, h => exact h
  | 5, h => exact h
  | 6, h => exact h
  | 7, h => exact h
  | 8, h => exact h
  | 9, h => exact h
  | 10, h => exact h
  | 11, h => exact h
  | 12, h => exact h
  | 13, h => exact h
  | 14, h => exact h
  | n + 15, h => trivial
theorem zeroNt (w : World) : (zeroValue 198).run Tryz.prog w = .ok (ptV none) w := by kernel_rfl
theorem TrI.look {w wr : World} {b m n : Nat} (h : TrI w wr b m n) {s : ByteArray} (hs : s.size ≤ maxLen) : ∃ p q, ∀ X, Below wr.heap.size wr X → (Instr.lookup 195 (.map (some m)) (.string s) true).run Tryz.prog X = .ok (.tuple #[ptV p, .bool q]) X := by
  obtain ⟨⟨h1, h2, F, h3⟩, x, y, h⟩ := h
  exact ⟨_, _, fun X hX => (h3.below hX h3.lt).look_ok Tryz.underlying195 (z := none) (zeroNt X) trivial (x := s) (show curC.ok s from hs)⟩
set_option maxHeartbeats 8000000 in
theorem newT_w {w : World} {nm : ByteArray} {u : Su} {a : Sa} (hA : SuAt w w.heap.size u a) (hz : SuSz u) :
    Calls Tryz.prog 105 #[.string nm, .agg #[.slice a.PA u.par.length a.pc, .slice a.DA u.dl.length a.dc, .slice a.FA u.fd.length a.fc, .slice a.RA u.rest.length a.rc, .slice a.HA u.hol.length a.hc]] w fun e w' => NwQ w e w' := by
  obtain ⟨W1, hW1⟩ : ∃ W1, W1 = w.alloc (.cells #[.slice a.PA u.par.length a.pc, .slice a.DA u.dl.length a.dc, .slice a.FA u.fd.length a.fc, .slice a.RA u.rest.length a.rc, .slice a.HA u.hol.length a.hc] 29) := ⟨_, rfl⟩
  have HS : Hid (∀ X, Below W1.heap.size W1 X → SbX w X u a) := Lib.hid fun X hX => SbX.of hA hW1 hX
  have hs1 : W1.heap.size = w.heap.size + 1 := by rw [hW1]; simp
  have HZ := Lib.hid hz
  have hp16 := hz.few.par
  have hd6 := hz.few.dl
  have hmm := @run_makeMap Tryz.prog
  have HF : Hid (∀ p X, Below W1.heap.size W1 X → NwQ w (.returned (.pointer (some ⟨p, 0, none⟩))) X) := Lib.hid fun p X hX => ⟨p, rfl, (HS.out X hX).bw⟩
  generalize NwQ w = CP at *
  obtain ⟨W3, hW3⟩ : ∃ W3, W3 = (W1.alloc (.map #[] 0)).alloc (.cells #[.string nm, .string ⟨#[]⟩, .map (some W1.heap.size)] 197) := ⟨_, rfl⟩
  have HI0 : Hid (TrI W1 W3 (W1.heap.size + 1) W1.heap.size 0) := Lib.hid (by
    have hsm : (W1.alloc (.map #[] 0)).heap.size = W1.heap.size + 1 := by simp
    have hbm : Below W1.heap.size W1 (W1.alloc (.map #[] 0)) := (Below.refl _ _).alloc (Nat.le_refl _) _
    rw [hW3]
    refine ⟨⟨hbm.alloc (by omega) _, Nat.le_refl _, _, (Mp.made (C := curC) (E := ptE) W1).alloc _⟩, nm, ⟨#[]⟩, ?_⟩
    rw [← hsm]
    exact heap_alloc_new _ _)
  have HW : Hid (w.alloc (.cells #[.slice a.PA u.par.length a.pc, .slice a.DA u.dl.length a.dc, .slice a.FA u.fd.length a.fc, .slice a.RA u.rest.length a.rc, .slice a.HA u.hol.length a.hc] 29) = W1) := Lib.hid hW1.symm
  have HW3 : Hid ((W1.alloc (.map #[] 0)).alloc (.cells #[.string nm, .string ⟨#[]⟩, .map (some W1.heap.size)] 197) = W3) := Lib.hid hW3.symm
  clear hW1 hW3 hA hz hs1
  obtain ⟨PA, hPA0⟩ : ∃ PA, a.PA = PA := ⟨_, rfl⟩
  have HPa : Hid (∀ X, Below W1.heap.size W1 X → Pys X w.heap.size PA u.par) := Lib.hid fun X hX => hPA0 ▸ (HS.out X hX).su.par
  have HP0 := Lib.hid hPA0
  rw [hPA0] at HW ⊢
  clear hPA0
  go_enter Tryz.func105, Tryz.ntmps105
  go_upto_region 1 with fail
  rw [HW.out]
  clear HW
  go_upto_region 2 with fail
  rw [HW3.out]
  clear HW3 hmm
  obtain ⟨k0, k1, k2, k3, k4, kl, _, _⟩ := HS.out W3 HI0.out.1.1
  rw [HP0.out] at k0
  go_upto_block 0 with fail
  clear k0 k1 k2 k3 k4 kl
  go_cut [7] from 16 to 32 (fun _ wx => Hid (TrI W1 wx (W1.heap.size + 1) W1.heap.size 0))
  case first =>
    go_wp2_with fail
    go_loopw [19, 7] (fun i _ wr => ∃ k : Nat, k ≤ u.par.length ∧ i = .int .i64 (k : Int) ∧ Hid (TrI W1 wr (W1.heap.size + 1) W1.heap.size 0)) (fun i _ _ => u.par.length - (RowKit.intOf i).toNat)
    case atStart => exact ⟨0, Nat.zero_le _, rfl, HI0⟩
    case round =>
      clear HI0
      obtain ⟨k, hk, rfl, HI⟩ := hrel
      by_cases hlt : k < u.par.length
      · have b1 : (k : Int) < (u.par.length : Int) := by omega
        obtain ⟨y, hy⟩ : ∃ y, u.par[k]? = some y := ⟨u.par[k], List.getElem?_eq_getElem hlt⟩
        have heq : u.par[k] = y := (List.getElem?_eq_some_iff.1 hy).2
        obtain ⟨g, off, rfl, hg, c0, c1, c2⟩ := (HPa.out wr HI.out.1.1).at_ hlt
        rw [heq] at c0 c1 c2
        have hgw : g < wr.heap.size := by have := (HS.out wr HI.out.1.1).lt; omega
        have HI2 : Hid (TrI W1 (wr.alloc (.cells #[.string y.nm, .string y.bk, .int .i64 y.kd] 38)) (W1.heap.size + 1) W1.heap.size 0) := Lib.hid (HI.out.below ((Below.refl _ _).alloc (Nat.le_refl _) _))
        clear heq hy HI
        by_cases hs : y.nm = nm
        · have b2 : (y.nm.toList == nm.toList) = true := by rw [ba_beq]; simp [hs]
          obtain ⟨⟨x, d1⟩, d2, hI3⟩ := HI2.out.bank (by omega) y.bk
          have hbl := HI2.out.cells.2
          have HI3 := Lib.hid hI3
          clear hs hI3 HI2
          go_wp2_with fail
          go_meet
          case rel => exact HI3
        · have b2 : (y.nm.toList == nm.toList) = false := by rw [ba_beq]; simp [hs]
          clear hs
          go_wp2_with fail
          go_roundw
          case rel => exact ⟨k + 1, by omega, by go_num, HI2⟩
          case measure => simp [RowKit.intOf] <;> omega
      · have b1 : ¬ (k : Int) < (u.par.length : Int) := by omega
        go_wp2_with fail
        go_meet
        case rel => exact HI
  case rest =>
    clear HI0
    have HI0 := hcut
    clear hcut
    obtain ⟨k0, k1, k2, k3, k4, kl, _, _⟩ := HS.out wc HI0.out.1.1
    rw [HP0.out] at k0
    go_wp2_with fail
    clear k0 k1 k2 k3 k4 kl
    go_loopw [36, 9, 10, 11] (fun i _ _ _ wr => ∃ k : Nat, k ≤ u.dl.length ∧ i = .int .i64 (k : Int) ∧ Hid (∃ n, n ≤ k ∧ TrI W1 wr (W1.heap.size + 1) W1.heap.size n)) (fun i _ _ _ _ => u.dl.length - (RowKit.intOf i).toNat)
    case atStart => exact ⟨0, Nat.zero_le _, rfl, Lib.hid ⟨0, Nat.le_refl _, HI0.out⟩⟩
    case round =>
      clear HI0
      obtain ⟨k, hk, rfl, HI⟩ := hrel
      obtain ⟨nn, hnn, hI⟩ := HI.out
      by_cases hlt : k < u.dl.length
      · have b1 : (k : Int) < (u.dl.length : Int) := by omega
        obtain ⟨d, hd⟩ : ∃ d, u.dl[k]? = some d := ⟨u.dl[k], List.getElem?_eq_getElem hlt⟩
        obtain ⟨g, off, A', c', hDA, hg, hc, hbx, _⟩ := (HS.out wr hI.1.1).su.dl.at_ hd
        have hww : w.heap.size < wr.heap.size := (HS.out wr hI.1.1).lt
        have hgw : g < wr.heap.size := by omega
        rw [hDA]
        have hmd := List.mem_of_getElem? hd
        have HRg := Lib.hid (show wr.rangeAt g (off + k * 17) (dlA d A' c').toList from fun j v hv => hc j v (by simpa using hv))
        have HIb := Lib.hid (show (Tryz.prog.info? 72).map (·.size) = some (dlA d A' c').toList.length from infoDl17)
        have HIs := Lib.hid (show (Tryz.prog.info? 72).map (·.size) = some (dlA d A' c').size from infoDl17)
        have HOn := Lib.hid (dlA_allM d A' c')
        have HSz := Lib.hid (show 17 = (dlA d A' c').size from rfl)
        obtain ⟨wy, hwy⟩ : ∃ wy, wy = wr.alloc (.cells (dlA d A' c') 72) := ⟨_, rfl⟩
        have hby : Below wr.heap.size wr wy := by rw [hwy]; exact (Below.refl _ _).alloc (Nat.le_refl _) _
        have hyb : wy.heap[wr.heap.size]? = some (.cells (dlA d A' c') 72 (0, 0)) := by rw [hwy]; exact heap_alloc_new _ _
        have hzs : wr.heap.size < wy.heap.size := (Array.getElem?_eq_some_iff.1 hyb).1
        have HIy := Lib.hid (hI.below hby)
        have HDc : Hid (∀ X, Below wy.heap.size wy X → (∀ j v, (dlA d A' c')[j]? = some v → X.cell? ⟨wr.heap.size, j, none⟩ = some v) ∧ wr.heap.size < X.heap.size) := Lib.hid fun X hX => by
          have h := (hX.block _ hzs).trans hyb
          exact ⟨fun j v hv => by simp only [World.cell?, h]; exact hv, Nat.lt_of_lt_of_le hzs hX.size⟩
        have hdn := HZ.out.dl.txt d hmd d.num (by simp)
        have HCd : Hid (∀ X, Below wy.heap.size wy X → Calls Tryz.prog 143 #[.agg (dlA d A' c')] X fun e w' => ∃ A2 c2, e = .returned (.agg (dlA d A2 c2)) ∧ Below X.heap.size X w') := Lib.hid fun X hX => copyDeal_t ((hbx.kept ((hby.trans (hX.mono hby.size)).mono (by omega))).more (by have := hX.size; omega)) (HZ.out.dl.box d hmd) (fun b hb => (HZ.out.dl.bx d hmd b hb).few)
        have HWy := Lib.hid hwy
        obtain ⟨lp, lq, hlk⟩ := HIy.out.look hdn
        clear hDA hc hd hwy hby hyb hbx hmd hI HI
        go_upto_region 11 with (first
          | (refine wpList_load_mid rfl 72 (.tmp 38) rfl g (off + k * 17) rfl (dlA d A' c').toList _ HRg.out Tryz.underlying72 rfl HIb.out ?_)
          | (refine wpList_store_row rfl 72 (.tmp 9) (.tmp 39) rfl wr.heap.size (dlA d A' c') rfl rfl 72 _ (heap_alloc_new _ _) HIs.out HSz.out HOn.out ?_; rw [setRow_allocB])
          | fail)
        rw [← HWy.out]
        clear HWy HRg HIs HOn HSz
        have z0 := (HDc.out wy (Below.refl _ _)).1 0 _ (show (dlA d A' c')[0]? = some (.string d.num) from rfl)
        have zb := HIy.out.cells
        have hlk2 : ∀ nq, (Instr.lookup 195 (.map (some W1.heap.size)) (.string d.num) true).run Tryz.prog (wy.drewN nq) = .ok (.tuple #[ptV lp, .bool lq]) (wy.drewN nq) := fun nq => hlk _ (drewN_below _ _)
        generalize ptV lp = pv at *
        go_quiet (fail)
        have HBq : Hid (Below wy.heap.size wy (wy.drewN nq)) := Lib.hid (drewN_below _ _)
        clear hlk hlk2 z0 zb
        generalize wy.drewN nq = V8 at *
        have HI8 := Lib.hid (HIy.out.below HBq.out)
        have y1 := (HDc.out V8 HBq.out).1 1 _ (show (dlA d A' c')[1]? = some (.string d.sel) from rfl)
        have y2 := (HDc.out V8 HBq.out).1 2 _ (show (dlA d A' c')[2]? = some (.string d.buy) from rfl)
        have hz8 := (HDc.out V8 HBq.out).2
        have HX1 : Hid (∃ n, n ≤ k + 1 ∧ TrI W1 V8 (W1.heap.size + 1) W1.heap.size n) := Lib.hid ⟨nn, by omega, HI8.out⟩
        go_upto_region 12 with fail
        go_cut [62] from 50 to 62 (fun v wx => ∃ b : Bool, v = .bool b ∧ V8 = wx)
        case first =>
          clear HX1 HI8 HCd HIy
          cases lq with
          | true =>
            go_wp2_with fail
            go_meet
            case rel => exact ⟨_, rfl, rfl⟩
          | false =>
            by_cases e1 : d.sel = nm
            · have b2 : (d.sel.toList == nm.toList) = true := by rw [ba_beq]; simp [e1]
              have b3 : (d.sel.toList != nm.toList) = false := by rw [bne, b2]; rfl
              clear e1
              go_wp2_with fail
              go_meet
              case rel => exact ⟨_, rfl, rfl⟩
            · have b2 : (d.sel.toList == nm.toList) = false := by rw [ba_beq]; simp [e1]
              have b3 : (d.sel.toList != nm.toList) = true := by rw [bne, b2]; rfl
              have b4 : ¬ d.sel.toList = nm.toList := by simpa using b2
              clear e1
              go_wp2_with fail
              go_meet
              case rel => exact ⟨_, rfl, rfl⟩
        case rest =>
          obtain ⟨b, rfl, rfl⟩ := hcut
          cases b with
          | true =>
            clear HI8 HCd HIy
            go_wp2_with fail
            go_roundw
            case rel => exact ⟨k + 1, by omega, by go_num, HX1⟩
            case measure => simp [RowKit.intOf] <;> omega
          | false =>
            clear HX1 y1 y2 hz8
            go_upto_region 13 with fail
            have HCd2 : Hid (∀ X, Below V8.heap.size V8 X → X.cell? ⟨W1.heap.size + 1, 2, none⟩ = some (.map (some W1.heap.size)) ∧ W1.heap.size + 1 < X.heap.size ∧ X.cell? ⟨wr.heap.size, 0, none⟩ = some (.string d.num) ∧ X.cell? ⟨wr.heap.size, 1, none⟩ = some (.string d.sel) ∧ wr.heap.size < X.heap.size ∧ X.rangeAt wr.heap.size 0 (dlA d A' c').toList) := Lib.hid fun X hX => by
              have h1 := (HI8.out.below hX).cells
              have h2 := HDc.out X (HBq.out.trans (hX.mono HBq.out.size))
              exact ⟨h1.1, h1.2, h2.1 0 _ (show (dlA d A' c')[0]? = some (.string d.num) from rfl), h2.1 1 _ (show (dlA d A' c')[1]? = some (.string d.sel) from rfl), h2.2, fun j v hv => by
                rw [Nat.zero_add]
                exact h2.1 j v (by simpa using hv)⟩
            refine wp_region_facts (Le := fun w w' => Below w.heap.size w w') (C := fun X => Below V8.heap.size V8 X) (R := trR (W1.heap.size + 1) W1.heap.size wr.heap.size V8.heap.size nm d A' c') 15 15 [] (by kernel_rfl) (by kernel_rfl) (by kernel_rfl) rfl (Below.refl _ _).drew (fun W W' h1 h2 => h2.trans (h1.mono h2.size)) (fun i v w w' _ h => trR_kept i v w w' h) (steps_take ?_) ?_
            · simp only [List.take_succ_cons, List.take_zero, StepsFrom]
              refine ⟨fact_step ?_, fact_step ?_, fact_step ?_, fact_step ?_, fact_step ?_, fact_step ?_, fact_step ?_, fact_step ?_, fact_step ?_, fact_step ?_, fact_step ?_, fact_step ?_, fact_step ?_, fact_step ?_, fact_step ?_, trivial⟩
              all_goals (intro a2 W hs hc hd9 K9 hK)
              all_goals have t0 : a2.tmps[0]? = some (.string nm) := (hs.rest 0 (of_decide_eq_true (by kernel_rfl))).trans rfl
              all_goals have t5 : a2.tmps[5]? = some (.pointer (some ⟨W1.heap.size + 1, 0, none⟩)) := (hs.rest 5 (of_decide_eq_true (by kernel_rfl))).trans rfl
              all_goals have t9 : a2.tmps[9]? = some (.pointer (some ⟨wr.heap.size, 0, none⟩)) := (hs.rest 9 (of_decide_eq_true (by kernel_rfl))).trans rfl
              all_goals clear hs
              -- 0
              · go_simp
                exact hK _ _ (Below.refl _ _) rfl
              -- 1
              · obtain ⟨v0, s0, r0⟩ := hd9 { on := 0, ground := .data } (by simp) (by rfl) _ (by rfl)
                replace s0 := s0 _ rfl
                obtain rfl := r0
                obtain ⟨m1, m2, m3, m4, m5, m6⟩ := HCd2.out W hc
                go_simp
                exact hK _ _ (Below.refl _ _) rfl
              -- 2
              · obtain ⟨v1, s1, r1⟩ := hd9 { on := 1, ground := .data } (by simp) (by rfl) _ (by rfl)
                replace s1 := s1 _ rfl
                obtain rfl := r1
                go_simp
                exact hK _ _ (Below.refl _ _) rfl
              -- 3
              · obtain ⟨v2, s2, r2⟩ := hd9 { on := 2, ground := .data } (by simp) (by rfl) _ (by rfl)
                replace s2 := s2 _ rfl
                obtain rfl := r2
                obtain ⟨m1, m2, m3, m4, m5, m6⟩ := HCd2.out W hc
                go_simp
                exact hK _ _ (Below.refl _ _) rfl
              -- 4
              · go_simp
                exact hK _ _ (Below.refl _ _) rfl
              -- 5
              · obtain ⟨v4, s4, r4⟩ := hd9 { on := 4, ground := .data } (by simp) (by rfl) _ (by rfl)
                replace s4 := s4 _ rfl
                obtain rfl := r4
                obtain ⟨m1, m2, m3, m4, m5, m6⟩ := HCd2.out W hc
                go_simp
                exact hK _ _ (Below.refl _ _) rfl
              -- 6
              · exact wp_load_mid 72 (.tmp 9) rfl wr.heap.size 0 (by simp [Act.eval, t9]) (dlA d A' c').toList _ (HCd2.out W hc).2.2.2.2.2 Tryz.underlying72 rfl HIb.out (hK _ _ (Below.refl _ _) rfl)
              -- 7
              · obtain ⟨v6, s6, r6⟩ := hd9 { on := 6, ground := .data } (by simp) (by rfl) _ (by rfl)
                replace s6 := s6 _ rfl
                obtain rfl := r6
                have HC := Lib.hid (HCd.out W (HBq.out.trans (hc.mono HBq.out.size)))
                go_simp
                refine HC.out.mono ?_
                rintro e w5 ⟨A2, c2, rfl, hb5⟩
                exact hK _ _ hb5 ⟨A2, c2, rfl⟩
              -- 8
              · go_simp
                exact hK _ _ (Below.refl _ _) rfl
              -- 9
              · obtain ⟨v8, s8, r8⟩ := hd9 { on := 8, ground := .data } (by simp) (by rfl) _ (by rfl)
                replace s8 := s8 _ rfl
                obtain rfl := r8
                obtain ⟨m1, m2, m3, m4, m5, m6⟩ := HCd2.out W hc
                go_simp
                exact hK _ _ (Below.refl _ _) rfl
              -- 10
              · go_simp
                exact hK _ _ (Below.refl _ _) rfl
              -- 11
              · obtain ⟨v9, s9, r9⟩ := hd9 { on := 9, ground := .data } (by simp) (by rfl) _ (by rfl)
                replace s9 := s9 _ rfl
                obtain rfl := r9
                obtain ⟨v10, s10, r10⟩ := hd9 { on := 10, ground := .data } (by simp) (by rfl) _ (by rfl)
                replace s10 := s10 _ rfl
                obtain rfl := r10
                go_simp
                exact hK _ _ (Below.refl _ _) ⟨_, rfl⟩
              -- 12
              · go_simp
                exact hK _ _ ((Below.refl _ _).alloc (Nat.le_refl _) _) ⟨_, rfl⟩
              -- 13
              · obtain ⟨v7, s7, r7⟩ := hd9 { on := 7, ground := .data } (by simp) (by rfl) _ (by rfl)
                replace s7 := s7 _ rfl
                obtain ⟨A2, c2, rfl⟩ := r7
                obtain ⟨v11, s11, r11⟩ := hd9 { on := 11, ground := .data } (by simp) (by rfl) _ (by rfl)
                replace s11 := s11 _ rfl
                obtain ⟨bb, rfl⟩ := r11
                obtain ⟨v12, s12, r12⟩ := hd9 { on := 12, ground := .data } (by simp) (by rfl) _ (by rfl)
                replace s12 := s12 _ rfl
                obtain ⟨qq, rfl⟩ := r12
                clear HCd HCd2
                unfold dlA at s7
                go_simp
                exact hK _ _ (Below.refl _ _) ⟨_, rfl⟩
              -- 14
              · obtain ⟨v13, s13, r13⟩ := hd9 { on := 13, ground := .data } (by simp) (by rfl) _ (by rfl)
                replace s13 := s13 _ rfl
                obtain ⟨cs, rfl⟩ := r13
                go_simp
                exact hK _ _ ((Below.refl _ _).alloc (Nat.le_refl _) _) ⟨_, rfl⟩
            · intro a2 W hs hc hf
              obtain ⟨v3, s3, rfl⟩ := hf 3 _ rfl (by omega)
              obtain ⟨v5, s5, rfl⟩ := hf 5 _ rfl (by omega)
              obtain ⟨v14, s14, q, rfl⟩ := hf 14 _ rfl (by omega)
              replace s3 := s3 _ rfl
              replace s5 := s5 _ rfl
              replace s14 := s14 _ rfl
              obtain ⟨X1, r1, hX1⟩ := HI8.out.put (by omega) hdn q hc
              have HX1 : Hid (∃ n, n ≤ k + 1 ∧ TrI W1 X1 (W1.heap.size + 1) W1.heap.size n) := Lib.hid ⟨nn + 1, by omega, hX1⟩
              have hp := hs.puts [63, 64, 65, 66, 67, 68, 69, 70, 71, 72, 73, 74, 75, 76, 77] (by kernel_rfl)
              simp only [List.foldl_cons, List.foldl_nil] at hp
              have g66 : a2.tmps.getD 66 undef = .map (some W1.heap.size) := by simp [s3]
              have g68 : a2.tmps.getD 68 undef = .string d.num := by simp [s5]
              have g77 : a2.tmps.getD 77 undef = .pointer (some ⟨q, 0, none⟩) := by simp [s14]
              rw [g66, g68, g77] at hp
              generalize a2.tmps.getD 63 undef = f63 at hp
              generalize a2.tmps.getD 64 undef = f64 at hp
              generalize a2.tmps.getD 65 undef = f65 at hp
              generalize a2.tmps.getD 67 undef = f67 at hp
              generalize a2.tmps.getD 69 undef = f69 at hp
              generalize a2.tmps.getD 70 undef = f70 at hp
              generalize a2.tmps.getD 71 undef = f71 at hp
              generalize a2.tmps.getD 72 undef = f72 at hp
              generalize a2.tmps.getD 73 undef = f73 at hp
              generalize a2.tmps.getD 74 undef = f74 at hp
              generalize a2.tmps.getD 75 undef = f75 at hp
              generalize a2.tmps.getD 76 undef = f76 at hp
              clear g66 g68 g77 s3 s5 s14 hs hf hX1 HI8 HCd HCd2
              rw [hp]
              clear hp
              refine wpOps_more (by rfl) rfl ?_
              go_simp
              refine wpOps_done ?_
              go_wp2_with fail
              go_roundw
              case rel => exact ⟨k + 1, by omega, by go_num, HX1⟩
              case measure => simp [RowKit.intOf] <;> omega
      · have b1 : ¬ (k : Int) < (u.dl.length : Int) := by omega
        have HX := Lib.hid (HF.out (W1.heap.size + 1) wr hI.1.1)
        clear HI hI HF hk hlt
        go_wp2_with fail
        first
          | exact HX.out
          | (go_ret; exact HX.out)
end Go.Proofs.YtchkdidpnjakeaaGreatDoor
