/- office.New: an office comes back. -/
import Derived.Test.YtchkdidpnjakeaaGreatDoorMNewC
namespace Go.Proofs.YtchkdidpnjakeaaGreatDoor
open Go.RowKit Go.Maps Go.Lib Led
set_option linter.unusedVariables false
set_option maxRecDepth 100000

/-- an office in block b -/
structure OfI (w wr : World) (b dm nd : Nat) (kd : Int) : Prop where
  bw : Below w.heap.size w wr
  dls : ∃ F : ByteArray → Option (Option Nat), Mp curC ptE wr dm nd F
  lo : w.heap.size ≤ dm ∧ w.heap.size ≤ b
  blk : ∃ x y : ByteArray, wr.heap[b]? = some (.cells #[.string x, .string y, .int .i64 kd, .map (some dm)] 229 (0, 0))
section
variable {w wr X : World} {b dm nd : Nat} {kd : Int}
theorem OfI.cells (h : OfI w wr b dm nd kd) : wr.cell? ⟨b, 2, none⟩ = some (.int .i64 kd) ∧ wr.cell? ⟨b, 3, none⟩ = some (.map (some dm)) ∧ b < wr.heap.size := by
  obtain ⟨x, y, h⟩ := h.blk
  exact ⟨by simp [World.cell?, h], by simp [World.cell?, h], (Array.getElem?_eq_some_iff.1 h).1⟩
theorem OfI.below (h : OfI w wr b dm nd kd) (hb : Below wr.heap.size wr X) : OfI w X b dm nd kd := by
  have hl := h.cells.2.2
  obtain ⟨h1, ⟨G, h3⟩, h4, x, y, h5⟩ := h
  exact ⟨h1.trans (hb.mono h1.size), ⟨G, h3.below hb h3.lt⟩, h4, x, y, (hb.block b hl).trans h5⟩
theorem OfI.sbf (h : OfI w wr b dm nd kd) {sb : Nat} (hs : Sbf sb wr X) (hb : Below w.heap.size w X) (h1 : dm ≠ sb) (h2 : b ≠ sb) : OfI w X b dm nd kd := by
  have hl := h.cells.2.2
  obtain ⟨_, ⟨G, h3⟩, h4, x, y, h5⟩ := h
  exact ⟨hb, ⟨G, h3.of_block (hs.same _ h1 h3.lt)⟩, h4, x, y, (hs.same b h2 hl).trans h5⟩
theorem OfI.ne (h : OfI w wr b dm nd kd) : b ≠ dm := by
  obtain ⟨_, ⟨G, h3⟩, h4, x, y, h5⟩ := h
  exact h3.neCells h5
theorem OfI.putD (h : OfI w wr b dm nd kd) (hn : nd ≤ 1000) {s : ByteArray} (hs : s.size ≤ maxLen) (z : Nat) (hX : Below wr.heap.size wr X) : ∃ w', (Instr.mapUpdate 227 (.map (some dm)) (.string s) (.pointer (some ⟨z, 0, none⟩))).run Tryz.prog X = .ok () w' ∧ OfI w w' b dm (nd + 1) kd ∧ Sbf dm X w' := by
  obtain ⟨h1, ⟨G, h3⟩, h4, x, y, h5⟩ := h.below hX
  obtain ⟨w', e1, e2, e3⟩ := h3.store Tryz.underlying227 (by unfold maxLen; omega) (x := s) (show curC.ok s from hs) (v := some z) trivial
  have hsame : ∀ k, k ≠ dm → k < X.heap.size → w'.heap[k]? = X.heap[k]? := fun k hk hks => e3.grown.block k hks (fun e => by injection e with e; omega)
  exact ⟨w', e1, ⟨turned_below h1 e3 h4.1 h1.size, ⟨_, e2⟩, h4, x, y, (hsame b (h3.neCells h5) (Array.getElem?_eq_some_iff.1 h5).1).trans h5⟩, e3.grown.size, hsame⟩
/-- its kind and its bank are noted, in either order -/
theorem OfI.note (h : OfI w wr b dm nd kd) (k2 : Int) (s : ByteArray) : (∃ y : ByteArray, wr.cell? ⟨b, 1, none⟩ = some (.string y)) ∧ wr.frozen? ⟨b, 1, none⟩ = false ∧ wr.frozen? ⟨b, 2, none⟩ = false ∧ OfI w ((wr.setCell ⟨b, 2, none⟩ (.int .i64 k2)).setCell ⟨b, 1, none⟩ (.string s)) b dm nd k2 ∧ OfI w ((wr.setCell ⟨b, 1, none⟩ (.string s)).setCell ⟨b, 2, none⟩ (.int .i64 k2)) b dm nd k2 := by
  have hne := h.ne
  obtain ⟨h1, ⟨G, h3⟩, h4, x, y, h5⟩ := h
  refine ⟨⟨y, by simp [World.cell?, h5]⟩, by simp [World.frozen?, h5], by simp [World.frozen?, h5], ⟨(h1.setCell h4.2 _).setCell h4.2 _, ⟨G, (h3.setCell (fun e => hne e.symm) _).setCell (fun e => hne e.symm) _⟩, h4, x, s, ?_⟩, ⟨(h1.setCell h4.2 _).setCell h4.2 _, ⟨G, (h3.setCell (fun e => hne e.symm) _).setCell (fun e => hne e.symm) _⟩, h4, x, s, ?_⟩⟩
  · exact heap_setCell_same _ b 1 _ _ _ (heap_setCell_same wr b 2 _ _ _ h5)
  · exact heap_setCell_same _ b 2 _ _ _ (heap_setCell_same wr b 1 _ _ _ h5)
theorem below_two {B : Nat} {W a c : World} (h : Below B W a) (k : Below B W c) (hs : a.heap.size ≤ c.heap.size) : Below B a c :=
  ⟨k.os.trans h.os.symm, k.tape.trans h.tape.symm, k.output.trans h.output.symm, hs, fun i hi => (k.block i hi).trans (h.block i hi).symm⟩
theorem below_cut {B : Nat} (h : Below B w wr) (hX : Below X.heap.size X wr) (hB : B ≤ X.heap.size) (hs : w.heap.size ≤ X.heap.size) : Below B w X :=
  ⟨hX.os.symm.trans h.os, hX.tape.symm.trans h.tape, hX.output.symm.trans h.output, hs, fun i hi => (hX.block i (Nat.lt_of_lt_of_le hi hB)).symm.trans (h.block i hi)⟩
theorem OfI.cut (h : OfI w wr b dm nd kd) (hX : Below X.heap.size X wr) (hl : b < X.heap.size ∧ dm < X.heap.size) : OfI w X b dm nd kd := by
  obtain ⟨h1, ⟨G, h3⟩, h4, x, y, h5⟩ := h
  exact ⟨below_cut h1 hX (by omega) (by omega), ⟨G, h3.of_block (hX.block _ hl.2).symm⟩, h4, x, y, (hX.block _ hl.1).symm.trans h5⟩
theorem SeI.cut {M : List ByteArray} {sb n : Nat} (h : SeI w wr sb M n) (hX : Below X.heap.size X wr) (hl : sb < X.heap.size) : SeI w X sb M n := by
  obtain ⟨h1, h2, F, hM, hF⟩ := h
  exact ⟨below_cut h1 hX (by omega) (by omega), h2, F, hM.of_block (hX.block _ hl).symm, hF⟩
end
/-- what the operations give that lay an office's deal -/
def ofR (b m z : Nat) (d : Dl) (A : Option Addr) (c : Nat) : Nat → Value → World → Prop
  | 0, v, _ => v = .pointer (some ⟨b, 0, none⟩)
  | 1, v, _ => v = .pointer (some ⟨b, 0, none⟩)
  | 2, v, _ => v = .pointer (some ⟨b, 3, none⟩)
  | 3, v, _ => v = .map (some m)
  | 4, v, _ => v = .pointer (some ⟨z, 0, none⟩)
  | 5, v, _ => v = .string d.num
  | 6, v, _ => v = .agg (dlA d A c)
  | 7, v, _ => ∃ cs, v = .agg cs
  | 8, v, _ => ∃ q, v = .pointer (some ⟨q, 0, none⟩)
  | _, _, _ => True
theorem ofR_kept {b m z : Nat} {d : Dl} {A : Option Addr} {c : Nat} (i : Nat) (v : Value) (w w' : World) (h : ofR b m z d A c i v w) : ofR b m z d A c i v w' := by
  match i, h with
  | 0, h => exact h
  | 1, h => exact h
  | 2, h => exact h
  | 3, h => exact h
  | 4, h => exact h
  | 5, h => exact h
  | 6, h => exact h
  | 7, h => exact h
  | 8, h => exact h
  | n + 9, h => trivial
/-- a world's first blocks -/
def cutW (n : Nat) (w : World) : World := { w with heap := w.heap.extract 0 n }
theorem cutW_size (n : Nat) (w : World) (h : n ≤ w.heap.size) : (cutW n w).heap.size = n := by
  show (w.heap.extract 0 n).size = n
  simp; omega
theorem cutW_below (n : Nat) (w : World) : Below (cutW n w).heap.size (cutW n w) w := ⟨rfl, rfl, rfl, by show (w.heap.extract 0 n).size ≤ _; simp; omega, fun k hk => by
  show w.heap[k]? = (w.heap.extract 0 n)[k]?
  have hk2 : k < (w.heap.extract 0 n).size := hk
  simp at hk2
  rw [Array.getElem?_extract]
  simp
  omega⟩
set_option maxHeartbeats 16000000 in
theorem newO_w {w : World} {nm : ByteArray} {u : Su} {a : Sa} (hA : SuAt w w.heap.size u a) (hz : SuSz u) :
    Calls Tryz.prog 108 #[.string nm, .agg #[.slice a.PA u.par.length a.pc, .slice a.DA u.dl.length a.dc, .slice a.FA u.fd.length a.fc, .slice a.RA u.rest.length a.rc, .slice a.HA u.hol.length a.hc]] w fun e w' => NwQ w e w' := by
  obtain ⟨W1, hW1⟩ : ∃ W1, W1 = w.alloc (.cells #[.slice a.PA u.par.length a.pc, .slice a.DA u.dl.length a.dc, .slice a.FA u.fd.length a.fc, .slice a.RA u.rest.length a.rc, .slice a.HA u.hol.length a.hc] 29) := ⟨_, rfl⟩
  have HS : Hid (∀ X, Below W1.heap.size W1 X → SbX w X u a) := Lib.hid fun X hX => SbX.of hA hW1 hX
  have HZ := Lib.hid hz
  have hp16 := hz.few.par
  have hd6 := hz.few.dl
  have hmm := @run_makeMap Tryz.prog
  have HF : Hid (∀ p X, Below W1.heap.size W1 X → NwQ w (.returned (.pointer (some ⟨p, 0, none⟩))) X) := Lib.hid fun p X hX => ⟨p, rfl, (HS.out X hX).bw⟩
  generalize NwQ w = CP at *
  obtain ⟨W3, hW3⟩ : ∃ W3, W3 = (W1.alloc (.map #[] 0)).alloc (.cells #[.string nm, .string ⟨#[]⟩, .int .i64 (-1), .map (some W1.heap.size)] 229) := ⟨_, rfl⟩
  have HI0 : Hid (OfI W1 W3 (W1.heap.size + 1) W1.heap.size 0 (-1)) := Lib.hid (by
    have hsm : (W1.alloc (.map #[] 0)).heap.size = W1.heap.size + 1 := by simp
    have hbm : Below W1.heap.size W1 (W1.alloc (.map #[] 0)) := (Below.refl _ _).alloc (Nat.le_refl _) _
    rw [hW3]
    refine ⟨hbm.alloc (by omega) _, ⟨_, (Mp.made (C := curC) (E := ptE) W1).alloc _⟩, by omega, nm, ⟨#[]⟩, ?_⟩
    rw [← hsm]
    exact heap_alloc_new _ _)
  have HW : Hid (w.alloc (.cells #[.slice a.PA u.par.length a.pc, .slice a.DA u.dl.length a.dc, .slice a.FA u.fd.length a.fc, .slice a.RA u.rest.length a.rc, .slice a.HA u.hol.length a.hc] 29) = W1) := Lib.hid hW1.symm
  have HW3 : Hid ((W1.alloc (.map #[] 0)).alloc (.cells #[.string nm, .string ⟨#[]⟩, .int .i64 (-1), .map (some W1.heap.size)] 229) = W3) := Lib.hid hW3.symm
  clear hW1 hW3 hA hz
  obtain ⟨PA, hPA0⟩ : ∃ PA, a.PA = PA := ⟨_, rfl⟩
  have HPa : Hid (∀ X, Below W1.heap.size W1 X → Pys X w.heap.size PA u.par) := Lib.hid fun X hX => hPA0 ▸ (HS.out X hX).su.par
  have HP0 := Lib.hid hPA0
  rw [hPA0] at HW ⊢
  clear hPA0
  go_enter Tryz.func108, Tryz.ntmps108
  go_upto_region 1 with fail
  rw [HW.out]
  clear HW
  go_upto_region 2 with fail
  rw [HW3.out]
  clear HW3
  obtain ⟨k0, k1, k2, k3, k4, kl, _, _⟩ := HS.out W3 HI0.out.bw
  rw [HP0.out] at k0
  go_upto_block 0 with fail
  clear k0 k1 k2 k3 k4 kl
  go_cut [7] from 16 to 45 (fun _ wx => Hid (∃ kd, OfI W1 wx (W1.heap.size + 1) W1.heap.size 0 kd))
  case first =>
    go_wp2_with fail
    go_loopw [19, 7] (fun i _ wr => ∃ k : Nat, k ≤ u.par.length ∧ i = .int .i64 (k : Int) ∧ Hid (OfI W1 wr (W1.heap.size + 1) W1.heap.size 0 (-1))) (fun i _ _ => u.par.length - (RowKit.intOf i).toNat)
    case atStart => exact ⟨0, Nat.zero_le _, rfl, HI0⟩
    case round =>
      clear HI0 hmm
      obtain ⟨k, hk, rfl, HI⟩ := hrel
      by_cases hlt : k < u.par.length
      · have b1 : (k : Int) < (u.par.length : Int) := by omega
        obtain ⟨y, hy⟩ : ∃ y, u.par[k]? = some y := ⟨u.par[k], List.getElem?_eq_getElem hlt⟩
        have heq : u.par[k] = y := (List.getElem?_eq_some_iff.1 hy).2
        obtain ⟨g, off, rfl, hg, c0, c1, c2⟩ := (HPa.out wr HI.out.bw).at_ hlt
        rw [heq] at c0 c1 c2
        have hgw : g < wr.heap.size := by have := (HS.out wr HI.out.bw).lt; omega
        obtain ⟨wy, hwy⟩ : ∃ wy, wy = wr.alloc (.cells #[.string y.nm, .string y.bk, .int .i64 y.kd] 38) := ⟨_, rfl⟩
        have hby : Below wr.heap.size wr wy := by rw [hwy]; exact (Below.refl _ _).alloc (Nat.le_refl _) _
        have hyb : wy.heap[wr.heap.size]? = some (.cells #[.string y.nm, .string y.bk, .int .i64 y.kd] 38 (0, 0)) := by rw [hwy]; exact heap_alloc_new _ _
        have e0 : wy.cell? ⟨wr.heap.size, 0, none⟩ = some (.string y.nm) := by simp [World.cell?, hyb]
        have e1 : wy.cell? ⟨wr.heap.size, 1, none⟩ = some (.string y.bk) := by simp [World.cell?, hyb]
        have e2 : wy.cell? ⟨wr.heap.size, 2, none⟩ = some (.int .i64 y.kd) := by simp [World.cell?, hyb]
        have hzs : wr.heap.size < wy.heap.size := (Array.getElem?_eq_some_iff.1 hyb).1
        have HI2 := Lib.hid (HI.out.below hby)
        have HWy := Lib.hid hwy
        clear heq hy HI hwy hby hyb
        go_upto_region 5 with fail
        rw [← HWy.out]
        clear HWy c0 c1 c2 hgw hg
        by_cases hs : y.nm = nm
        · have b2 : (y.nm.toList == nm.toList) = true := by rw [ba_beq]; simp [hs]
          have b3 : (y.nm.toList != nm.toList) = false := by rw [bne, b2]; rfl
          have HX : Hid (∃ kd, OfI W1 wy (W1.heap.size + 1) W1.heap.size 0 kd) := Lib.hid ⟨_, HI2.out⟩
          have HT : Hid (((y.kd == 3) = true ∨ (y.kd == 3) = false ∧ (y.kd == 4) = true) ∨ ((y.kd == 3) = false ∧ (y.kd == 4) = false)) := Lib.hid (by
            cases (y.kd == 3) <;> cases (y.kd == 4) <;> simp)
          obtain ⟨⟨x, d1⟩, f1, f2, hN1, hN2⟩ := HI2.out.note y.kd y.bk
          have d2 := HI2.out.cells.1
          have hbl := HI2.out.cells.2.2
          have HN1 := Lib.hid hN1
          have HN2 := Lib.hid hN2
          clear hs hN1 hN2
          rcases HT.out with ht | ⟨t3, t4⟩
          · clear HX
            rcases ht with t3 | ⟨t3, t4⟩
            all_goals
              clear HT
              go_upto_region 7 with fail
              go_region
              all_goals
                go_wp2_with fail
                go_meet
                case rel => first | exact Lib.hid ⟨_, HN1.out⟩ | exact Lib.hid ⟨_, HN2.out⟩ | exact Lib.hid ⟨_, HN1.out.below (Below.refl _ _).drew⟩ | exact Lib.hid ⟨_, HN2.out.below (Below.refl _ _).drew⟩
          · clear HT HN1 HN2
            go_wp2_with fail
            go_meet
            case rel => exact HX
        · have b2 : (y.nm.toList == nm.toList) = false := by rw [ba_beq]; simp [hs]
          have b3 : (y.nm.toList != nm.toList) = true := by rw [bne, b2]; rfl
          have b4 : ¬ y.nm.toList = nm.toList := by simpa using b2
          clear hs
          go_wp2_with fail
          go_roundw
          case rel => exact ⟨k + 1, by omega, by go_num, HI2⟩
          case measure => simp [RowKit.intOf] <;> omega
      · have b1 : ¬ (k : Int) < (u.par.length : Int) := by omega
        go_wp2_with fail
        go_meet
        case rel => exact Lib.hid ⟨_, HI.out⟩
  case rest =>
    obtain ⟨kd, hO⟩ := hcut.out
    clear hcut HI0
    have HO := Lib.hid hO
    have hsbz := hO.bw.size
    have hsbl := hO.cells.2.2
    have HJ0 : Hid (∃ n M m, n ≤ 0 ∧ m ≤ 0 ∧ OfI W1 (wc.alloc (.map #[] 0)) (W1.heap.size + 1) W1.heap.size n kd ∧ SeI W1 (wc.alloc (.map #[] 0)) wc.heap.size M m) := Lib.hid ⟨0, [], 0, Nat.le_refl _, Nat.le_refl _, hO.below ((Below.refl _ _).alloc (Nat.le_refl _) _), hO.bw.alloc hO.bw.size _, hO.bw.size, _, Mp.made (C := curC) (E := yesE) wc, fun s => by simp⟩
    have hsbn : W1.heap.size ≠ wc.heap.size ∧ W1.heap.size + 1 ≠ wc.heap.size := by omega
    obtain ⟨k0, k1, k2, k3, k4, kl, _, _⟩ := HS.out (wc.alloc (.map #[] 0)) (hO.bw.alloc hO.bw.size _)
    clear hO HO
    go_wp2_with fail
    clear k0 k1 k2 k3 k4 kl hmm
    generalize hsbe : wc.heap.size = sb at *
    clear hsbe
    go_loopw [50, 10, 11] (fun i _ _ wr => ∃ k : Nat, k ≤ u.dl.length ∧ i = .int .i64 (k : Int) ∧ Hid (∃ n M m, n ≤ k ∧ m ≤ k ∧ OfI W1 wr (W1.heap.size + 1) W1.heap.size n kd ∧ SeI W1 wr sb M m)) (fun i _ _ _ => u.dl.length - (RowKit.intOf i).toNat)
    case atStart => exact ⟨0, Nat.zero_le _, rfl, HJ0⟩
    case round =>
      clear HJ0
      obtain ⟨k, hk, rfl, HI⟩ := hrel
      obtain ⟨nn, M, m, hnn, hmm, hI, hJ⟩ := HI.out
      by_cases hlt : k < u.dl.length
      · have b1 : (k : Int) < (u.dl.length : Int) := by omega
        obtain ⟨d, hd⟩ : ∃ d, u.dl[k]? = some d := ⟨u.dl[k], List.getElem?_eq_getElem hlt⟩
        obtain ⟨g, off, A', c', hDA, hg, hc, hbx, _⟩ := (HS.out wr hI.bw).su.dl.at_ hd
        have hww : w.heap.size < wr.heap.size := (HS.out wr hI.bw).lt
        have hgw : g < wr.heap.size := by omega
        rw [hDA]
        have hmd := List.mem_of_getElem? hd
        have HRg := Lib.hid (show wr.rangeAt g (off + k * 17) (dlA d A' c').toList from fun j v hv => hc j v (by simpa using hv))
        have HIb := Lib.hid (show (Tryz.prog.info? 72).map (·.size) = some (dlA d A' c').toList.length from infoDl17)
        have HIs := Lib.hid (show (Tryz.prog.info? 72).map (·.size) = some (dlA d A' c').size from infoDl17)
        have HOn := Lib.hid (dlA_allM d A' c')
        have HSz := Lib.hid (show 17 = (dlA d A' c').size from rfl)
        obtain ⟨wy, hwy⟩ : ∃ wy, wy = wr.alloc (.cells (dlA d A' c') 72) := ⟨_, rfl⟩
        have hby : Below wr.heap.size wr wy := by rw [hwy]; exact (Below.refl _ _).alloc (Nat.le_refl _) _
        have hyb : wy.heap[wr.heap.size]? = some (.cells (dlA d A' c') 72 (0, 0)) := by rw [hwy]; exact heap_alloc_new _ _
        have hys : wy.heap.size = wr.heap.size + 1 := by rw [hwy]; simp
        have hIy := hI.below hby
        have hJy := hJ.below hby
        have HIy := Lib.hid hIy
        have hdn := HZ.out.dl.txt d hmd d.num (by simp)
        have HLk := Lib.hid (hJy.look hdn)
        have HJy := Lib.hid hJy
        have z0 : wy.cell? ⟨wr.heap.size, 0, none⟩ = some (.string d.num) := by simp [World.cell?, hyb, dlA]
        have hzs : wr.heap.size < wy.heap.size := by omega
        have HYb := Lib.hid hyb
        have HYs := Lib.hid hys
        have HBxs : Hid (∀ X, Below w.heap.size wr X → Bxs X w.heap.size A' d.box) := Lib.hid fun X hX => hbx.kept hX
        have HBl := Lib.hid (HZ.out.dl.box d hmd)
        have HLw : Hid (∀ b ∈ d.box, b.l.length ≤ 100000000) := Lib.hid fun b hb => (HZ.out.dl.bx d hmd b hb).few
        have HWy := Lib.hid hwy
        have HBy := Lib.hid hby
        have HIw := Lib.hid hI.bw
        have hsbw := hJ.low
        have hkl := hI.cells.2.2
        have hww2 : w.heap.size ≤ W1.heap.size := Nat.le_of_lt (HS.out W1 (Below.refl _ _)).lt
        clear hDA hc hd hwy hby hyb hys hbx hmd hI hJ hIy hJy HI
        go_upto_region 13 with (first
          | (refine wpList_load_mid rfl 72 (.tmp 52) rfl g (off + k * 17) rfl (dlA d A' c').toList _ HRg.out Tryz.underlying72 rfl HIb.out ?_)
          | (refine wpList_store_row rfl 72 (.tmp 10) (.tmp 53) rfl wr.heap.size (dlA d A' c') rfl rfl 72 _ (heap_alloc_new _ _) HIs.out HSz.out HOn.out ?_; rw [setRow_allocB])
          | fail)
        rw [← HWy.out]
        clear HWy HRg HIs HOn HSz HIb
        by_cases hm : d.num ∈ M
        · have r1 := HLk.out.1 hm
          have HX1 : Hid (∃ n M m, n ≤ k + 1 ∧ m ≤ k + 1 ∧ OfI W1 wy (W1.heap.size + 1) W1.heap.size n kd ∧ SeI W1 wy sb M m) := Lib.hid ⟨nn, M, m, by omega, by omega, HIy.out, HJy.out⟩
          clear hm HLk HIy HJy HYb
          go_wp2_with fail
          go_roundw
          case rel => exact ⟨k + 1, by omega, by go_num, HX1⟩
          case measure => simp [RowKit.intOf] <;> omega
        · have r1 := HLk.out.2 hm
          obtain ⟨w8, r8, hJ8, hS8⟩ := HJy.out.step (by omega) hdn
          have hI8 := HIy.out.sbf hS8 hJ8.1 hsbn.1 hsbn.2
          have hsl := HJy.out.low
          have hsne : wr.heap.size ≠ sb := by
            rintro rfl
            obtain ⟨_, _, F, hMp, _⟩ := HJy.out
            exact hMp.neCells HYb.out rfl
          have hb8 := (hS8.same _ hsne hzs).trans HYb.out
          have HX1 : Hid (∃ n M m, n ≤ k + 1 ∧ m ≤ k + 1 ∧ OfI W1 w8 (W1.heap.size + 1) W1.heap.size n kd ∧ SeI W1 w8 sb M m) := Lib.hid ⟨nn, _, _, by omega, by omega, hI8, hJ8⟩
          have HI8 := Lib.hid hI8
          have HJ8 := Lib.hid hJ8
          have HB8 := Lib.hid hb8
          have HS8 := Lib.hid hS8
          have d0 := hI8.cells
          have z5 : w8.cell? ⟨wr.heap.size, 5, none⟩ = some (.string d.hou) := by simp [World.cell?, hb8, dlA]
          have z6 : w8.cell? ⟨wr.heap.size, 6, none⟩ = some (.string d.ins) := by simp [World.cell?, hb8, dlA]
          have z8l : wr.heap.size < w8.heap.size := Nat.lt_of_lt_of_le hzs hS8.size
          clear hm HLk HIy HJy hJ8 hI8 hS8 hb8
          go_upto_region 15 with fail
          clear r1 r8 z0
          go_cut [84] from 61 to 84 (fun v wx => ∃ b : Bool, v = .bool b ∧ w8 = wx)
          case first =>
            clear HX1 HI8 HJ8 HB8 HS8
            generalize hq1 : (kd == 3) = q1
            generalize hq2 : (kd == 4) = q2
            generalize hq3 : (d.hou.toList == nm.toList) = q3
            generalize hq4 : (d.ins.toList == nm.toList) = q4
            cases q1 <;> cases q2 <;> cases q3 <;> cases q4
            all_goals
              go_wp2_with fail
              go_meet
              case rel => exact ⟨_, rfl, rfl⟩
          case rest =>
            obtain ⟨bq, rfl, rfl⟩ := hcut
            cases bq with
            | false =>
              clear HI8 HJ8 HB8 HS8
              go_wp2_with fail
              go_roundw
              case rel => exact ⟨k + 1, by omega, by go_num, HX1⟩
              case measure => simp [RowKit.intOf] <;> omega
            | true =>
              clear HX1 z5 z6 d0
              have z11 : w8.cell? ⟨wr.heap.size, 11, none⟩ = some (.slice A' d.box.length c') := by simp [World.cell?, HB8.out, dlA]
              obtain ⟨w7, hw7⟩ : ∃ w7, w7 = cutW wr.heap.size w8 := ⟨_, rfl⟩
              have h7 : w7.heap.size = wr.heap.size := by rw [hw7]; exact cutW_size _ _ (by omega)
              have h7b : Below w7.heap.size w7 w8 := by rw [hw7]; exact cutW_below _ w8
              have hbx8 : Bxs w8 w7.heap.size A' d.box := by
                rw [h7]
                refine (HBxs.out w8 ?_).more (by omega)
                exact below_two (HIw.out.mono hww2) (HI8.out.bw.mono hww2) (by omega)
              have H7 : Hid (w7.heap.size = wr.heap.size) := Lib.hid h7
              have HB7 := Lib.hid h7b
              have HU8 : Hid (∀ X, Below w7.heap.size w7 X → OfI W1 X (W1.heap.size + 1) W1.heap.size nn kd) := Lib.hid fun X hX => (HI8.out.cut h7b ⟨by omega, by omega⟩).below hX
              have HV8 : Hid (∀ X, Below w7.heap.size w7 X → SeI W1 X sb (M ++ [d.num]) (m + 1)) := Lib.hid fun X hX => (SeI.cut HJ8.out h7b (by omega)).below hX
              obtain ⟨zq, hzq⟩ : ∃ zq, wr.heap.size = zq := ⟨_, rfl⟩
              have hb8 := HB8.out
              have hbl := HBl.out
              rw [hzq] at z11 z8l hb8 H7 ⊢
              have HCl : Hid (∀ Y, Below w8.heap.size w8 Y → Calls Tryz.prog 45 #[.slice A' d.box.length c'] Y fun e w' => ∃ A2 c2, e = .returned (.slice A2 d.box.length c2) ∧ Hid (LpI w7 (w'.setCell ⟨zq, 11, none⟩ (.slice A2 d.box.length c2)) d A2 c2 0) ∧ w'.cell? ⟨zq, 11, none⟩ = some (.slice A' d.box.length c') ∧ w'.frozen? ⟨zq, 11, none⟩ = false ∧ zq < w'.heap.size) := Lib.hid fun Y hY => by
                have h7Y := h7b.trans (hY.mono h7b.size)
                refine (cloneBx c' h7Y (hbx8.kept (hY.mono h7b.size)) (by omega)).mono ?_
                rintro e w' ⟨A2, c2, rfl, h1, h2⟩
                have hz := ((hY.trans (h2.mono hY.size)).block zq z8l).trans hb8
                refine ⟨A2, c2, rfl, ?_, by simp [World.cell?, hz, dlA], by simp [World.frozen?, hz], Nat.lt_of_lt_of_le z8l (hY.trans (h2.mono hY.size)).size⟩
                have hz7 := hz
                rw [← H7.out] at hz7 ⊢
                exact Lib.hid (LpI.start h1 hz7)
              clear hb8 hbx8 h7b h7 hw7 HB8 HS8 HI8 HJ8 HBl HBxs HBy HYs HYb HB7 hzs hgw hsbw hkl hzq
              go_upto_region 16 with fail
              go_wp2_with (first | (go_at_call 45; refine (HCl.out _ (by first | exact (Below.refl _ _).drew | exact Below.refl _ _)).mono ?_; rintro e w3 ⟨A2, c2, rfl, HL0, q11, qf, ql⟩; clear z11 z8l HCl) | fail)
              clear q11 qf ql
              go_loopw [92, 11] (fun i _ wx => ∃ j : Nat, j ≤ d.box.length ∧ i = .int .i64 (j : Int) ∧ Hid (LpI w7 wx d A2 c2 j)) (fun i _ _ => d.box.length - (RowKit.intOf i).toNat)
              case atStart => exact ⟨0, Nat.zero_le _, rfl, HL0⟩
              case round =>
                clear HL0
                obtain ⟨j, hj, rfl, HL⟩ := hrel
                have hcellz := HL.out.cell
                have hzlr := HL.out.zlt
                rw [H7.out] at hcellz hzlr
                have z11 : wr.cell? ⟨zq, 11, none⟩ = some (.slice A2 d.box.length c2) := by simp [World.cell?, hcellz, dlA]
                by_cases hlj : j < d.box.length
                · have b3 : (j : Int) < (d.box.length : Int) := by omega
                  obtain ⟨g2, L, rfl, hzg, hCb⟩ : ∃ g L, A2 = some ⟨g, 0, none⟩ ∧ w7.heap.size ≠ g ∧ Cb w7 wr g c2 j d.box L := by
                    rcases HL.out.box with ⟨_, h2⟩ | h
                    · rw [h2] at hlj; exact absurd hlj (by simp)
                    · exact h
                  have hlL : j < L.length := by rw [hCb.len]; exact hlj
                  obtain ⟨x2, f2⟩ := hCb.at_ hlL
                  obtain ⟨y, hy⟩ : ∃ y : Bp, L[j] = y := ⟨_, rfl⟩
                  have hyg : L[j]? = some y := by rw [List.getElem?_eq_getElem hlL, hy]
                  have hyx : y.x ∈ d.box := by rw [← hCb.pts]; exact List.mem_map.2 ⟨y, List.mem_of_getElem? hyg, rfl⟩
                  rw [hy] at x2
                  have hgl := hCb.glt
                  have HR : Hid (∀ Y, Below wr.heap.size wr Y → Calls Tryz.prog 46 #[.slice y.A y.x.l.length y.c] Y fun e w' => ∃ A3 c3, e = .returned (.slice A3 y.x.l.length c3) ∧ Hid (LpI w7 (w'.setCell ⟨g2, j * 3 + 2, none⟩ (.slice A3 y.x.l.length c3)) d (some ⟨g2, 0, none⟩) c2 (j + 1)) ∧ w'.cell? ⟨zq, 11, none⟩ = some (.slice (some ⟨g2, 0, none⟩) d.box.length c2) ∧ w'.cell? ⟨g2, j * 3 + 2, none⟩ = some (.slice y.A y.x.l.length y.c) ∧ w'.frozen? ⟨g2, j * 3 + 2, none⟩ = false ∧ g2 < w'.heap.size ∧ zq < w'.heap.size) := Lib.hid fun Y hY => by
                    have hCY := hCb.below hY
                    refine (cloneLt y.c (hCY.old j y hyg (Nat.le_refl _)).1 (HLw.out _ hyx)).mono ?_
                    rintro e w' ⟨A3, c3, rfl, h1, h2, h3⟩
                    have hbw := hY.trans (h3.mono hY.size)
                    have hst := HL.out.step hzg hCb hlL (A' := A3) (c' := c3) hbw (by rw [hy]; exact h1) h2
                    rw [hy] at hst
                    have hz := (hbw.block _ hzlr).trans hcellz
                    exact ⟨A3, c3, rfl, Lib.hid hst, by simp [World.cell?, hz, dlA], (hbw.cell (p := ⟨g2, j * 3 + 2, none⟩) hgl.2).trans x2, (hbw.frozen (p := ⟨g2, j * 3 + 2, none⟩) hgl.2).trans f2, Nat.lt_of_lt_of_le hgl.2 hbw.size, Nat.lt_of_lt_of_le hzlr hbw.size⟩
                  have hgl2 := hgl.2
                  clear HL hCb hlL hy hyg hyx hgl hcellz
                  generalize y.x.l.length = yl at *
                  go_upto_region 20 with fail
                  go_region_with (first | (go_at_call 46; refine (HR.out _ (by first | exact (Below.refl _ _).drew | exact Below.refl _ _)).mono ?_; rintro e w5 ⟨A3, c3, rfl, HL5, q11, q2, qf2, ql2, ql7⟩))
                  all_goals
                    clear HR x2 f2 z11
                    go_wp2_with fail
                    go_roundw
                    case rel => exact ⟨j + 1, by omega, by go_num, HL5⟩
                    case measure => simp [RowKit.intOf] <;> omega
                · have b3 : ¬ (j : Int) < (d.box.length : Int) := by omega
                  have HIr : Hid (OfI W1 wr (W1.heap.size + 1) W1.heap.size nn kd ∧ SeI W1 wr sb (M ++ [d.num]) (m + 1)) := Lib.hid ⟨HU8.out wr HL.out.bel, HV8.out wr HL.out.bel⟩
                  clear z11
                  go_upto_region 22 with fail
                  have HCd2 : Hid (∀ X, Below wr.heap.size wr X → X.cell? ⟨W1.heap.size + 1, 3, none⟩ = some (.map (some W1.heap.size)) ∧ W1.heap.size + 1 < X.heap.size ∧ X.cell? ⟨zq, 0, none⟩ = some (.string d.num) ∧ zq < X.heap.size ∧ X.rangeAt zq 0 (dlA d A2 c2).toList) := Lib.hid fun X hX => by
                    have h1 := (HIr.out.1.below hX).cells
                    have h := (hX.block _ hzlr).trans hcellz
                    exact ⟨h1.2.1, h1.2.2, by simp [World.cell?, h, dlA], Nat.lt_of_lt_of_le hzlr hX.size, fun j v hv => by
                      show X.cell? ⟨zq, 0 + j, none⟩ = some v
                      rw [Nat.zero_add, World.cell?, h]
                      simpa using hv⟩
                  clear HL hcellz
                  refine wp_region_facts (Le := fun w w' => Below w.heap.size w w') (C := fun X => Below wr.heap.size wr X) (R := ofR (W1.heap.size + 1) W1.heap.size zq d A2 c2) 9 9 [] (by kernel_rfl) (by kernel_rfl) (by kernel_rfl) rfl (Below.refl _ _).drew (fun W W' h1 h2 => h2.trans (h1.mono h2.size)) (fun i v w w' _ h => ofR_kept i v w w' h) (steps_take ?_) ?_
                  · simp only [List.take_succ_cons, List.take_zero, StepsFrom]
                    refine ⟨fact_step ?_, fact_step ?_, fact_step ?_, fact_step ?_, fact_step ?_, fact_step ?_, fact_step ?_, fact_step ?_, fact_step ?_, trivial⟩
                    all_goals (intro a2 W hs hc hd9 K9 hK)
                    all_goals have t5 : a2.tmps[5]? = some (.pointer (some ⟨W1.heap.size + 1, 0, none⟩)) := (hs.rest 5 (of_decide_eq_true (by kernel_rfl))).trans rfl
                    all_goals have t10 : a2.tmps[10]? = some (.pointer (some ⟨zq, 0, none⟩)) := (hs.rest 10 (of_decide_eq_true (by kernel_rfl))).trans rfl
                    all_goals clear hs
                    -- 0
                    · go_simp
                      exact hK _ _ (Below.refl _ _) rfl
                    -- 1
                    · obtain ⟨v0, s0, r0⟩ := hd9 { on := 0, ground := .data } (by simp) (by rfl) _ (by rfl)
                      replace s0 := s0 _ rfl
                      obtain rfl := r0
                      obtain ⟨m1, m2, m3, m4, m5⟩ := HCd2.out W hc
                      go_simp
                      exact hK _ _ (Below.refl _ _) rfl
                    -- 2
                    · obtain ⟨v1, s1, r1⟩ := hd9 { on := 1, ground := .data } (by simp) (by rfl) _ (by rfl)
                      replace s1 := s1 _ rfl
                      obtain rfl := r1
                      go_simp
                      exact hK _ _ (Below.refl _ _) rfl
                    -- 3
                    · obtain ⟨v2, s2, r2⟩ := hd9 { on := 2, ground := .data } (by simp) (by rfl) _ (by rfl)
                      replace s2 := s2 _ rfl
                      obtain rfl := r2
                      obtain ⟨m1, m2, m3, m4, m5⟩ := HCd2.out W hc
                      go_simp
                      exact hK _ _ (Below.refl _ _) rfl
                    -- 4
                    · go_simp
                      exact hK _ _ (Below.refl _ _) rfl
                    -- 5
                    · obtain ⟨v4, s4, r4⟩ := hd9 { on := 4, ground := .data } (by simp) (by rfl) _ (by rfl)
                      replace s4 := s4 _ rfl
                      obtain rfl := r4
                      obtain ⟨m1, m2, m3, m4, m5⟩ := HCd2.out W hc
                      go_simp
                      exact hK _ _ (Below.refl _ _) rfl
                    -- 6
                    · exact wp_load_mid 72 (.tmp 10) rfl zq 0 (by simp [Act.eval, t10]) (dlA d A2 c2).toList _ (HCd2.out W hc).2.2.2.2 Tryz.underlying72 rfl infoDl17 (hK _ _ (Below.refl _ _) rfl)
                    -- 7
                    · obtain ⟨v6, s6, r6⟩ := hd9 { on := 6, ground := .data } (by simp) (by rfl) _ (by rfl)
                      replace s6 := s6 _ rfl
                      obtain rfl := r6
                      clear HCd2
                      unfold dlA at s6
                      go_simp
                      exact hK _ _ (Below.refl _ _) ⟨_, rfl⟩
                    -- 8
                    · obtain ⟨v7, s7, r7⟩ := hd9 { on := 7, ground := .data } (by simp) (by rfl) _ (by rfl)
                      replace s7 := s7 _ rfl
                      obtain ⟨cs, rfl⟩ := r7
                      go_simp
                      exact hK _ _ ((Below.refl _ _).alloc (Nat.le_refl _) _) ⟨_, rfl⟩
                  · intro a2 W hs hc hf
                    obtain ⟨v3, s3, rfl⟩ := hf 3 _ rfl (by omega)
                    obtain ⟨v5, s5, rfl⟩ := hf 5 _ rfl (by omega)
                    obtain ⟨v8, s8, q, rfl⟩ := hf 8 _ rfl (by omega)
                    replace s3 := s3 _ rfl
                    replace s5 := s5 _ rfl
                    replace s8 := s8 _ rfl
                    obtain ⟨X1, r1, hX1, hX2⟩ := HIr.out.1.putD (by omega) hdn q hc
                    have HX1 : Hid (∃ n M m, n ≤ k + 1 ∧ m ≤ k + 1 ∧ OfI W1 X1 (W1.heap.size + 1) W1.heap.size n kd ∧ SeI W1 X1 sb M m) := Lib.hid ⟨nn + 1, _, _, by omega, by omega, hX1, (HIr.out.2.below hc).of_sbf hX2 hX1.bw (by omega)⟩
                    have hp := hs.puts [108, 109, 110, 111, 112, 113, 114, 115, 116] (by kernel_rfl)
                    simp only [List.foldl_cons, List.foldl_nil] at hp
                    have g111 : a2.tmps.getD 111 undef = .map (some W1.heap.size) := by simp [s3]
                    have g113 : a2.tmps.getD 113 undef = .string d.num := by simp [s5]
                    have g116 : a2.tmps.getD 116 undef = .pointer (some ⟨q, 0, none⟩) := by simp [s8]
                    rw [g111, g113, g116] at hp
                    generalize a2.tmps.getD 108 undef = f108 at hp
                    generalize a2.tmps.getD 109 undef = f109 at hp
                    generalize a2.tmps.getD 110 undef = f110 at hp
                    generalize a2.tmps.getD 112 undef = f112 at hp
                    generalize a2.tmps.getD 114 undef = f114 at hp
                    generalize a2.tmps.getD 115 undef = f115 at hp
                    clear g111 g113 g116 s3 s5 s8 hs hf hX1 hX2 HIr HCd2
                    rw [hp]
                    clear hp
                    refine wpOps_more (by rfl) rfl ?_
                    go_simp
                    refine wpOps_done ?_
                    go_wp2_with fail
                    go_roundw
                    case rel => exact ⟨k + 1, by omega, by go_num, HX1⟩
                    case measure => simp [RowKit.intOf] <;> omega
      · have b1 : ¬ (k : Int) < (u.dl.length : Int) := by omega
        have HX := Lib.hid (HF.out (W1.heap.size + 1) wr hI.bw)
        clear HI hI hJ HF hk hlt
        go_wp2_with fail
        first
          | exact HX.out
          | (go_ret; exact HX.out)
end Go.Proofs.YtchkdidpnjakeaaGreatDoor
