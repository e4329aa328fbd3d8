/- A name, acts, hand-overs as arguments, their bulk bounded. A register behind calls. Ledger.enter: the accounts change, the post stands behind the others. -/
import Derived.Test.YtdinloecgaapaaaGreatDoorMHEq
import Derived.Test.YtdinloecgaapaaaGreatDoorHBox
import Derived.Test.YtdinloecgaapaaaGreatDoorMRPut
import Derived.Test.YtdinloecgaapaaaGreatDoorMABump
import Derived.Deep.RegionLaw
import Derived.Deep.RegionHeld3
import Derived.Deep.AppendLies
namespace Go.Proofs.YtdinloecgaapaaaGreatDoor
open Go.ChangeShapes Go.WideShapes Go.ChangeAt Go.RowKit Go.Deep Go.Lib
set_option linter.unusedVariables false
set_option maxRecDepth 100000

theorem hSHandO : Tryz.prog.underlying 41 = some (.struct (Tryz.prog.fieldsOf 41)) := by kernel_rfl
theorem cellsHandO : Tryz.prog.cellsOf 41 = 5 := by kernel_rfl
theorem layHandO : (Tryz.prog.fieldsOf 41).map (fun f => (f.type, f.offset)) = #[(9, 0), (9, 1), (9, 2), (9, 3), (3, 4)] := by kernel_rfl
instance : Inhabited Hn := ⟨⟨⟨#[]⟩, ⟨#[]⟩, ⟨#[]⟩, ⟨#[]⟩, 0⟩⟩
structure HnOk (h : Hn) : Prop where
  b : h.bx.size ≤ 1048576
  f : h.fr.size ≤ 1048576
  t : h.tt.size ≤ 1048576
  p : h.pl.size ≤ 1048576
section
variable {H : Type} {enc : TypeId × Value → H} {W : World} {base : Nat} {spare : Nat → Bool} {held : Bool} {fuel : Nat} {cs : List Value} {y : DataW H × List MemPlace}
theorem hand_one (h : DataW.trod enc Tryz.prog W base spare held fuel 41 cs = some y) (hb : Rows.uptoBulk y.1 ≤ 1048576) :
    ∃ x : Hn, cs = (hnA x).toList ∧ cs.length = 5 ∧ HnOk x := by
  obtain ⟨ys, n', hn', hy, hlen, hyl, hf'⟩ := DataW.trod_struct hSHandO h
  rw [cellsHandO] at hlen
  have hsz : (Tryz.prog.fieldsOf 41).size = 5 := by kernel_rfl
  rw [hsz] at hyl
  obtain ⟨f0, e0, t0, o0⟩ := fld layHandO (j := 0) rfl
  have g0 := hf' 0 f0 e0
  rw [t0, o0] at g0
  obtain ⟨z0, w0, x0, _⟩ := DataW.trod_string Tryz.underlying9 ((cell_fld cellsStrO (by omega) g0).trans (List.getElem?_eq_getElem (by omega)))
  have b0 := bulk_text x0 (Nat.le_trans (bulk_field hy (by omega)) hb)
  obtain ⟨f1, e1, t1, o1⟩ := fld layHandO (j := 1) rfl
  have g1 := hf' 1 f1 e1
  rw [t1, o1] at g1
  obtain ⟨z1, w1, x1, _⟩ := DataW.trod_string Tryz.underlying9 ((cell_fld cellsStrO (by omega) g1).trans (List.getElem?_eq_getElem (by omega)))
  have b1 := bulk_text x1 (Nat.le_trans (bulk_field hy (by omega)) hb)
  obtain ⟨f2, e2, t2, o2⟩ := fld layHandO (j := 2) rfl
  have g2 := hf' 2 f2 e2
  rw [t2, o2] at g2
  obtain ⟨z2, w2, x2, _⟩ := DataW.trod_string Tryz.underlying9 ((cell_fld cellsStrO (by omega) g2).trans (List.getElem?_eq_getElem (by omega)))
  have b2 := bulk_text x2 (Nat.le_trans (bulk_field hy (by omega)) hb)
  obtain ⟨f3, e3, t3, o3⟩ := fld layHandO (j := 3) rfl
  have g3 := hf' 3 f3 e3
  rw [t3, o3] at g3
  obtain ⟨z3, w3, x3, _⟩ := DataW.trod_string Tryz.underlying9 ((cell_fld cellsStrO (by omega) g3).trans (List.getElem?_eq_getElem (by omega)))
  have b3 := bulk_text x3 (Nat.le_trans (bulk_field hy (by omega)) hb)
  obtain ⟨f4, e4, t4, o4⟩ := fld layHandO (j := 4) rfl
  have g4 := hf' 4 f4 e4
  rw [t4, o4] at g4
  obtain ⟨z4, w4, _, s4⟩ := DataW.trod_int Tryz.underlying3 ((cell_fld cellsIntO (by omega) g4).trans (List.getElem?_eq_getElem (by omega)))
  simp only [List.cons.injEq, and_true] at w0 w1 w2 w3 w4
  refine ⟨⟨z0, z1, z2, z3, z4⟩, ?_, hlen, ⟨b0, b1, b2, b3⟩⟩
  apply List.ext_getElem?
  intro i
  match i with
  | 0 => exact (List.getElem?_eq_getElem (by omega)).trans (congrArg some w0)
  | 1 => exact (List.getElem?_eq_getElem (by omega)).trans (congrArg some w1)
  | 2 => exact (List.getElem?_eq_getElem (by omega)).trans (congrArg some w2)
  | 3 => exact (List.getElem?_eq_getElem (by omega)).trans (congrArg some w3)
  | 4 => exact (List.getElem?_eq_getElem (by omega)).trans (congrArg some w4)
  | i + 5 => rw [List.getElem?_eq_none (by omega), List.getElem?_eq_none (by simp [hnA])]
theorem hands_one (h : DataW.trod enc Tryz.prog W base spare held fuel 37 cs = some y) (hb : Rows.uptoBulk y.1 ≤ 1048576) :
    ∃ (A : Option Addr) (c : Nat) (L : List Hn), cs = [.slice A L.length c] ∧ Rho W W.heap.size A L ∧ L.length ≤ 1048576 ∧ ∀ x ∈ L, HnOk x := by
  obtain ⟨A, c, L, E, w2, hA, hrow, hEl, hEb, hE⟩ := slice_rows (n := 5) Tryz.underlying37 cellsHandO (by omega) (fun a : Hn => (hnA a).toList) (fun a _ => HnOk a) 1048576 (fun fuel cs z hz hzb => by
    obtain ⟨x, h1, h2, h3⟩ := hand_one hz hzb
    exact ⟨x, h1, h2, h3⟩) h hb
  refine ⟨A, c, L, w2, fun h0 => ?_, ?_, fun x hx => ?_⟩
  · obtain ⟨g, off, e, hg, hcl⟩ := hrow h0
    refine ⟨g, off, e, hg, fun i a ha j v hv => ?_⟩
    have hj : j < 5 := by have := (List.getElem?_eq_some_iff.1 hv).1; simpa [hnA] using this
    exact (hcl i a ha j hj).trans hv
  · have h1 := bulk_len E
    omega
  · obtain ⟨i, hi⟩ := List.getElem?_of_mem hx
    obtain ⟨e, _, hq⟩ := hE i x hi
    exact hq
end
theorem open_acts {H : Type} {enc : TypeId × Value → H} {W : World} {base : Nat} {v : Value} {d : DataW H} {p : List MemPlace} {spare : Nat → Bool} {held : Bool} {b0 : Nat}
    (hv : Value.okWide Tryz.prog W .any b0 28 v) (h : DataW.Trod enc Tryz.prog W base spare held 28 v d p) (hb : Rows.uptoBulk d ≤ 1048576) :
    ∃ (A : Option Addr) (c : Nat) (L : List Aa), v = .slice A L.length c ∧ Ra W W.heap.size A L ∧ L.length ≤ 1048576 := by
  obtain ⟨a0, len, cap, rfl⟩ := okWide_slice Tryz.underlying28 hv
  obtain ⟨fuel, hf⟩ := h
  obtain ⟨A, c, L, e, r⟩ := acts_one hf hb
  simp only [Value.cells, List.cons.injEq, and_true] at e
  exact ⟨A, c, L, e, r⟩
theorem open_hands {H : Type} {enc : TypeId × Value → H} {W : World} {base : Nat} {v : Value} {d : DataW H} {p : List MemPlace} {spare : Nat → Bool} {held : Bool} {b0 : Nat}
    (hv : Value.okWide Tryz.prog W .any b0 37 v) (h : DataW.Trod enc Tryz.prog W base spare held 37 v d p) (hb : Rows.uptoBulk d ≤ 1048576) :
    ∃ (A : Option Addr) (c : Nat) (L : List Hn), v = .slice A L.length c ∧ Rho W W.heap.size A L ∧ L.length ≤ 1048576 ∧ ∀ x ∈ L, HnOk x := by
  obtain ⟨a0, len, cap, rfl⟩ := okWide_slice Tryz.underlying37 hv
  obtain ⟨fuel, hf⟩ := h
  obtain ⟨A, c, L, e, r⟩ := hands_one hf hb
  simp only [Value.cells, List.cons.injEq, and_true] at e
  exact ⟨A, c, L, e, r⟩
end Go.Proofs.YtdinloecgaapaaaGreatDoor
namespace Go.Proofs.YtdinloecgaapaaaGreatDoor
open Go.RowKit Go.Maps Go.Lib Go.Sort
set_option linter.unusedVariables false
set_option maxRecDepth 100000

def Aa.car (a : Aa) (ca : ByteArray) : Aa := { a with x := { a.x with ca := ca } }
theorem car_set (a : Aa) (ca : ByteArray) : (aaA a).setIfInBounds 7 (.string ca) = aaA (a.car ca) := by simp [aaA, Aa.car]

set_option maxHeartbeats 1000000 in
theorem registered_r (ca : ByteArray) (L : List Aa) (A : Option Addr) (c : Nat) (w : World) (h : Ra w w.heap.size A L) (hl : L.length ≤ 5000) :
    Calls Tryz.prog 7 #[.string ca, .slice A L.length c] w fun e w' => e = .returned (.pointer (some ⟨w.heap.size + 1, 0, none⟩)) ∧ Reg w' w.heap.size (w.heap.size + 1) ca L.length ∧ Below w.heap.size w w' := by
  have HL := Lib.hid h
  clear h
  generalize hCP : (fun (e : Ending) (w' : World) => e = .returned (.pointer (some ⟨w.heap.size + 1, 0, none⟩)) ∧ Reg w' w.heap.size (w.heap.size + 1) ca L.length ∧ Below w.heap.size w w') = CP
  have HF : Hid (∀ w', Reg w' w.heap.size (w.heap.size + 1) ca L.length → Below w.heap.size w w' → CP (.returned (.pointer (some ⟨w.heap.size + 1, 0, none⟩))) w') := Lib.hid fun w' h1 h2 => by rw [← hCP]; exact ⟨rfl, h1, h2⟩
  clear hCP
  have HN := Lib.hid (new_r ca w)
  go_enter Tryz.func7, Tryz.ntmps7
  go_wp2_with fail
  refine HN.out.mono ?_
  rintro e w1 ⟨rfl, hr1, hb1⟩
  have HR1 := Lib.hid hr1
  have HB1 := Lib.hid hb1
  clear hr1 hb1 HN
  have hL : (L.length : Int) ≤ 5000 := by omega
  go_wp2_with fail
  go_loopw [12] (fun i wr => ∃ k : Nat, k ≤ L.length ∧ i = .int .i64 k ∧ Hid (Reg wr w.heap.size (w.heap.size + 1) ca k) ∧ Hid (Below w.heap.size w wr)) (fun i _ => L.length - (RowKit.intOf i).toNat)
  case atStart => exact ⟨0, Nat.zero_le _, rfl, HR1, HB1⟩
  case round =>
    clear HR1 HB1
    obtain ⟨k, hk, rfl, HR, HB⟩ := hrel
    by_cases hlt : k < L.length
    · obtain ⟨g, off, rfl, hg, hr, hA, hP, ho⟩ := (HL.out.below HB.out).at_ hlt
      generalize L[k] = a at *
      have hlt' : (k : Int) < (L.length : Int) := by omega
      obtain ⟨hb2, hz2⟩ := laid_below wr zaa (aaA a) 61
      have hm := heap_alloc_new wr (.cells zaa 61)
      obtain ⟨W1, hW1⟩ : ∃ W1, W1 = wr.alloc (.cells zaa 61) := ⟨_, rfl⟩
      rw [← hW1] at hb2 hz2 hm
      have l0 := laid_act W1 wr.heap.size zaa (aaA a) _ _ hm
      have HM := Lib.hid hm
      obtain ⟨W2, hW2⟩ : ∃ W2, W2 = W1.setRow wr.heap.size (aaA a) := ⟨_, rfl⟩
      rw [← hW2] at hb2 hz2 l0
      have c7 : W2.cell? ⟨wr.heap.size, 7, none⟩ = some (.string a.x.ca) := cell_of l0 7
      have f7 : W2.frozen? ⟨wr.heap.size, 7, none⟩ = false := by simp [World.frozen?, l0]
      have l3 := heap_setCell_same W2 wr.heap.size 7 (aaA a) _ (.string ca) l0
      rw [car_set] at l3
      have hb3 : Below wr.heap.size wr (W2.setCell ⟨wr.heap.size, 7, none⟩ (.string ca)) := hb2.setCell (Nat.le_refl _) _
      have hz3 : (W2.setCell ⟨wr.heap.size, 7, none⟩ (.string ca)).heap.size = wr.heap.size + 1 := by rw [← hz2]; simp
      obtain ⟨W3, hW3⟩ : ∃ W3, W3 = W2.setCell ⟨wr.heap.size, 7, none⟩ (.string ca) := ⟨_, rfl⟩
      rw [← hW3] at l3 hb3 hz3
      have hws : w.heap.size ≤ wr.heap.size := HB.out.size
      have HC := Lib.hid (put_r w.heap.size (w.heap.size + 1) k ca (a.car ca) W3 (HR.out.below hb3) (by omega) ((hA.below (hb3.mono hws)).more (by omega)) ((hP.below (hb3.mono hws)).more (by omega)) ⟨ho.bi, ho.by_, ho.tt, ho.nu, ho.sh, ho.fr, ho.xto, ho.l, ho.p⟩)
      have HB3 := Lib.hid (HB.out.trans (hb3.mono HB.out.size))
      have HR' := Lib.hid hr
      have HO := Lib.hid (aaA_one a)
      have HIb := Lib.hid (show (Tryz.prog.info? 61).map (·.size) = some (aaA a).toList.length from infoAct)
      have HIs := Lib.hid (show (Tryz.prog.info? 61).map (·.size) = some (aaA a).size from infoAct)
      have HSz := Lib.hid (show zaa.size = (aaA a).size from rfl)
      have HR3 := Lib.hid (show W3.rangeAt wr.heap.size 0 (aaA (a.car ca)).toList from fun j v hv => by rw [Nat.zero_add, cell_of l3 j, ← Array.getElem?_toList]; exact hv)
      have HI3 := Lib.hid (show (Tryz.prog.info? 61).map (·.size) = some (aaA (a.car ca)).toList.length from infoAct)
      clear hr hm l0 hb2 hz2 hA hP ho l3 hb3 hz3
      unfold zaa at hW1
      generalize a.x.ca = xca at *
      generalize aaA (a.car ca) = V3 at *
      generalize aaA a = V at *
      go_wp2_with (first
        | (have _t := hW1; clear _t; refine wpList_load_mid rfl 61 (.tmp 14) rfl g (off + k * 15) rfl V.toList _ HR'.out Tryz.underlying61 rfl HIb.out ?_)
        | (rw [← hW1]; clear hW1; refine wpList_store_row rfl 61 (.tmp 7) (.tmp 15) rfl wr.heap.size V rfl rfl 61 _ HM.out HIs.out HSz.out HO.out ?_; rw [← hW2]; clear hW2)
        | (rw [← hW3]; clear hW3; refine wpList_load_mid rfl 61 (.tmp 7) rfl wr.heap.size 0 rfl V3.toList _ HR3.out Tryz.underlying61 rfl HI3.out ?_)
        | fail)
      refine HC.out.mono ?_
      rintro e w5 ⟨rfl, hr5, hb5⟩
      have HR5 := Lib.hid hr5
      have HB5 := Lib.hid (HB3.out.trans hb5)
      clear hr5 hb5 HC HB3 HR3 HI3 HSz HIs HIb HO HR' HM
      go_wp2_with fail
      exact ⟨⟨k + 1, by omega, by go_num, HR5, HB5⟩, by simp [RowKit.intOf]; omega⟩
    · have hlt' : ¬ (k : Int) < (L.length : Int) := by omega
      have hke : k = L.length := by omega
      subst hke
      have HF2 := Lib.hid (HF.out _ HR.out HB.out)
      clear HF HR HB
      go_wp2_with fail
      first
        | exact HF2.out
        | (go_ret; exact HF2.out)
end Go.Proofs.YtdinloecgaapaaaGreatDoor
namespace Go.Proofs.YtdinloecgaapaaaGreatDoor
open Go.RowKit Go.Maps Go.Lib
set_option linter.unusedVariables false
set_option maxRecDepth 100000

theorem Lg.turn2 {w3 : World} {p b n : Nat} {G : Nt → Option Ac} {pv hv : Value} (hL : Lg w3 p b n G pv hv) {s t : ByteArray} (hx : Small (s, t)) {ac : Ac} (hG : G (s, t) = some ac) (o : Obj) :
    (w3.alloc o).cell? ⟨p, 0, none⟩ = some (.map (some b)) ∧
    (Instr.lookup 141 (.map (some b)) (.agg #[.string s, .string t]) false).run Tryz.prog (w3.alloc o).drew = .ok (.agg #[.int .i64 ac.floor, .int .i64 ac.bal, .int .i64 ac.held]) (w3.alloc o).drew ∧
    (Instr.lookup 141 (.map (some b)) (.agg #[.string s, .string t]) false).run Tryz.prog ((w3.alloc o).alloc (.cells #[.int .i64 0, .int .i64 0, .int .i64 0] 149)).drew = .ok (.agg #[.int .i64 ac.floor, .int .i64 ac.bal, .int .i64 ac.held]) ((w3.alloc o).alloc (.cells #[.int .i64 0, .int .i64 0, .int .i64 0] 149)).drew := by
  have h1 := hL.alloc o
  refine ⟨h1.c0, ?_, ?_⟩
  · have := (h1.drewN 1).acc.look Tryz.underlying141 (zeroAc _) trivial (x := (s, t)) hx
    rw [hG] at this
    exact this
  · have := ((h1.alloc (.cells #[.int .i64 0, .int .i64 0, .int .i64 0] 149)).drewN 1).acc.look Tryz.underlying141 (zeroAc _) trivial (x := (s, t)) hx
    rw [hG] at this
    exact this

theorem below_undrew {B : Nat} {a w : World} (h : Below B a.drew w) : Below B a w := ⟨h.os, h.tape, h.output, h.size, h.block⟩
theorem Led.at5 {wr w5 : World} {base p b n : Nat} {G : Nt → Option Ac} {pv hv : Value} {L : List Pl} (h : Led wr base p b n G pv hv L) (h5 : Below wr.heap.size wr w5) (num : Int) (txt : ByteArray) (v : Value) :
    (w5.alloc (.cells #[.int .i64 num, .string txt, v] 156)).ownsRow base 156 3 pv L.length (cellsP L) ∧ base ≤ (w5.alloc (.cells #[.int .i64 num, .string txt, v] 156)).heap.size ∧ pv.ownBlock ≠ some p ∧ (w5.alloc (.cells #[.int .i64 num, .string txt, v] 156)).frozen? ⟨p, 1, none⟩ = false ∧ p < w5.heap.size := by
  have hp := h.lg.plt
  have hb := h.pb
  have hs := h5.size
  refine ⟨(ownsRow_kp h.row (Kp.of_below (fun _ => False) h5) (fun _ _ e => e)).alloc _, by simp; omega, h.row_p, ?_, by omega⟩
  rw [World.frozen?_of_block (w := w5) (a := ⟨p, 1, none⟩) (Below.heap_alloc w5 _ p (by omega)), World.frozen?_of_block (w := wr) (a := ⟨p, 1, none⟩) (h5.block p hp)]
  simp [World.frozen?, h.lg.cell]

set_option maxHeartbeats 2000000 in
theorem enter_ok (txt : ByteArray) (A : Option Addr) (c : Nat) (es : List Ent) (w : World) (base p b n : Nat) (G : Nt → Option Ac) (pv hv : Value) (L : List Pl) (hD : Led w base p b n G pv hv L) (hR : Re w w.heap.size A es) (h0 : 0 < es.length) (hlen : es.length ≤ 64) (hF : ∀ e ∈ es, e.Fine) (hn : n + 64 < 4000000) (hLn : L.length ≤ 5000)
    (hacc : ∀ x v, eachG es x = some v → ∃ a, G x = some a ∧ Bears a v) :
    Calls Tryz.prog 73 #[.pointer (some ⟨p, 0, none⟩), .string txt, .slice A es.length c] w fun e w' => e = .returned (.int .i64 ((L.length : Int) + 1)) ∧
      ∃ pv' A' c' n', n' ≤ n + es.length ∧ Led w' base p b n' (bump G (eachG es)) pv' hv (L ++ [⟨⟨(L.length : Int) + 1, txt, es⟩, A', c'⟩]) ∧ Kp (own3 p b pv) w w' := by
  have hL := hD.lg
  have HD := Lib.hid hD
  have HR := Lib.hid hR
  have HF := Lib.hid hF
  obtain ⟨i0, hi0, hy0, hy1, hy2⟩ := info_parts post_info
  have hpl := hL.plt
  have hbl := hL.blt
  go_enter Tryz.func73, Tryz.ntmps73
  go_wp2_with fail
  refine (changes_any A c es _ hR hlen hF).mono ?_
  rintro e w1 ⟨rfl, hCh⟩
  have hz1 : w.heap.size + 2 ≤ w1.heap.size := hCh.size
  have Hb1 := Lib.hid hCh.bel
  have hE := hCh.each
  rw [List.take_length] at hE
  clear hCh
  go_wp2_with (first
    | (at_range; refine wpList_range_le _ rfl _ 185 rfl 2 Tryz.underlying185 w.heap.size es.length (eachG es) rfl hE ?_; intro w2 hrg2 hg2 hs2)
    | go_in)
  go_frame
  obtain ⟨cnt2, hcn2, hrg2⟩ := hrg2
  have hL2 : Lg w2 p b n (bumped G (eachG es) fun x => (eachG es x).isSome) pv hv := by
    rw [bumped_start]
    exact (hL.below Hb1.out hL.plt hL.blt).kept hg2 (by simp) (by simp)
  have HL2 := Lib.hid hL2
  have Hg2 := Lib.hid (show w.grownBy w2 (some b) from grown_of_below (Hb1.out.grown hg2 (by omega) (fun j hj => by cases hj)) _)
  clear hL2 hg2 hs2 Hb1
  go_loopw [10] (fun _ wr => ∃ lf cnt m, Rn' keyC amtE wr w.heap.size w1.heap.size es.length (eachG es) lf cnt ∧ m + cnt ≤ n + es.length ∧ Hid (Lg wr p b m (bumped G (eachG es) lf) pv hv) ∧ Hid (w.grownBy wr (some b))) (fun _ wr => wr.rangeLeft w.heap.size w1.heap.size)
  case atStart => exact ⟨_, cnt2, n, hrg2, by omega, HL2, Hg2⟩
  case round =>
    clear hE hrg2 HL2 Hg2
    obtain ⟨lf, cnt, m, hrg, hm, HL, Hg⟩ := hrel
    have hzr : w.heap.size ≤ wr.heap.size := Hg.out.size
    go_wp2_with (first
      | (at_next; refine wpList_next_key _ rfl _ rfl w.heap.size w1.heap.size es.length (eachG es) lf cnt rfl hrg ?_ ?_)
      | go_in)
    · intro hdone
      clear hrg
      have hL1 := HL.out
      rw [bumped_end (fun x hx => hdone x.1 x.2 hx) (eachG_small HF.out)] at hL1
      have hD1 := HD.out.grow Hg.out hL1
      have HR1 := Lib.hid (show Re wr wr.heap.size A es from by
        obtain ⟨es', cl', hmb⟩ := HD.out.lg.acc.blk
        refine HR.out.kp (Kp.of_grown Hg.out) (fun ad ha e => ?_)
        obtain ⟨g, off, e1, hg, _⟩ := HR.out h0
        have ha' := ha
        rw [e1] at ha'
        injection ha' with ha'
        subst ha'
        have hR' := HR.out
        rw [e1] at hR'
        injection e with e
        exact hR'.ne_map h0 hmb e)
      clear hL1 HL hdone hacc HR HF hL hF hR hD
      have HKg := Lib.hid (Kp.of_grown Hg.out)
      clear Hg
      obtain ⟨Ap, cp, rfl⟩ := hD1.form
      have HD1 := Lib.hid hD1
      have c1 := hD1.lg.c1
      have hp1 := hD1.lg.plt
      clear hD1 HD
      go_wp2_with fail
      have hq : ∀ i : Int, (Value.int .i64 i).oneCell' = true := fun _ => rfl
      go_region_law (first
        | (go_simp; go_at_call 99; refine (cloneE_any A c es wr.drew HR1.out h0 hlen).mono ?_; rintro e w5 ⟨A', c', rfl, hR5, hb5d, hA5⟩; have hb5 : Below wr.heap.size wr w5 := below_undrew hb5d; clear hb5d; have c5 : w5.cell? ⟨p, 1, none⟩ = some (.slice Ap L.length cp) := (hb5.cell (p := ⟨p, 1, none⟩) hp1).trans c1; obtain ⟨hrow5, hbs5, hrp5, f5, hp5⟩ := Led.at5 HD1.out hb5 ((L.length : Int) + 1) txt (.slice A' es.length c'); have HR5 := Lib.hid hR5; have HB5 := Lib.hid hb5; have HA5 := Lib.hid hA5; clear hR5 hb5 hA5)
        | ((try simp only [Act.put, List.setIfInBounds_toArray, List.set_cons_zero, List.set_cons_succ]); rw [if_pos (by rfl)]; refine wp_append_lies _ (.tmp 52) (.tmp 58) 143 (by rfl) base 156 i0 _ 3 48 Tryz.underlying143 hi0 hy0 hy1 hy2 rfl (by decide) (.slice Ap L.length cp) L.length (cellsP L) (by rfl) hrow5 ⟨w5.heap.size, 0, none⟩ 1 1 [.int .i64 ((L.length : Int) + 1), .string txt, .slice A' es.length c'] (by rfl) rfl (World.news_of_block (cs := #[.int .i64 ((L.length : Int) + 1), .string txt, .slice A' es.length c']) (t := 156) (fr := (0, 0)) (heap_alloc_new w5 _)) (by simp [Value.oneCell']) (by decide) (by unfold maxLen; omega) (by omega) hbs5 (w5.heap.size + 1) (by simp) ?_; intro g cap w6 hown6 hg6 hloc6 hlt6; have c6 : w6.cell? ⟨p, 1, none⟩ = some (.slice Ap L.length cp) := (hg6.cell_far ⟨p, 1, none⟩ (by simp; omega) (fun e => hrp5 e.symm)).trans (Lib.cell?_alloc_some _ c5); have f6 : w6.frozen? ⟨p, 1, none⟩ = false := (hg6.frozen_far ⟨p, 1, none⟩ (by simp; omega) (fun e => hrp5 e.symm)).trans f5))
      all_goals
        clear c1 c5 c6 f5 f6
        have HE := Lib.hid (Led.enter_end (num := (L.length : Int) + 1) (txt := txt) HD1.out HB5.out HR5.out HA5.out h0 hlen ((Below.refl w5.heap.size w5).alloc (Nat.le_refl _) (.cells #[.int .i64 ((L.length : Int) + 1), .string txt, .slice A' es.length c'] 156)) hown6 hg6 (by simpa using hloc6))
        clear hown6 hg6 hloc6 hrow5
        go_wp2
        go_ret
        exact ⟨rfl, _, A', c', m, by omega, HE.out.1, (HKg.out.mono (fun k _ e => .inr (.inl (by injection e)))).trans HE.out.2⟩
    · intro s t v w3 cnt3 hx hlx hGx hrg3 hlt3 hg3 hs3 hen
      obtain ⟨ac, hac, hbe⟩ := hacc _ _ hGx
      have hL3 := HL.out.kept hg3 (fun e => by injection e; omega) (fun e => by injection e; omega)
      obtain ⟨cp, l1, l2⟩ := hL3.turn2 hx (by rw [bumped_at hlx]; exact hac) (.cells #[.string s, .string t] 147)
      have k0 : (w3.alloc (.cells #[.string s, .string t] 147)).cell? ⟨w3.heap.size, 0, none⟩ = some (.string s) := by simp
      have k1 : (w3.alloc (.cells #[.string s, .string t] 147)).cell? ⟨w3.heap.size, 1, none⟩ = some (.string t) := by simp
      have hVs : (w3.alloc (.cells #[.string s, .string t] 147)).heap.size = w3.heap.size + 1 := by simp
      have hp3 : p < w3.heap.size := by omega
      have Hs3 := Lib.hid hs3
      have v2 := hbe.top
      have v3 := hbe.lo
      have v5 := hbe.fine.b0
      have q1 : IntKind.i64.wrap (ac.bal + v) = ac.bal + v := IntWalk.i64_in _ (by omega)
      have HL3 := Lib.hid hL3
      have Hr3 := Lib.hid hrg3
      have Hg3 := Lib.hid hg3
      have Hleft := Lib.hid hrg.left_eq
      have HLV := Lib.hid (hL3.alloc (.cells #[.string s, .string t] 147))
      have HrV := Lib.hid (hrg3.alloc (.cells #[.string s, .string t] 147))
      have Hx := Lib.hid hx
      have Hst := Lib.hid (bumped_step (G := G) (E := eachG es) (lf := lf) hGx hac)
      have HgV := Lib.hid (show w.grownBy (w3.alloc (.cells #[.string s, .string t] 147)) (some b) from by
        have h1 := Hg.out
        have h3 := hg3
        have h4 := World.grownBy_alloc w3 (.cells #[.string s, .string t] 147) none
        exact ⟨h4.os.trans (h3.os.trans h1.os), h4.tape.trans (h3.tape.trans h1.tape), h4.output.trans (h3.output.trans h1.output), by have := h4.size; have := h3.size; omega, fun i hi hne => (h4.block i (by omega) (by simp)).trans ((h3.block i (by omega) (fun e => by injection e; omega)).trans (h1.block i hi hne))⟩)
      clear hacc hbe hL3 hrg3 hg3 hrg HL hx hlx hGx hac hL hF hR hs3
      go_wp2_with fail
      clear hen
      generalize w3.alloc (.cells #[.string s, .string t] 147) = V at *
      have e0 : (V.alloc (.cells #[.int .i64 0, .int .i64 0, .int .i64 0] 149)).cell? ⟨p, 0, none⟩ = some (.map (some b)) := Lib.cell?_alloc_some _ cp
      have e1 : (V.alloc (.cells #[.int .i64 0, .int .i64 0, .int .i64 0] 149)).cell? ⟨w3.heap.size, 0, none⟩ = some (.string s) := Lib.cell?_alloc_some _ k0
      have e2 : (V.alloc (.cells #[.int .i64 0, .int .i64 0, .int .i64 0] 149)).cell? ⟨w3.heap.size, 1, none⟩ = some (.string t) := Lib.cell?_alloc_some _ k1
      go_region
      all_goals
        go_wp2_with fail
        clear l1 l2 e0 e1 e2
        have hLY := (HLV.out.alloc (.cells #[.int .i64 ac.floor, .int .i64 (ac.bal + v), .int .i64 ac.held] 149)).drewN 1
        have HrY := Lib.hid (HrV.out.alloc (.cells #[.int .i64 ac.floor, .int .i64 (ac.bal + v), .int .i64 ac.held] 149))
        have HgY := Lib.hid (show V.grownBy (V.alloc (.cells #[.int .i64 ac.floor, .int .i64 (ac.bal + v), .int .i64 ac.held] 149)).drew none from by
          have h := World.grownBy_alloc V (.cells #[.int .i64 ac.floor, .int .i64 (ac.bal + v), .int .i64 ac.held] 149) none
          exact ⟨h.os, h.tape, h.output, h.size, h.block⟩)
        have j0 : (V.alloc (.cells #[.int .i64 ac.floor, .int .i64 (ac.bal + v), .int .i64 ac.held] 149)).drew.cell? ⟨w3.heap.size, 0, none⟩ = some (.string s) := Lib.cell?_alloc_some _ k0
        have j1 : (V.alloc (.cells #[.int .i64 ac.floor, .int .i64 (ac.bal + v), .int .i64 ac.held] 149)).drew.cell? ⟨w3.heap.size, 1, none⟩ = some (.string t) := Lib.cell?_alloc_some _ k1
        have j2 : (V.alloc (.cells #[.int .i64 ac.floor, .int .i64 (ac.bal + v), .int .i64 ac.held] 149)).drew.cell? ⟨w3.heap.size + 1, 0, none⟩ = some (.int .i64 ac.floor) := by rw [← hVs]; simp
        have j3 : (V.alloc (.cells #[.int .i64 ac.floor, .int .i64 (ac.bal + v), .int .i64 ac.held] 149)).drew.cell? ⟨w3.heap.size + 1, 1, none⟩ = some (.int .i64 (ac.bal + v)) := by rw [← hVs]; simp
        have j4 : (V.alloc (.cells #[.int .i64 ac.floor, .int .i64 (ac.bal + v), .int .i64 ac.held] 149)).drew.cell? ⟨w3.heap.size + 1, 2, none⟩ = some (.int .i64 ac.held) := by rw [← hVs]; simp
        change Lg (V.alloc (.cells #[.int .i64 ac.floor, .int .i64 (ac.bal + v), .int .i64 ac.held] 149)).drew p b m (bumped G (eachG es) lf) pv hv at hLY
        change Hid (Rn' keyC amtE (V.alloc (.cells #[.int .i64 ac.floor, .int .i64 (ac.bal + v), .int .i64 ac.held] 149)).drew w.heap.size w1.heap.size es.length (eachG es) (fun z => lf z && !decide (z = (s, t))) cnt3) at HrY
        generalize (V.alloc (.cells #[.int .i64 ac.floor, .int .i64 (ac.bal + v), .int .i64 ac.held] 149)).drew = Y at *
        have cY := hLY.c0
        obtain ⟨w5, hrun, hM5, ht5⟩ := (hLY.drewN 1).acc.store Tryz.underlying141 (by unfold maxLen; omega) (x := (s, t)) Hx.out (v := ac.plus v) trivial
        have hrun' : (Instr.mapUpdate 141 (.map (some b)) (.agg #[.string s, .string t]) (.agg #[.int .i64 ac.floor, .int .i64 (ac.bal + v), .int .i64 ac.held])).run Tryz.prog Y.drew = .ok () w5 := hrun
        have hg5 := ht5.grown
        have Hg5 := Lib.hid (show Y.grownBy w5 (some b) from ⟨hg5.os, hg5.tape, hg5.output, hg5.size, hg5.block⟩)
        rw [Hst.out] at hM5
        have hne := hLY.ne
        have HL5 := Lib.hid (show Lg w5 p b (m + 1) (bumped G (eachG es) (fun z => lf z && !decide (z = (s, t)))) pv hv from ⟨(Hg5.out.block p hLY.plt (fun e => hne (by injection e))).trans hLY.cell, hM5⟩)
        have Hr5 := Lib.hid (HrY.out.kept Hg5.out (fun e => by injection e; omega) (fun e => by injection e; omega))
        have Hgw := Lib.hid (show w.grownBy w5 (some b) from by
          have h1 := HgV.out
          have h2 := HgY.out
          have h3 := Hg5.out
          have s1 := h1.size
          have s2 := h2.size
          exact ⟨h3.os.trans (h2.os.trans h1.os), h3.tape.trans (h2.tape.trans h1.tape), h3.output.trans (h2.output.trans h1.output), by have := h3.size; omega, fun i hi hne => (h3.block i (by omega) hne).trans ((h2.block i (by omega) (by simp)).trans (h1.block i hi hne))⟩)
        clear hrun hM5 ht5 hg5 hLY hne k0 k1 cp
        go_region
        all_goals
          go_wp2_with fail
          go_roundw
          case rel => exact ⟨_, cnt3, m + 1, Hr5.out, by omega, HL5, Hgw⟩
          case measure => rw [Hr5.out.left_eq, Hleft.out]; exact hlt3
end Go.Proofs.YtdinloecgaapaaaGreatDoor
