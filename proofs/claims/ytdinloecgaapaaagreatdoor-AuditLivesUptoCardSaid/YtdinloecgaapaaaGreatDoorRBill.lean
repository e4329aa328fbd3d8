/- slices.Clone of texts; register.copyBill. -/
import Derived.Test.YtdinloecgaapaaaGreatDoorRMem
import Derived.Test.YtdinloecgaapaaaGreatDoorMRShelf
import Derived.Laws.Rows
import Derived.Laws.Tables
namespace Go.Proofs.YtdinloecgaapaaaGreatDoor
open Go.RowKit Go.Maps Go.Lib
set_option linter.unusedVariables false
set_option maxRecDepth 100000

/-- a slice of the same texts comes back, in a block of its own -/
def ClP (L : List ByteArray) (w : World) (e : Ending) (w' : World) : Prop := ∃ A' c', e = .returned (.slice A' L.length c') ∧ Sr w' A' L ∧ Below w.heap.size w w'
theorem sr_of_row {w : World} {base n : Nat} {v : Value} {L : List ByteArray} (hn : n = L.length) (h : w.ownsRow base 9 1 v n (L.map Value.string)) : ∃ A' c', v = .slice A' L.length c' ∧ Sr w A' L := by
  subst hn
  obtain ⟨h1, h2⟩ := h
  rcases h2 with ⟨e, h0⟩ | ⟨g, cap, cur, e, _, hg, _, _, hs, ht⟩
  · exact ⟨none, 0, by rw [e, h0], fun hl => by omega⟩
  · refine ⟨some ⟨g, 0, none⟩, cap, e, fun hl => ⟨g, cur, rfl, hg, fun i x hx => ?_⟩⟩
    have hi := (List.getElem?_eq_some_iff.1 hx).1
    have : (cur.toList.take (L.length * 1))[i]? = (L.map Value.string)[i]? := by rw [ht]
    rw [List.getElem?_take_of_lt (by omega), List.getElem?_map, hx] at this
    rw [← Array.getElem?_toList]
    exact this
theorem clone_r (A : Option Addr) (c : Nat) (L : List ByteArray) (w : World) (hR : Rs w w.heap.size A L) (hl : L.length ≤ 1000) :
    Calls Tryz.prog 88 #[.slice A L.length c] w fun e w' => ClP L w e w' := by
  by_cases h0 : L.length = 0
  · have hL : L = [] := List.length_eq_zero_iff.1 h0
    subst hL
    cases A with
    | none =>
      refine (Tryz.slices_Clone_string_nil 0 c w).mono ?_
      rintro e w' ⟨rfl, rfl⟩
      exact ⟨none, 0, rfl, fun h => absurd h (by simp), Below.refl _ _⟩
    | some a =>
      refine (Tryz.slices_Clone_string_zero a c w).mono ?_
      rintro e w' ⟨v, rfl, hr, _, hb⟩
      obtain ⟨A', c', rfl, hs⟩ := sr_of_row (L := []) rfl hr
      exact ⟨A', c', rfl, hs, hb⟩
  · obtain ⟨g, off, rfl, hg, hc⟩ := hR (by omega)
    refine (Tryz.slices_Clone_string g off L.length c L w (Nat.le_refl _) (by omega) (fun j hj => ?_)).mono ?_
    · rw [hc j _ (List.getElem?_eq_getElem hj)]
      simp [List.getD, List.getElem?_eq_getElem hj]
    · rintro e w' ⟨v, rfl, hr, _, hb⟩
      rw [List.take_length] at hr
      obtain ⟨A', c', rfl, hs⟩ := sr_of_row rfl hr
      exact ⟨A', c', rfl, hs, hb⟩
def En.with (x : En) (A : Option Addr) (c : Nat) (PA : Option Addr) (pc : Nat) : En := { x with A := A, c := c, PA := PA, pc := pc }
def zbl : Array Value := #[.string ⟨#[]⟩, .string ⟨#[]⟩, .string ⟨#[]⟩, .string ⟨#[]⟩, .string ⟨#[]⟩, .slice none 0 0, .slice none 0 0, .int .i64 0, .bool false]
theorem infoBill : (Tryz.prog.info? 59).map (·.size) = some 9 := by kernel_rfl
def CbP (x : En) (w : World) (e : Ending) (w' : World) : Prop := ∃ A' c' PA' pc', e = .returned (.agg (blA (x.with A' c' PA' pc'))) ∧ Sr w' A' x.l ∧ Sr w' PA' x.p ∧ Below w.heap.size w w'
theorem blA_one (x : En) : (blA x).all (·.oneCell') = true := by simp [blA, Value.oneCell']
set_option maxHeartbeats 4000000 in
theorem copyBill_r (x : En) (w : World) (hA : Rs w w.heap.size x.A x.l) (hP : Rs w w.heap.size x.PA x.p) (hl : x.l.length ≤ 1000) (hp : x.p.length ≤ 1000) :
    Calls Tryz.prog 58 #[.agg (blA x)] w fun e w' => CbP x w e w' := by
  have hb1 : Below w.heap.size w (w.alloc (.cells (blA x) 59)) := (Below.refl _ _).alloc (Nat.le_refl _) _
  have hb2 : Below w.heap.size w ((w.alloc (.cells (blA x) 59)).alloc (.cells zbl 59)) := hb1.alloc (by simp) _
  have hz2 : ((w.alloc (.cells (blA x) 59)).alloc (.cells zbl 59)).heap.size = w.heap.size + 2 := by simp
  obtain ⟨W0, hW0⟩ : ∃ W0, W0 = (w.alloc (.cells (blA x) 59)).alloc (.cells zbl 59) := ⟨_, rfl⟩
  rw [← hW0] at hb2 hz2
  have k0 : W0.heap[w.heap.size]? = some (.cells (blA x) 59 (0, 0)) := by
    rw [hW0]
    have : ((w.alloc (.cells (blA x) 59)).alloc (.cells zbl 59)).heap[w.heap.size]? = (w.alloc (.cells (blA x) 59)).heap[w.heap.size]? := Below.heap_alloc _ _ _ (by simp)
    rw [this]
    exact heap_alloc_new _ _
  have k1 : W0.heap[w.heap.size + 1]? = some (.cells zbl 59 (0, 0)) := by
    rw [hW0]
    have := heap_alloc_new (w.alloc (.cells (blA x) 59)) (.cells zbl 59)
    simpa using this
  have c5 : W0.cell? ⟨w.heap.size, 5, none⟩ = some (.slice x.A x.l.length x.c) := by simp [World.cell?, k0, blA]
  have HC1 := Lib.hid (clone_r x.A x.c x.l W0 ((hA.below hb2).more (by omega)) hl)
  have HX := Lib.hid hb2
  have HK0 := Lib.hid k0
  have HK1 := Lib.hid k1
  have hz0 := hz2
  have HP := Lib.hid hP
  generalize hCP : CbP x w = CP
  clear hb1 k0 k1 hP hA hb2 hz2
  unfold blA zbl at hW0
  unfold blA
  go_enter Tryz.func58, Tryz.ntmps58
  go_wp2_with fail
  rw [← hW0]
  clear hW0
  refine HC1.out.mono ?_
  rintro e w1 ⟨A1, c1, rfl, hs1, hb1⟩
  have hz1 := hb1.size
  have m0 := keep_of_below hb1 HK0.out
  have m1 := keep_of_below hb1 HK1.out
  have f5 : w1.frozen? ⟨w.heap.size, 5, none⟩ = false := by simp [World.frozen?, m0]
  have d5 : w1.cell? ⟨w.heap.size, 5, none⟩ = some (.slice x.A x.l.length x.c) := by simp [World.cell?, m0, blA]
  have d6 : w1.cell? ⟨w.heap.size, 6, none⟩ = some (.slice x.PA x.p.length x.pc) := by simp [World.cell?, m0, blA]
  have n0 := Go.heap_setCell_same w1 w.heap.size 5 (blA x) 59 (.slice A1 x.l.length c1) m0
  have n1 : (w1.setCell ⟨w.heap.size, 5, none⟩ (.slice A1 x.l.length c1)).heap[w.heap.size + 1]? = some (.cells zbl 59 (0, 0)) := (Below.heap_setCell _ _ _ _ (by show w.heap.size + 1 ≠ w.heap.size; omega)).trans m1
  have hs2 : Sr (w1.setCell ⟨w.heap.size, 5, none⟩ (.slice A1 x.l.length c1)) A1 x.l := hs1.keep fun g cs hg => (Below.heap_setCell _ _ _ _ (by
    show g ≠ w.heap.size
    rintro rfl
    rw [m0] at hg
    injection hg with hg
    injection hg with _ h2 _
    exact absurd h2 (by decide))).trans hg
  have hb2 : Below w.heap.size w (w1.setCell ⟨w.heap.size, 5, none⟩ (.slice A1 x.l.length c1)) := (HX.out.trans (hb1.mono (by omega))).setCell (Nat.le_refl _) _
  have hz2 : w.heap.size + 2 ≤ (w1.setCell ⟨w.heap.size, 5, none⟩ (.slice A1 x.l.length c1)).heap.size := by rw [World.size_setCell]; omega
  have hc6 : (w1.setCell ⟨w.heap.size, 5, none⟩ (.slice A1 x.l.length c1)).frozen? ⟨w.heap.size, 6, none⟩ = false := by simp [World.frozen?, n0]
  obtain ⟨W2, hW2⟩ : ∃ W2, W2 = w1.setCell ⟨w.heap.size, 5, none⟩ (.slice A1 x.l.length c1) := ⟨_, rfl⟩
  rw [← hW2] at n0 n1 hs2 hb2 hz2 hc6
  have N0 := Lib.hid n0
  have N1 := Lib.hid n1
  have HS := Lib.hid hs2
  have HB := Lib.hid hb2
  have HC2 := Lib.hid (clone_r x.PA x.pc x.p W2 ((HP.out.below hb2).more (by omega)) hp)
  clear n0 n1 hs2 hb2 hs1 hb1 m0 m1 HC1 HX HK0 HK1 hc6
  go_wp2_with fail
  rw [← hW2]
  clear hW2 d5 d6 f5
  refine HC2.out.mono ?_
  rintro e w3 ⟨A3, c3, rfl, hs3, hb3⟩
  have hz3 := hb3.size
  have m0 := keep_of_below hb3 N0.out
  have m1 := keep_of_below hb3 N1.out
  have f6 : w3.frozen? ⟨w.heap.size, 6, none⟩ = false := by simp [World.frozen?, m0]
  have d6 : w3.cell? ⟨w.heap.size, 6, none⟩ = some (.slice x.PA x.p.length x.pc) := by simp [World.cell?, m0, blA]
  have n0 := Go.heap_setCell_same w3 w.heap.size 6 _ 59 (.slice A3 x.p.length c3) m0
  have n1 : (w3.setCell ⟨w.heap.size, 6, none⟩ (.slice A3 x.p.length c3)).heap[w.heap.size + 1]? = some (.cells zbl 59 (0, 0)) := (Below.heap_setCell _ _ _ _ (by show w.heap.size + 1 ≠ w.heap.size; omega)).trans m1
  have hkp : ∀ (A : Option Addr) (L : List ByteArray), Sr w3 A L → Sr (w3.setCell ⟨w.heap.size, 6, none⟩ (.slice A3 x.p.length c3)) A L := fun A L h => h.keep fun g cs hg => (Below.heap_setCell _ _ _ _ (by
    show g ≠ w.heap.size
    rintro rfl
    rw [m0] at hg
    injection hg with hg
    injection hg with _ h2 _
    exact absurd h2 (by decide))).trans hg
  have hb4 : Below w.heap.size w (w3.setCell ⟨w.heap.size, 6, none⟩ (.slice A3 x.p.length c3)) := (HB.out.trans (hb3.mono (by omega))).setCell (Nat.le_refl _) _
  have e0 : ((blA x).setIfInBounds 5 (.slice A1 x.l.length c1)).setIfInBounds 6 (.slice A3 x.p.length c3) = blA (x.with A1 c1 A3 c3) := by
    simp [blA, En.with]
  rw [e0] at n0
  have q1 := hkp _ _ (HS.out.below hb3)
  have q2 := hkp _ _ hs3
  obtain ⟨W4, hW4⟩ : ∃ W4, W4 = w3.setCell ⟨w.heap.size, 6, none⟩ (.slice A3 x.p.length c3) := ⟨_, rfl⟩
  rw [← hW4] at n0 n1 hb4 q1 q2
  have hz4 : w.heap.size + 2 ≤ W4.heap.size := by rw [hW4, World.size_setCell]; omega
  have hfin : (W4.setRow (w.heap.size + 1) (blA (x.with A1 c1 A3 c3))).heap[w.heap.size + 1]? = some (.cells (blA (x.with A1 c1 A3 c3)) 59 (0, 0)) ∧ CP (.returned (.agg (blA (x.with A1 c1 A3 c3)))) (W4.setRow (w.heap.size + 1) (blA (x.with A1 c1 A3 c3))) := by
    refine ⟨by simp [World.setRow, Array.getElem?_modify, n1], ?_⟩
    rw [← hCP]
    have hk : ∀ (A : Option Addr) (L : List ByteArray), Sr W4 A L → Sr (W4.setRow (w.heap.size + 1) (blA (x.with A1 c1 A3 c3))) A L := fun A L h => h.keep fun g cs hg => (setRow_other _ _ _ _ (by
      rintro rfl
      rw [n1] at hg
      injection hg with hg
      injection hg with _ h2 _
      exact absurd h2 (by decide))).trans hg
    exact ⟨A1, c1, A3, c3, rfl, hk _ _ q1, hk _ _ q2, hb4.os, hb4.tape, hb4.output, by simpa [World.setRow] using hb4.size, fun k hk => (setRow_other _ _ _ _ (by omega)).trans (hb4.block k hk)⟩
  have HF := Lib.hid hfin
  have N0' := Lib.hid n0
  have N1' := Lib.hid n1
  have HO := Lib.hid (blA_one (x.with A1 c1 A3 c3))
  have hIb : (Tryz.prog.info? 59).map (·.size) = some (blA (x.with A1 c1 A3 c3)).size := infoBill
  have HI := Lib.hid hIb
  have hSz : zbl.size = (blA (x.with A1 c1 A3 c3)).size := rfl
  have HSz := Lib.hid hSz
  clear hSz
  clear n0 n1 hb4 q1 q2 hs3 hb3 hkp e0 N0 N1 HS HB HC2 hfin hIb m0 m1 hCP
  generalize blA (x.with A1 c1 A3 c3) = V at *
  go_wp2_with (first
    | (rw [← hW4]; clear hW4; refine wpList_load_row rfl 59 (.tmp 1) rfl w.heap.size rfl 59 V (0, 0) _ N0'.out Tryz.underlying59 rfl HI.out ?_)
    | (refine wpList_store_row rfl 59 (.tmp 2) (.tmp 11) rfl (w.heap.size + 1) V rfl rfl 59 _ N1'.out HI.out HSz.out HO.out ?_)
    | fail)
  refine bodyPost_ret (results_cell_row rfl _ _ (w.heap.size + 1) 59 V (0, 0) _ rfl HF.out.1 Tryz.underlying59 rfl HI.out) rfl ?_
  exact HF.out.2
end Go.Proofs.YtdinloecgaapaaaGreatDoor
