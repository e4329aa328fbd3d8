/- A register behind calls. -/
import Derived.Test.YtdinloecgaapaaaGreatDoorMRPut
namespace Go.Proofs.YtdinloecgaapaaaGreatDoor
open Go.RowKit Go.Maps Go.Lib Go.Sort
set_option linter.unusedVariables false
set_option maxRecDepth 100000

def Aa.car (a : Aa) (ca : ByteArray) : Aa := { a with x := { a.x with ca := ca } }
theorem car_set (a : Aa) (ca : ByteArray) : (aaA a).setIfInBounds 7 (.string ca) = aaA (a.car ca) := by simp [aaA, Aa.car]

set_option maxHeartbeats 1000000 in
theorem registered_r (ca : ByteArray) (L : List Aa) (A : Option Addr) (c : Nat) (w : World) (h : Ra w w.heap.size A L) (hl : L.length ≤ 5000) :
    Calls Tryz.prog 7 #[.string ca, .slice A L.length c] w fun e w' => e = .returned (.pointer (some ⟨w.heap.size + 1, 0, none⟩)) ∧ Reg w' w.heap.size (w.heap.size + 1) ca L.length ∧ Below w.heap.size w w' := by
  have HL := Lib.hid h
  clear h
  generalize hCP : (fun (e : Ending) (w' : World) => e = .returned (.pointer (some ⟨w.heap.size + 1, 0, none⟩)) ∧ Reg w' w.heap.size (w.heap.size + 1) ca L.length ∧ Below w.heap.size w w') = CP
  have HF : Hid (∀ w', Reg w' w.heap.size (w.heap.size + 1) ca L.length → Below w.heap.size w w' → CP (.returned (.pointer (some ⟨w.heap.size + 1, 0, none⟩))) w') := Lib.hid fun w' h1 h2 => by rw [← hCP]; exact ⟨rfl, h1, h2⟩
  clear hCP
  have HN := Lib.hid (new_r ca w)
  go_enter Tryz.func7, Tryz.ntmps7
  go_wp2_with fail
  refine HN.out.mono ?_
  rintro e w1 ⟨rfl, hr1, hb1⟩
  have HR1 := Lib.hid hr1
  have HB1 := Lib.hid hb1
  clear hr1 hb1 HN
  have hL : (L.length : Int) ≤ 5000 := by omega
  go_wp2_with fail
  go_loopw [12] (fun i wr => ∃ k : Nat, k ≤ L.length ∧ i = .int .i64 k ∧ Hid (Reg wr w.heap.size (w.heap.size + 1) ca k) ∧ Hid (Below w.heap.size w wr)) (fun i _ => L.length - (RowKit.intOf i).toNat)
  case atStart => exact ⟨0, Nat.zero_le _, rfl, HR1, HB1⟩
  case round =>
    clear HR1 HB1
    obtain ⟨k, hk, rfl, HR, HB⟩ := hrel
    by_cases hlt : k < L.length
    · obtain ⟨g, off, rfl, hg, hr, hA, hP, ho⟩ := (HL.out.below HB.out).at_ hlt
      generalize L[k] = a at *
      have hlt' : (k : Int) < (L.length : Int) := by omega
      obtain ⟨hb2, hz2⟩ := laid_below wr zaa (aaA a) 61
      have hm := heap_alloc_new wr (.cells zaa 61)
      obtain ⟨W1, hW1⟩ : ∃ W1, W1 = wr.alloc (.cells zaa 61) := ⟨_, rfl⟩
      rw [← hW1] at hb2 hz2 hm
      have l0 := laid_act W1 wr.heap.size zaa (aaA a) _ _ hm
      have HM := Lib.hid hm
      obtain ⟨W2, hW2⟩ : ∃ W2, W2 = W1.setRow wr.heap.size (aaA a) := ⟨_, rfl⟩
      rw [← hW2] at hb2 hz2 l0
      have c7 : W2.cell? ⟨wr.heap.size, 7, none⟩ = some (.string a.x.ca) := cell_of l0 7
      have f7 : W2.frozen? ⟨wr.heap.size, 7, none⟩ = false := by simp [World.frozen?, l0]
      have l3 := heap_setCell_same W2 wr.heap.size 7 (aaA a) _ (.string ca) l0
      rw [car_set] at l3
      have hb3 : Below wr.heap.size wr (W2.setCell ⟨wr.heap.size, 7, none⟩ (.string ca)) := hb2.setCell (Nat.le_refl _) _
      have hz3 : (W2.setCell ⟨wr.heap.size, 7, none⟩ (.string ca)).heap.size = wr.heap.size + 1 := by rw [← hz2]; simp
      obtain ⟨W3, hW3⟩ : ∃ W3, W3 = W2.setCell ⟨wr.heap.size, 7, none⟩ (.string ca) := ⟨_, rfl⟩
      rw [← hW3] at l3 hb3 hz3
      have hws : w.heap.size ≤ wr.heap.size := HB.out.size
      have HC := Lib.hid (put_r w.heap.size (w.heap.size + 1) k ca (a.car ca) W3 (HR.out.below hb3) (by omega) ((hA.below (hb3.mono hws)).more (by omega)) ((hP.below (hb3.mono hws)).more (by omega)) ⟨ho.bi, ho.by_, ho.tt, ho.nu, ho.sh, ho.fr, ho.xto, ho.l, ho.p⟩)
      have HB3 := Lib.hid (HB.out.trans (hb3.mono HB.out.size))
      have HR' := Lib.hid hr
      have HO := Lib.hid (aaA_one a)
      have HIb := Lib.hid (show (Tryz.prog.info? 61).map (·.size) = some (aaA a).toList.length from infoAct)
      have HIs := Lib.hid (show (Tryz.prog.info? 61).map (·.size) = some (aaA a).size from infoAct)
      have HSz := Lib.hid (show zaa.size = (aaA a).size from rfl)
      have HR3 := Lib.hid (show W3.rangeAt wr.heap.size 0 (aaA (a.car ca)).toList from fun j v hv => by rw [Nat.zero_add, cell_of l3 j, ← Array.getElem?_toList]; exact hv)
      have HI3 := Lib.hid (show (Tryz.prog.info? 61).map (·.size) = some (aaA (a.car ca)).toList.length from infoAct)
      clear hr hm l0 hb2 hz2 hA hP ho l3 hb3 hz3
      unfold zaa at hW1
      generalize a.x.ca = xca at *
      generalize aaA (a.car ca) = V3 at *
      generalize aaA a = V at *
      go_wp2_with (first
        | (have _t := hW1; clear _t; refine wpList_load_mid rfl 61 (.tmp 14) rfl g (off + k * 15) rfl V.toList _ HR'.out Tryz.underlying61 rfl HIb.out ?_)
        | (rw [← hW1]; clear hW1; refine wpList_store_row rfl 61 (.tmp 7) (.tmp 15) rfl wr.heap.size V rfl rfl 61 _ HM.out HIs.out HSz.out HO.out ?_; rw [← hW2]; clear hW2)
        | (rw [← hW3]; clear hW3; refine wpList_load_mid rfl 61 (.tmp 7) rfl wr.heap.size 0 rfl V3.toList _ HR3.out Tryz.underlying61 rfl HI3.out ?_)
        | fail)
      refine HC.out.mono ?_
      rintro e w5 ⟨rfl, hr5, hb5⟩
      have HR5 := Lib.hid hr5
      have HB5 := Lib.hid (HB3.out.trans hb5)
      clear hr5 hb5 HC HB3 HR3 HI3 HSz HIs HIb HO HR' HM
      go_wp2_with fail
      exact ⟨⟨k + 1, by omega, by go_num, HR5, HB5⟩, by simp [RowKit.intOf]; omega⟩
    · have hlt' : ¬ (k : Int) < (L.length : Int) := by omega
      have hke : k = L.length := by omega
      subst hke
      have HF2 := Lib.hid (HF.out _ HR.out HB.out)
      clear HF HR HB
      go_wp2_with fail
      first
        | exact HF2.out
        | (go_ret; exact HF2.out)
end Go.Proofs.YtdinloecgaapaaaGreatDoor
