/- syntax.Print and syntax.May. sense.Fine. -/
import Derived.Test.YtbkffdfboloogaaGreatDoorFWrite
import Derived.Laws.Rows
import Derived.Test.YtbkffdfboloogaaGreatDoorMX
namespace Go.Proofs.YtbkffdfboloogaaGreatDoor
open Go.RowKit Go.Lib
set_option linter.unusedVariables false
set_option maxRecDepth 100000

theorem infoCr : (Tryz.prog.info? 26).map (·.size) = some 18 := by kernel_rfl
theorem crA_size (c : Cr) (A : Option Addr) (cp : Nat) : (Tryz.prog.info? 26).map (·.size) = some (crA c A cp).size := infoCr
/-- a credit that may be asked about -/
structure Thin (c : Cr) : Prop where
  fair : Fair c
  nine : c.needs.length ≤ 9
  show_ : ∀ x ∈ c.needs, (showL x.r).length ≤ 39000000
theorem Thin.slim {c : Cr} (h : Thin c) (hf : fitsB c = true) : Slim c := ⟨h.fair, hf, h.nine, h.show_⟩
/-- what Print tells -/
def printE (c : Cr) : ByteArray × Int := if fitsB c = true then (if (credL c).length ≤ 4096 then (⟨(credL c).toArray⟩, 0) else (⟨#[]⟩, 7)) else (⟨#[]⟩, 1)
theorem may_print (c : Cr) : mayB c = ((printE c).2 == 0) := by
  unfold mayB printE
  by_cases hf : fitsB c = true
  · by_cases hl : (credL c).length ≤ 4096
    · rw [if_pos hf, if_pos hl, hf, decide_eq_true hl]; rfl
    · rw [if_pos hf, if_neg hl, hf, decide_eq_false hl]; rfl
  · rw [if_neg hf, Bool.eq_false_iff.2 hf]; rfl
set_option maxHeartbeats 4000000 in
theorem print_any (c : Cr) (hc : Thin c) (A : Option Addr) (cp : Nat) (w : World) (Bn : Nat) (hN : Ns w Bn A c.needs) (hBn : Bn ≤ w.heap.size) (hE : Ev w) :
    Calls Tryz.prog 29 #[.agg (crA c A cp)] w fun e w' => e = .returned (.tuple #[.string (printE c).1, .int .i64 (printE c).2]) ∧ Below w.heap.size w w' := by
  have hb1 : Below w.heap.size w (w.alloc (.cells (crA c A cp) 26)) := (Below.refl _ _).alloc (Nat.le_refl _) _
  have hz1 : (w.alloc (.cells (crA c A cp) 26)).heap.size = w.heap.size + 1 := by simp
  have hbk : (w.alloc (.cells (crA c A cp) 26)).heap[w.heap.size]? = some (.cells (crA c A cp) 26 (0, 0)) := heap_alloc_new w _
  have H18 : Hid (∀ W : World, Below (w.heap.size + 1) (w.alloc (.cells (crA c A cp) 26)) W → Hid (Below w.heap.size w W) ∧ W.heap[w.heap.size]? = some (.cells (crA c A cp) 26 (0, 0))) := Lib.hid (fun W hb => ⟨Lib.hid (hb1.trans (hb.mono (by omega))), (hb.block _ (by omega)).trans hbk⟩)
  have HM := Lib.hid (creditMay_any c hc.fair A cp (w.alloc (.cells (crA c A cp) 26)) Bn (hN.kept (hb1.mono hBn)) (by omega) (hE.all hb1).wd)
  have HW : Hid (fitsB c = true → ∀ W : World, Below (w.heap.size + 1) (w.alloc (.cells (crA c A cp) 26)) W → Calls Tryz.prog 61 #[.agg (crA c A cp)] W fun e w' => e = .returned (.string ⟨(credL c).toArray⟩) ∧ Below W.heap.size W w') := Lib.hid (fun hf W hb => by
    have h := hb1.trans (hb.mono (by omega))
    exact write_any c (hc.slim hf) A cp W Bn (hN.kept (h.mono hBn)) (by have := h.size; omega) (hE.all h))
  have HB1 := Lib.hid hb1
  have hts : (⟨(credL c).toArray⟩ : ByteArray).size = (credL c).length := by show (credL c).toArray.size = _; simp
  have Hbk := Lib.hid hbk
  have HI := Lib.hid (crA_size c A cp)
  clear hN hE hc hb1 hbk
  cases hf : fitsB c with
  | false =>
    have HE : Hid (printE c = (⟨#[]⟩, 1)) := Lib.hid (by unfold printE; rw [hf]; rfl)
    rw [hf] at HM
    rw [HE.out]
    clear HW hts hf
    go_enter Tryz.func29, Tryz.ntmps29
    go_wp2_with (first
      | (go_at_call 60; refine HM.out.mono ?_; rintro e w2 ⟨rfl, hb2⟩; rw [hz1] at hb2; obtain ⟨HBN, _⟩ := H18.out w2 hb2; clear hb2)
      | (refine wpList_load_row rfl 26 (.tmp 1) rfl w.heap.size rfl 26 (crA c A cp) (0, 0) _ Hbk.out Tryz.underlying26 rfl HI.out ?_)
      | fail)
    go_ret2
    exact ⟨rfl, HBN.out⟩
  | true =>
    rw [hf] at HM
    have HW2 := Lib.hid (HW.out hf)
    clear HW
    by_cases hl : (credL c).length ≤ 4096
    · have HE : Hid (printE c = (⟨(credL c).toArray⟩, 0)) := Lib.hid (by unfold printE; rw [hf, if_pos hl]; rfl)
      rw [HE.out]
      generalize (⟨(credL c).toArray⟩ : ByteArray) = T at *
      have b1 : ¬ (4096 : Int) < (T.size : Int) := by omega
      clear hf hl hts HE
      go_enter Tryz.func29, Tryz.ntmps29
      go_wp2_with (first
        | (go_at_call 60; refine HM.out.mono ?_; rintro e w2 ⟨rfl, hb2⟩; rw [hz1] at hb2; have Hb2 := Lib.hid hb2; clear Hbk; obtain ⟨HBN, hbk2⟩ := H18.out w2 hb2; have Hbk := Lib.hid hbk2; clear hb2 hbk2)
        | (go_at_call 61; refine (HW2.out _ Hb2.out).mono ?_; rintro e w3 ⟨rfl, hb3⟩; have HB3 := Lib.hid (HBN.out.trans (hb3.mono HBN.out.size)); clear hb3)
        | (refine wpList_load_row rfl 26 (.tmp 1) rfl w.heap.size rfl 26 (crA c A cp) (0, 0) _ Hbk.out Tryz.underlying26 rfl HI.out ?_)
        | fail)
      go_ret2
      exact ⟨rfl, HB3.out⟩
    · have HE : Hid (printE c = (⟨#[]⟩, 7)) := Lib.hid (by unfold printE; rw [hf, if_neg hl]; rfl)
      rw [HE.out]
      generalize (⟨(credL c).toArray⟩ : ByteArray) = T at *
      have b1 : (4096 : Int) < (T.size : Int) := by omega
      clear hf hl hts HE
      go_enter Tryz.func29, Tryz.ntmps29
      go_wp2_with (first
        | (go_at_call 60; refine HM.out.mono ?_; rintro e w2 ⟨rfl, hb2⟩; rw [hz1] at hb2; have Hb2 := Lib.hid hb2; clear Hbk; obtain ⟨HBN, hbk2⟩ := H18.out w2 hb2; have Hbk := Lib.hid hbk2; clear hb2 hbk2)
        | (go_at_call 61; refine (HW2.out _ Hb2.out).mono ?_; rintro e w3 ⟨rfl, hb3⟩; have HB3 := Lib.hid (HBN.out.trans (hb3.mono HBN.out.size)); clear hb3)
        | (refine wpList_load_row rfl 26 (.tmp 1) rfl w.heap.size rfl 26 (crA c A cp) (0, 0) _ Hbk.out Tryz.underlying26 rfl HI.out ?_)
        | fail)
      go_ret2
      exact ⟨rfl, HB3.out⟩
set_option maxHeartbeats 2000000 in
theorem may_any (c : Cr) (hc : Thin c) (A : Option Addr) (cp : Nat) (w : World) (Bn : Nat) (hN : Ns w Bn A c.needs) (hBn : Bn ≤ w.heap.size) (hE : Ev w) :
    Calls Tryz.prog 11 #[.agg (crA c A cp)] w fun e w' => e = .returned (.bool (mayB c)) ∧ Below w.heap.size w w' := by
  have hb1 : Below w.heap.size w (w.alloc (.cells (crA c A cp) 26)) := (Below.refl _ _).alloc (Nat.le_refl _) _
  have hz1 : (w.alloc (.cells (crA c A cp) 26)).heap.size = w.heap.size + 1 := by simp
  have HP := Lib.hid (print_any c hc A cp (w.alloc (.cells (crA c A cp) 26)) Bn (hN.kept (hb1.mono hBn)) (by omega) (hE.all hb1))
  have HB1 := Lib.hid hb1
  have Hz1 := Lib.hid hz1
  rw [may_print]
  have Hbk : Hid ((w.alloc (.cells (crA c A cp) 26)).heap[w.heap.size]? = some (.cells (crA c A cp) 26 (0, 0))) := Lib.hid (heap_alloc_new w _)
  have HI := Lib.hid (crA_size c A cp)
  clear hN hE hc hb1 hz1
  generalize printE c = pe at *
  obtain ⟨t, n⟩ := pe
  simp only at HP ⊢
  go_enter Tryz.func11, Tryz.ntmps11
  go_wp2_with (first
    | (go_at_call 29; refine HP.out.mono ?_; rintro e w2 ⟨rfl, hb2⟩; have HB2 := Lib.hid (HB1.out.trans (hb2.mono (by rw [Hz1.out]; omega))); clear hb2)
    | (refine wpList_load_row rfl 26 (.tmp 1) rfl w.heap.size rfl 26 (crA c A cp) (0, 0) _ Hbk.out Tryz.underlying26 rfl HI.out ?_)
    | fail)
  go_ret
  exact ⟨rfl, HB2.out⟩
end Go.Proofs.YtbkffdfboloogaaGreatDoor
namespace Go.Proofs.YtbkffdfboloogaaGreatDoor
open Go.RowKit Go.Maps Go.Lib
set_option linter.unusedVariables false
set_option maxRecDepth 100000

/-- what both sides say of a credit -/
def FnP (c : Cr) (w : World) (e : Ending) (w' : World) : Prop := ∃ r : Bool, e = .returned (.bool r) ∧ (r = true ↔ mayB c = true ∧ ¬ Faulty c) ∧ Below w.heap.size w w'
theorem eq_zero (n : Nat) : (((n : Int) == 0) = true) ↔ n = 0 := by rw [beq_iff_eq]; omega
set_option maxHeartbeats 4000000 in
theorem fine_any (c : Cr) (hc : Thin c) (hk : ∀ x ∈ c.needs, -9223372036854775808 ≤ x.k ∧ x.k ≤ 9223372036854775807) (A : Option Addr) (cp B : Nat) (w : World) (hN : Ns w B A c.needs) (hB : B ≤ w.heap.size) (hE : Ev w) :
    Calls Tryz.prog 7 #[.agg (crA c A cp)] w fun e w' => FnP c w e w' := by
  have hb1 : Below w.heap.size w (w.alloc (.cells (crA c A cp) 26)) := (Below.refl _ _).alloc (Nat.le_refl _) _
  have hz1 : (w.alloc (.cells (crA c A cp) 26)).heap.size = w.heap.size + 1 := by simp
  have HM := Lib.hid (may_any c hc A cp (w.alloc (.cells (crA c A cp) 26)) B (hN.kept (hb1.mono hB)) (by omega) (hE.all hb1))
  have HCk : Hid (∀ W, Below w.heap.size w W → Calls Tryz.prog 16 #[.agg (crA c A cp)] W fun e w' => ∃ Av n cv, e = .returned (.slice Av n cv) ∧ (n = 0 ↔ ¬ Faulty c) ∧ Below W.heap.size W w') := Lib.hid (fun W hb =>
    check_any c hc.fair hk A cp B W (hN.kept (hb.mono hB)) (by have := hb.size; omega) hc.nine (hE.all hb))
  have HB1 := Lib.hid hb1
  have Hz1 := Lib.hid hz1
  have Hbk : Hid ((w.alloc (.cells (crA c A cp) 26)).heap[w.heap.size]? = some (.cells (crA c A cp) 26 (0, 0))) := Lib.hid (heap_alloc_new w _)
  have HI := Lib.hid (crA_size c A cp)
  have HC18 : Hid (∀ W, Below (w.alloc (.cells (crA c A cp) 26)).heap.size (w.alloc (.cells (crA c A cp) 26)) W → C18 W w.heap.size c A cp) := Lib.hid (fun W hb => (C18.new w c A cp 26).below hb (by omega))
  have HNo : Hid (mayB c = false → ∀ W, Below w.heap.size w W → FnP c w (.returned (.bool false)) W) := Lib.hid (fun h W hb => ⟨false, rfl, ⟨fun h => (by cases h), fun h2 => (by rw [h] at h2; cases h2.1)⟩, hb⟩)
  have HYes : Hid (mayB c = true → ∀ W (n : Nat), (n = 0 ↔ ¬ Faulty c) → Below w.heap.size w W → FnP c w (.returned (.bool ((n : Int) == 0))) W) := Lib.hid (fun h W n hn hb => ⟨_, rfl, by rw [eq_zero, hn, h]; simp, hb⟩)
  clear hN hE hc hb1 hk
  generalize FnP c w = CP at *
  generalize Faulty c = FC at *
  cases hm : mayB c with
  | false =>
    have HNo' := Lib.hid (HNo.out hm)
    rw [hm] at HM
    clear hm HYes HNo HCk
    go_enter Tryz.func7, Tryz.ntmps7
    go_wp2_with (first
      | (go_at_call 11; (with_reducible refine HM.out.mono ?_); rintro e w2 ⟨rfl, hb2⟩; have HB2 := Lib.hid (HB1.out.trans (hb2.mono (by rw [Hz1.out]; omega))); have HF := Lib.hid (HNo'.out _ HB2.out); clear hb2)
      | (refine wpList_load_row rfl 26 (.tmp 1) rfl w.heap.size rfl 26 (crA c A cp) (0, 0) _ Hbk.out Tryz.underlying26 rfl HI.out ?_)
      | fail)
    first
      | exact HF.out
      | (go_ret; exact HF.out)
  | true =>
    have HYes' := Lib.hid (HYes.out hm)
    rw [hm] at HM
    clear hm HYes HNo
    unfold crA at HCk
    go_enter Tryz.func7, Tryz.ntmps7
    go_wp2_with (first
      | (go_at_call 11; (with_reducible refine HM.out.mono ?_); rintro e w2 ⟨rfl, hb2⟩; have HB2 := Lib.hid (HB1.out.trans (hb2.mono (by rw [Hz1.out]; omega))); have h18 := HC18.out w2 hb2; obtain ⟨e0, e1, e2, e3, e4, e5, e6, e7, e8, e9, e10, e11, e12, e13, e14, e15, e16, e17⟩ := h18; have HCk2 := Lib.hid (HCk.out w2 HB2.out); clear hb2 HM HCk)
      | (refine wpList_load_row rfl 26 (.tmp 1) rfl w.heap.size rfl 26 (crA c A cp) (0, 0) _ Hbk.out Tryz.underlying26 rfl HI.out ?_)
      | (go_at_call 16; (with_reducible refine HCk2.out.mono ?_); rintro e w3 ⟨Av, n, cv, rfl, hn, hb3⟩; have HF := Lib.hid (HYes'.out w3 n hn (HB2.out.trans (hb3.mono HB2.out.size))); clear hn hb3)
      | fail)
    first
      | exact HF.out
      | (go_ret; exact HF.out)
end Go.Proofs.YtbkffdfboloogaaGreatDoor
