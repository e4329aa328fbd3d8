/- sense.Fine. -/
import Derived.Test.YtbkffdfboloogaaGreatDoorMV
import Derived.Test.YtbkffdfboloogaaGreatDoorFPrint
namespace Go.Proofs.YtbkffdfboloogaaGreatDoor
open Go.RowKit Go.Maps Go.Lib
set_option linter.unusedVariables false
set_option maxRecDepth 100000

/-- what both sides say of a credit -/
def FnP (c : Cr) (w : World) (e : Ending) (w' : World) : Prop := ∃ r : Bool, e = .returned (.bool r) ∧ (r = true ↔ mayB c = true ∧ ¬ Faulty c) ∧ Below w.heap.size w w'
theorem eq_zero (n : Nat) : (((n : Int) == 0) = true) ↔ n = 0 := by rw [beq_iff_eq]; omega
set_option maxHeartbeats 4000000 in
theorem fine_any (c : Cr) (hc : Thin c) (hk : ∀ x ∈ c.needs, -9223372036854775808 ≤ x.k ∧ x.k ≤ 9223372036854775807) (A : Option Addr) (cp B : Nat) (w : World) (hN : Ns w B A c.needs) (hB : B ≤ w.heap.size) (hE : Ev w) :
    Calls Tryz.prog 7 #[.agg (crA c A cp)] w fun e w' => FnP c w e w' := by
  have hb1 : Below w.heap.size w (w.alloc (.cells (crA c A cp) 26)) := (Below.refl _ _).alloc (Nat.le_refl _) _
  have hz1 : (w.alloc (.cells (crA c A cp) 26)).heap.size = w.heap.size + 1 := by simp
  have HM := Lib.hid (may_any c hc A cp (w.alloc (.cells (crA c A cp) 26)) B (hN.kept (hb1.mono hB)) (by omega) (hE.all hb1))
  have HCk : Hid (∀ W, Below w.heap.size w W → Calls Tryz.prog 16 #[.agg (crA c A cp)] W fun e w' => ∃ Av n cv, e = .returned (.slice Av n cv) ∧ (n = 0 ↔ ¬ Faulty c) ∧ Below W.heap.size W w') := Lib.hid (fun W hb =>
    check_any c hc.fair hk A cp B W (hN.kept (hb.mono hB)) (by have := hb.size; omega) hc.nine (hE.all hb))
  have HB1 := Lib.hid hb1
  have Hz1 := Lib.hid hz1
  have Hbk : Hid ((w.alloc (.cells (crA c A cp) 26)).heap[w.heap.size]? = some (.cells (crA c A cp) 26 (0, 0))) := Lib.hid (heap_alloc_new w _)
  have HI := Lib.hid (crA_size c A cp)
  have HC18 : Hid (∀ W, Below (w.alloc (.cells (crA c A cp) 26)).heap.size (w.alloc (.cells (crA c A cp) 26)) W → C18 W w.heap.size c A cp) := Lib.hid (fun W hb => (C18.new w c A cp 26).below hb (by omega))
  have HNo : Hid (mayB c = false → ∀ W, Below w.heap.size w W → FnP c w (.returned (.bool false)) W) := Lib.hid (fun h W hb => ⟨false, rfl, ⟨fun h => (by cases h), fun h2 => (by rw [h] at h2; cases h2.1)⟩, hb⟩)
  have HYes : Hid (mayB c = true → ∀ W (n : Nat), (n = 0 ↔ ¬ Faulty c) → Below w.heap.size w W → FnP c w (.returned (.bool ((n : Int) == 0))) W) := Lib.hid (fun h W n hn hb => ⟨_, rfl, by rw [eq_zero, hn, h]; simp, hb⟩)
  clear hN hE hc hb1 hk
  generalize FnP c w = CP at *
  generalize Faulty c = FC at *
  cases hm : mayB c with
  | false =>
    have HNo' := Lib.hid (HNo.out hm)
    rw [hm] at HM
    clear hm HYes HNo HCk
    go_enter Tryz.func7, Tryz.ntmps7
    go_wp2_with (first
      | (go_at_call 11; (with_reducible refine HM.out.mono ?_); rintro e w2 ⟨rfl, hb2⟩; have HB2 := Lib.hid (HB1.out.trans (hb2.mono (by rw [Hz1.out]; omega))); have HF := Lib.hid (HNo'.out _ HB2.out); clear hb2)
      | (refine wpList_load_row rfl 26 (.tmp 1) rfl w.heap.size rfl 26 (crA c A cp) (0, 0) _ Hbk.out Tryz.underlying26 rfl HI.out ?_)
      | fail)
    first
      | exact HF.out
      | (go_ret; exact HF.out)
  | true =>
    have HYes' := Lib.hid (HYes.out hm)
    rw [hm] at HM
    clear hm HYes HNo
    unfold crA at HCk
    go_enter Tryz.func7, Tryz.ntmps7
    go_wp2_with (first
      | (go_at_call 11; (with_reducible refine HM.out.mono ?_); rintro e w2 ⟨rfl, hb2⟩; have HB2 := Lib.hid (HB1.out.trans (hb2.mono (by rw [Hz1.out]; omega))); have h18 := HC18.out w2 hb2; obtain ⟨e0, e1, e2, e3, e4, e5, e6, e7, e8, e9, e10, e11, e12, e13, e14, e15, e16, e17⟩ := h18; have HCk2 := Lib.hid (HCk.out w2 HB2.out); clear hb2 HM HCk)
      | (refine wpList_load_row rfl 26 (.tmp 1) rfl w.heap.size rfl 26 (crA c A cp) (0, 0) _ Hbk.out Tryz.underlying26 rfl HI.out ?_)
      | (go_at_call 16; (with_reducible refine HCk2.out.mono ?_); rintro e w3 ⟨Av, n, cv, rfl, hn, hb3⟩; have HF := Lib.hid (HYes'.out w3 n hn (HB2.out.trans (hb3.mono HB2.out.size))); clear hn hb3)
      | fail)
    first
      | exact HF.out
      | (go_ret; exact HF.out)
end Go.Proofs.YtbkffdfboloogaaGreatDoor
