/- The document's Print. The document's Print of every credit, and May. -/
import Derived.Test.YtbkffdfboloogaaGreatDoorFPrint
import Derived.Test.YtbkffdfboloogaaGreatDoorFFits
import Derived.Test.YtbkffdfboloogaaGreatDoorFRefShow
import Derived.Test.YtbkffdfboloogaaGreatDoorMX
namespace Go.Proofs.YtbkffdfboloogaaGreatDoor
open Go.RowKit Go.Lib
set_option linter.unusedVariables false
set_option maxRecDepth 100000

theorem word_len (k : Int) : (wordL k).length ≤ 9 := by
  unfold wordL
  iterate 6 (split; · decide)
  decide
theorem word_let (k : Int) : ∃ d : ByteArray, d.size ≤ 9 ∧ Hid (d.data.toList = wordL k) ∧ Hid (∀ W : World, Calls Tryz.prog 45 #[.int .i64 k] W fun e w' => e = .returned (.string d) ∧ W = w') :=
  ⟨⟨(wordL k).toArray⟩, by rw [ba_size]; exact word_len k, Lib.hid (ba_list _), Lib.hid (word_any k)⟩
/-- a number's digits as a letter -/
theorem dig_let (n : Int) (h0 : 0 ≤ n) (h1 : n ≤ 1099511627776) : ∃ d : ByteArray, d.size ≤ 100 ∧ Hid (d.data.toList = itL n) ∧ Hid (∀ W : World, Calls Tryz.prog 43 #[.int .i64 n] W fun e w' => e = .returned (.string d) ∧ Below W.heap.size W w') :=
  ⟨⟨(itL n).toArray⟩, it_size h0 h1, Lib.hid (ba_list _), Lib.hid (refDig_any n h0 h1)⟩
theorem yes_let (b : Bool) : ∃ d : ByteArray, d.size ≤ 100 ∧ Hid (d.data.toList = yesL b) ∧ Hid (∀ W : World, Calls Tryz.prog 44 #[.bool b] W fun e w' => e = .returned (.string d) ∧ W = w') :=
  ⟨⟨(yesL b).toArray⟩, yes_size b, Lib.hid (ba_list _), Lib.hid (yes_any b)⟩
set_option maxHeartbeats 8000000 in
theorem refPrint_any (c : Cr) (hc : Thin c) (hf : fitsB c = true) (A : Option Addr) (cp : Nat) (w : World) (Bn : Nat) (hN : Ns w Bn A c.needs) (hBn : Bn ≤ w.heap.size) (hE : Ev w) :
    Calls Tryz.prog 17 #[.agg (crA c A cp)] w fun e w' => e = .returned (.tuple #[.string (printE c).1, .int .i64 (printE c).2]) ∧ Below w.heap.size w w' := by
  have hb1 : Below w.heap.size w (w.alloc (.cells (crA c A cp) 26)) := (Below.refl _ _).alloc (Nat.le_refl _) _
  have hz1 : (w.alloc (.cells (crA c A cp) 26)).heap.size = w.heap.size + 1 := by simp
  have h18 := C18.new w c A cp 26
  have H18 : Hid (∀ W : World, Below (w.heap.size + 1) (w.alloc (.cells (crA c A cp) 26)) W → Hid (Below w.heap.size w W) ∧ C18 W w.heap.size c A cp) := Lib.hid (fun W hb => ⟨Lib.hid (hb1.trans (hb.mono (by omega))), h18.below hb (by omega)⟩)
  have Hbk : Hid ((w.alloc (.cells (crA c A cp) 26)).heap[w.heap.size]? = some (.cells (crA c A cp) 26 (0, 0))) := Lib.hid (heap_alloc_new w _)
  have HI := Lib.hid (crA_size c A cp)
  have HFt := Lib.hid (fits_any c hc.fair A cp (w.alloc (.cells (crA c A cp) 26)) Bn (hN.kept (hb1.mono hBn)) (by omega) (hE.all hb1).wd)
  rw [hf] at HFt
  obtain ⟨f1, f2, f3, f4, f5, f6, f7, f8, f9, f10, f11, f12, f13, f14, f15, f16, f17, f18, f19, f20, f21, f22⟩ := fits_sizes hf
  obtain ⟨k0, k1, k2, k3, k4, k5, k6, k7, k8, k9, k10, k11, k12, k13, k14, k15, k16, k17⟩ := h18
  have HNs := Lib.hid hN
  have HC := Lib.hid hc
  have Hfit := Lib.hid hf
  clear hb1 hN hc hf hE
  go_enter Tryz.func17, Tryz.ntmps17
  have hcz0 : (c.con.toList = [] ∧ c.con.size = 0 ∧ c.con.toList.isEmpty = true) ∨ (¬ c.con.toList = [] ∧ ¬ c.con.size = 0 ∧ c.con.toList.isEmpty = false) := by
    have h := emp_eq c.con
    by_cases he : c.con.toList = []
    · left
      refine ⟨he, ?_, by rw [he]; rfl⟩
      rw [he] at h
      simpa using h.symm
    · right
      refine ⟨he, fun h0 => he ?_, by cases hl : c.con.toList with | nil => exact absurd hl he | cons a b => rfl⟩
      rw [h0] at h
      simpa using h
  have z8 : 0 ≤ c.amt := by omega
  have z9 : c.abo ≤ 1099511627776 := by omega
  have z10 : c.bel ≤ 1099511627776 := by omega
  have z11 : c.lat ≤ 1099511627776 := by omega
  have z12 : c.exp ≤ 1099511627776 := by omega
  have z13 : c.wit ≤ 1099511627776 := by omega
  have z14 : c.ten ≤ 1099511627776 := by omega
  obtain ⟨d1, i1, Hd1, HD1⟩ := dig_let c.amt z8 f10
  obtain ⟨d2, i2, Hd2, HD2⟩ := dig_let c.abo f11 z9
  obtain ⟨d3, i3, Hd3, HD3⟩ := dig_let c.bel f13 z10
  obtain ⟨d4, i4, Hd4, HD4⟩ := dig_let c.lat f15 z11
  obtain ⟨d5, i5, Hd5, HD5⟩ := dig_let c.exp f17 z12
  obtain ⟨d6, i6, Hd6, HD6⟩ := dig_let c.wit f19 z13
  obtain ⟨d7, i7, Hd7, HD7⟩ := dig_let c.ten f21 z14
  obtain ⟨y1, j1, Hy1, HY1⟩ := yes_let c.par
  obtain ⟨y2, j2, Hy2, HY2⟩ := yes_let c.chg
  rcases hcz0 with ⟨hcon, hcz, hce⟩ | ⟨hcon, hcz, hce⟩
  · go_wp2_with (first
      | (refine wpList_load_row rfl 26 (.tmp 1) rfl w.heap.size rfl 26 (crA c A cp) (0, 0) _ Hbk.out Tryz.underlying26 rfl HI.out ?_)
      | (go_at_call 42; refine HFt.out.mono ?_; rintro e w2 ⟨rfl, hb2⟩; rw [hz1] at hb2; have Hb2 := Lib.hid hb2; clear k0 k1 k2 k3 k4 k5 k6 k7 k8 k9 k10 k11 k12 k13 k14 k15 k16 k17; obtain ⟨HBN, k0, k1, k2, k3, k4, k5, k6, k7, k8, k9, k10, k11, k12, k13, k14, k15, k16, k17⟩ := H18.out w2 hb2; clear hb2)
      | fail)
    have hsS0 : (⟨#[99, 114, 101, 100, 105, 116, 32]⟩ ++ c.num ++ ⟨#[59, 10, 97, 112, 112, 108, 105, 99, 97, 110, 116, 32]⟩ ++ c.app ++ ⟨#[59, 10, 98, 101, 110, 101, 102, 105, 99, 105, 97, 114, 121, 32]⟩ ++ c.ben ++ ⟨#[59, 10, 105, 115, 115, 117, 101, 114, 32]⟩ ++ c.iss ++ ⟨#[59, 10]⟩).size ≤ 200 := by
      simp only [ByteArray.size_append]
      have e0 : (⟨#[99, 114, 101, 100, 105, 116, 32]⟩ : ByteArray).size = 7 := rfl
      have e1 : (⟨#[59, 10, 97, 112, 112, 108, 105, 99, 97, 110, 116, 32]⟩ : ByteArray).size = 12 := rfl
      have e2 : (⟨#[59, 10, 98, 101, 110, 101, 102, 105, 99, 105, 97, 114, 121, 32]⟩ : ByteArray).size = 14 := rfl
      have e3 : (⟨#[59, 10, 105, 115, 115, 117, 101, 114, 32]⟩ : ByteArray).size = 9 := rfl
      have e4 : (⟨#[59, 10]⟩ : ByteArray).size = 2 := rfl
      omega
    have HLS0 : Hid ((⟨#[99, 114, 101, 100, 105, 116, 32]⟩ ++ c.num ++ ⟨#[59, 10, 97, 112, 112, 108, 105, 99, 97, 110, 116, 32]⟩ ++ c.app ++ ⟨#[59, 10, 98, 101, 110, 101, 102, 105, 99, 105, 97, 114, 121, 32]⟩ ++ c.ben ++ ⟨#[59, 10, 105, 115, 115, 117, 101, 114, 32]⟩ ++ c.iss ++ ⟨#[59, 10]⟩).data.toList = lineL [[99, 114, 101, 100, 105, 116], c.num.data.toList] ++ lineL [[97, 112, 112, 108, 105, 99, 97, 110, 116], c.app.data.toList] ++ lineL [[98, 101, 110, 101, 102, 105, 99, 105, 97, 114, 121], c.ben.data.toList] ++ lineL [[105, 115, 115, 117, 101, 114], c.iss.data.toList]) := Lib.hid (by
      simp only [tl_app, line_two, line_three, line_seven]
      try simp)
    generalize (⟨#[99, 114, 101, 100, 105, 116, 32]⟩ ++ c.num ++ ⟨#[59, 10, 97, 112, 112, 108, 105, 99, 97, 110, 116, 32]⟩ ++ c.app ++ ⟨#[59, 10, 98, 101, 110, 101, 102, 105, 99, 105, 97, 114, 121, 32]⟩ ++ c.ben ++ ⟨#[59, 10, 105, 115, 115, 117, 101, 114, 32]⟩ ++ c.iss ++ ⟨#[59, 10]⟩) = S0 at *
    have hNw2 : w.heap.size < w2.heap.size := by have := Hb2.out.size; omega
    have dclw2 : ∀ (j : Nat) (v : Value), w2.cell? ⟨w.heap.size, j, none⟩ = some v → ∀ m : WC w2.heap.size w2, m.w.cell? ⟨w.heap.size, j, none⟩ = some v := fun j v h m => (m.h.cell (p := ⟨w.heap.size, j, none⟩) hNw2).trans h
    have q5 := dclw2 5 _ k5
    have q6 := dclw2 6 _ k6
    have q7 := dclw2 7 _ k7
    have q8 := dclw2 8 _ k8
    have q9 := dclw2 9 _ k9
    have q10 := dclw2 10 _ k10
    refine wp_region_class (by kernel_rfl) (by kernel_rfl) ?_
    repeat (go_big_quiet_step (first
      | (go_at_call 43; with_reducible exact Calls.class_of (Nat.le_refl _) (HD1.out _))
      | (go_at_call 43; with_reducible exact Calls.class_of (Nat.le_refl _) (HD2.out _))
      | (go_at_call 43; with_reducible exact Calls.class_of (Nat.le_refl _) (HD3.out _))))
    refine wpQuiet_nil ?_
    rintro w' ⟨m, rfl⟩
    have Hb2' := Lib.hid (Hb2.out.trans (m.h.mono (by have := Hb2.out.size; omega)))
    clear q5 q6 q7 q8 q9 q10 dclw2 k0 k1 k2 k3 k4 k5 k6 k7 k8 k9 k10 k11 k12 k13 k14 k15 k16 k17 HBN
    obtain ⟨HBN, k0, k1, k2, k3, k4, k5, k6, k7, k8, k9, k10, k11, k12, k13, k14, k15, k16, k17⟩ := H18.out _ Hb2'.out
    generalize m.w = w3 at *
    clear Hb2 m
    have Hb2 := Hb2'
    clear Hb2'
    have hsS1 : (S0 ++ ⟨#[102, 114, 111, 109, 32]⟩ ++ c.frm ++ ⟨#[59, 10, 116, 111, 32]⟩ ++ c.dst ++ ⟨#[59, 10, 115, 117, 109, 32]⟩ ++ c.cur ++ ⟨#[32]⟩ ++ d1 ++ ⟨#[32, 97, 98, 111, 118, 101, 32]⟩ ++ d2 ++ ⟨#[32, 98, 101, 108, 111, 119, 32]⟩ ++ d3 ++ ⟨#[59, 10]⟩).size ≤ 900 := by
      simp only [ByteArray.size_append]
      have e0 : (⟨#[102, 114, 111, 109, 32]⟩ : ByteArray).size = 5 := rfl
      have e1 : (⟨#[59, 10, 116, 111, 32]⟩ : ByteArray).size = 5 := rfl
      have e2 : (⟨#[59, 10, 115, 117, 109, 32]⟩ : ByteArray).size = 6 := rfl
      have e3 : (⟨#[32]⟩ : ByteArray).size = 1 := rfl
      have e4 : (⟨#[32, 97, 98, 111, 118, 101, 32]⟩ : ByteArray).size = 7 := rfl
      have e5 : (⟨#[32, 98, 101, 108, 111, 119, 32]⟩ : ByteArray).size = 7 := rfl
      have e6 : (⟨#[59, 10]⟩ : ByteArray).size = 2 := rfl
      omega
    have HLS1 : Hid ((S0 ++ ⟨#[102, 114, 111, 109, 32]⟩ ++ c.frm ++ ⟨#[59, 10, 116, 111, 32]⟩ ++ c.dst ++ ⟨#[59, 10, 115, 117, 109, 32]⟩ ++ c.cur ++ ⟨#[32]⟩ ++ d1 ++ ⟨#[32, 97, 98, 111, 118, 101, 32]⟩ ++ d2 ++ ⟨#[32, 98, 101, 108, 111, 119, 32]⟩ ++ d3 ++ ⟨#[59, 10]⟩).data.toList = S0.data.toList ++ lineL [[102, 114, 111, 109], c.frm.data.toList] ++ lineL [[116, 111], c.dst.data.toList] ++ lineL [[115, 117, 109], c.cur.data.toList, itL c.amt, [97, 98, 111, 118, 101], itL c.abo, [98, 101, 108, 111, 119], itL c.bel]) := Lib.hid (by
      simp only [tl_app, Hd1.out, Hd2.out, Hd3.out, line_two, line_three, line_seven]
      try simp)
    generalize (S0 ++ ⟨#[102, 114, 111, 109, 32]⟩ ++ c.frm ++ ⟨#[59, 10, 116, 111, 32]⟩ ++ c.dst ++ ⟨#[59, 10, 115, 117, 109, 32]⟩ ++ c.cur ++ ⟨#[32]⟩ ++ d1 ++ ⟨#[32, 97, 98, 111, 118, 101, 32]⟩ ++ d2 ++ ⟨#[32, 98, 101, 108, 111, 119, 32]⟩ ++ d3 ++ ⟨#[59, 10]⟩) = S1 at *
    go_wp2_with fail
    have hNw3 : w.heap.size < w3.heap.size := by have := Hb2.out.size; omega
    have dclw3 : ∀ (j : Nat) (v : Value), w3.cell? ⟨w.heap.size, j, none⟩ = some v → ∀ m : WC w3.heap.size w3, m.w.cell? ⟨w.heap.size, j, none⟩ = some v := fun j v h m => (m.h.cell (p := ⟨w.heap.size, j, none⟩) hNw3).trans h
    have q10 := dclw3 10 _ k10
    have q11 := dclw3 11 _ k11
    have q12 := dclw3 12 _ k12
    have q13 := dclw3 13 _ k13
    refine wp_region_class (by kernel_rfl) (by kernel_rfl) ?_
    repeat (go_big_quiet_step (first
      | (go_at_call 43; with_reducible exact Calls.class_of (Nat.le_refl _) (HD4.out _))
      | (go_at_call 43; with_reducible exact Calls.class_of (Nat.le_refl _) (HD5.out _))
      | (go_at_call 43; with_reducible exact Calls.class_of (Nat.le_refl _) (HD6.out _))))
    refine wpQuiet_nil ?_
    rintro w' ⟨m, rfl⟩
    have Hb2' := Lib.hid (Hb2.out.trans (m.h.mono (by have := Hb2.out.size; omega)))
    clear q10 q11 q12 q13 dclw3 k0 k1 k2 k3 k4 k5 k6 k7 k8 k9 k10 k11 k12 k13 k14 k15 k16 k17 HBN
    obtain ⟨HBN, k0, k1, k2, k3, k4, k5, k6, k7, k8, k9, k10, k11, k12, k13, k14, k15, k16, k17⟩ := H18.out _ Hb2'.out
    generalize m.w = w3 at *
    clear Hb2 m
    have Hb2 := Hb2'
    clear Hb2'
    have hsS2 : (S1 ++ ⟨#[108, 97, 116, 101, 115, 116, 32]⟩ ++ d4 ++ ⟨#[59, 10, 101, 120, 112, 105, 114, 121, 32]⟩ ++ d5 ++ ⟨#[59, 10, 119, 105, 116, 104, 105, 110, 32]⟩ ++ d6 ++ ⟨#[32, 100, 97, 121, 115, 59, 10]⟩).size ≤ 1400 := by
      simp only [ByteArray.size_append]
      have e0 : (⟨#[108, 97, 116, 101, 115, 116, 32]⟩ : ByteArray).size = 7 := rfl
      have e1 : (⟨#[59, 10, 101, 120, 112, 105, 114, 121, 32]⟩ : ByteArray).size = 9 := rfl
      have e2 : (⟨#[59, 10, 119, 105, 116, 104, 105, 110, 32]⟩ : ByteArray).size = 9 := rfl
      have e3 : (⟨#[32, 100, 97, 121, 115, 59, 10]⟩ : ByteArray).size = 7 := rfl
      omega
    have HLS2 : Hid ((S1 ++ ⟨#[108, 97, 116, 101, 115, 116, 32]⟩ ++ d4 ++ ⟨#[59, 10, 101, 120, 112, 105, 114, 121, 32]⟩ ++ d5 ++ ⟨#[59, 10, 119, 105, 116, 104, 105, 110, 32]⟩ ++ d6 ++ ⟨#[32, 100, 97, 121, 115, 59, 10]⟩).data.toList = S1.data.toList ++ lineL [[108, 97, 116, 101, 115, 116], itL c.lat] ++ lineL [[101, 120, 112, 105, 114, 121], itL c.exp] ++ lineL [[119, 105, 116, 104, 105, 110], itL c.wit, [100, 97, 121, 115]]) := Lib.hid (by
      simp only [tl_app, Hd4.out, Hd5.out, Hd6.out, line_two, line_three, line_seven]
      try simp)
    generalize (S1 ++ ⟨#[108, 97, 116, 101, 115, 116, 32]⟩ ++ d4 ++ ⟨#[59, 10, 101, 120, 112, 105, 114, 121, 32]⟩ ++ d5 ++ ⟨#[59, 10, 119, 105, 116, 104, 105, 110, 32]⟩ ++ d6 ++ ⟨#[32, 100, 97, 121, 115, 59, 10]⟩) = S2 at *
    rcases (show c.ten = 0 ∨ c.ten ≠ 0 by omega) with hten | hten
    · have e10 : (c.ten == 0) = true := by rw [beq_iff_eq]; exact hten
      have hq := hten
      clear hten
      have Hten := Lib.hid hq
      clear hq
      go_wp2_with (first
        | (go_at_call 43; refine (HD7.out _).mono ?_; rintro e w3 ⟨rfl, hb4⟩; have Hb2' := Lib.hid (Hb2.out.trans (hb4.mono (by have := Hb2.out.size; omega))); clear Hb2 hb4 HBN k0 k1 k2 k3 k4 k5 k6 k7 k8 k9 k10 k11 k12 k13 k14 k15 k16 k17; obtain ⟨HBN, k0, k1, k2, k3, k4, k5, k6, k7, k8, k9, k10, k11, k12, k13, k14, k15, k16, k17⟩ := H18.out w3 Hb2'.out; have Hb2 := Hb2'; clear Hb2')
        | fail)
      have hsS3 : (S2 ++ ⟨#[116, 101, 110, 111, 114, 32, 115, 105, 103, 104, 116, 59, 10]⟩).size ≤ 1450 := by
        simp only [ByteArray.size_append]
        have e0 : (⟨#[116, 101, 110, 111, 114, 32, 115, 105, 103, 104, 116, 59, 10]⟩ : ByteArray).size = 13 := rfl
        omega
      have HLS3 : Hid ((S2 ++ ⟨#[116, 101, 110, 111, 114, 32, 115, 105, 103, 104, 116, 59, 10]⟩).data.toList = S2.data.toList ++ lineL [[116, 101, 110, 111, 114], [115, 105, 103, 104, 116]]) := Lib.hid (by
        simp only [tl_app, line_two, line_three, line_seven]
        try simp)
      generalize (S2 ++ ⟨#[116, 101, 110, 111, 114, 32, 115, 105, 103, 104, 116, 59, 10]⟩) = S3 at *
      have hNw4 : w.heap.size < w3.heap.size := by have := Hb2.out.size; omega
      have dclw3 : ∀ (j : Nat) (v : Value), w3.cell? ⟨w.heap.size, j, none⟩ = some v → ∀ m : WC w3.heap.size w3, m.w.cell? ⟨w.heap.size, j, none⟩ = some v := fun j v h m => (m.h.cell (p := ⟨w.heap.size, j, none⟩) hNw4).trans h
      have q14 := dclw3 14 _ k14
      have q15 := dclw3 15 _ k15
      refine wp_region_class (by kernel_rfl) (by kernel_rfl) ?_
      repeat (go_big_quiet_step (first
        | (go_at_call 44; with_reducible exact Calls.class_same (HY1.out _))
        | (go_at_call 44; with_reducible exact Calls.class_same (HY2.out _))))
      refine wpQuiet_nil ?_
      rintro w' ⟨m, rfl⟩
      have Hb2' := Lib.hid (Hb2.out.trans (m.h.mono (by have := Hb2.out.size; omega)))
      clear q14 q15 dclw3 k0 k1 k2 k3 k4 k5 k6 k7 k8 k9 k10 k11 k12 k13 k14 k15 k16 k17 HBN
      obtain ⟨HBN, k0, k1, k2, k3, k4, k5, k6, k7, k8, k9, k10, k11, k12, k13, k14, k15, k16, k17⟩ := H18.out _ Hb2'.out
      generalize m.w = w3 at *
      clear Hb2 m
      have Hb2 := Hb2'
      clear Hb2'
      have hsS4 : (S3 ++ ⟨#[112, 97, 114, 116, 105, 97, 108, 32]⟩ ++ y1 ++ ⟨#[59, 10, 99, 104, 97, 110, 103, 101, 32]⟩ ++ y2 ++ ⟨#[59, 10]⟩).size ≤ 1900 := by
        simp only [ByteArray.size_append]
        have e0 : (⟨#[112, 97, 114, 116, 105, 97, 108, 32]⟩ : ByteArray).size = 8 := rfl
        have e1 : (⟨#[59, 10, 99, 104, 97, 110, 103, 101, 32]⟩ : ByteArray).size = 9 := rfl
        have e2 : (⟨#[59, 10]⟩ : ByteArray).size = 2 := rfl
        omega
      have HLS4 : Hid ((S3 ++ ⟨#[112, 97, 114, 116, 105, 97, 108, 32]⟩ ++ y1 ++ ⟨#[59, 10, 99, 104, 97, 110, 103, 101, 32]⟩ ++ y2 ++ ⟨#[59, 10]⟩).data.toList = S3.data.toList ++ lineL [[112, 97, 114, 116, 105, 97, 108], yesL c.par] ++ lineL [[99, 104, 97, 110, 103, 101], yesL c.chg]) := Lib.hid (by
        simp only [tl_app, Hy1.out, Hy2.out, line_two, line_three, line_seven]
        try simp)
      generalize (S3 ++ ⟨#[112, 97, 114, 116, 105, 97, 108, 32]⟩ ++ y1 ++ ⟨#[59, 10, 99, 104, 97, 110, 103, 101, 32]⟩ ++ y2 ++ ⟨#[59, 10]⟩) = S4 at *
      have Hhd : Hid (S4.data.toList = headL c) := Lib.hid (by
        rw [HLS4.out, HLS3.out, HLS2.out, HLS1.out, HLS0.out]
        unfold headL
        rw [if_pos hcz, if_pos Hten.out]
        try simp only [List.append_assoc, List.nil_append])
      clear HLS4 HLS3 HLS2 HLS1 HLS0 Hd1 Hd2 Hd3 Hd4 Hd5 Hd6 Hd7 HD1 HD2 HD3 HD4 HD5 HD6 HD7 Hy1 Hy2 HY1 HY2 i1 i2 i3 i4 i5 i6 i7 j1 j2 hsS3 hsS2 hsS1 hsS0 e10 Hten hcon hcz hce k0 k1 k2 k3 k4 k5 k6 k7 k8 k9 k10 k11 k12 k13 k14 k15 k16 f1 f2 f3 f4 f5 f6 f7 f8 f9 f10 f11 f12 f13 f14 f15 f16 f17 f18 f19 f20 f21 f22 z8 z9 z10 z11 z12 z13 z14
      go_wp2
      clear k17
      generalize (w.alloc (.cells (crA c A cp) 26)) = w1 at *
      go_loopw [4, 5] (fun s i wr => ∃ (k : Nat) (S : ByteArray), k ≤ c.needs.length ∧ i = .int .i64 (k : Int) ∧ s = .string S ∧ S.size ≤ 12000 + 80010 * k ∧ Hid (S.data.toList = headL c ++ needsL (c.needs.take k)) ∧ Hid (Below (w.heap.size + 1) w1 wr)) (fun _ i _ => c.needs.length - (RowKit.intOf i).toNat)
      case atStart => exact ⟨0, S4, Nat.zero_le _, rfl, rfl, by omega, Lib.hid (by rw [List.take_zero, needsL, List.append_nil]; exact Hhd.out), Hb2⟩
      case round =>
        clear Hhd hsS4 HBN Hb2
        obtain ⟨k, S, hk, rfl, rfl, hS, HS, HF⟩ := hrel
        have hbr : w.heap.size + 1 ≤ wr.heap.size := by have := HF.out.size; omega
        obtain ⟨HBn, j0, j1, j2, j3, j4, j5, j6, j7, j8, j9, j10, j11, j12, j13, j14, j15, j16, j17⟩ := H18.out wr HF.out
        clear j0 j1 j2 j3 j4 j5 j6 j7 j8 j9 j10 j11 j12 j13 j14 j15 j16
        have h9 := HC.out.nine
        by_cases hlt : k < c.needs.length
        · have b1 : (k : Int) < (c.needs.length : Int) := by omega
          obtain ⟨g, off, A', c', rfl, hg, h8, hch⟩ := (HNs.out.kept (HBn.out.mono hBn)).at_ hlt
          obtain ⟨d0, d1, d2, d3, d4, d5, d6, d7⟩ := h8
          have hxm := List.getElem_mem hlt
          have hsm := HC.out.fair.need _ hxm
          have hsh := HC.out.show_ _ hxm
          have hnd : needB c.needs[k] = true := by
            have hf := Hfit.out
            rw [fits_parts] at hf
            simp only [Bool.and_eq_true, List.all_eq_true] at hf
            exact hf.2 _ hxm
          have HT := Lib.hid (needsL_take c.needs k hlt)
          clear hxm HC HNs Hfit
          generalize c.needs[k] = x at *
          unfold needB at hnd
          simp only [Bool.and_eq_true, Bool.or_eq_true, decide_eq_true_iff] at hnd
          obtain ⟨⟨hx1, hx2⟩, hx3⟩ := hnd
          obtain ⟨wd, hwd, Hwd, HWd⟩ := word_let x.k
          obtain ⟨dc, hdc, Hdc, HDc⟩ := dig_let x.c (by omega) (by omega)
          obtain ⟨sn, hsn⟩ : ∃ sn : ByteArray, sn = ⟨(showL x.r).toArray⟩ := ⟨_, rfl⟩
          have hss : sn.size ≤ 9000 := by rw [hsn, ba_size]; exact hsh
          have Hsn : Hid (sn.data.toList = showL x.r) := Lib.hid (by rw [hsn, ba_list])
          have H8 := Lib.hid (need_cells x A' c' wr)
          have hVz : (wr.alloc (.cells (ndA x A' c') 35)).heap.size = wr.heap.size + 1 := by simp
          have HV : Hid (Below (w.heap.size + 1) w1 (wr.alloc (.cells (ndA x A' c') 35))) := Lib.hid (HF.out.alloc hbr _)
          have HUp : Hid (∀ W : World, Below (wr.heap.size + 1) (wr.alloc (.cells (ndA x A' c') 35)) W → Below (w.heap.size + 1) w1 W ∧ Below wr.heap.size wr W) := Lib.hid (fun W hb => ⟨HV.out.trans (hb.mono (by omega)), (H8.out W hb).1.out⟩)
          have HAl : Hid (∀ W : World, Calls Tryz.prog 46 #[.agg (rlA x.r A' c')] W fun e w' => e = .returned (.bool (alwB x.r)) ∧ Below W.heap.size W w') := Lib.hid (fun W => refAlways_any x.r.k x.r.p x.r.n x.r.f x.r.t A' x.r.l.length c' W)
          have HSh : Hid (alwB x.r = false → ∀ W : World, Below (wr.heap.size + 1) (wr.alloc (.cells (ndA x A' c') 35)) W → Calls Tryz.prog 47 #[.agg (rlA x.r A' c')] W fun e w' => e = .returned (.string sn) ∧ Below W.heap.size W w') := Lib.hid (fun ha W hb => by
            have h2 := HUp.out W hb
            have h3 := HBn.out.trans (h2.2.mono (by omega))
            have hr : rightR x.r = true := by
              rcases hx3 with h | h
              · rw [ha] at h; cases h
              · exact h.2
            rw [hsn]
            exact refShow_any x.r A' c' W Bn ⟨hch.kept (h2.2.mono (by have := HBn.out.size; omega)), by have := h3.size; omega, hr, hsm.1, hsm.2, by omega⟩)
          have Hnl : Hid (needL x = lineL ([[119, 97, 110, 116, 115], wordL x.k, [99, 111, 112, 105, 101, 115], itL x.c] ++ (if alwB x.r then [] else [[119, 105, 116, 104], showL x.r]))) := Lib.hid rfl
          have q0 := (H8.out _ (Below.refl _ _)).2.1
          have q1 := (H8.out _ (Below.refl _ _)).2.2.1
          clear hx1 hx2 hx3 hsm hsh hch hsn
          unfold ndA rlA at *
          generalize alwB x.r = al at *
          generalize x.r.l.length = xl at *
          generalize x.r.k = xk at *
          generalize x.r.p = xp at *
          generalize x.r.f = xf at *
          generalize x.r.t = xt at *
          generalize x.r.n = xn at *
          generalize x.k = yk at *
          generalize x.c = yc at *
          go_wp2_with fail
          generalize (wr.alloc (.cells #[.int .i64 yk, .int .i64 yc, .int .i64 xk, .int .i64 xp, .string xf, .string xt, .int .i64 xn, .slice A' xl c'] 35)) = V at *
          have p0 : ∀ m : WC V.heap.size V, m.w.cell? ⟨wr.heap.size, 0, none⟩ = some (.int .i64 yk) := fun m => (m.h.cell (p := ⟨wr.heap.size, 0, none⟩) (by show wr.heap.size < _; omega)).trans q0
          have p1 : ∀ m : WC V.heap.size V, m.w.cell? ⟨wr.heap.size, 1, none⟩ = some (.int .i64 yc) := fun m => (m.h.cell (p := ⟨wr.heap.size, 1, none⟩) (by show wr.heap.size < _; omega)).trans q1
          refine wp_region_class (by kernel_rfl) (by kernel_rfl) ?_
          repeat (go_big_quiet_step (first
            | (go_at_call 45; exact Calls.class_same (HWd.out _))
            | (go_at_call 43; exact Calls.class_of (Nat.le_refl _) (HDc.out _))))
          refine wpQuiet_nil ?_
          rintro w' ⟨m, rfl⟩
          have Hb4 := Lib.hid (m.h.mono (show wr.heap.size + 1 ≤ V.heap.size by omega))
          clear p0 p1 q0 q1 d0 d1 d2 d3 d4 d5 d6 d7
          generalize m.w = w4 at *
          clear m
          obtain ⟨_, l0, l1, l2, l3, l4, l5, l6, l7⟩ := H8.out w4 Hb4.out
          have hsT : (S ++ ⟨#[119, 97, 110, 116, 115, 32]⟩ ++ wd ++ ⟨#[32, 99, 111, 112, 105, 101, 115, 32]⟩ ++ dc).size ≤ S.size + 200 := by
            simp only [ByteArray.size_append]
            have e0 : (⟨#[119, 97, 110, 116, 115, 32]⟩ : ByteArray).size = 6 := rfl
            have e1 : (⟨#[32, 99, 111, 112, 105, 101, 115, 32]⟩ : ByteArray).size = 8 := rfl
            omega
          have HTl : Hid ((S ++ ⟨#[119, 97, 110, 116, 115, 32]⟩ ++ wd ++ ⟨#[32, 99, 111, 112, 105, 101, 115, 32]⟩ ++ dc).data.toList = S.data.toList ++ ([119, 97, 110, 116, 115, 32] ++ (wordL yk ++ ([32, 99, 111, 112, 105, 101, 115, 32] ++ itL yc)))) := Lib.hid (by
            simp only [tl_app, Hwd.out, Hdc.out]
            try simp)
          generalize (S ++ ⟨#[119, 97, 110, 116, 115, 32]⟩ ++ wd ++ ⟨#[32, 99, 111, 112, 105, 101, 115, 32]⟩ ++ dc) = T at *
          clear hwd hdc Hwd Hdc HWd HDc
          have Hq := Lib.hid (HUp.out w4 Hb4.out).1
          cases al with
          | true =>
            clear HSh
            go_wp2_with (first
              | (go_at_call 46; refine (HAl.out w4).mono ?_; rintro e w5 ⟨rfl, hb5⟩; have Hb5 := Lib.hid (Hb4.out.trans (hb5.mono (by have := Hb4.out.size; omega))); clear hb5 l0 l1 l2 l3 l4 l5 l6 l7; obtain ⟨_, l0, l1, l2, l3, l4, l5, l6, l7⟩ := H8.out w5 Hb5.out)
              | fail)
            have hs2 : (T ++ ⟨#[59, 10]⟩).size ≤ 12000 + 80010 * (k + 1) := by
              simp only [ByteArray.size_append]
              have e0 : (⟨#[59, 10]⟩ : ByteArray).size = 2 := rfl
              omega
            have HL2 : Hid ((T ++ ⟨#[59, 10]⟩).data.toList = headL c ++ needsL (c.needs.take (k + 1))) := Lib.hid (by
              rw [HT.out, Hnl.out, ← List.append_assoc, ← HS.out]
              simp only [tl_app, HTl.out, List.append_nil, if_true, if_false, Bool.false_eq_true, List.cons_append, List.nil_append, line_four, line_six]
              try simp)
            have HF2 := Lib.hid (HUp.out _ Hb5.out).1
            exact ⟨⟨k + 1, T ++ ⟨#[59, 10]⟩, by omega, by go_num, rfl, hs2, HL2, HF2⟩, by simp [RowKit.intOf]; omega⟩
          | false =>
            go_wp2_with (first
              | (go_at_call 46; refine (HAl.out w4).mono ?_; rintro e w5 ⟨rfl, hb5⟩; have Hb5 := Lib.hid (Hb4.out.trans (hb5.mono (by have := Hb4.out.size; omega))); clear hb5 l0 l1 l2 l3 l4 l5 l6 l7; obtain ⟨_, l0, l1, l2, l3, l4, l5, l6, l7⟩ := H8.out w5 Hb5.out)
              | (go_at_call 47; refine (HSh.out trivial w5 Hb5.out).mono ?_; rintro e w6 ⟨rfl, hb6⟩; have Hb6 := Lib.hid (Hb5.out.trans (hb6.mono (by have := Hb5.out.size; omega))); clear hb6)
              | fail)
            have hs2 : (T ++ ⟨#[32, 119, 105, 116, 104, 32]⟩ ++ sn ++ ⟨#[59, 10]⟩).size ≤ 12000 + 80010 * (k + 1) := by
              simp only [ByteArray.size_append]
              have e0 : (⟨#[32, 119, 105, 116, 104, 32]⟩ : ByteArray).size = 6 := rfl
              have e1 : (⟨#[59, 10]⟩ : ByteArray).size = 2 := rfl
              omega
            have HL2 : Hid ((T ++ ⟨#[32, 119, 105, 116, 104, 32]⟩ ++ sn ++ ⟨#[59, 10]⟩).data.toList = headL c ++ needsL (c.needs.take (k + 1))) := Lib.hid (by
              rw [HT.out, Hnl.out, ← List.append_assoc, ← HS.out]
              simp only [tl_app, HTl.out, Hsn.out, List.append_nil, if_true, if_false, Bool.false_eq_true, List.cons_append, List.nil_append, line_four, line_six]
              try simp)
            have HF2 := Lib.hid (HUp.out _ Hb6.out).1
            exact ⟨⟨k + 1, T ++ ⟨#[32, 119, 105, 116, 104, 32]⟩ ++ sn ++ ⟨#[59, 10]⟩, by omega, by go_num, rfl, hs2, HL2, HF2⟩, by simp [RowKit.intOf]; omega⟩
        · have b1 : ¬ (k : Int) < (c.needs.length : Int) := by omega
          have HTx : Hid (S = ⟨(credL c).toArray⟩) := Lib.hid (ba_of (by
            have : c.needs.take k = c.needs := List.take_of_length_le (by omega)
            rw [HS.out, this]; rfl))
          have hSl : S.size = (credL c).length := by rw [HTx.out, ba_size]
          by_cases hl : (credL c).length ≤ 4096
          · have HE : Hid (printE c = (⟨(credL c).toArray⟩, 0)) := Lib.hid (by unfold printE; rw [Hfit.out, if_pos hl]; rfl)
            have b2 : ¬ (4096 : Int) < (S.size : Int) := by omega
            clear hSl hl
            go_wp2
            go_ret2
            exact ⟨by rw [HE.out, ← HTx.out]; rfl, HBn.out⟩
          · have HE : Hid (printE c = (⟨#[]⟩, 7)) := Lib.hid (by unfold printE; rw [Hfit.out, if_neg hl]; rfl)
            have b2 : (4096 : Int) < (S.size : Int) := by omega
            clear hSl hl
            go_wp2
            go_ret2
            exact ⟨by rw [HE.out]; rfl, HBn.out⟩
    · have e10 : (c.ten == 0) = false := by rw [beq_eq_false_iff_ne]; exact hten
      have hq := hten
      clear hten
      have Hten := Lib.hid hq
      clear hq
      go_wp2_with (first
        | (go_at_call 43; refine (HD7.out _).mono ?_; rintro e w3 ⟨rfl, hb4⟩; have Hb2' := Lib.hid (Hb2.out.trans (hb4.mono (by have := Hb2.out.size; omega))); clear Hb2 hb4 HBN k0 k1 k2 k3 k4 k5 k6 k7 k8 k9 k10 k11 k12 k13 k14 k15 k16 k17; obtain ⟨HBN, k0, k1, k2, k3, k4, k5, k6, k7, k8, k9, k10, k11, k12, k13, k14, k15, k16, k17⟩ := H18.out w3 Hb2'.out; have Hb2 := Hb2'; clear Hb2')
        | fail)
      have hsS3 : (S2 ++ ⟨#[116, 101, 110, 111, 114, 32]⟩ ++ d7 ++ ⟨#[32, 100, 97, 121, 115, 59, 10]⟩).size ≤ 1550 := by
        simp only [ByteArray.size_append]
        have e0 : (⟨#[116, 101, 110, 111, 114, 32]⟩ : ByteArray).size = 6 := rfl
        have e1 : (⟨#[32, 100, 97, 121, 115, 59, 10]⟩ : ByteArray).size = 7 := rfl
        omega
      have HLS3 : Hid ((S2 ++ ⟨#[116, 101, 110, 111, 114, 32]⟩ ++ d7 ++ ⟨#[32, 100, 97, 121, 115, 59, 10]⟩).data.toList = S2.data.toList ++ lineL [[116, 101, 110, 111, 114], itL c.ten, [100, 97, 121, 115]]) := Lib.hid (by
        simp only [tl_app, Hd7.out, line_two, line_three, line_seven]
        try simp)
      generalize (S2 ++ ⟨#[116, 101, 110, 111, 114, 32]⟩ ++ d7 ++ ⟨#[32, 100, 97, 121, 115, 59, 10]⟩) = S3 at *
      have hNw4 : w.heap.size < w3.heap.size := by have := Hb2.out.size; omega
      have dclw3 : ∀ (j : Nat) (v : Value), w3.cell? ⟨w.heap.size, j, none⟩ = some v → ∀ m : WC w3.heap.size w3, m.w.cell? ⟨w.heap.size, j, none⟩ = some v := fun j v h m => (m.h.cell (p := ⟨w.heap.size, j, none⟩) hNw4).trans h
      have q14 := dclw3 14 _ k14
      have q15 := dclw3 15 _ k15
      refine wp_region_class (by kernel_rfl) (by kernel_rfl) ?_
      repeat (go_big_quiet_step (first
        | (go_at_call 44; with_reducible exact Calls.class_same (HY1.out _))
        | (go_at_call 44; with_reducible exact Calls.class_same (HY2.out _))))
      refine wpQuiet_nil ?_
      rintro w' ⟨m, rfl⟩
      have Hb2' := Lib.hid (Hb2.out.trans (m.h.mono (by have := Hb2.out.size; omega)))
      clear q14 q15 dclw3 k0 k1 k2 k3 k4 k5 k6 k7 k8 k9 k10 k11 k12 k13 k14 k15 k16 k17 HBN
      obtain ⟨HBN, k0, k1, k2, k3, k4, k5, k6, k7, k8, k9, k10, k11, k12, k13, k14, k15, k16, k17⟩ := H18.out _ Hb2'.out
      generalize m.w = w3 at *
      clear Hb2 m
      have Hb2 := Hb2'
      clear Hb2'
      have hsS4 : (S3 ++ ⟨#[112, 97, 114, 116, 105, 97, 108, 32]⟩ ++ y1 ++ ⟨#[59, 10, 99, 104, 97, 110, 103, 101, 32]⟩ ++ y2 ++ ⟨#[59, 10]⟩).size ≤ 1900 := by
        simp only [ByteArray.size_append]
        have e0 : (⟨#[112, 97, 114, 116, 105, 97, 108, 32]⟩ : ByteArray).size = 8 := rfl
        have e1 : (⟨#[59, 10, 99, 104, 97, 110, 103, 101, 32]⟩ : ByteArray).size = 9 := rfl
        have e2 : (⟨#[59, 10]⟩ : ByteArray).size = 2 := rfl
        omega
      have HLS4 : Hid ((S3 ++ ⟨#[112, 97, 114, 116, 105, 97, 108, 32]⟩ ++ y1 ++ ⟨#[59, 10, 99, 104, 97, 110, 103, 101, 32]⟩ ++ y2 ++ ⟨#[59, 10]⟩).data.toList = S3.data.toList ++ lineL [[112, 97, 114, 116, 105, 97, 108], yesL c.par] ++ lineL [[99, 104, 97, 110, 103, 101], yesL c.chg]) := Lib.hid (by
        simp only [tl_app, Hy1.out, Hy2.out, line_two, line_three, line_seven]
        try simp)
      generalize (S3 ++ ⟨#[112, 97, 114, 116, 105, 97, 108, 32]⟩ ++ y1 ++ ⟨#[59, 10, 99, 104, 97, 110, 103, 101, 32]⟩ ++ y2 ++ ⟨#[59, 10]⟩) = S4 at *
      have Hhd : Hid (S4.data.toList = headL c) := Lib.hid (by
        rw [HLS4.out, HLS3.out, HLS2.out, HLS1.out, HLS0.out]
        unfold headL
        rw [if_pos hcz, if_neg Hten.out]
        try simp only [List.append_assoc, List.nil_append])
      clear HLS4 HLS3 HLS2 HLS1 HLS0 Hd1 Hd2 Hd3 Hd4 Hd5 Hd6 Hd7 HD1 HD2 HD3 HD4 HD5 HD6 HD7 Hy1 Hy2 HY1 HY2 i1 i2 i3 i4 i5 i6 i7 j1 j2 hsS3 hsS2 hsS1 hsS0 e10 Hten hcon hcz hce k0 k1 k2 k3 k4 k5 k6 k7 k8 k9 k10 k11 k12 k13 k14 k15 k16 f1 f2 f3 f4 f5 f6 f7 f8 f9 f10 f11 f12 f13 f14 f15 f16 f17 f18 f19 f20 f21 f22 z8 z9 z10 z11 z12 z13 z14
      go_wp2
      clear k17
      generalize (w.alloc (.cells (crA c A cp) 26)) = w1 at *
      go_loopw [4, 5] (fun s i wr => ∃ (k : Nat) (S : ByteArray), k ≤ c.needs.length ∧ i = .int .i64 (k : Int) ∧ s = .string S ∧ S.size ≤ 12000 + 80010 * k ∧ Hid (S.data.toList = headL c ++ needsL (c.needs.take k)) ∧ Hid (Below (w.heap.size + 1) w1 wr)) (fun _ i _ => c.needs.length - (RowKit.intOf i).toNat)
      case atStart => exact ⟨0, S4, Nat.zero_le _, rfl, rfl, by omega, Lib.hid (by rw [List.take_zero, needsL, List.append_nil]; exact Hhd.out), Hb2⟩
      case round =>
        clear Hhd hsS4 HBN Hb2
        obtain ⟨k, S, hk, rfl, rfl, hS, HS, HF⟩ := hrel
        have hbr : w.heap.size + 1 ≤ wr.heap.size := by have := HF.out.size; omega
        obtain ⟨HBn, j0, j1, j2, j3, j4, j5, j6, j7, j8, j9, j10, j11, j12, j13, j14, j15, j16, j17⟩ := H18.out wr HF.out
        clear j0 j1 j2 j3 j4 j5 j6 j7 j8 j9 j10 j11 j12 j13 j14 j15 j16
        have h9 := HC.out.nine
        by_cases hlt : k < c.needs.length
        · have b1 : (k : Int) < (c.needs.length : Int) := by omega
          obtain ⟨g, off, A', c', rfl, hg, h8, hch⟩ := (HNs.out.kept (HBn.out.mono hBn)).at_ hlt
          obtain ⟨d0, d1, d2, d3, d4, d5, d6, d7⟩ := h8
          have hxm := List.getElem_mem hlt
          have hsm := HC.out.fair.need _ hxm
          have hsh := HC.out.show_ _ hxm
          have hnd : needB c.needs[k] = true := by
            have hf := Hfit.out
            rw [fits_parts] at hf
            simp only [Bool.and_eq_true, List.all_eq_true] at hf
            exact hf.2 _ hxm
          have HT := Lib.hid (needsL_take c.needs k hlt)
          clear hxm HC HNs Hfit
          generalize c.needs[k] = x at *
          unfold needB at hnd
          simp only [Bool.and_eq_true, Bool.or_eq_true, decide_eq_true_iff] at hnd
          obtain ⟨⟨hx1, hx2⟩, hx3⟩ := hnd
          obtain ⟨wd, hwd, Hwd, HWd⟩ := word_let x.k
          obtain ⟨dc, hdc, Hdc, HDc⟩ := dig_let x.c (by omega) (by omega)
          obtain ⟨sn, hsn⟩ : ∃ sn : ByteArray, sn = ⟨(showL x.r).toArray⟩ := ⟨_, rfl⟩
          have hss : sn.size ≤ 9000 := by rw [hsn, ba_size]; exact hsh
          have Hsn : Hid (sn.data.toList = showL x.r) := Lib.hid (by rw [hsn, ba_list])
          have H8 := Lib.hid (need_cells x A' c' wr)
          have hVz : (wr.alloc (.cells (ndA x A' c') 35)).heap.size = wr.heap.size + 1 := by simp
          have HV : Hid (Below (w.heap.size + 1) w1 (wr.alloc (.cells (ndA x A' c') 35))) := Lib.hid (HF.out.alloc hbr _)
          have HUp : Hid (∀ W : World, Below (wr.heap.size + 1) (wr.alloc (.cells (ndA x A' c') 35)) W → Below (w.heap.size + 1) w1 W ∧ Below wr.heap.size wr W) := Lib.hid (fun W hb => ⟨HV.out.trans (hb.mono (by omega)), (H8.out W hb).1.out⟩)
          have HAl : Hid (∀ W : World, Calls Tryz.prog 46 #[.agg (rlA x.r A' c')] W fun e w' => e = .returned (.bool (alwB x.r)) ∧ Below W.heap.size W w') := Lib.hid (fun W => refAlways_any x.r.k x.r.p x.r.n x.r.f x.r.t A' x.r.l.length c' W)
          have HSh : Hid (alwB x.r = false → ∀ W : World, Below (wr.heap.size + 1) (wr.alloc (.cells (ndA x A' c') 35)) W → Calls Tryz.prog 47 #[.agg (rlA x.r A' c')] W fun e w' => e = .returned (.string sn) ∧ Below W.heap.size W w') := Lib.hid (fun ha W hb => by
            have h2 := HUp.out W hb
            have h3 := HBn.out.trans (h2.2.mono (by omega))
            have hr : rightR x.r = true := by
              rcases hx3 with h | h
              · rw [ha] at h; cases h
              · exact h.2
            rw [hsn]
            exact refShow_any x.r A' c' W Bn ⟨hch.kept (h2.2.mono (by have := HBn.out.size; omega)), by have := h3.size; omega, hr, hsm.1, hsm.2, by omega⟩)
          have Hnl : Hid (needL x = lineL ([[119, 97, 110, 116, 115], wordL x.k, [99, 111, 112, 105, 101, 115], itL x.c] ++ (if alwB x.r then [] else [[119, 105, 116, 104], showL x.r]))) := Lib.hid rfl
          have q0 := (H8.out _ (Below.refl _ _)).2.1
          have q1 := (H8.out _ (Below.refl _ _)).2.2.1
          clear hx1 hx2 hx3 hsm hsh hch hsn
          unfold ndA rlA at *
          generalize alwB x.r = al at *
          generalize x.r.l.length = xl at *
          generalize x.r.k = xk at *
          generalize x.r.p = xp at *
          generalize x.r.f = xf at *
          generalize x.r.t = xt at *
          generalize x.r.n = xn at *
          generalize x.k = yk at *
          generalize x.c = yc at *
          go_wp2_with fail
          generalize (wr.alloc (.cells #[.int .i64 yk, .int .i64 yc, .int .i64 xk, .int .i64 xp, .string xf, .string xt, .int .i64 xn, .slice A' xl c'] 35)) = V at *
          have p0 : ∀ m : WC V.heap.size V, m.w.cell? ⟨wr.heap.size, 0, none⟩ = some (.int .i64 yk) := fun m => (m.h.cell (p := ⟨wr.heap.size, 0, none⟩) (by show wr.heap.size < _; omega)).trans q0
          have p1 : ∀ m : WC V.heap.size V, m.w.cell? ⟨wr.heap.size, 1, none⟩ = some (.int .i64 yc) := fun m => (m.h.cell (p := ⟨wr.heap.size, 1, none⟩) (by show wr.heap.size < _; omega)).trans q1
          refine wp_region_class (by kernel_rfl) (by kernel_rfl) ?_
          repeat (go_big_quiet_step (first
            | (go_at_call 45; exact Calls.class_same (HWd.out _))
            | (go_at_call 43; exact Calls.class_of (Nat.le_refl _) (HDc.out _))))
          refine wpQuiet_nil ?_
          rintro w' ⟨m, rfl⟩
          have Hb4 := Lib.hid (m.h.mono (show wr.heap.size + 1 ≤ V.heap.size by omega))
          clear p0 p1 q0 q1 d0 d1 d2 d3 d4 d5 d6 d7
          generalize m.w = w4 at *
          clear m
          obtain ⟨_, l0, l1, l2, l3, l4, l5, l6, l7⟩ := H8.out w4 Hb4.out
          have hsT : (S ++ ⟨#[119, 97, 110, 116, 115, 32]⟩ ++ wd ++ ⟨#[32, 99, 111, 112, 105, 101, 115, 32]⟩ ++ dc).size ≤ S.size + 200 := by
            simp only [ByteArray.size_append]
            have e0 : (⟨#[119, 97, 110, 116, 115, 32]⟩ : ByteArray).size = 6 := rfl
            have e1 : (⟨#[32, 99, 111, 112, 105, 101, 115, 32]⟩ : ByteArray).size = 8 := rfl
            omega
          have HTl : Hid ((S ++ ⟨#[119, 97, 110, 116, 115, 32]⟩ ++ wd ++ ⟨#[32, 99, 111, 112, 105, 101, 115, 32]⟩ ++ dc).data.toList = S.data.toList ++ ([119, 97, 110, 116, 115, 32] ++ (wordL yk ++ ([32, 99, 111, 112, 105, 101, 115, 32] ++ itL yc)))) := Lib.hid (by
            simp only [tl_app, Hwd.out, Hdc.out]
            try simp)
          generalize (S ++ ⟨#[119, 97, 110, 116, 115, 32]⟩ ++ wd ++ ⟨#[32, 99, 111, 112, 105, 101, 115, 32]⟩ ++ dc) = T at *
          clear hwd hdc Hwd Hdc HWd HDc
          have Hq := Lib.hid (HUp.out w4 Hb4.out).1
          cases al with
          | true =>
            clear HSh
            go_wp2_with (first
              | (go_at_call 46; refine (HAl.out w4).mono ?_; rintro e w5 ⟨rfl, hb5⟩; have Hb5 := Lib.hid (Hb4.out.trans (hb5.mono (by have := Hb4.out.size; omega))); clear hb5 l0 l1 l2 l3 l4 l5 l6 l7; obtain ⟨_, l0, l1, l2, l3, l4, l5, l6, l7⟩ := H8.out w5 Hb5.out)
              | fail)
            have hs2 : (T ++ ⟨#[59, 10]⟩).size ≤ 12000 + 80010 * (k + 1) := by
              simp only [ByteArray.size_append]
              have e0 : (⟨#[59, 10]⟩ : ByteArray).size = 2 := rfl
              omega
            have HL2 : Hid ((T ++ ⟨#[59, 10]⟩).data.toList = headL c ++ needsL (c.needs.take (k + 1))) := Lib.hid (by
              rw [HT.out, Hnl.out, ← List.append_assoc, ← HS.out]
              simp only [tl_app, HTl.out, List.append_nil, if_true, if_false, Bool.false_eq_true, List.cons_append, List.nil_append, line_four, line_six]
              try simp)
            have HF2 := Lib.hid (HUp.out _ Hb5.out).1
            exact ⟨⟨k + 1, T ++ ⟨#[59, 10]⟩, by omega, by go_num, rfl, hs2, HL2, HF2⟩, by simp [RowKit.intOf]; omega⟩
          | false =>
            go_wp2_with (first
              | (go_at_call 46; refine (HAl.out w4).mono ?_; rintro e w5 ⟨rfl, hb5⟩; have Hb5 := Lib.hid (Hb4.out.trans (hb5.mono (by have := Hb4.out.size; omega))); clear hb5 l0 l1 l2 l3 l4 l5 l6 l7; obtain ⟨_, l0, l1, l2, l3, l4, l5, l6, l7⟩ := H8.out w5 Hb5.out)
              | (go_at_call 47; refine (HSh.out trivial w5 Hb5.out).mono ?_; rintro e w6 ⟨rfl, hb6⟩; have Hb6 := Lib.hid (Hb5.out.trans (hb6.mono (by have := Hb5.out.size; omega))); clear hb6)
              | fail)
            have hs2 : (T ++ ⟨#[32, 119, 105, 116, 104, 32]⟩ ++ sn ++ ⟨#[59, 10]⟩).size ≤ 12000 + 80010 * (k + 1) := by
              simp only [ByteArray.size_append]
              have e0 : (⟨#[32, 119, 105, 116, 104, 32]⟩ : ByteArray).size = 6 := rfl
              have e1 : (⟨#[59, 10]⟩ : ByteArray).size = 2 := rfl
              omega
            have HL2 : Hid ((T ++ ⟨#[32, 119, 105, 116, 104, 32]⟩ ++ sn ++ ⟨#[59, 10]⟩).data.toList = headL c ++ needsL (c.needs.take (k + 1))) := Lib.hid (by
              rw [HT.out, Hnl.out, ← List.append_assoc, ← HS.out]
              simp only [tl_app, HTl.out, Hsn.out, List.append_nil, if_true, if_false, Bool.false_eq_true, List.cons_append, List.nil_append, line_four, line_six]
              try simp)
            have HF2 := Lib.hid (HUp.out _ Hb6.out).1
            exact ⟨⟨k + 1, T ++ ⟨#[32, 119, 105, 116, 104, 32]⟩ ++ sn ++ ⟨#[59, 10]⟩, by omega, by go_num, rfl, hs2, HL2, HF2⟩, by simp [RowKit.intOf]; omega⟩
        · have b1 : ¬ (k : Int) < (c.needs.length : Int) := by omega
          have HTx : Hid (S = ⟨(credL c).toArray⟩) := Lib.hid (ba_of (by
            have : c.needs.take k = c.needs := List.take_of_length_le (by omega)
            rw [HS.out, this]; rfl))
          have hSl : S.size = (credL c).length := by rw [HTx.out, ba_size]
          by_cases hl : (credL c).length ≤ 4096
          · have HE : Hid (printE c = (⟨(credL c).toArray⟩, 0)) := Lib.hid (by unfold printE; rw [Hfit.out, if_pos hl]; rfl)
            have b2 : ¬ (4096 : Int) < (S.size : Int) := by omega
            clear hSl hl
            go_wp2
            go_ret2
            exact ⟨by rw [HE.out, ← HTx.out]; rfl, HBn.out⟩
          · have HE : Hid (printE c = (⟨#[]⟩, 7)) := Lib.hid (by unfold printE; rw [Hfit.out, if_neg hl]; rfl)
            have b2 : (4096 : Int) < (S.size : Int) := by omega
            clear hSl hl
            go_wp2
            go_ret2
            exact ⟨by rw [HE.out]; rfl, HBn.out⟩
  · go_wp2_with (first
      | (refine wpList_load_row rfl 26 (.tmp 1) rfl w.heap.size rfl 26 (crA c A cp) (0, 0) _ Hbk.out Tryz.underlying26 rfl HI.out ?_)
      | (go_at_call 42; refine HFt.out.mono ?_; rintro e w2 ⟨rfl, hb2⟩; rw [hz1] at hb2; have Hb2 := Lib.hid hb2; clear k0 k1 k2 k3 k4 k5 k6 k7 k8 k9 k10 k11 k12 k13 k14 k15 k16 k17; obtain ⟨HBN, k0, k1, k2, k3, k4, k5, k6, k7, k8, k9, k10, k11, k12, k13, k14, k15, k16, k17⟩ := H18.out w2 hb2; clear hb2)
      | fail)
    have hsS0 : (⟨#[99, 114, 101, 100, 105, 116, 32]⟩ ++ c.num ++ ⟨#[59, 10, 97, 112, 112, 108, 105, 99, 97, 110, 116, 32]⟩ ++ c.app ++ ⟨#[59, 10, 98, 101, 110, 101, 102, 105, 99, 105, 97, 114, 121, 32]⟩ ++ c.ben ++ ⟨#[59, 10, 105, 115, 115, 117, 101, 114, 32]⟩ ++ c.iss ++ ⟨#[59, 10]⟩ ++ ⟨#[99, 111, 110, 102, 105, 114, 109, 101, 114, 32]⟩ ++ c.con ++ ⟨#[59, 10]⟩).size ≤ 200 := by
      simp only [ByteArray.size_append]
      have e0 : (⟨#[99, 114, 101, 100, 105, 116, 32]⟩ : ByteArray).size = 7 := rfl
      have e1 : (⟨#[59, 10, 97, 112, 112, 108, 105, 99, 97, 110, 116, 32]⟩ : ByteArray).size = 12 := rfl
      have e2 : (⟨#[59, 10, 98, 101, 110, 101, 102, 105, 99, 105, 97, 114, 121, 32]⟩ : ByteArray).size = 14 := rfl
      have e3 : (⟨#[59, 10, 105, 115, 115, 117, 101, 114, 32]⟩ : ByteArray).size = 9 := rfl
      have e4 : (⟨#[59, 10]⟩ : ByteArray).size = 2 := rfl
      have e5 : (⟨#[99, 111, 110, 102, 105, 114, 109, 101, 114, 32]⟩ : ByteArray).size = 10 := rfl
      omega
    have HLS0 : Hid ((⟨#[99, 114, 101, 100, 105, 116, 32]⟩ ++ c.num ++ ⟨#[59, 10, 97, 112, 112, 108, 105, 99, 97, 110, 116, 32]⟩ ++ c.app ++ ⟨#[59, 10, 98, 101, 110, 101, 102, 105, 99, 105, 97, 114, 121, 32]⟩ ++ c.ben ++ ⟨#[59, 10, 105, 115, 115, 117, 101, 114, 32]⟩ ++ c.iss ++ ⟨#[59, 10]⟩ ++ ⟨#[99, 111, 110, 102, 105, 114, 109, 101, 114, 32]⟩ ++ c.con ++ ⟨#[59, 10]⟩).data.toList = lineL [[99, 114, 101, 100, 105, 116], c.num.data.toList] ++ lineL [[97, 112, 112, 108, 105, 99, 97, 110, 116], c.app.data.toList] ++ lineL [[98, 101, 110, 101, 102, 105, 99, 105, 97, 114, 121], c.ben.data.toList] ++ lineL [[105, 115, 115, 117, 101, 114], c.iss.data.toList] ++ lineL [[99, 111, 110, 102, 105, 114, 109, 101, 114], c.con.data.toList]) := Lib.hid (by
      simp only [tl_app, line_two, line_three, line_seven]
      try simp)
    generalize (⟨#[99, 114, 101, 100, 105, 116, 32]⟩ ++ c.num ++ ⟨#[59, 10, 97, 112, 112, 108, 105, 99, 97, 110, 116, 32]⟩ ++ c.app ++ ⟨#[59, 10, 98, 101, 110, 101, 102, 105, 99, 105, 97, 114, 121, 32]⟩ ++ c.ben ++ ⟨#[59, 10, 105, 115, 115, 117, 101, 114, 32]⟩ ++ c.iss ++ ⟨#[59, 10]⟩ ++ ⟨#[99, 111, 110, 102, 105, 114, 109, 101, 114, 32]⟩ ++ c.con ++ ⟨#[59, 10]⟩) = S0 at *
    have hNw2 : w.heap.size < w2.heap.size := by have := Hb2.out.size; omega
    have dclw2 : ∀ (j : Nat) (v : Value), w2.cell? ⟨w.heap.size, j, none⟩ = some v → ∀ m : WC w2.heap.size w2, m.w.cell? ⟨w.heap.size, j, none⟩ = some v := fun j v h m => (m.h.cell (p := ⟨w.heap.size, j, none⟩) hNw2).trans h
    have q5 := dclw2 5 _ k5
    have q6 := dclw2 6 _ k6
    have q7 := dclw2 7 _ k7
    have q8 := dclw2 8 _ k8
    have q9 := dclw2 9 _ k9
    have q10 := dclw2 10 _ k10
    refine wp_region_class (by kernel_rfl) (by kernel_rfl) ?_
    repeat (go_big_quiet_step (first
      | (go_at_call 43; with_reducible exact Calls.class_of (Nat.le_refl _) (HD1.out _))
      | (go_at_call 43; with_reducible exact Calls.class_of (Nat.le_refl _) (HD2.out _))
      | (go_at_call 43; with_reducible exact Calls.class_of (Nat.le_refl _) (HD3.out _))))
    refine wpQuiet_nil ?_
    rintro w' ⟨m, rfl⟩
    have Hb2' := Lib.hid (Hb2.out.trans (m.h.mono (by have := Hb2.out.size; omega)))
    clear q5 q6 q7 q8 q9 q10 dclw2 k0 k1 k2 k3 k4 k5 k6 k7 k8 k9 k10 k11 k12 k13 k14 k15 k16 k17 HBN
    obtain ⟨HBN, k0, k1, k2, k3, k4, k5, k6, k7, k8, k9, k10, k11, k12, k13, k14, k15, k16, k17⟩ := H18.out _ Hb2'.out
    generalize m.w = w3 at *
    clear Hb2 m
    have Hb2 := Hb2'
    clear Hb2'
    have hsS1 : (S0 ++ ⟨#[102, 114, 111, 109, 32]⟩ ++ c.frm ++ ⟨#[59, 10, 116, 111, 32]⟩ ++ c.dst ++ ⟨#[59, 10, 115, 117, 109, 32]⟩ ++ c.cur ++ ⟨#[32]⟩ ++ d1 ++ ⟨#[32, 97, 98, 111, 118, 101, 32]⟩ ++ d2 ++ ⟨#[32, 98, 101, 108, 111, 119, 32]⟩ ++ d3 ++ ⟨#[59, 10]⟩).size ≤ 900 := by
      simp only [ByteArray.size_append]
      have e0 : (⟨#[102, 114, 111, 109, 32]⟩ : ByteArray).size = 5 := rfl
      have e1 : (⟨#[59, 10, 116, 111, 32]⟩ : ByteArray).size = 5 := rfl
      have e2 : (⟨#[59, 10, 115, 117, 109, 32]⟩ : ByteArray).size = 6 := rfl
      have e3 : (⟨#[32]⟩ : ByteArray).size = 1 := rfl
      have e4 : (⟨#[32, 97, 98, 111, 118, 101, 32]⟩ : ByteArray).size = 7 := rfl
      have e5 : (⟨#[32, 98, 101, 108, 111, 119, 32]⟩ : ByteArray).size = 7 := rfl
      have e6 : (⟨#[59, 10]⟩ : ByteArray).size = 2 := rfl
      omega
    have HLS1 : Hid ((S0 ++ ⟨#[102, 114, 111, 109, 32]⟩ ++ c.frm ++ ⟨#[59, 10, 116, 111, 32]⟩ ++ c.dst ++ ⟨#[59, 10, 115, 117, 109, 32]⟩ ++ c.cur ++ ⟨#[32]⟩ ++ d1 ++ ⟨#[32, 97, 98, 111, 118, 101, 32]⟩ ++ d2 ++ ⟨#[32, 98, 101, 108, 111, 119, 32]⟩ ++ d3 ++ ⟨#[59, 10]⟩).data.toList = S0.data.toList ++ lineL [[102, 114, 111, 109], c.frm.data.toList] ++ lineL [[116, 111], c.dst.data.toList] ++ lineL [[115, 117, 109], c.cur.data.toList, itL c.amt, [97, 98, 111, 118, 101], itL c.abo, [98, 101, 108, 111, 119], itL c.bel]) := Lib.hid (by
      simp only [tl_app, Hd1.out, Hd2.out, Hd3.out, line_two, line_three, line_seven]
      try simp)
    generalize (S0 ++ ⟨#[102, 114, 111, 109, 32]⟩ ++ c.frm ++ ⟨#[59, 10, 116, 111, 32]⟩ ++ c.dst ++ ⟨#[59, 10, 115, 117, 109, 32]⟩ ++ c.cur ++ ⟨#[32]⟩ ++ d1 ++ ⟨#[32, 97, 98, 111, 118, 101, 32]⟩ ++ d2 ++ ⟨#[32, 98, 101, 108, 111, 119, 32]⟩ ++ d3 ++ ⟨#[59, 10]⟩) = S1 at *
    go_wp2_with fail
    have hNw3 : w.heap.size < w3.heap.size := by have := Hb2.out.size; omega
    have dclw3 : ∀ (j : Nat) (v : Value), w3.cell? ⟨w.heap.size, j, none⟩ = some v → ∀ m : WC w3.heap.size w3, m.w.cell? ⟨w.heap.size, j, none⟩ = some v := fun j v h m => (m.h.cell (p := ⟨w.heap.size, j, none⟩) hNw3).trans h
    have q10 := dclw3 10 _ k10
    have q11 := dclw3 11 _ k11
    have q12 := dclw3 12 _ k12
    have q13 := dclw3 13 _ k13
    refine wp_region_class (by kernel_rfl) (by kernel_rfl) ?_
    repeat (go_big_quiet_step (first
      | (go_at_call 43; with_reducible exact Calls.class_of (Nat.le_refl _) (HD4.out _))
      | (go_at_call 43; with_reducible exact Calls.class_of (Nat.le_refl _) (HD5.out _))
      | (go_at_call 43; with_reducible exact Calls.class_of (Nat.le_refl _) (HD6.out _))))
    refine wpQuiet_nil ?_
    rintro w' ⟨m, rfl⟩
    have Hb2' := Lib.hid (Hb2.out.trans (m.h.mono (by have := Hb2.out.size; omega)))
    clear q10 q11 q12 q13 dclw3 k0 k1 k2 k3 k4 k5 k6 k7 k8 k9 k10 k11 k12 k13 k14 k15 k16 k17 HBN
    obtain ⟨HBN, k0, k1, k2, k3, k4, k5, k6, k7, k8, k9, k10, k11, k12, k13, k14, k15, k16, k17⟩ := H18.out _ Hb2'.out
    generalize m.w = w3 at *
    clear Hb2 m
    have Hb2 := Hb2'
    clear Hb2'
    have hsS2 : (S1 ++ ⟨#[108, 97, 116, 101, 115, 116, 32]⟩ ++ d4 ++ ⟨#[59, 10, 101, 120, 112, 105, 114, 121, 32]⟩ ++ d5 ++ ⟨#[59, 10, 119, 105, 116, 104, 105, 110, 32]⟩ ++ d6 ++ ⟨#[32, 100, 97, 121, 115, 59, 10]⟩).size ≤ 1400 := by
      simp only [ByteArray.size_append]
      have e0 : (⟨#[108, 97, 116, 101, 115, 116, 32]⟩ : ByteArray).size = 7 := rfl
      have e1 : (⟨#[59, 10, 101, 120, 112, 105, 114, 121, 32]⟩ : ByteArray).size = 9 := rfl
      have e2 : (⟨#[59, 10, 119, 105, 116, 104, 105, 110, 32]⟩ : ByteArray).size = 9 := rfl
      have e3 : (⟨#[32, 100, 97, 121, 115, 59, 10]⟩ : ByteArray).size = 7 := rfl
      omega
    have HLS2 : Hid ((S1 ++ ⟨#[108, 97, 116, 101, 115, 116, 32]⟩ ++ d4 ++ ⟨#[59, 10, 101, 120, 112, 105, 114, 121, 32]⟩ ++ d5 ++ ⟨#[59, 10, 119, 105, 116, 104, 105, 110, 32]⟩ ++ d6 ++ ⟨#[32, 100, 97, 121, 115, 59, 10]⟩).data.toList = S1.data.toList ++ lineL [[108, 97, 116, 101, 115, 116], itL c.lat] ++ lineL [[101, 120, 112, 105, 114, 121], itL c.exp] ++ lineL [[119, 105, 116, 104, 105, 110], itL c.wit, [100, 97, 121, 115]]) := Lib.hid (by
      simp only [tl_app, Hd4.out, Hd5.out, Hd6.out, line_two, line_three, line_seven]
      try simp)
    generalize (S1 ++ ⟨#[108, 97, 116, 101, 115, 116, 32]⟩ ++ d4 ++ ⟨#[59, 10, 101, 120, 112, 105, 114, 121, 32]⟩ ++ d5 ++ ⟨#[59, 10, 119, 105, 116, 104, 105, 110, 32]⟩ ++ d6 ++ ⟨#[32, 100, 97, 121, 115, 59, 10]⟩) = S2 at *
    rcases (show c.ten = 0 ∨ c.ten ≠ 0 by omega) with hten | hten
    · have e10 : (c.ten == 0) = true := by rw [beq_iff_eq]; exact hten
      have hq := hten
      clear hten
      have Hten := Lib.hid hq
      clear hq
      go_wp2_with (first
        | (go_at_call 43; refine (HD7.out _).mono ?_; rintro e w3 ⟨rfl, hb4⟩; have Hb2' := Lib.hid (Hb2.out.trans (hb4.mono (by have := Hb2.out.size; omega))); clear Hb2 hb4 HBN k0 k1 k2 k3 k4 k5 k6 k7 k8 k9 k10 k11 k12 k13 k14 k15 k16 k17; obtain ⟨HBN, k0, k1, k2, k3, k4, k5, k6, k7, k8, k9, k10, k11, k12, k13, k14, k15, k16, k17⟩ := H18.out w3 Hb2'.out; have Hb2 := Hb2'; clear Hb2')
        | fail)
      have hsS3 : (S2 ++ ⟨#[116, 101, 110, 111, 114, 32, 115, 105, 103, 104, 116, 59, 10]⟩).size ≤ 1450 := by
        simp only [ByteArray.size_append]
        have e0 : (⟨#[116, 101, 110, 111, 114, 32, 115, 105, 103, 104, 116, 59, 10]⟩ : ByteArray).size = 13 := rfl
        omega
      have HLS3 : Hid ((S2 ++ ⟨#[116, 101, 110, 111, 114, 32, 115, 105, 103, 104, 116, 59, 10]⟩).data.toList = S2.data.toList ++ lineL [[116, 101, 110, 111, 114], [115, 105, 103, 104, 116]]) := Lib.hid (by
        simp only [tl_app, line_two, line_three, line_seven]
        try simp)
      generalize (S2 ++ ⟨#[116, 101, 110, 111, 114, 32, 115, 105, 103, 104, 116, 59, 10]⟩) = S3 at *
      have hNw4 : w.heap.size < w3.heap.size := by have := Hb2.out.size; omega
      have dclw3 : ∀ (j : Nat) (v : Value), w3.cell? ⟨w.heap.size, j, none⟩ = some v → ∀ m : WC w3.heap.size w3, m.w.cell? ⟨w.heap.size, j, none⟩ = some v := fun j v h m => (m.h.cell (p := ⟨w.heap.size, j, none⟩) hNw4).trans h
      have q14 := dclw3 14 _ k14
      have q15 := dclw3 15 _ k15
      refine wp_region_class (by kernel_rfl) (by kernel_rfl) ?_
      repeat (go_big_quiet_step (first
        | (go_at_call 44; with_reducible exact Calls.class_same (HY1.out _))
        | (go_at_call 44; with_reducible exact Calls.class_same (HY2.out _))))
      refine wpQuiet_nil ?_
      rintro w' ⟨m, rfl⟩
      have Hb2' := Lib.hid (Hb2.out.trans (m.h.mono (by have := Hb2.out.size; omega)))
      clear q14 q15 dclw3 k0 k1 k2 k3 k4 k5 k6 k7 k8 k9 k10 k11 k12 k13 k14 k15 k16 k17 HBN
      obtain ⟨HBN, k0, k1, k2, k3, k4, k5, k6, k7, k8, k9, k10, k11, k12, k13, k14, k15, k16, k17⟩ := H18.out _ Hb2'.out
      generalize m.w = w3 at *
      clear Hb2 m
      have Hb2 := Hb2'
      clear Hb2'
      have hsS4 : (S3 ++ ⟨#[112, 97, 114, 116, 105, 97, 108, 32]⟩ ++ y1 ++ ⟨#[59, 10, 99, 104, 97, 110, 103, 101, 32]⟩ ++ y2 ++ ⟨#[59, 10]⟩).size ≤ 1900 := by
        simp only [ByteArray.size_append]
        have e0 : (⟨#[112, 97, 114, 116, 105, 97, 108, 32]⟩ : ByteArray).size = 8 := rfl
        have e1 : (⟨#[59, 10, 99, 104, 97, 110, 103, 101, 32]⟩ : ByteArray).size = 9 := rfl
        have e2 : (⟨#[59, 10]⟩ : ByteArray).size = 2 := rfl
        omega
      have HLS4 : Hid ((S3 ++ ⟨#[112, 97, 114, 116, 105, 97, 108, 32]⟩ ++ y1 ++ ⟨#[59, 10, 99, 104, 97, 110, 103, 101, 32]⟩ ++ y2 ++ ⟨#[59, 10]⟩).data.toList = S3.data.toList ++ lineL [[112, 97, 114, 116, 105, 97, 108], yesL c.par] ++ lineL [[99, 104, 97, 110, 103, 101], yesL c.chg]) := Lib.hid (by
        simp only [tl_app, Hy1.out, Hy2.out, line_two, line_three, line_seven]
        try simp)
      generalize (S3 ++ ⟨#[112, 97, 114, 116, 105, 97, 108, 32]⟩ ++ y1 ++ ⟨#[59, 10, 99, 104, 97, 110, 103, 101, 32]⟩ ++ y2 ++ ⟨#[59, 10]⟩) = S4 at *
      have Hhd : Hid (S4.data.toList = headL c) := Lib.hid (by
        rw [HLS4.out, HLS3.out, HLS2.out, HLS1.out, HLS0.out]
        unfold headL
        rw [if_neg hcz, if_pos Hten.out]
        try simp only [List.append_assoc, List.nil_append])
      clear HLS4 HLS3 HLS2 HLS1 HLS0 Hd1 Hd2 Hd3 Hd4 Hd5 Hd6 Hd7 HD1 HD2 HD3 HD4 HD5 HD6 HD7 Hy1 Hy2 HY1 HY2 i1 i2 i3 i4 i5 i6 i7 j1 j2 hsS3 hsS2 hsS1 hsS0 e10 Hten hcon hcz hce k0 k1 k2 k3 k4 k5 k6 k7 k8 k9 k10 k11 k12 k13 k14 k15 k16 f1 f2 f3 f4 f5 f6 f7 f8 f9 f10 f11 f12 f13 f14 f15 f16 f17 f18 f19 f20 f21 f22 z8 z9 z10 z11 z12 z13 z14
      go_wp2
      clear k17
      generalize (w.alloc (.cells (crA c A cp) 26)) = w1 at *
      go_loopw [4, 5] (fun s i wr => ∃ (k : Nat) (S : ByteArray), k ≤ c.needs.length ∧ i = .int .i64 (k : Int) ∧ s = .string S ∧ S.size ≤ 12000 + 80010 * k ∧ Hid (S.data.toList = headL c ++ needsL (c.needs.take k)) ∧ Hid (Below (w.heap.size + 1) w1 wr)) (fun _ i _ => c.needs.length - (RowKit.intOf i).toNat)
      case atStart => exact ⟨0, S4, Nat.zero_le _, rfl, rfl, by omega, Lib.hid (by rw [List.take_zero, needsL, List.append_nil]; exact Hhd.out), Hb2⟩
      case round =>
        clear Hhd hsS4 HBN Hb2
        obtain ⟨k, S, hk, rfl, rfl, hS, HS, HF⟩ := hrel
        have hbr : w.heap.size + 1 ≤ wr.heap.size := by have := HF.out.size; omega
        obtain ⟨HBn, j0, j1, j2, j3, j4, j5, j6, j7, j8, j9, j10, j11, j12, j13, j14, j15, j16, j17⟩ := H18.out wr HF.out
        clear j0 j1 j2 j3 j4 j5 j6 j7 j8 j9 j10 j11 j12 j13 j14 j15 j16
        have h9 := HC.out.nine
        by_cases hlt : k < c.needs.length
        · have b1 : (k : Int) < (c.needs.length : Int) := by omega
          obtain ⟨g, off, A', c', rfl, hg, h8, hch⟩ := (HNs.out.kept (HBn.out.mono hBn)).at_ hlt
          obtain ⟨d0, d1, d2, d3, d4, d5, d6, d7⟩ := h8
          have hxm := List.getElem_mem hlt
          have hsm := HC.out.fair.need _ hxm
          have hsh := HC.out.show_ _ hxm
          have hnd : needB c.needs[k] = true := by
            have hf := Hfit.out
            rw [fits_parts] at hf
            simp only [Bool.and_eq_true, List.all_eq_true] at hf
            exact hf.2 _ hxm
          have HT := Lib.hid (needsL_take c.needs k hlt)
          clear hxm HC HNs Hfit
          generalize c.needs[k] = x at *
          unfold needB at hnd
          simp only [Bool.and_eq_true, Bool.or_eq_true, decide_eq_true_iff] at hnd
          obtain ⟨⟨hx1, hx2⟩, hx3⟩ := hnd
          obtain ⟨wd, hwd, Hwd, HWd⟩ := word_let x.k
          obtain ⟨dc, hdc, Hdc, HDc⟩ := dig_let x.c (by omega) (by omega)
          obtain ⟨sn, hsn⟩ : ∃ sn : ByteArray, sn = ⟨(showL x.r).toArray⟩ := ⟨_, rfl⟩
          have hss : sn.size ≤ 9000 := by rw [hsn, ba_size]; exact hsh
          have Hsn : Hid (sn.data.toList = showL x.r) := Lib.hid (by rw [hsn, ba_list])
          have H8 := Lib.hid (need_cells x A' c' wr)
          have hVz : (wr.alloc (.cells (ndA x A' c') 35)).heap.size = wr.heap.size + 1 := by simp
          have HV : Hid (Below (w.heap.size + 1) w1 (wr.alloc (.cells (ndA x A' c') 35))) := Lib.hid (HF.out.alloc hbr _)
          have HUp : Hid (∀ W : World, Below (wr.heap.size + 1) (wr.alloc (.cells (ndA x A' c') 35)) W → Below (w.heap.size + 1) w1 W ∧ Below wr.heap.size wr W) := Lib.hid (fun W hb => ⟨HV.out.trans (hb.mono (by omega)), (H8.out W hb).1.out⟩)
          have HAl : Hid (∀ W : World, Calls Tryz.prog 46 #[.agg (rlA x.r A' c')] W fun e w' => e = .returned (.bool (alwB x.r)) ∧ Below W.heap.size W w') := Lib.hid (fun W => refAlways_any x.r.k x.r.p x.r.n x.r.f x.r.t A' x.r.l.length c' W)
          have HSh : Hid (alwB x.r = false → ∀ W : World, Below (wr.heap.size + 1) (wr.alloc (.cells (ndA x A' c') 35)) W → Calls Tryz.prog 47 #[.agg (rlA x.r A' c')] W fun e w' => e = .returned (.string sn) ∧ Below W.heap.size W w') := Lib.hid (fun ha W hb => by
            have h2 := HUp.out W hb
            have h3 := HBn.out.trans (h2.2.mono (by omega))
            have hr : rightR x.r = true := by
              rcases hx3 with h | h
              · rw [ha] at h; cases h
              · exact h.2
            rw [hsn]
            exact refShow_any x.r A' c' W Bn ⟨hch.kept (h2.2.mono (by have := HBn.out.size; omega)), by have := h3.size; omega, hr, hsm.1, hsm.2, by omega⟩)
          have Hnl : Hid (needL x = lineL ([[119, 97, 110, 116, 115], wordL x.k, [99, 111, 112, 105, 101, 115], itL x.c] ++ (if alwB x.r then [] else [[119, 105, 116, 104], showL x.r]))) := Lib.hid rfl
          have q0 := (H8.out _ (Below.refl _ _)).2.1
          have q1 := (H8.out _ (Below.refl _ _)).2.2.1
          clear hx1 hx2 hx3 hsm hsh hch hsn
          unfold ndA rlA at *
          generalize alwB x.r = al at *
          generalize x.r.l.length = xl at *
          generalize x.r.k = xk at *
          generalize x.r.p = xp at *
          generalize x.r.f = xf at *
          generalize x.r.t = xt at *
          generalize x.r.n = xn at *
          generalize x.k = yk at *
          generalize x.c = yc at *
          go_wp2_with fail
          generalize (wr.alloc (.cells #[.int .i64 yk, .int .i64 yc, .int .i64 xk, .int .i64 xp, .string xf, .string xt, .int .i64 xn, .slice A' xl c'] 35)) = V at *
          have p0 : ∀ m : WC V.heap.size V, m.w.cell? ⟨wr.heap.size, 0, none⟩ = some (.int .i64 yk) := fun m => (m.h.cell (p := ⟨wr.heap.size, 0, none⟩) (by show wr.heap.size < _; omega)).trans q0
          have p1 : ∀ m : WC V.heap.size V, m.w.cell? ⟨wr.heap.size, 1, none⟩ = some (.int .i64 yc) := fun m => (m.h.cell (p := ⟨wr.heap.size, 1, none⟩) (by show wr.heap.size < _; omega)).trans q1
          refine wp_region_class (by kernel_rfl) (by kernel_rfl) ?_
          repeat (go_big_quiet_step (first
            | (go_at_call 45; exact Calls.class_same (HWd.out _))
            | (go_at_call 43; exact Calls.class_of (Nat.le_refl _) (HDc.out _))))
          refine wpQuiet_nil ?_
          rintro w' ⟨m, rfl⟩
          have Hb4 := Lib.hid (m.h.mono (show wr.heap.size + 1 ≤ V.heap.size by omega))
          clear p0 p1 q0 q1 d0 d1 d2 d3 d4 d5 d6 d7
          generalize m.w = w4 at *
          clear m
          obtain ⟨_, l0, l1, l2, l3, l4, l5, l6, l7⟩ := H8.out w4 Hb4.out
          have hsT : (S ++ ⟨#[119, 97, 110, 116, 115, 32]⟩ ++ wd ++ ⟨#[32, 99, 111, 112, 105, 101, 115, 32]⟩ ++ dc).size ≤ S.size + 200 := by
            simp only [ByteArray.size_append]
            have e0 : (⟨#[119, 97, 110, 116, 115, 32]⟩ : ByteArray).size = 6 := rfl
            have e1 : (⟨#[32, 99, 111, 112, 105, 101, 115, 32]⟩ : ByteArray).size = 8 := rfl
            omega
          have HTl : Hid ((S ++ ⟨#[119, 97, 110, 116, 115, 32]⟩ ++ wd ++ ⟨#[32, 99, 111, 112, 105, 101, 115, 32]⟩ ++ dc).data.toList = S.data.toList ++ ([119, 97, 110, 116, 115, 32] ++ (wordL yk ++ ([32, 99, 111, 112, 105, 101, 115, 32] ++ itL yc)))) := Lib.hid (by
            simp only [tl_app, Hwd.out, Hdc.out]
            try simp)
          generalize (S ++ ⟨#[119, 97, 110, 116, 115, 32]⟩ ++ wd ++ ⟨#[32, 99, 111, 112, 105, 101, 115, 32]⟩ ++ dc) = T at *
          clear hwd hdc Hwd Hdc HWd HDc
          have Hq := Lib.hid (HUp.out w4 Hb4.out).1
          cases al with
          | true =>
            clear HSh
            go_wp2_with (first
              | (go_at_call 46; refine (HAl.out w4).mono ?_; rintro e w5 ⟨rfl, hb5⟩; have Hb5 := Lib.hid (Hb4.out.trans (hb5.mono (by have := Hb4.out.size; omega))); clear hb5 l0 l1 l2 l3 l4 l5 l6 l7; obtain ⟨_, l0, l1, l2, l3, l4, l5, l6, l7⟩ := H8.out w5 Hb5.out)
              | fail)
            have hs2 : (T ++ ⟨#[59, 10]⟩).size ≤ 12000 + 80010 * (k + 1) := by
              simp only [ByteArray.size_append]
              have e0 : (⟨#[59, 10]⟩ : ByteArray).size = 2 := rfl
              omega
            have HL2 : Hid ((T ++ ⟨#[59, 10]⟩).data.toList = headL c ++ needsL (c.needs.take (k + 1))) := Lib.hid (by
              rw [HT.out, Hnl.out, ← List.append_assoc, ← HS.out]
              simp only [tl_app, HTl.out, List.append_nil, if_true, if_false, Bool.false_eq_true, List.cons_append, List.nil_append, line_four, line_six]
              try simp)
            have HF2 := Lib.hid (HUp.out _ Hb5.out).1
            exact ⟨⟨k + 1, T ++ ⟨#[59, 10]⟩, by omega, by go_num, rfl, hs2, HL2, HF2⟩, by simp [RowKit.intOf]; omega⟩
          | false =>
            go_wp2_with (first
              | (go_at_call 46; refine (HAl.out w4).mono ?_; rintro e w5 ⟨rfl, hb5⟩; have Hb5 := Lib.hid (Hb4.out.trans (hb5.mono (by have := Hb4.out.size; omega))); clear hb5 l0 l1 l2 l3 l4 l5 l6 l7; obtain ⟨_, l0, l1, l2, l3, l4, l5, l6, l7⟩ := H8.out w5 Hb5.out)
              | (go_at_call 47; refine (HSh.out trivial w5 Hb5.out).mono ?_; rintro e w6 ⟨rfl, hb6⟩; have Hb6 := Lib.hid (Hb5.out.trans (hb6.mono (by have := Hb5.out.size; omega))); clear hb6)
              | fail)
            have hs2 : (T ++ ⟨#[32, 119, 105, 116, 104, 32]⟩ ++ sn ++ ⟨#[59, 10]⟩).size ≤ 12000 + 80010 * (k + 1) := by
              simp only [ByteArray.size_append]
              have e0 : (⟨#[32, 119, 105, 116, 104, 32]⟩ : ByteArray).size = 6 := rfl
              have e1 : (⟨#[59, 10]⟩ : ByteArray).size = 2 := rfl
              omega
            have HL2 : Hid ((T ++ ⟨#[32, 119, 105, 116, 104, 32]⟩ ++ sn ++ ⟨#[59, 10]⟩).data.toList = headL c ++ needsL (c.needs.take (k + 1))) := Lib.hid (by
              rw [HT.out, Hnl.out, ← List.append_assoc, ← HS.out]
              simp only [tl_app, HTl.out, Hsn.out, List.append_nil, if_true, if_false, Bool.false_eq_true, List.cons_append, List.nil_append, line_four, line_six]
              try simp)
            have HF2 := Lib.hid (HUp.out _ Hb6.out).1
            exact ⟨⟨k + 1, T ++ ⟨#[32, 119, 105, 116, 104, 32]⟩ ++ sn ++ ⟨#[59, 10]⟩, by omega, by go_num, rfl, hs2, HL2, HF2⟩, by simp [RowKit.intOf]; omega⟩
        · have b1 : ¬ (k : Int) < (c.needs.length : Int) := by omega
          have HTx : Hid (S = ⟨(credL c).toArray⟩) := Lib.hid (ba_of (by
            have : c.needs.take k = c.needs := List.take_of_length_le (by omega)
            rw [HS.out, this]; rfl))
          have hSl : S.size = (credL c).length := by rw [HTx.out, ba_size]
          by_cases hl : (credL c).length ≤ 4096
          · have HE : Hid (printE c = (⟨(credL c).toArray⟩, 0)) := Lib.hid (by unfold printE; rw [Hfit.out, if_pos hl]; rfl)
            have b2 : ¬ (4096 : Int) < (S.size : Int) := by omega
            clear hSl hl
            go_wp2
            go_ret2
            exact ⟨by rw [HE.out, ← HTx.out]; rfl, HBn.out⟩
          · have HE : Hid (printE c = (⟨#[]⟩, 7)) := Lib.hid (by unfold printE; rw [Hfit.out, if_neg hl]; rfl)
            have b2 : (4096 : Int) < (S.size : Int) := by omega
            clear hSl hl
            go_wp2
            go_ret2
            exact ⟨by rw [HE.out]; rfl, HBn.out⟩
    · have e10 : (c.ten == 0) = false := by rw [beq_eq_false_iff_ne]; exact hten
      have hq := hten
      clear hten
      have Hten := Lib.hid hq
      clear hq
      go_wp2_with (first
        | (go_at_call 43; refine (HD7.out _).mono ?_; rintro e w3 ⟨rfl, hb4⟩; have Hb2' := Lib.hid (Hb2.out.trans (hb4.mono (by have := Hb2.out.size; omega))); clear Hb2 hb4 HBN k0 k1 k2 k3 k4 k5 k6 k7 k8 k9 k10 k11 k12 k13 k14 k15 k16 k17; obtain ⟨HBN, k0, k1, k2, k3, k4, k5, k6, k7, k8, k9, k10, k11, k12, k13, k14, k15, k16, k17⟩ := H18.out w3 Hb2'.out; have Hb2 := Hb2'; clear Hb2')
        | fail)
      have hsS3 : (S2 ++ ⟨#[116, 101, 110, 111, 114, 32]⟩ ++ d7 ++ ⟨#[32, 100, 97, 121, 115, 59, 10]⟩).size ≤ 1550 := by
        simp only [ByteArray.size_append]
        have e0 : (⟨#[116, 101, 110, 111, 114, 32]⟩ : ByteArray).size = 6 := rfl
        have e1 : (⟨#[32, 100, 97, 121, 115, 59, 10]⟩ : ByteArray).size = 7 := rfl
        omega
      have HLS3 : Hid ((S2 ++ ⟨#[116, 101, 110, 111, 114, 32]⟩ ++ d7 ++ ⟨#[32, 100, 97, 121, 115, 59, 10]⟩).data.toList = S2.data.toList ++ lineL [[116, 101, 110, 111, 114], itL c.ten, [100, 97, 121, 115]]) := Lib.hid (by
        simp only [tl_app, Hd7.out, line_two, line_three, line_seven]
        try simp)
      generalize (S2 ++ ⟨#[116, 101, 110, 111, 114, 32]⟩ ++ d7 ++ ⟨#[32, 100, 97, 121, 115, 59, 10]⟩) = S3 at *
      have hNw4 : w.heap.size < w3.heap.size := by have := Hb2.out.size; omega
      have dclw3 : ∀ (j : Nat) (v : Value), w3.cell? ⟨w.heap.size, j, none⟩ = some v → ∀ m : WC w3.heap.size w3, m.w.cell? ⟨w.heap.size, j, none⟩ = some v := fun j v h m => (m.h.cell (p := ⟨w.heap.size, j, none⟩) hNw4).trans h
      have q14 := dclw3 14 _ k14
      have q15 := dclw3 15 _ k15
      refine wp_region_class (by kernel_rfl) (by kernel_rfl) ?_
      repeat (go_big_quiet_step (first
        | (go_at_call 44; with_reducible exact Calls.class_same (HY1.out _))
        | (go_at_call 44; with_reducible exact Calls.class_same (HY2.out _))))
      refine wpQuiet_nil ?_
      rintro w' ⟨m, rfl⟩
      have Hb2' := Lib.hid (Hb2.out.trans (m.h.mono (by have := Hb2.out.size; omega)))
      clear q14 q15 dclw3 k0 k1 k2 k3 k4 k5 k6 k7 k8 k9 k10 k11 k12 k13 k14 k15 k16 k17 HBN
      obtain ⟨HBN, k0, k1, k2, k3, k4, k5, k6, k7, k8, k9, k10, k11, k12, k13, k14, k15, k16, k17⟩ := H18.out _ Hb2'.out
      generalize m.w = w3 at *
      clear Hb2 m
      have Hb2 := Hb2'
      clear Hb2'
      have hsS4 : (S3 ++ ⟨#[112, 97, 114, 116, 105, 97, 108, 32]⟩ ++ y1 ++ ⟨#[59, 10, 99, 104, 97, 110, 103, 101, 32]⟩ ++ y2 ++ ⟨#[59, 10]⟩).size ≤ 1900 := by
        simp only [ByteArray.size_append]
        have e0 : (⟨#[112, 97, 114, 116, 105, 97, 108, 32]⟩ : ByteArray).size = 8 := rfl
        have e1 : (⟨#[59, 10, 99, 104, 97, 110, 103, 101, 32]⟩ : ByteArray).size = 9 := rfl
        have e2 : (⟨#[59, 10]⟩ : ByteArray).size = 2 := rfl
        omega
      have HLS4 : Hid ((S3 ++ ⟨#[112, 97, 114, 116, 105, 97, 108, 32]⟩ ++ y1 ++ ⟨#[59, 10, 99, 104, 97, 110, 103, 101, 32]⟩ ++ y2 ++ ⟨#[59, 10]⟩).data.toList = S3.data.toList ++ lineL [[112, 97, 114, 116, 105, 97, 108], yesL c.par] ++ lineL [[99, 104, 97, 110, 103, 101], yesL c.chg]) := Lib.hid (by
        simp only [tl_app, Hy1.out, Hy2.out, line_two, line_three, line_seven]
        try simp)
      generalize (S3 ++ ⟨#[112, 97, 114, 116, 105, 97, 108, 32]⟩ ++ y1 ++ ⟨#[59, 10, 99, 104, 97, 110, 103, 101, 32]⟩ ++ y2 ++ ⟨#[59, 10]⟩) = S4 at *
      have Hhd : Hid (S4.data.toList = headL c) := Lib.hid (by
        rw [HLS4.out, HLS3.out, HLS2.out, HLS1.out, HLS0.out]
        unfold headL
        rw [if_neg hcz, if_neg Hten.out]
        try simp only [List.append_assoc, List.nil_append])
      clear HLS4 HLS3 HLS2 HLS1 HLS0 Hd1 Hd2 Hd3 Hd4 Hd5 Hd6 Hd7 HD1 HD2 HD3 HD4 HD5 HD6 HD7 Hy1 Hy2 HY1 HY2 i1 i2 i3 i4 i5 i6 i7 j1 j2 hsS3 hsS2 hsS1 hsS0 e10 Hten hcon hcz hce k0 k1 k2 k3 k4 k5 k6 k7 k8 k9 k10 k11 k12 k13 k14 k15 k16 f1 f2 f3 f4 f5 f6 f7 f8 f9 f10 f11 f12 f13 f14 f15 f16 f17 f18 f19 f20 f21 f22 z8 z9 z10 z11 z12 z13 z14
      go_wp2
      clear k17
      generalize (w.alloc (.cells (crA c A cp) 26)) = w1 at *
      go_loopw [4, 5] (fun s i wr => ∃ (k : Nat) (S : ByteArray), k ≤ c.needs.length ∧ i = .int .i64 (k : Int) ∧ s = .string S ∧ S.size ≤ 12000 + 80010 * k ∧ Hid (S.data.toList = headL c ++ needsL (c.needs.take k)) ∧ Hid (Below (w.heap.size + 1) w1 wr)) (fun _ i _ => c.needs.length - (RowKit.intOf i).toNat)
      case atStart => exact ⟨0, S4, Nat.zero_le _, rfl, rfl, by omega, Lib.hid (by rw [List.take_zero, needsL, List.append_nil]; exact Hhd.out), Hb2⟩
      case round =>
        clear Hhd hsS4 HBN Hb2
        obtain ⟨k, S, hk, rfl, rfl, hS, HS, HF⟩ := hrel
        have hbr : w.heap.size + 1 ≤ wr.heap.size := by have := HF.out.size; omega
        obtain ⟨HBn, j0, j1, j2, j3, j4, j5, j6, j7, j8, j9, j10, j11, j12, j13, j14, j15, j16, j17⟩ := H18.out wr HF.out
        clear j0 j1 j2 j3 j4 j5 j6 j7 j8 j9 j10 j11 j12 j13 j14 j15 j16
        have h9 := HC.out.nine
        by_cases hlt : k < c.needs.length
        · have b1 : (k : Int) < (c.needs.length : Int) := by omega
          obtain ⟨g, off, A', c', rfl, hg, h8, hch⟩ := (HNs.out.kept (HBn.out.mono hBn)).at_ hlt
          obtain ⟨d0, d1, d2, d3, d4, d5, d6, d7⟩ := h8
          have hxm := List.getElem_mem hlt
          have hsm := HC.out.fair.need _ hxm
          have hsh := HC.out.show_ _ hxm
          have hnd : needB c.needs[k] = true := by
            have hf := Hfit.out
            rw [fits_parts] at hf
            simp only [Bool.and_eq_true, List.all_eq_true] at hf
            exact hf.2 _ hxm
          have HT := Lib.hid (needsL_take c.needs k hlt)
          clear hxm HC HNs Hfit
          generalize c.needs[k] = x at *
          unfold needB at hnd
          simp only [Bool.and_eq_true, Bool.or_eq_true, decide_eq_true_iff] at hnd
          obtain ⟨⟨hx1, hx2⟩, hx3⟩ := hnd
          obtain ⟨wd, hwd, Hwd, HWd⟩ := word_let x.k
          obtain ⟨dc, hdc, Hdc, HDc⟩ := dig_let x.c (by omega) (by omega)
          obtain ⟨sn, hsn⟩ : ∃ sn : ByteArray, sn = ⟨(showL x.r).toArray⟩ := ⟨_, rfl⟩
          have hss : sn.size ≤ 9000 := by rw [hsn, ba_size]; exact hsh
          have Hsn : Hid (sn.data.toList = showL x.r) := Lib.hid (by rw [hsn, ba_list])
          have H8 := Lib.hid (need_cells x A' c' wr)
          have hVz : (wr.alloc (.cells (ndA x A' c') 35)).heap.size = wr.heap.size + 1 := by simp
          have HV : Hid (Below (w.heap.size + 1) w1 (wr.alloc (.cells (ndA x A' c') 35))) := Lib.hid (HF.out.alloc hbr _)
          have HUp : Hid (∀ W : World, Below (wr.heap.size + 1) (wr.alloc (.cells (ndA x A' c') 35)) W → Below (w.heap.size + 1) w1 W ∧ Below wr.heap.size wr W) := Lib.hid (fun W hb => ⟨HV.out.trans (hb.mono (by omega)), (H8.out W hb).1.out⟩)
          have HAl : Hid (∀ W : World, Calls Tryz.prog 46 #[.agg (rlA x.r A' c')] W fun e w' => e = .returned (.bool (alwB x.r)) ∧ Below W.heap.size W w') := Lib.hid (fun W => refAlways_any x.r.k x.r.p x.r.n x.r.f x.r.t A' x.r.l.length c' W)
          have HSh : Hid (alwB x.r = false → ∀ W : World, Below (wr.heap.size + 1) (wr.alloc (.cells (ndA x A' c') 35)) W → Calls Tryz.prog 47 #[.agg (rlA x.r A' c')] W fun e w' => e = .returned (.string sn) ∧ Below W.heap.size W w') := Lib.hid (fun ha W hb => by
            have h2 := HUp.out W hb
            have h3 := HBn.out.trans (h2.2.mono (by omega))
            have hr : rightR x.r = true := by
              rcases hx3 with h | h
              · rw [ha] at h; cases h
              · exact h.2
            rw [hsn]
            exact refShow_any x.r A' c' W Bn ⟨hch.kept (h2.2.mono (by have := HBn.out.size; omega)), by have := h3.size; omega, hr, hsm.1, hsm.2, by omega⟩)
          have Hnl : Hid (needL x = lineL ([[119, 97, 110, 116, 115], wordL x.k, [99, 111, 112, 105, 101, 115], itL x.c] ++ (if alwB x.r then [] else [[119, 105, 116, 104], showL x.r]))) := Lib.hid rfl
          have q0 := (H8.out _ (Below.refl _ _)).2.1
          have q1 := (H8.out _ (Below.refl _ _)).2.2.1
          clear hx1 hx2 hx3 hsm hsh hch hsn
          unfold ndA rlA at *
          generalize alwB x.r = al at *
          generalize x.r.l.length = xl at *
          generalize x.r.k = xk at *
          generalize x.r.p = xp at *
          generalize x.r.f = xf at *
          generalize x.r.t = xt at *
          generalize x.r.n = xn at *
          generalize x.k = yk at *
          generalize x.c = yc at *
          go_wp2_with fail
          generalize (wr.alloc (.cells #[.int .i64 yk, .int .i64 yc, .int .i64 xk, .int .i64 xp, .string xf, .string xt, .int .i64 xn, .slice A' xl c'] 35)) = V at *
          have p0 : ∀ m : WC V.heap.size V, m.w.cell? ⟨wr.heap.size, 0, none⟩ = some (.int .i64 yk) := fun m => (m.h.cell (p := ⟨wr.heap.size, 0, none⟩) (by show wr.heap.size < _; omega)).trans q0
          have p1 : ∀ m : WC V.heap.size V, m.w.cell? ⟨wr.heap.size, 1, none⟩ = some (.int .i64 yc) := fun m => (m.h.cell (p := ⟨wr.heap.size, 1, none⟩) (by show wr.heap.size < _; omega)).trans q1
          refine wp_region_class (by kernel_rfl) (by kernel_rfl) ?_
          repeat (go_big_quiet_step (first
            | (go_at_call 45; exact Calls.class_same (HWd.out _))
            | (go_at_call 43; exact Calls.class_of (Nat.le_refl _) (HDc.out _))))
          refine wpQuiet_nil ?_
          rintro w' ⟨m, rfl⟩
          have Hb4 := Lib.hid (m.h.mono (show wr.heap.size + 1 ≤ V.heap.size by omega))
          clear p0 p1 q0 q1 d0 d1 d2 d3 d4 d5 d6 d7
          generalize m.w = w4 at *
          clear m
          obtain ⟨_, l0, l1, l2, l3, l4, l5, l6, l7⟩ := H8.out w4 Hb4.out
          have hsT : (S ++ ⟨#[119, 97, 110, 116, 115, 32]⟩ ++ wd ++ ⟨#[32, 99, 111, 112, 105, 101, 115, 32]⟩ ++ dc).size ≤ S.size + 200 := by
            simp only [ByteArray.size_append]
            have e0 : (⟨#[119, 97, 110, 116, 115, 32]⟩ : ByteArray).size = 6 := rfl
            have e1 : (⟨#[32, 99, 111, 112, 105, 101, 115, 32]⟩ : ByteArray).size = 8 := rfl
            omega
          have HTl : Hid ((S ++ ⟨#[119, 97, 110, 116, 115, 32]⟩ ++ wd ++ ⟨#[32, 99, 111, 112, 105, 101, 115, 32]⟩ ++ dc).data.toList = S.data.toList ++ ([119, 97, 110, 116, 115, 32] ++ (wordL yk ++ ([32, 99, 111, 112, 105, 101, 115, 32] ++ itL yc)))) := Lib.hid (by
            simp only [tl_app, Hwd.out, Hdc.out]
            try simp)
          generalize (S ++ ⟨#[119, 97, 110, 116, 115, 32]⟩ ++ wd ++ ⟨#[32, 99, 111, 112, 105, 101, 115, 32]⟩ ++ dc) = T at *
          clear hwd hdc Hwd Hdc HWd HDc
          have Hq := Lib.hid (HUp.out w4 Hb4.out).1
          cases al with
          | true =>
            clear HSh
            go_wp2_with (first
              | (go_at_call 46; refine (HAl.out w4).mono ?_; rintro e w5 ⟨rfl, hb5⟩; have Hb5 := Lib.hid (Hb4.out.trans (hb5.mono (by have := Hb4.out.size; omega))); clear hb5 l0 l1 l2 l3 l4 l5 l6 l7; obtain ⟨_, l0, l1, l2, l3, l4, l5, l6, l7⟩ := H8.out w5 Hb5.out)
              | fail)
            have hs2 : (T ++ ⟨#[59, 10]⟩).size ≤ 12000 + 80010 * (k + 1) := by
              simp only [ByteArray.size_append]
              have e0 : (⟨#[59, 10]⟩ : ByteArray).size = 2 := rfl
              omega
            have HL2 : Hid ((T ++ ⟨#[59, 10]⟩).data.toList = headL c ++ needsL (c.needs.take (k + 1))) := Lib.hid (by
              rw [HT.out, Hnl.out, ← List.append_assoc, ← HS.out]
              simp only [tl_app, HTl.out, List.append_nil, if_true, if_false, Bool.false_eq_true, List.cons_append, List.nil_append, line_four, line_six]
              try simp)
            have HF2 := Lib.hid (HUp.out _ Hb5.out).1
            exact ⟨⟨k + 1, T ++ ⟨#[59, 10]⟩, by omega, by go_num, rfl, hs2, HL2, HF2⟩, by simp [RowKit.intOf]; omega⟩
          | false =>
            go_wp2_with (first
              | (go_at_call 46; refine (HAl.out w4).mono ?_; rintro e w5 ⟨rfl, hb5⟩; have Hb5 := Lib.hid (Hb4.out.trans (hb5.mono (by have := Hb4.out.size; omega))); clear hb5 l0 l1 l2 l3 l4 l5 l6 l7; obtain ⟨_, l0, l1, l2, l3, l4, l5, l6, l7⟩ := H8.out w5 Hb5.out)
              | (go_at_call 47; refine (HSh.out trivial w5 Hb5.out).mono ?_; rintro e w6 ⟨rfl, hb6⟩; have Hb6 := Lib.hid (Hb5.out.trans (hb6.mono (by have := Hb5.out.size; omega))); clear hb6)
              | fail)
            have hs2 : (T ++ ⟨#[32, 119, 105, 116, 104, 32]⟩ ++ sn ++ ⟨#[59, 10]⟩).size ≤ 12000 + 80010 * (k + 1) := by
              simp only [ByteArray.size_append]
              have e0 : (⟨#[32, 119, 105, 116, 104, 32]⟩ : ByteArray).size = 6 := rfl
              have e1 : (⟨#[59, 10]⟩ : ByteArray).size = 2 := rfl
              omega
            have HL2 : Hid ((T ++ ⟨#[32, 119, 105, 116, 104, 32]⟩ ++ sn ++ ⟨#[59, 10]⟩).data.toList = headL c ++ needsL (c.needs.take (k + 1))) := Lib.hid (by
              rw [HT.out, Hnl.out, ← List.append_assoc, ← HS.out]
              simp only [tl_app, HTl.out, Hsn.out, List.append_nil, if_true, if_false, Bool.false_eq_true, List.cons_append, List.nil_append, line_four, line_six]
              try simp)
            have HF2 := Lib.hid (HUp.out _ Hb6.out).1
            exact ⟨⟨k + 1, T ++ ⟨#[32, 119, 105, 116, 104, 32]⟩ ++ sn ++ ⟨#[59, 10]⟩, by omega, by go_num, rfl, hs2, HL2, HF2⟩, by simp [RowKit.intOf]; omega⟩
        · have b1 : ¬ (k : Int) < (c.needs.length : Int) := by omega
          have HTx : Hid (S = ⟨(credL c).toArray⟩) := Lib.hid (ba_of (by
            have : c.needs.take k = c.needs := List.take_of_length_le (by omega)
            rw [HS.out, this]; rfl))
          have hSl : S.size = (credL c).length := by rw [HTx.out, ba_size]
          by_cases hl : (credL c).length ≤ 4096
          · have HE : Hid (printE c = (⟨(credL c).toArray⟩, 0)) := Lib.hid (by unfold printE; rw [Hfit.out, if_pos hl]; rfl)
            have b2 : ¬ (4096 : Int) < (S.size : Int) := by omega
            clear hSl hl
            go_wp2
            go_ret2
            exact ⟨by rw [HE.out, ← HTx.out]; rfl, HBn.out⟩
          · have HE : Hid (printE c = (⟨#[]⟩, 7)) := Lib.hid (by unfold printE; rw [Hfit.out, if_neg hl]; rfl)
            have b2 : (4096 : Int) < (S.size : Int) := by omega
            clear hSl hl
            go_wp2
            go_ret2
            exact ⟨by rw [HE.out]; rfl, HBn.out⟩
end Go.Proofs.YtbkffdfboloogaaGreatDoor
namespace Go.Proofs.YtbkffdfboloogaaGreatDoor
open Go.RowKit Go.Lib
set_option linter.unusedVariables false
set_option maxRecDepth 100000

set_option maxHeartbeats 4000000 in
theorem refPrint_no (c : Cr) (hc : Thin c) (hf : fitsB c = false) (A : Option Addr) (cp : Nat) (w : World) (Bn : Nat) (hN : Ns w Bn A c.needs) (hBn : Bn ≤ w.heap.size) (hE : Ev w) :
    Calls Tryz.prog 17 #[.agg (crA c A cp)] w fun e w' => e = .returned (.tuple #[.string (printE c).1, .int .i64 (printE c).2]) ∧ Below w.heap.size w w' := by
  have hb1 : Below w.heap.size w (w.alloc (.cells (crA c A cp) 26)) := (Below.refl _ _).alloc (Nat.le_refl _) _
  have hz1 : (w.alloc (.cells (crA c A cp) 26)).heap.size = w.heap.size + 1 := by simp
  have H18 : Hid (∀ W : World, Below (w.heap.size + 1) (w.alloc (.cells (crA c A cp) 26)) W → Hid (Below w.heap.size w W)) := Lib.hid (fun W hb => Lib.hid (hb1.trans (hb.mono (by omega))))
  have Hbk : Hid ((w.alloc (.cells (crA c A cp) 26)).heap[w.heap.size]? = some (.cells (crA c A cp) 26 (0, 0))) := Lib.hid (heap_alloc_new w _)
  have HI := Lib.hid (crA_size c A cp)
  have HFt := Lib.hid (fits_any c hc.fair A cp (w.alloc (.cells (crA c A cp) 26)) Bn (hN.kept (hb1.mono hBn)) (by omega) (hE.all hb1).wd)
  rw [hf] at HFt
  have HE : Hid (printE c = (⟨#[]⟩, 1)) := Lib.hid (by unfold printE; rw [hf]; rfl)
  rw [HE.out]
  clear hN hE hc hb1 hf
  go_enter Tryz.func17, Tryz.ntmps17
  go_wp2_with (first
    | (go_at_call 42; refine HFt.out.mono ?_; rintro e w2 ⟨rfl, hb2⟩; rw [hz1] at hb2; have HBN := H18.out w2 hb2; clear hb2)
    | (refine wpList_load_row rfl 26 (.tmp 1) rfl w.heap.size rfl 26 (crA c A cp) (0, 0) _ Hbk.out Tryz.underlying26 rfl HI.out ?_)
    | fail)
  go_ret2
  exact ⟨rfl, HBN.out⟩
theorem refPrint_all (c : Cr) (hc : Thin c) (A : Option Addr) (cp : Nat) (w : World) (Bn : Nat) (hN : Ns w Bn A c.needs) (hBn : Bn ≤ w.heap.size) (hE : Ev w) :
    Calls Tryz.prog 17 #[.agg (crA c A cp)] w fun e w' => e = .returned (.tuple #[.string (printE c).1, .int .i64 (printE c).2]) ∧ Below w.heap.size w w' := by
  cases hf : fitsB c with
  | true => exact refPrint_any c hc hf A cp w Bn hN hBn hE
  | false => exact refPrint_no c hc hf A cp w Bn hN hBn hE
set_option maxHeartbeats 2000000 in
theorem refMay_any (c : Cr) (hc : Thin c) (A : Option Addr) (cp : Nat) (w : World) (Bn : Nat) (hN : Ns w Bn A c.needs) (hBn : Bn ≤ w.heap.size) (hE : Ev w) :
    Calls Tryz.prog 8 #[.agg (crA c A cp)] w fun e w' => e = .returned (.bool (mayB c)) ∧ Below w.heap.size w w' := by
  have hb1 : Below w.heap.size w (w.alloc (.cells (crA c A cp) 26)) := (Below.refl _ _).alloc (Nat.le_refl _) _
  have hz1 : (w.alloc (.cells (crA c A cp) 26)).heap.size = w.heap.size + 1 := by simp
  have HP := Lib.hid (refPrint_all c hc A cp (w.alloc (.cells (crA c A cp) 26)) Bn (hN.kept (hb1.mono hBn)) (by omega) (hE.all hb1))
  have HB1 := Lib.hid hb1
  have Hz1 := Lib.hid hz1
  rw [may_print]
  have Hbk : Hid ((w.alloc (.cells (crA c A cp) 26)).heap[w.heap.size]? = some (.cells (crA c A cp) 26 (0, 0))) := Lib.hid (heap_alloc_new w _)
  have HI := Lib.hid (crA_size c A cp)
  clear hN hE hc hb1 hz1
  generalize printE c = pe at *
  obtain ⟨t, n⟩ := pe
  simp only at HP ⊢
  go_enter Tryz.func8, Tryz.ntmps8
  go_wp2_with (first
    | (go_at_call 17; refine HP.out.mono ?_; rintro e w2 ⟨rfl, hb2⟩; have HB2 := Lib.hid (HB1.out.trans (hb2.mono (by rw [Hz1.out]; omega))); clear hb2)
    | (refine wpList_load_row rfl 26 (.tmp 1) rfl w.heap.size rfl 26 (crA c A cp) (0, 0) _ Hbk.out Tryz.underlying26 rfl HI.out ?_)
    | fail)
  go_ret
  exact ⟨rfl, HB2.out⟩
end Go.Proofs.YtbkffdfboloogaaGreatDoor
