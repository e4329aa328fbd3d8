/- syntax.write. -/
import Derived.Test.YtbkffdfboloogaaGreatDoorMU
import Derived.Deep.RegionHeld3
import Derived.Test.YtbkffdfboloogaaGreatDoorMR
namespace Go.Proofs.YtbkffdfboloogaaGreatDoor
open Go.RowKit Go.Lib
set_option linter.unusedVariables false
set_option maxRecDepth 100000

theorem alloc_oldW (W : World) (o : Obj) {q : Nat} (hq : q < W.heap.size) : (W.alloc o).heap[q]? = W.heap[q]? := by
  first
    | exact heap_alloc_old _ _ hq
    | exact heap_alloc_old _ _ _ hq

theorem str_info : (Tryz.prog.info? 9).map (fun i => (i.zero, i.size, i.bytes)) = some (some (.string ByteArray.empty), 1, 16) := by kernel_rfl
theorem nm_size {s : ByteArray} (h : nmB s = true) : s.size ≤ 16 := by
  unfold nmB nameB at h
  simp only [Bool.and_eq_true, decide_eq_true_iff] at h
  have := h.1.1.2
  simpa using this
/-- a credit that may be written -/
structure Slim (c : Cr) : Prop where
  fair : Fair c
  fits : fitsB c = true
  nine : c.needs.length ≤ 9
  show_ : ∀ x ∈ c.needs, (showL x.r).length ≤ 39000000
/-- what the walk of a credit's text needs of its parts -/
structure Sizes (c : Cr) : Prop where
  num : c.num.size ≤ 16
  app : c.app.size ≤ 16
  ben : c.ben.size ≤ 16
  iss : c.iss.size ≤ 16
  con : c.con.size ≤ 16
  frm : c.frm.size ≤ 16
  dst : c.dst.size ≤ 16
  cur : c.cur.size = 3
  am0 : 1 ≤ c.amt
  am1 : c.amt ≤ 1099511627776
  ab0 : 0 ≤ c.abo
  ab1 : c.abo ≤ 1000
  be0 : 0 ≤ c.bel
  be1 : c.bel ≤ 1000
  la0 : 0 ≤ c.lat
  la1 : c.lat ≤ 1048576
  ex0 : 0 ≤ c.exp
  ex1 : c.exp ≤ 1048576
  wi0 : 0 ≤ c.wit
  wi1 : c.wit ≤ 1048576
  te0 : 0 ≤ c.ten
  te1 : c.ten ≤ 1048576
theorem fits_sizes {c : Cr} (h : fitsB c = true) : Sizes c := by
  unfold fitsB at h
  simp only [Bool.and_eq_true, decide_eq_true_iff, Bool.or_eq_true] at h
  obtain ⟨⟨⟨⟨⟨⟨⟨⟨⟨⟨⟨⟨⟨⟨⟨⟨h1, h2⟩, h3⟩, h4⟩, h5⟩, h6⟩, h7⟩, h8⟩, h9⟩, h10⟩, h11⟩, h12⟩, h13⟩, h14⟩, h15⟩, h16⟩, h17⟩ := h
  refine ⟨nm_size h1, nm_size h2, nm_size h3, nm_size h4, ?_, nm_size h5, nm_size h6, ?_, h9.1, h9.2, h10.1, h10.2, h11.1, h11.2, h12.1, h12.2, h13.1, h13.2, h14.1, h14.2, h15.1, h15.2⟩
  · rcases h7 with h7 | h7
    · have : c.con.size = 0 := by simpa using h7
      omega
    · exact nm_size h7
  · unfold codeB at h8
    simp only [Bool.and_eq_true, decide_eq_true_iff] at h8
    simpa using h8.1
theorem it_size {n : Int} (h0 : 0 ≤ n) (h1 : n ≤ 1099511627776) : (⟨(itL n).toArray⟩ : ByteArray).size ≤ 100 := by
  have := (decT_size n (by omega) (by omega)).2
  have e : (⟨(itL n).toArray⟩ : ByteArray).size = (decT n).size := rfl
  omega
theorem yes_size (b : Bool) : (⟨(yesL b).toArray⟩ : ByteArray).size ≤ 100 := by cases b <;> decide

set_option maxHeartbeats 8000000 in
theorem write_any (c : Cr) (hc : Slim c) (A : Option Addr) (cp : Nat) (w : World) (Bn : Nat) (hN : Ns w Bn A c.needs) (hBn : Bn ≤ w.heap.size) (hE : Ev w) :
    Calls Tryz.prog 61 #[.agg (crA c A cp)] w fun e w' => e = .returned (.string ⟨(credL c).toArray⟩) ∧ Below w.heap.size w w' := by
  have hb1 : Below w.heap.size w (w.alloc (.cells (crA c A cp) 26)) := (Below.refl _ _).alloc (Nat.le_refl _) _
  have hz1 : (w.alloc (.cells (crA c A cp) 26)).heap.size = w.heap.size + 1 := by simp
  have h18 := C18.new w c A cp 26
  have H18 : Hid (∀ W : World, Below (w.heap.size + 1) (w.alloc (.cells (crA c A cp) 26)) W → Hid (Below w.heap.size w W) ∧ C18 W w.heap.size c A cp) := Lib.hid (fun W hb => ⟨Lib.hid (hb1.trans (hb.mono (by omega))), h18.below hb (by omega)⟩)
  have HEv : Hid (∀ W : World, Below (w.heap.size + 1) (w.alloc (.cells (crA c A cp) 26)) W → Ev W) := Lib.hid (fun W hb => hE.all (hb1.trans (hb.mono (by omega))))
  have HIt : Hid (∀ (n : Int) (W : World), -9223372036854775808 ≤ n → n ≤ 9223372036854775807 → Below (w.heap.size + 1) (w.alloc (.cells (crA c A cp) 26)) W → Calls Tryz.prog 80 #[.int .i64 n] W fun e w' => e = .returned (.string ⟨(itL n).toArray⟩) ∧ Below W.heap.size W w') := Lib.hid (fun n W h0 h1 hb => itoa_any n W (HEv.out W hb).gl h0 h1)
  have HFm : Hid (∀ (n : Int) (W : World), -9223372036854775808 ≤ n → n ≤ 9223372036854775807 → Below (w.heap.size + 1) (w.alloc (.cells (crA c A cp) 26)) W → Calls Tryz.prog 63 #[.int .i64 n, .int .i64 10] W fun e w' => e = .returned (.string ⟨(itL n).toArray⟩) ∧ Below W.heap.size W w') := Lib.hid (fun n W h0 h1 hb => format_any n W (HEv.out W hb).gl h0 h1)
  have HYe := Lib.hid yesNo_any
  have HL2 : Hid (∀ (W : World) (n : Nat) (l : Bs) (s1 s2 : ByteArray), W.heap.size = n → s1.size ≤ 100 → s2.size ≤ 100 → l.length ≤ 800000000000 → Bw W (w.heap.size + 1) (w.heap.size + 1) l → w.heap.size + 1 ≤ W.heap.size → Calls Tryz.prog 93 #[.slice (some ⟨n, 0, none⟩) 2 2, .pointer (some ⟨w.heap.size + 1, 0, none⟩)] (W.alloc (.cells #[.string s1, .string s2] 9)) fun e w' => e = .returned (.tuple #[]) ∧ Bw w' (w.heap.size + 1) (w.heap.size + 1) (l ++ lineL [s1.data.toList, s2.data.toList]) ∧ Fr (w.heap.size + 1) (w.heap.size + 1) W w' ∧ (l ++ lineL [s1.data.toList, s2.data.toList]).length ≤ l.length + 810) := Lib.hid (fun W n l s1 s2 hn h1 h2 hl hb hB => by
    subst hn
    exact line_new 100 (by omega) [s1, s2] 2 rfl W _ _ l (by
    intro x hx
    simp only [List.mem_cons, List.not_mem_nil, or_false] at hx
    rcases hx with rfl | rfl <;> assumption) (by omega) hb hB (by omega))
  have HL3 : Hid (∀ (W : World) (n : Nat) (l : Bs) (s1 s2 s3 : ByteArray), W.heap.size = n → s1.size ≤ 100 → s2.size ≤ 100 → s3.size ≤ 100 → l.length ≤ 800000000000 → Bw W (w.heap.size + 1) (w.heap.size + 1) l → w.heap.size + 1 ≤ W.heap.size → Calls Tryz.prog 93 #[.slice (some ⟨n, 0, none⟩) 3 3, .pointer (some ⟨w.heap.size + 1, 0, none⟩)] (W.alloc (.cells #[.string s1, .string s2, .string s3] 9)) fun e w' => e = .returned (.tuple #[]) ∧ Bw w' (w.heap.size + 1) (w.heap.size + 1) (l ++ lineL [s1.data.toList, s2.data.toList, s3.data.toList]) ∧ Fr (w.heap.size + 1) (w.heap.size + 1) W w' ∧ (l ++ lineL [s1.data.toList, s2.data.toList, s3.data.toList]).length ≤ l.length + 810) := Lib.hid (fun W n l s1 s2 s3 hn h1 h2 h3 hl hb hB => by
    subst hn
    exact line_new 100 (by omega) [s1, s2, s3] 3 rfl W _ _ l (by
    intro x hx
    simp only [List.mem_cons, List.not_mem_nil, or_false] at hx
    rcases hx with rfl | rfl | rfl <;> assumption) (by omega) hb hB (by omega))
  have HL7 : Hid (∀ (W : World) (n : Nat) (l : Bs) (s1 s2 s3 s4 s5 s6 s7 : ByteArray), W.heap.size = n → s1.size ≤ 100 → s2.size ≤ 100 → s3.size ≤ 100 → s4.size ≤ 100 → s5.size ≤ 100 → s6.size ≤ 100 → s7.size ≤ 100 → l.length ≤ 800000000000 → Bw W (w.heap.size + 1) (w.heap.size + 1) l → w.heap.size + 1 ≤ W.heap.size → Calls Tryz.prog 93 #[.slice (some ⟨n, 0, none⟩) 7 7, .pointer (some ⟨w.heap.size + 1, 0, none⟩)] (W.alloc (.cells #[.string s1, .string s2, .string s3, .string s4, .string s5, .string s6, .string s7] 9)) fun e w' => e = .returned (.tuple #[]) ∧ Bw w' (w.heap.size + 1) (w.heap.size + 1) (l ++ lineL [s1.data.toList, s2.data.toList, s3.data.toList, s4.data.toList, s5.data.toList, s6.data.toList, s7.data.toList]) ∧ Fr (w.heap.size + 1) (w.heap.size + 1) W w' ∧ (l ++ lineL [s1.data.toList, s2.data.toList, s3.data.toList, s4.data.toList, s5.data.toList, s6.data.toList, s7.data.toList]).length ≤ l.length + 810) := Lib.hid (fun W n l s1 s2 s3 s4 s5 s6 s7 hn h1 h2 h3 h4 h5 h6 h7 hl hb hB => by
    subst hn
    exact line_new 100 (by omega) [s1, s2, s3, s4, s5, s6, s7] 7 rfl W _ _ l (by
    intro x hx
    simp only [List.mem_cons, List.not_mem_nil, or_false] at hx
    rcases hx with rfl | rfl | rfl | rfl | rfl | rfl | rfl <;> assumption) (by omega) hb hB (by omega))
  obtain ⟨f1, f2, f3, f4, f5, f6, f7, f8, f9, f10, f11, f12, f13, f14, f15, f16, f17, f18, f19, f20, f21, f22⟩ := fits_sizes hc.fits
  have i1 := it_size (n := c.amt) (by omega) (by omega)
  have i2 := it_size (n := c.abo) (by omega) (by omega)
  have i3 := it_size (n := c.bel) (by omega) (by omega)
  have i4 := it_size (n := c.lat) (by omega) (by omega)
  have i5 := it_size (n := c.exp) (by omega) (by omega)
  have i6 := it_size (n := c.wit) (by omega) (by omega)
  have i7 := it_size (n := c.ten) (by omega) (by omega)
  have y1 := yes_size c.par
  have y2 := yes_size c.chg
  have s1 : c.num.size ≤ 100 := by omega
  have s2 : c.app.size ≤ 100 := by omega
  have s3 : c.ben.size ≤ 100 := by omega
  have s4 : c.iss.size ≤ 100 := by omega
  have s5 : c.con.size ≤ 100 := by omega
  have s6 : c.frm.size ≤ 100 := by omega
  have s7 : c.dst.size ≤ 100 := by omega
  have s8 : c.cur.size ≤ 100 := by omega
  have p1 : -9223372036854775808 ≤ c.amt := by omega
  have q1 : c.amt ≤ 9223372036854775807 := by omega
  have p2 : -9223372036854775808 ≤ c.abo := by omega
  have q2 : c.abo ≤ 9223372036854775807 := by omega
  have p3 : -9223372036854775808 ≤ c.bel := by omega
  have q3 : c.bel ≤ 9223372036854775807 := by omega
  have p4 : -9223372036854775808 ≤ c.lat := by omega
  have q4 : c.lat ≤ 9223372036854775807 := by omega
  have p5 : -9223372036854775808 ≤ c.exp := by omega
  have q5 : c.exp ≤ 9223372036854775807 := by omega
  have p6 : -9223372036854775808 ≤ c.wit := by omega
  have q6 : c.wit ≤ 9223372036854775807 := by omega
  have p7 : -9223372036854775808 ≤ c.ten := by omega
  have q7 : c.ten ≤ 9223372036854775807 := by omega
  have hz1le : w.heap.size + 1 ≤ (w.alloc (.cells (crA c A cp) 26)).heap.size := by omega
  clear f1 f2 f3 f4 f5 f6 f7 f8 f9 f10 f11 f12 f13 f14 f15 f16 f17 f18 f19 f20 f21 f22
  have HNs := Lib.hid hN
  have HB1 := Lib.hid hb1
  have HC := Lib.hid hc
  have Hb : Hid (Below (w.heap.size + 1) (w.alloc (.cells (crA c A cp) 26)) ((w.alloc (.cells (crA c A cp) 26)).alloc (.cells #[.pointer none, .slice none 0 0] 121))) := Lib.hid ((Below.refl _ _).alloc (by omega) _)
  have Hw : Hid (Bw ((w.alloc (.cells (crA c A cp) 26)).alloc (.cells #[.pointer none, .slice none 0 0] 121)) (w.heap.size + 1) (w.heap.size + 1) []) := Lib.hid (by have := Bw.new (w.alloc (.cells (crA c A cp) 26)); rwa [hz1] at this)
  have Hl : Hid (([] : Bs).length ≤ 0) := Lib.hid (Nat.le_refl _)
  obtain ⟨HBN, k0, k1, k2, k3, k4, k5, k6, k7, k8, k9, k10, k11, k12, k13, k14, k15, k16, k17⟩ := H18.out _ Hb.out
  clear hN hE hc hb1 h18
  unfold crA at *
  go_enter Tryz.func61, Tryz.ntmps61
  have hcz0 : (c.con.toList = [] ∧ c.con.size = 0 ∧ c.con.toList.isEmpty = true) ∨ (¬ c.con.toList = [] ∧ ¬ c.con.size = 0 ∧ c.con.toList.isEmpty = false) := by
    have h := emp_eq c.con
    by_cases he : c.con.toList = []
    · left
      refine ⟨he, ?_, by rw [he]; rfl⟩
      rw [he] at h
      simpa using h.symm
    · right
      refine ⟨he, fun h0 => he ?_, by cases hl : c.con.toList with | nil => exact absurd hl he | cons a b => rfl⟩
      rw [h0] at h
      simpa using h
  rcases hcz0 with ⟨hcon, hcz, hce⟩ | ⟨hcon, hcz, hce⟩
  all_goals
    go_wp2_with (first
      | (go_at_call 93; (with_reducible refine (HL2.out _ _ _ _ _ (by first | rfl | simp) (by first | assumption | decide) (by first | assumption | decide) (Nat.le_trans Hl.out (by decide)) Hw.out (Nat.le_trans hz1le Hb.out.size)).mono ?_); rintro e w3 ⟨rfl, hb3, hf3, hl3⟩; have Hb' := Lib.hid (Hb.out.trans hf3.below); have Hw' := Lib.hid hb3; have Hl' := Lib.hid (Nat.le_trans hl3 (Nat.add_le_add_right Hl.out 810)); clear hb3 hf3 hl3 Hl; have Hl := Hl'; clear Hl'; clear Hb Hw HBN k0 k1 k2 k3 k4 k5 k6 k7 k8 k9 k10 k11 k12 k13 k14 k15 k16 k17; obtain ⟨HBN, k0, k1, k2, k3, k4, k5, k6, k7, k8, k9, k10, k11, k12, k13, k14, k15, k16, k17⟩ := H18.out w3 Hb'.out; have Hb := Hb'; have Hw := Hw'; clear Hb' Hw')
      | fail)
    go_region_held3 (fun w' => w'.cell? ⟨w.heap.size, 7, none⟩ = some (.string c.cur) ∧ w'.cell? ⟨w.heap.size, 8, none⟩ = some (.int .i64 c.amt) ∧ w'.cell? ⟨w.heap.size, 9, none⟩ = some (.int .i64 c.abo) ∧ w'.cell? ⟨w.heap.size, 10, none⟩ = some (.int .i64 c.bel))
      (first | go_keep | exact ⟨k7, k8, k9, k10⟩)
      (first
      | (go_at_call 63; refine (HFm.out _ _ (by assumption) (by assumption) (by first | exact Hb.out | exact Hb.out.drew)).mono ?_; rintro e w3 ⟨rfl, hb3⟩; have Hb' := Lib.hid (show Below (w.heap.size + 1) _ w3 from by first | exact Hb.out.trans (hb3.mono (Nat.le_trans hz1le Hb.out.size)) | exact Hb.out.drew.trans (hb3.mono (Nat.le_trans hz1le Hb.out.drew.size))); have Hw' := Lib.hid (show Bw w3 _ _ _ from by first | exact Hw.out.below hb3 | exact Hw.out.drew.below hb3); clear hb3; clear Hb Hw HBN k0 k1 k2 k3 k4 k5 k6 k7 k8 k9 k10 k11 k12 k13 k14 k15 k16 k17; obtain ⟨HBN, k0, k1, k2, k3, k4, k5, k6, k7, k8, k9, k10, k11, k12, k13, k14, k15, k16, k17⟩ := H18.out w3 Hb'.out; have Hb := Hb'; have Hw := Hw'; clear Hb' Hw')
      | (go_at_call 80; refine (HIt.out _ _ (by assumption) (by assumption) (by first | exact Hb.out | exact Hb.out.drew)).mono ?_; rintro e w3 ⟨rfl, hb3⟩; have Hb' := Lib.hid (show Below (w.heap.size + 1) _ w3 from by first | exact Hb.out.trans (hb3.mono (Nat.le_trans hz1le Hb.out.size)) | exact Hb.out.drew.trans (hb3.mono (Nat.le_trans hz1le Hb.out.drew.size))); have Hw' := Lib.hid (show Bw w3 _ _ _ from by first | exact Hw.out.below hb3 | exact Hw.out.drew.below hb3); clear hb3; clear Hb Hw HBN k0 k1 k2 k3 k4 k5 k6 k7 k8 k9 k10 k11 k12 k13 k14 k15 k16 k17; obtain ⟨HBN, k0, k1, k2, k3, k4, k5, k6, k7, k8, k9, k10, k11, k12, k13, k14, k15, k16, k17⟩ := H18.out w3 Hb'.out; have Hb := Hb'; have Hw := Hw'; clear Hb' Hw')
      | (go_at_call 93; (refine (HL7.out _ _ _ _ _ _ _ _ _ _ (by first | rfl | simp) (by first | assumption | decide) (by first | assumption | decide) (by first | assumption | decide) (by first | assumption | decide) (by first | assumption | decide) (by first | assumption | decide) (by first | assumption | decide) (Nat.le_trans Hl.out (by decide)) Hw.out (Nat.le_trans hz1le Hb.out.size)).mono ?_); rintro e w3 ⟨rfl, hb3, hf3, hl3⟩; have Hb' := Lib.hid (show Below (w.heap.size + 1) _ w3 from Hb.out.trans hf3.below); have Hw' := Lib.hid hb3; have Hl' := Lib.hid (Nat.le_trans hl3 (Nat.add_le_add_right Hl.out 810)); clear hb3 hf3 hl3 Hl; have Hl := Hl'; clear Hl'; clear Hb Hw HBN k0 k1 k2 k3 k4 k5 k6 k7 k8 k9 k10 k11 k12 k13 k14 k15 k16 k17; obtain ⟨HBN, k0, k1, k2, k3, k4, k5, k6, k7, k8, k9, k10, k11, k12, k13, k14, k15, k16, k17⟩ := H18.out w3 Hb'.out; have Hb := Hb'; have Hw := Hw'; clear Hb' Hw')
      | fail)
    rcases (show c.ten = 0 ∨ c.ten ≠ 0 by omega) with hten | hten
    all_goals
      first
        | have e10 : (c.ten == 0) = true := by rw [beq_iff_eq]; exact hten
        | have e10 : (c.ten == 0) = false := by rw [beq_eq_false_iff_ne]; exact hten
      go_wp2_with (first
        | (go_at_call 80; refine (HIt.out _ _ (by assumption) (by assumption) Hb.out).mono ?_; rintro e w3 ⟨rfl, hb3⟩; have Hb' := Lib.hid (Hb.out.trans (hb3.mono (Nat.le_trans hz1le Hb.out.size))); have Hw' := Lib.hid (Hw.out.below hb3); clear hb3; clear Hb Hw HBN k0 k1 k2 k3 k4 k5 k6 k7 k8 k9 k10 k11 k12 k13 k14 k15 k16 k17; obtain ⟨HBN, k0, k1, k2, k3, k4, k5, k6, k7, k8, k9, k10, k11, k12, k13, k14, k15, k16, k17⟩ := H18.out w3 Hb'.out; have Hb := Hb'; have Hw := Hw'; clear Hb' Hw')
        | (go_at_call 93; (with_reducible refine (HL2.out _ _ _ _ _ (by first | rfl | simp) (by first | assumption | decide) (by first | assumption | decide) (Nat.le_trans Hl.out (by decide)) Hw.out (Nat.le_trans hz1le Hb.out.size)).mono ?_); rintro e w3 ⟨rfl, hb3, hf3, hl3⟩; have Hb' := Lib.hid (Hb.out.trans hf3.below); have Hw' := Lib.hid hb3; have Hl' := Lib.hid (Nat.le_trans hl3 (Nat.add_le_add_right Hl.out 810)); clear hb3 hf3 hl3 Hl; have Hl := Hl'; clear Hl'; clear Hb Hw HBN k0 k1 k2 k3 k4 k5 k6 k7 k8 k9 k10 k11 k12 k13 k14 k15 k16 k17; obtain ⟨HBN, k0, k1, k2, k3, k4, k5, k6, k7, k8, k9, k10, k11, k12, k13, k14, k15, k16, k17⟩ := H18.out w3 Hb'.out; have Hb := Hb'; have Hw := Hw'; clear Hb' Hw')
        | (go_at_call 93; (with_reducible refine (HL3.out _ _ _ _ _ _ (by first | rfl | simp) (by first | assumption | decide) (by first | assumption | decide) (by first | assumption | decide) (Nat.le_trans Hl.out (by decide)) Hw.out (Nat.le_trans hz1le Hb.out.size)).mono ?_); rintro e w3 ⟨rfl, hb3, hf3, hl3⟩; have Hb' := Lib.hid (Hb.out.trans hf3.below); have Hw' := Lib.hid hb3; have Hl' := Lib.hid (Nat.le_trans hl3 (Nat.add_le_add_right Hl.out 810)); clear hb3 hf3 hl3 Hl; have Hl := Hl'; clear Hl'; clear Hb Hw HBN k0 k1 k2 k3 k4 k5 k6 k7 k8 k9 k10 k11 k12 k13 k14 k15 k16 k17; obtain ⟨HBN, k0, k1, k2, k3, k4, k5, k6, k7, k8, k9, k10, k11, k12, k13, k14, k15, k16, k17⟩ := H18.out w3 Hb'.out; have Hb := Hb'; have Hw := Hw'; clear Hb' Hw')
        | (go_at_call 94; refine (HYe.out _ _).mono ?_; rintro e w3 ⟨rfl, rfl⟩)
        | fail)
      have Hhd : Hid (Bw w3 (w.heap.size + 1) (w.heap.size + 1) (headL c ++ needsL (c.needs.take 0))) := Lib.hid (by
        have h := Hw.out
        unfold headL
        first | rw [if_pos hcz] | rw [if_neg hcz]
        first | rw [if_pos hten] | rw [if_neg hten]
        try rw [List.append_nil]
        rw [List.take_zero, needsL, List.append_nil]
        exact h)
      have HhL : Hid ((headL c ++ needsL (c.needs.take 0)).length ≤ 12000 + 320000010 * 0) := Lib.hid (by
        have h := Hl.out
        unfold headL
        first | rw [if_pos hcz] | rw [if_neg hcz]
        first | rw [if_pos hten] | rw [if_neg hten]
        try rw [List.append_nil]
        rw [List.take_zero, needsL, List.append_nil]
        exact Nat.le_trans h (by decide))
      clear Hw Hl HL2 HL3 HL7 HYe HFm i1 i2 i3 i4 i5 i6 i7 y1 y2 s1 s2 s3 s4 s5 s6 s7 s8 p1 p2 p3 p4 p5 p6 p7 q1 q2 q3 q4 q5 q6 q7 e10 hcz hten hcon hce k0 k1 k2 k3 k4 k5 k6 k7 k8 k9 k10 k11 k12 k13 k14 k15 k16
      generalize (w.alloc (.cells #[.string c.num, .string c.app, .string c.ben, .string c.iss, .string c.con, .string c.frm, .string c.dst, .string c.cur, .int .i64 c.amt, .int .i64 c.abo, .int .i64 c.bel, .int .i64 c.lat, .int .i64 c.exp, .int .i64 c.wit, .int .i64 c.ten, .bool c.par, .bool c.chg, .slice A c.needs.length cp] 26)) = w1 at *
      go_loopw [108] (fun i wr => ∃ k : Nat, k ≤ c.needs.length ∧ i = .int .i64 (k : Int) ∧ Hid (Bw wr (w.heap.size + 1) (w.heap.size + 1) (headL c ++ needsL (c.needs.take k))) ∧ Hid (Below (w.heap.size + 1) w1 wr) ∧ Hid ((headL c ++ needsL (c.needs.take k)).length ≤ 12000 + 320000010 * k)) (fun i _ => c.needs.length - (RowKit.intOf i).toNat)
      case atStart => exact ⟨0, Nat.zero_le _, rfl, Hhd, Hb, HhL⟩
      case round =>
        clear Hhd HhL Hb HBN k17
        obtain ⟨k, hk, rfl, HB, HF, HK⟩ := hrel
        have hbr : w.heap.size + 1 ≤ wr.heap.size := Nat.le_trans hz1le HF.out.size
        by_cases hlt : k < c.needs.length
        · have b1 : (k : Int) < (c.needs.length : Int) := by omega
          obtain ⟨HBn, _⟩ := H18.out wr HF.out
          obtain ⟨g, off, A', c', rfl, hg, h8, hch⟩ := (HNs.out.kept (HBn.out.mono hBn)).at_ hlt
          obtain ⟨d0, d1, d2, d3, d4, d5, d6, d7⟩ := h8
          have hxm := List.getElem_mem hlt
          have hsm := HC.out.fair.need _ hxm
          have hsh := HC.out.show_ _ hxm
          have hnd : needB c.needs[k] = true := by
            have hf := HC.out.fits
            rw [fits_parts] at hf
            simp only [Bool.and_eq_true, List.all_eq_true] at hf
            exact hf.2 _ hxm
          have HT := Lib.hid (needsL_take c.needs k hlt)
          have h9 := HC.out.nine
          clear hxm HC HNs
          generalize c.needs[k] = x at *
          unfold needB at hnd
          simp only [Bool.and_eq_true, Bool.or_eq_true, decide_eq_true_iff] at hnd
          obtain ⟨⟨hx1, hx2⟩, hx3⟩ := hnd
          obtain ⟨m, hm⟩ := Int.eq_ofNat_of_zero_le hx1.1
          have hm6 : m < 6 := by omega
          have H8 := Lib.hid (need_cells x A' c' wr)
          have HV : Hid (Below (w.heap.size + 1) w1 (wr.alloc (.cells (ndA x A' c') 35))) := Lib.hid (HF.out.alloc hbr _)
          have HUp : Hid (∀ W : World, Below (wr.heap.size + 1) (wr.alloc (.cells (ndA x A' c') 35)) W → Below (w.heap.size + 1) w1 W ∧ Below wr.heap.size wr W) := Lib.hid (fun W hb => ⟨HV.out.trans (hb.mono (by omega)), (H8.out W hb).1.out⟩)
          have HBV : Hid (∀ W : World, Below wr.heap.size wr W → Bw W (w.heap.size + 1) (w.heap.size + 1) (headL c ++ needsL (c.needs.take k))) := Lib.hid (fun W hb => HB.out.below hb)
          have hpp : (wr.alloc (.cells (ndA x A' c') 35)).cell? ⟨0, m, none⟩ = some (.string ⟨(wordL m).toArray⟩) := (HEv.out _ HV.out).pp m hm6
          have hwd : (⟨(wordL m).toArray⟩ : ByteArray).size ≤ 40000000 := by
            rcases (show m = 0 ∨ m = 1 ∨ m = 2 ∨ m = 3 ∨ m = 4 ∨ m = 5 by omega) with rfl | rfl | rfl | rfl | rfl | rfl <;> decide
          have hcs : (⟨(itL x.c).toArray⟩ : ByteArray).size ≤ 40000000 := Nat.le_trans (it_size (by omega) (by omega)) (by decide)
          have hss : (⟨(showL x.r).toArray⟩ : ByteArray).size ≤ 40000000 := by
            show (showL x.r).toArray.size ≤ 40000000
            rw [List.size_toArray]
            omega
          have pc1 : -9223372036854775808 ≤ x.c := by omega
          have pc2 : x.c ≤ 9223372036854775807 := by omega
          have HAl : Hid (∀ W : World, Calls Tryz.prog 95 #[.agg (rlA x.r A' c')] W fun e w' => e = .returned (.bool (alwB x.r)) ∧ Below W.heap.size W w') := Lib.hid (fun W => always_any x.r.k x.r.p x.r.n x.r.f x.r.t A' x.r.l.length c' W)
          have hb8 : 12000 + 320000010 * k ≤ 900000000000 := by omega
          have HLn : Hid (∀ (L : List ByteArray) (g2 cp2 : Nat) (W : World), (∀ (j : Nat) y, L[j]? = some y → W.cell? ⟨g2, 0 + j, none⟩ = some (.string y)) → g2 < W.heap.size → L.length ≤ cp2 → (∀ y ∈ L, y.size ≤ 40000000) → L.length ≤ 8 → Below wr.heap.size wr W → Calls Tryz.prog 93 #[.slice (some ⟨g2, 0, none⟩) L.length cp2, .pointer (some ⟨w.heap.size + 1, 0, none⟩)] W fun e w' => e = .returned (.tuple #[]) ∧ Bw w' (w.heap.size + 1) (w.heap.size + 1) (headL c ++ needsL (c.needs.take k) ++ lineL (L.map (·.data.toList))) ∧ Fr (w.heap.size + 1) (w.heap.size + 1) W w') := Lib.hid (fun L g2 cp2 W h1 h2 h3 h4 h5 hb => line_bld 40000000 (Nat.le_refl _) L g2 cp2 W _ _ _ h1 h2 h3 h4 h5 (HBV.out W hb) (Nat.le_trans hbr hb.size) (Nat.le_trans HK.out hb8))
          have HLl : Hid (∀ L : List ByteArray, (∀ y ∈ L, y.size ≤ 40000000) → L.length ≤ 8 → (headL c ++ needsL (c.needs.take k) ++ lineL (L.map (·.data.toList))).length ≤ 12000 + 320000010 * (k + 1)) := Lib.hid (fun L h1 h2 => by
            have h3 := line_len 40000000 L h1 h2
            have h4 := HK.out
            unfold lineL
            rw [List.length_append] at h4
            rw [List.length_append, List.length_append, List.length_append]
            have h5 : ([59, 10] : Bs).length = 2 := rfl
            omega)
          have Hnl : Hid (needL x = lineL ([[119, 97, 110, 116, 115], wordL (m : Int), [99, 111, 112, 105, 101, 115], itL x.c] ++ (if alwB x.r then [] else [[119, 105, 116, 104], showL x.r]))) := Lib.hid (by rw [← hm]; rfl)
          have HSh : Hid (alwB x.r = false → ∀ W : World, Below (wr.heap.size + 1) (wr.alloc (.cells (ndA x A' c') 35)) W → Calls Tryz.prog 96 #[.agg (rlA x.r A' c')] W fun e w' => e = .returned (.string ⟨(showL x.r).toArray⟩) ∧ Below W.heap.size W w') := Lib.hid (fun ha W hb => by
            have h2 := (HUp.out W hb)
            have h3 := HBn.out.trans (h2.2.mono (by omega))
            have hr : rightR x.r = true := by
              rcases hx3 with h | h
              · rw [ha] at h; cases h
              · exact h.2
            exact showText_any x.r A' c' W Bn (hch.kept (h2.2.mono (by have := HBn.out.size; omega))) (by have := h3.size; omega) (HEv.out W h2.1) hr hsm.1 hsm.2 (by omega))
          clear hx1 hx2 hx3 hsm hsh hch h9 HB HK HBn
          obtain ⟨_, e0, e1, e2, e3, e4, e5, e6, e7⟩ := H8.out _ (Below.refl _ _)
          have hVz : (wr.alloc (.cells (ndA x A' c') 35)).heap.size = wr.heap.size + 1 := by simp
          unfold ndA rlA at *
          rw [hm] at H8 HV HUp HSh hpp e0 e1 e2 e3 e4 e5 e6 e7 hVz d0
          clear hm
          obtain ⟨dn, hdn⟩ : ∃ dn : ByteArray, dn = ⟨(wordL (m : Int)).toArray⟩ := ⟨_, rfl⟩
          obtain ⟨cn, hcn⟩ : ∃ cn : ByteArray, cn = ⟨(itL x.c).toArray⟩ := ⟨_, rfl⟩
          obtain ⟨sn, hsn⟩ : ∃ sn : ByteArray, sn = ⟨(showL x.r).toArray⟩ := ⟨_, rfl⟩
          rw [← hdn] at hpp hwd
          rw [← hcn] at hcs
          rw [← hsn] at hss HSh
          have HItc : Hid (∀ W : World, Below (w.heap.size + 1) w1 W → Calls Tryz.prog 80 #[.int .i64 x.c] W fun e w' => e = .returned (.string cn) ∧ Below W.heap.size W w') := Lib.hid (fun W hb => by rw [hcn]; exact HIt.out _ _ pc1 pc2 hb)
          have HPp : Hid (∀ W : World, Below (w.heap.size + 1) w1 W → W.cell? ⟨0, m, none⟩ = some (.string dn)) := Lib.hid (fun W hb => by rw [hdn]; exact (HEv.out W hb).pp m hm6)
          have Hdl : Hid (dn.data.toList = wordL (m : Int) ∧ cn.data.toList = itL x.c ∧ sn.data.toList = showL x.r) := Lib.hid (by subst hdn hcn hsn; exact ⟨rfl, rfl, rfl⟩)
          clear hdn hcn hsn pc1 pc2 HIt HEv
          have hm0 : (0 : Int) ≤ (m : Int) := by omega
          have hm1 : (m : Int) < 6 := by omega
          generalize alwB x.r = al at *
          generalize x.r.l.length = xl at *
          generalize x.r.k = xk at *
          generalize x.r.p = xp at *
          generalize x.r.f = xf at *
          generalize x.r.t = xt at *
          generalize x.r.n = xn at *
          go_wp2_with fail
          generalize (wr.alloc (.cells #[.int .i64 (m : Int), .int .i64 x.c, .int .i64 xk, .int .i64 xp, .string xf, .string xt, .int .i64 xn, .slice A' xl c'] 35)) = V at *
          go_region_held3 (fun w' => w'.cell? ⟨wr.heap.size, 0, none⟩ = some (.int .i64 (m : Int)) ∧ w'.cell? ⟨0, m, none⟩ = some (.string dn) ∧ w'.cell? ⟨wr.heap.size, 1, none⟩ = some (.int .i64 x.c))
            (first | go_keep | exact ⟨j0, jp, j1⟩)
            (first
            | (go_at_call 80; refine (HItc.out _ (by first | exact HV.out | exact HV.out.drew)).mono ?_; rintro e w4 ⟨rfl, hb4⟩; have Hb4 := Lib.hid (show Below (wr.heap.size + 1) V w4 from (show Below V.heap.size V w4 from by first | exact hb4 | exact drewB hb4).mono (by omega)); obtain ⟨HBw4, j0, j1, j2, j3, j4, j5, j6, j7⟩ := H8.out w4 Hb4.out; have jp := HPp.out w4 (HUp.out w4 Hb4.out).1; clear hb4)
            | fail)
          have hz4 : wr.heap.size + 1 ≤ w4.heap.size := by have := Hb4.out.size; omega
          have Hb5 : Hid (Below (wr.heap.size + 1) V (w4.alloc (.cells #[.string ⟨#[119, 97, 110, 116, 115]⟩, .string dn, .string ⟨#[99, 111, 112, 105, 101, 115]⟩, .string cn] 9))) := Lib.hid (Hb4.out.alloc hz4 _)
          have hw5 : (w4.alloc (.cells #[.string ⟨#[119, 97, 110, 116, 115]⟩, .string dn, .string ⟨#[99, 111, 112, 105, 101, 115]⟩, .string cn] 9)).heap[w4.heap.size]? = some (.cells #[.string ⟨#[119, 97, 110, 116, 115]⟩, .string dn, .string ⟨#[99, 111, 112, 105, 101, 115]⟩, .string cn] 9 (0, 0)) := heap_alloc_new w4 _
          have hz5 : (w4.alloc (.cells #[.string ⟨#[119, 97, 110, 116, 115]⟩, .string dn, .string ⟨#[99, 111, 112, 105, 101, 115]⟩, .string cn] 9)).heap.size = w4.heap.size + 1 := by simp
          obtain ⟨_, l0, l1, l2, l3, l4, l5, l6, l7⟩ := H8.out _ Hb5.out
          have H45 : Hid (Below w4.heap.size w4 (w4.alloc (.cells #[.string ⟨#[119, 97, 110, 116, 115]⟩, .string dn, .string ⟨#[99, 111, 112, 105, 101, 115]⟩, .string cn] 9))) := Lib.hid ((Below.refl _ _).alloc (Nat.le_refl _) _)
          clear j0 j1 j2 j3 j4 j5 j6 j7 jp e0 e1 e2 e3 e4 e5 e6 e7 hpp d0 d1 d2 d3 d4 d5 d6 d7 HItc HPp
          generalize (w4.alloc (.cells #[.string ⟨#[119, 97, 110, 116, 115]⟩, .string dn, .string ⟨#[99, 111, 112, 105, 101, 115]⟩, .string cn] 9)) = w5 at *
          have Hs4 : Hid (∀ y ∈ ([⟨#[119, 97, 110, 116, 115]⟩, dn, ⟨#[99, 111, 112, 105, 101, 115]⟩, cn] : List ByteArray), y.size ≤ 40000000) := Lib.hid (fun y hy => by
            simp only [List.mem_cons, List.not_mem_nil, or_false] at hy
            rcases hy with rfl | rfl | rfl | rfl
            · decide
            · exact hwd
            · decide
            · exact hcs)
          cases al with
          | true =>
            have HLz : Hid (∀ W : World, Below w5.heap.size w5 W → Calls Tryz.prog 93 #[.slice (some ⟨w4.heap.size, 0, none⟩) 4 4, .pointer (some ⟨w.heap.size + 1, 0, none⟩)] W fun e w' => e = .returned (.tuple #[]) ∧ Bw w' (w.heap.size + 1) (w.heap.size + 1) (headL c ++ needsL (c.needs.take (k + 1))) ∧ Below (w.heap.size + 1) w1 w') := Lib.hid (fun W hb => by
              have h5 := Hb5.out.trans (hb.mono (by omega))
              have hu := HUp.out W h5
              have hW : W.heap[w4.heap.size]? = some (.cells #[.string ⟨#[119, 97, 110, 116, 115]⟩, .string dn, .string ⟨#[99, 111, 112, 105, 101, 115]⟩, .string cn] 9 (0, 0)) := (hb.block _ (by omega)).trans hw5
              refine (HLn.out [⟨#[119, 97, 110, 116, 115]⟩, dn, ⟨#[99, 111, 112, 105, 101, 115]⟩, cn] w4.heap.size 4 W (fun j y hj => by
                have hj4 : j < 4 := (List.getElem?_eq_some_iff.1 hj).1
                unfold World.cell?
                simp only [Nat.zero_add]
                rw [hW]
                rcases (show j = 0 ∨ j = 1 ∨ j = 2 ∨ j = 3 by omega) with rfl | rfl | rfl | rfl <;> simpa using hj) (by have := hb.size; omega) (by show 4 ≤ 4; omega) Hs4.out (by show 4 ≤ 8; omega) hu.2).mono ?_
              rintro e w' ⟨rfl, h1, h2⟩
              refine ⟨rfl, ?_, hu.1.trans h2.below⟩
              rw [HT.out, Hnl.out, ← List.append_assoc]
              simp only [if_true, List.append_nil]
              rw [← Hdl.out.1, ← Hdl.out.2.1]
              exact h1)
            have HLz2 : Hid ((headL c ++ needsL (c.needs.take (k + 1))).length ≤ 12000 + 320000010 * (k + 1)) := Lib.hid (by
              have h := HLl.out [⟨#[119, 97, 110, 116, 115]⟩, dn, ⟨#[99, 111, 112, 105, 101, 115]⟩, cn] Hs4.out (by show 4 ≤ 8; omega)
              rw [HT.out, Hnl.out, ← List.append_assoc]
              simp only [if_true, List.append_nil]
              rw [← Hdl.out.1, ← Hdl.out.2.1]
              exact h)
            clear HLn HLl HSh Hnl HT HUp HBV H8 HV
            go_wp2_with (first
              | (go_at_call 95; refine (HAl.out _).mono ?_; rintro e w6 ⟨rfl, hb6⟩; have Hb6 := Lib.hid hb6; clear hb6)
              | (go_at_call 93; refine (HLz.out _ Hb6.out).mono ?_; rintro e w7 ⟨rfl, hb7, hf7⟩; have HB7 := Lib.hid hb7; have HF7 := Lib.hid hf7; clear hb7 hf7)
              | fail)
            go_roundw
            case rel => exact ⟨k + 1, by omega, by go_num, HB7, HF7, HLz2⟩
            case measure => simp [RowKit.intOf]; omega
          | false =>
            have HSz : Hid (∀ W : World, Below w5.heap.size w5 W → Calls Tryz.prog 96 #[.agg #[.int .i64 xk, .int .i64 xp, .string xf, .string xt, .int .i64 xn, .slice A' xl c']] W fun e w' => e = .returned (.string sn) ∧ Below W.heap.size W w') := Lib.hid (fun W hb => HSh.out rfl W (Hb5.out.trans (hb.mono (by omega))))
            have HB8 : Hid (∀ W : World, Below w5.heap.size w5 W → W.cell? ⟨wr.heap.size, 2, none⟩ = some (.int .i64 xk) ∧ W.cell? ⟨wr.heap.size, 3, none⟩ = some (.int .i64 xp) ∧ W.cell? ⟨wr.heap.size, 4, none⟩ = some (.string xf) ∧ W.cell? ⟨wr.heap.size, 5, none⟩ = some (.string xt) ∧ W.cell? ⟨wr.heap.size, 6, none⟩ = some (.int .i64 xn) ∧ W.cell? ⟨wr.heap.size, 7, none⟩ = some (.slice A' xl c')) := Lib.hid (fun W hb => (H8.out W (Hb5.out.trans (hb.mono (by omega)))).2.2.2)
            have Hrow : Hid (∀ W : World, Below w5.heap.size w5 W → (W.alloc (.cells #[.string ⟨#[119, 105, 116, 104]⟩, .string sn] 9)).ownsRow w4.heap.size 9 1 (.slice (some ⟨w4.heap.size, 0, none⟩) 4 4) 4 [.string ⟨#[119, 97, 110, 116, 115]⟩, .string dn, .string ⟨#[99, 111, 112, 105, 101, 115]⟩, .string cn]) := Lib.hid (fun W hb => ⟨rfl, .inr ⟨w4.heap.size, 4, #[.string ⟨#[119, 97, 110, 116, 115]⟩, .string dn, .string ⟨#[99, 111, 112, 105, 101, 115]⟩, .string cn], rfl, Nat.le_refl _, (alloc_oldW _ _ (by have := hb.size; omega)).trans ((hb.block _ (by omega)).trans hw5), Nat.le_refl _, by unfold maxLen; omega, rfl, rfl⟩⟩)
            have Hs6 : Hid (∀ y ∈ ([⟨#[119, 97, 110, 116, 115]⟩, dn, ⟨#[99, 111, 112, 105, 101, 115]⟩, cn, ⟨#[119, 105, 116, 104]⟩, sn] : List ByteArray), y.size ≤ 40000000) := Lib.hid (fun y hy => by
              simp only [List.mem_cons, List.not_mem_nil, or_false] at hy
              rcases hy with rfl | rfl | rfl | rfl | rfl | rfl
              · decide
              · exact hwd
              · decide
              · exact hcs
              · decide
              · exact hss)
            have HLz2 : Hid ((headL c ++ needsL (c.needs.take (k + 1))).length ≤ 12000 + 320000010 * (k + 1) ∧ headL c ++ needsL (c.needs.take k) ++ lineL (([⟨#[119, 97, 110, 116, 115]⟩, dn, ⟨#[99, 111, 112, 105, 101, 115]⟩, cn, ⟨#[119, 105, 116, 104]⟩, sn] : List ByteArray).map (·.data.toList)) = headL c ++ needsL (c.needs.take (k + 1))) := Lib.hid (by
              have h := HLl.out [⟨#[119, 97, 110, 116, 115]⟩, dn, ⟨#[99, 111, 112, 105, 101, 115]⟩, cn, ⟨#[119, 105, 116, 104]⟩, sn] Hs6.out (by show 6 ≤ 8; omega)
              have e : headL c ++ needsL (c.needs.take k) ++ lineL (([⟨#[119, 97, 110, 116, 115]⟩, dn, ⟨#[99, 111, 112, 105, 101, 115]⟩, cn, ⟨#[119, 105, 116, 104]⟩, sn] : List ByteArray).map (·.data.toList)) = headL c ++ needsL (c.needs.take (k + 1)) := by
                rw [HT.out, Hnl.out, ← List.append_assoc]
                rw [← Hdl.out.1, ← Hdl.out.2.1, ← Hdl.out.2.2]
                rfl
              rw [e] at h
              exact ⟨h, e⟩)
            have HLz : Hid (∀ (W W8 : World) (g8 c8 : Nat), Below w5.heap.size w5 W → (W.alloc (.cells #[.string ⟨#[119, 105, 116, 104]⟩, .string sn] 9)).grownBy W8 (some w4.heap.size) → W8.ownsRow w4.heap.size 9 1 (.slice (some ⟨g8, 0, none⟩) 6 c8) 6 [.string ⟨#[119, 97, 110, 116, 115]⟩, .string dn, .string ⟨#[99, 111, 112, 105, 101, 115]⟩, .string cn, .string ⟨#[119, 105, 116, 104]⟩, .string sn] → Calls Tryz.prog 93 #[.slice (some ⟨g8, 0, none⟩) 6 c8, .pointer (some ⟨w.heap.size + 1, 0, none⟩)] W8 fun e w' => e = .returned (.tuple #[]) ∧ Bw w' (w.heap.size + 1) (w.heap.size + 1) (headL c ++ needsL (c.needs.take (k + 1))) ∧ Below (w.heap.size + 1) w1 w') := Lib.hid (fun W W8 g8 c8 hb hg hr => by
              have h5 := Hb5.out.trans (hb.mono (by omega))
              have hu := HUp.out W h5
              have hzW := hb.size
              have h58 : ∀ B', B' ≤ w4.heap.size → ∀ a : World, Below B' a W → Below B' a W8 := fun B' hB' a ha => (ha.alloc (by omega) _).grown hg (by simp; omega) (fun j hj => by injection hj with hj; omega)
              have hcell := hr.cells (g := g8) rfl
              have hcap : 6 ≤ c8 := by
                rcases hr.2 with ⟨h0, _⟩ | ⟨g', cap', cur', he, _, _, hc', _⟩
                · cases h0
                · injection he with _ _ e3; omega
              refine (HLn.out [⟨#[119, 97, 110, 116, 115]⟩, dn, ⟨#[99, 111, 112, 105, 101, 115]⟩, cn, ⟨#[119, 105, 116, 104]⟩, sn] g8 c8 W8 (fun j y hj => by
                have hj6 : j < 6 := (List.getElem?_eq_some_iff.1 hj).1
                have h := hcell j (.string y) (by rcases (show j = 0 ∨ j = 1 ∨ j = 2 ∨ j = 3 ∨ j = 4 ∨ j = 5 by omega) with rfl | rfl | rfl | rfl | rfl | rfl <;> simpa using hj)
                have ha : (⟨g8, 0, none⟩ : Addr).add j = ⟨g8, 0 + j, none⟩ := by
                  by_cases e : j = 0
                  · subst e; simp [Addr.add]
                  · simp [Addr.add, e]
                rwa [ha] at h) (hr.lt g8 rfl).2 hcap Hs6.out (by show 6 ≤ 8; omega) (h58 _ (by omega) _ hu.2)).mono ?_
              rintro e w' ⟨rfl, h1, h2⟩
              rw [HLz2.out.2] at h1
              exact ⟨rfl, h1, (h58 _ (by omega) _ hu.1).trans h2.below⟩)
            clear HLn HLl HSh Hnl HT HUp HBV H8 HV
            obtain ⟨i0, hi0, hy0, hy1, hy2⟩ := info_parts str_info
            go_wp2_with (first
              | (go_at_call 95; refine (HAl.out _).mono ?_; rintro e w6 ⟨rfl, hb6⟩; have Hb6 := Lib.hid hb6; obtain ⟨m2, m3, m4, m5, m6, m7⟩ := HB8.out w6 hb6; clear hb6)
              | (go_at_call 96; refine (HSz.out _ Hb6.out).mono ?_; rintro e w7 ⟨rfl, hb7⟩; have Hb7 := Lib.hid (Hb6.out.trans (hb7.mono Hb6.out.size)); have hrow7 := Hrow.out w7 Hb7.out; clear hb7)
              | (at_builtin; refine wpList_append_own _ rfl _ _ 89 rfl w4.heap.size 9 i0 _ 1 16 Tryz.underlying89 hi0 hy0 hy1 hy2 rfl (by decide) _ _ _ rfl hrow7 ⟨w7.heap.size, 0, none⟩ 2 2 [.string ⟨#[119, 105, 116, 104]⟩, .string sn] rfl rfl (World.news_of_block (cs := #[.string ⟨#[119, 105, 116, 104]⟩, .string sn]) (t := 9) (fr := (0, 0)) (heap_alloc_new w7 _)) (by simp [Value.oneCell']) (by unfold maxLen; omega) (by omega) (by have := Hb7.out.size; simp; omega) ?_; intro v8 w8 hown8 hg8 hnil8; obtain ⟨g8, c8, rfl⟩ : ∃ g8 c8, v8 = .slice (some ⟨g8, 0, none⟩) 6 c8 := (by
                  rcases hown8.2 with ⟨h0, hn⟩ | ⟨g, cap, cur, he, _⟩
                  · omega
                  · exact ⟨_, _, he⟩); have HLy := Lib.hid (HLz.out w7 w8 g8 c8 Hb7.out hg8 hown8); clear hown8 hg8 hnil8)
              | (go_at_call 93; refine HLy.out.mono ?_; rintro e w9 ⟨rfl, hb9, hf9⟩; have HB9 := Lib.hid hb9; have HF9 := Lib.hid hf9; clear hb9 hf9)
              | fail)
            go_roundw
            case rel => exact ⟨k + 1, by omega, by go_num, HB9, HF9, Lib.hid HLz2.out.1⟩
            case measure => simp [RowKit.intOf]; omega
        · have b1 : ¬ (k : Int) < (c.needs.length : Int) := by omega
          have HKk : Hid (headL c ++ needsL (c.needs.take k) = credL c) := Lib.hid (by
            have : c.needs.take k = c.needs := List.take_of_length_le (by omega)
            rw [this]; rfl)
          rw [HKk.out] at HB
          have HTx := Lib.hid (text_bld _ _ _ wr HB.out hbr)
          obtain ⟨HBn, _⟩ := H18.out wr HF.out
          clear HK HKk HC HNs
          go_wp2_with (first
            | (go_at_call 86; refine HTx.out.mono ?_; rintro e w4 ⟨rfl, hb4, hf4⟩; have HF4 := Lib.hid (HBn.out.trans (hf4.below.mono (by omega))); clear hb4 hf4)
            | fail)
          go_ret
          exact ⟨rfl, HF4.out⟩
end Go.Proofs.YtbkffdfboloogaaGreatDoor
