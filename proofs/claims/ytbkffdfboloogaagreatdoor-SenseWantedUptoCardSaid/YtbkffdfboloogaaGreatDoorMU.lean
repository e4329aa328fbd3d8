/- syntax.show: a rule that may be is written. syntax.Show, and a line of a credit's text. -/
import Derived.Test.YtbkffdfboloogaaGreatDoorMS
import Derived.Deep.RegionHeld3
namespace Go.Proofs.YtbkffdfboloogaaGreatDoor
open Go.RowKit Go.Lib
set_option linter.unusedVariables false
set_option maxRecDepth 100000

theorem tl_app (a b : ByteArray) : (a ++ b).data.toList = a.data.toList ++ b.data.toList := by simp [ByteArray.data_append]
theorem Fr.drew {B b : Nat} {a w : World} (h : Fr B b a w) : Fr B b a w.drew := ⟨h.below.drew, h.oth.drew⟩
theorem Bw.drew {w : World} {B b : Nat} {l : Bs} (h : Bw w B b l) : Bw w.drew B b l := h
set_option maxHeartbeats 2000000 in
theorem show_row (x : Rl) (hk : x.k = 0 ∨ x.k = 1) (hC : ∀ y ∈ x.l, ShowSaid y) : ShowSaid x := by
  intro A c w B b Bn l h hlen
  have hf1 := h.box c
  have HF1 := Lib.hid hf1
  have hlen2 : l.length + (rowL x.k true x.l).length ≤ 900000000000 := by rw [← show_01 x hk]; exact hlen
  have HR : Hid (∀ s : ByteArray, s.data.toList = sepL x.k → Calls Tryz.prog 149 #[.pointer (some ⟨b, 0, none⟩), .agg (rlA x A c), .string s] (w.alloc (.cells (rlA x A c) 33)) fun e w' => e = .returned (.tuple #[]) ∧ Bw w' B b (l ++ showL x) ∧ Fr B b (w.alloc (.cells (rlA x A c) 33)) w') := Lib.hid (fun s hs => by
    have := row_any x hk hC s hs A c _ B b Bn l (h.on hf1 (h.bw.alloc _)) hlen2
    rwa [← show_01 x hk] at this)
  clear h hf1 hlen hlen2 hC
  unfold rlA at *
  generalize showL x = S at *
  generalize x.l.length = xl at *
  generalize x.p = xp at *
  generalize x.f = xf at *
  generalize x.t = xt at *
  generalize x.n = xn at *
  rcases hk with hk | hk
  all_goals
    rw [hk] at HF1 HR ⊢
    clear hk
    go_enter Tryz.func121, Tryz.ntmps121
    go_wp2_with (first
      | (go_at_call 149; refine (HR.out _ rfl).mono ?_; rintro e w3 ⟨rfl, hb3, hf3⟩; have HB3 := Lib.hid hb3; have HF3 := Lib.hid hf3; clear hb3 hf3)
      | fail)
    refine bodyPost_end (results_none rfl _ _ _) rfl ?_
    exact ⟨rfl, HB3.out, HF1.out.trans HF3.out⟩
set_option maxHeartbeats 2000000 in
theorem show_not (x : Rl) (hk : x.k = 2) (hC : ∀ y ∈ x.l, ShowSaid y) : ShowSaid x := by
  intro A c w B b Bn l h hlen
  have hf1 := h.box c
  have HF1 := Lib.hid hf1
  have hr := h.right
  rw [right_2 x hk, Bool.and_eq_true, Bool.and_eq_true, decide_eq_true_iff] at hr
  have hl1 : x.l.length = 1 := hr.1.2
  have hl0 : 0 < x.l.length := by omega
  have hxl : x.l = [x.l[0]'hl0] := by
    apply List.ext_getElem
    · simp [hl1]
    · intro i hi hi2
      have : i = 0 := by omega
      subst this
      rfl
  have hm : x.l[0]'hl0 ∈ x.l := List.getElem_mem _
  have hE : showL x = ([110, 111, 116, 32] : Bs) ++ brkL 2 (x.l[0]'hl0) := by
    rw [show_2 x hk]
    conv => lhs; rw [hxl]
    rw [rowL_cons, rowL_nil]
    simp
  rw [hE] at hlen
  simp only [List.length_append, List.length_cons, List.length_nil] at hlen
  have hk2 : 0 ≤ x.k ∧ x.k ≤ 2 := by omega
  have hz1 : B ≤ (w.alloc (.cells (rlA x A c) 33)).heap.size := Nat.le_trans h.bs hf1.size
  have HB1 := Lib.hid (h.bw.alloc (.cells (rlA x A c) 33))
  have HW0 := Lib.hid (more_text B b l ⟨#[110, 111, 116, 32]⟩ (w.alloc (.cells (rlA x A c) 33)) hz1 (by show l.length + 4 ≤ _; omega))
  have H6 := Lib.hid (box_cells x A c w B b h.bw.lt)
  have HC : Hid (∀ (W : World) (A' : Option Addr) (c' : Nat), NL W Bn A' (x.l[0]'hl0).l → Bw W B b (l ++ [110, 111, 116, 32]) → Fr B b (w.alloc (.cells (rlA x A c) 33)) W → Calls Tryz.prog 150 #[.pointer (some ⟨b, 0, none⟩), .int .i64 2, .agg (rlA (x.l[0]'hl0) A' c')] W fun e w' => e = .returned (.tuple #[]) ∧ Bw w' B b (l ++ showL x) ∧ Fr B b (w.alloc (.cells (rlA x A c) 33)) w') := Lib.hid (fun W A' c' hn hb hW => by
    have hW' := hf1.trans hW
    refine (bracketed_any _ (hC _ hm) 2 A' c' W B b Bn _ ⟨hn, h.bn, h.ev.low hW'.below h.b8, h.b8, hb, Nat.le_trans h.bs hW'.size, kid_right h.right hk2 hm, kid_nsz hm h.size, kid_fits hk2 hm h.fits⟩ (by simp only [List.length_append, List.length_cons, List.length_nil]; omega)).mono ?_
    rintro e w' ⟨rfl, h1, h2⟩
    rw [List.append_assoc, ← hE] at h1
    exact ⟨rfl, h1, hW.trans h2⟩)
  have HN : Hid (∀ W : World, Fr B b (w.alloc (.cells (rlA x A c) 33)) W → NL W Bn A x.l) := Lib.hid (fun W hW => h.nl.kept ((hf1.trans hW).below.mono h.bn))
  have hlt : (0 : Int) < (x.l.length : Int) := by omega
  obtain ⟨k0, k1, k2, k3, k4, k5⟩ := H6.out _ (Fr.refl _ _ _)
  clear h hf1 hE hlen hr hxl hm hk2 hC hz1 hl1
  unfold rlA at *
  generalize showL x = S at *
  rw [hk] at HF1 HW0 HB1 HC H6 HN k0 k1 k2 k3 k4 k5 ⊢
  go_enter Tryz.func121, Tryz.ntmps121
  go_wp2_with (first
    | (go_at_call 82; refine (HW0.out _ HB1.out (Fr.refl _ _ _)).mono ?_; rintro e w2 ⟨rfl, hb2, hf2⟩; have HB2 := Lib.hid hb2; have HF2 := Lib.hid hf2; clear k0 k1 k2 k3 k4 k5; obtain ⟨k0, k1, k2, k3, k4, k5⟩ := H6.out w2 hf2; clear hb2 hf2)
    | fail)
  obtain ⟨g, off, A', c', rfl, hg, h6, hch⟩ := (HN.out w2 HF2.out).at_ hl0
  obtain ⟨c0, c1, c2, c3, c4, c5⟩ := h6
  simp only [Nat.zero_mul, Nat.add_zero] at c0 c1 c2 c3 c4 c5
  have HCz := Lib.hid (HC.out w2.drew A' c' (show NL w2.drew Bn A' _ from hch.kept ((Below.refl _ _).drew)) HB2.out.drew HF2.out.drew)
  have HCy := Lib.hid (HC.out w2 A' c' hch HB2.out HF2.out)
  clear HC hch HN H6
  generalize x.l[0]'hl0 = y at *
  clear hl0
  generalize y.l.length = yl at *
  generalize y.k = yk at *
  generalize y.p = yp at *
  generalize y.f = yf at *
  generalize y.t = yt at *
  generalize y.n = yn at *
  generalize x.l.length = xl at *
  generalize x.p = xp at *
  generalize x.f = xf at *
  generalize x.t = xt at *
  generalize x.n = xn at *
  go_region_with (first
    | (go_at_call 150; (first | (with_reducible (refine HCz.out.mono ?_)) | (with_reducible (refine HCy.out.mono ?_))); rintro e w3 ⟨rfl, hb3, hf3⟩; have HB3 := Lib.hid hb3; have HF3 := Lib.hid hf3; clear hb3 hf3)
    | fail)
  all_goals
    go_wp2
    refine bodyPost_end (results_none rfl _ _ _) rfl ?_
    exact ⟨rfl, HB3.out, HF1.out.trans HF3.out⟩
set_option maxHeartbeats 2000000 in
theorem show_is (x : Rl) (hk : x.k = 3) : ShowSaid x := by
  intro A c w B b Bn l h hlen
  have hf1 := h.box c
  have HF1 := Lib.hid hf1
  have hfit := own_fits (by rw [hk]; rfl) h.fits
  have hz1 : B ≤ (w.alloc (.cells (rlA x A c) 33)).heap.size := Nat.le_trans h.bs hf1.size
  have HB1 := Lib.hid (h.bw.alloc (.cells (rlA x A c) 33))
  have hsz : (x.f ++ ⟨#[32, 61, 32, 34]⟩ ++ x.t ++ ⟨#[34]⟩).size = x.f.size + 4 + x.t.size + 1 := by rw [ByteArray.size_append, ByteArray.size_append, ByteArray.size_append]; rfl
  have hfs := hfit.1
  have hts := hfit.2.1
  have hE : (x.f ++ ⟨#[32, 61, 32, 34]⟩ ++ x.t ++ ⟨#[34]⟩).data.toList = showL x := by rw [show_3 x hk, tl_app, tl_app, tl_app]
  have HW0 := Lib.hid (more_text B b l (x.f ++ ⟨#[32, 61, 32, 34]⟩ ++ x.t ++ ⟨#[34]⟩) (w.alloc (.cells (rlA x A c) 33)) hz1 (by rw [hsz]; omega) _ HB1.out (Fr.refl _ _ _))
  rw [hE] at HW0
  clear h hf1 hE hlen hz1 hsz hfit
  unfold rlA at *
  generalize showL x = S at *
  rw [hk] at HF1 HW0 HB1 ⊢
  clear hk
  generalize x.l.length = xl at *
  generalize x.p = xp at *
  generalize x.f = xf at *
  generalize x.t = xt at *
  generalize x.n = xn at *
  go_enter Tryz.func121, Tryz.ntmps121
  go_wp2_with (first
    | (go_at_call 82; refine HW0.out.mono ?_; rintro e w3 ⟨rfl, hb3, hf3⟩; have HB3 := Lib.hid hb3; have HF3 := Lib.hid hf3; clear hb3 hf3)
    | fail)
  refine bodyPost_end (results_none rfl _ _ _) rfl ?_
  exact ⟨rfl, HB3.out, HF1.out.trans HF3.out⟩
set_option maxHeartbeats 2000000 in
theorem show_has (x : Rl) (hk : x.k = 4) : ShowSaid x := by
  intro A c w B b Bn l h hlen
  have hf1 := h.box c
  have HF1 := Lib.hid hf1
  have hfit := own_fits (by rw [hk]; rfl) h.fits
  have hz1 : B ≤ (w.alloc (.cells (rlA x A c) 33)).heap.size := Nat.le_trans h.bs hf1.size
  have HB1 := Lib.hid (h.bw.alloc (.cells (rlA x A c) 33))
  have hsz : (x.f ++ ⟨#[32, 126, 32, 34]⟩ ++ x.t ++ ⟨#[34]⟩).size = x.f.size + 4 + x.t.size + 1 := by rw [ByteArray.size_append, ByteArray.size_append, ByteArray.size_append]; rfl
  have hfs := hfit.1
  have hts := hfit.2.1
  have hE : (x.f ++ ⟨#[32, 126, 32, 34]⟩ ++ x.t ++ ⟨#[34]⟩).data.toList = showL x := by rw [show_4 x hk, tl_app, tl_app, tl_app]
  have HW0 := Lib.hid (more_text B b l (x.f ++ ⟨#[32, 126, 32, 34]⟩ ++ x.t ++ ⟨#[34]⟩) (w.alloc (.cells (rlA x A c) 33)) hz1 (by rw [hsz]; omega) _ HB1.out (Fr.refl _ _ _))
  rw [hE] at HW0
  clear h hf1 hE hlen hz1 hsz hfit
  unfold rlA at *
  generalize showL x = S at *
  rw [hk] at HF1 HW0 HB1 ⊢
  clear hk
  generalize x.l.length = xl at *
  generalize x.p = xp at *
  generalize x.f = xf at *
  generalize x.t = xt at *
  generalize x.n = xn at *
  go_enter Tryz.func121, Tryz.ntmps121
  go_wp2_with (first
    | (go_at_call 82; refine HW0.out.mono ?_; rintro e w3 ⟨rfl, hb3, hf3⟩; have HB3 := Lib.hid hb3; have HF3 := Lib.hid hf3; clear hb3 hf3)
    | fail)
  refine bodyPost_end (results_none rfl _ _ _) rfl ?_
  exact ⟨rfl, HB3.out, HF1.out.trans HF3.out⟩
set_option maxHeartbeats 4000000 in
theorem show_most (x : Rl) (hk : x.k = 5) : ShowSaid x := by
  intro A c w B b Bn l h hlen
  have hf1 := h.box c
  have HF1 := Lib.hid hf1
  have hfit := own_fits (by rw [hk]; rfl) h.fits
  have hr := h.right
  rw [right_56 x (by omega)] at hr
  simp only [Bool.and_eq_true, decide_eq_true_iff] at hr
  have hn0 : 0 ≤ x.n := hr.1.2
  have hn1 : x.n ≤ 1099511627776 := hr.2
  have hz1 : B ≤ (w.alloc (.cells (rlA x A c) 33)).heap.size := Nat.le_trans h.bs hf1.size
  have HB1 := Lib.hid (h.bw.alloc (.cells (rlA x A c) 33))
  have hds : (⟨(itL x.n).toArray⟩ : ByteArray).size ≤ 20 := (decT_size x.n (by omega) (by omega)).2
  have hsz : (x.f ++ ⟨#[32, 60, 61, 32]⟩ ++ ⟨(itL x.n).toArray⟩).size = x.f.size + 4 + (⟨(itL x.n).toArray⟩ : ByteArray).size := by rw [ByteArray.size_append, ByteArray.size_append]; rfl
  have hfs := hfit.1
  have hE : (x.f ++ ⟨#[32, 60, 61, 32]⟩ ++ ⟨(itL x.n).toArray⟩).data.toList = showL x := by rw [show_5 x hk, tl_app, tl_app]
  obtain ⟨S5, hS5⟩ : ∃ S5 : ByteArray, S5 = x.f ++ ⟨#[32, 60, 61, 32]⟩ ++ ⟨(itL x.n).toArray⟩ := ⟨_, rfl⟩
  rw [← hS5] at hsz hE
  have HW0 : Hid (∀ W : World, Bw W B b l → Fr B b (w.alloc (.cells (rlA x A c) 33)) W → Calls Tryz.prog 82 #[.pointer (some ⟨b, 0, none⟩), .string S5] W fun e w' => (∃ v, e = .returned v) ∧ Bw w' B b (l ++ showL x) ∧ Fr B b (w.alloc (.cells (rlA x A c) 33)) w') := Lib.hid (fun W hb hW => by
    refine (more_text B b l S5 (w.alloc (.cells (rlA x A c) 33)) hz1 (by rw [hsz]; omega) W hb hW).mono ?_
    rintro e w' ⟨rfl, h1, h2⟩
    rw [hE] at h1
    exact ⟨⟨_, rfl⟩, h1, h2⟩)
  have HFm : Hid (∀ W : World, Fr B b (w.alloc (.cells (rlA x A c) 33)) W → Calls Tryz.prog 63 #[.int .i64 x.n, .int .i64 10] W fun e w' => e = .returned (.string ⟨(itL x.n).toArray⟩) ∧ Below W.heap.size W w') := Lib.hid (fun W hW => format_any x.n W (h.ev.low (hf1.trans hW).below h.b8).gl (by omega) (by omega))
  have HOn : Hid (∀ W : World, Below (w.alloc (.cells (rlA x A c) 33)).heap.size (w.alloc (.cells (rlA x A c) 33)) W → Bw W B b l ∧ Fr B b (w.alloc (.cells (rlA x A c) 33)) W) := Lib.hid (fun W hW => ⟨HB1.out.below hW, Fr.of_below hW hz1⟩)
  have H6 := Lib.hid (box_cells x A c w B b h.bw.lt)
  obtain ⟨k0, k1, k2, k3, k4, k5⟩ := H6.out _ (Fr.refl _ _ _)
  clear h hf1 hE hlen hz1 hsz hfit hr hn0 hn1
  subst hS5
  unfold rlA at *
  generalize showL x = S at *
  rw [hk] at HF1 HW0 HB1 HFm H6 HOn k0 k1 k2 k3 k4 k5 ⊢
  clear hk
  generalize x.l.length = xl at *
  generalize x.p = xp at *
  generalize x.f = xf at *
  generalize x.t = xt at *
  generalize (⟨(itL x.n).toArray⟩ : ByteArray) = dn at *
  generalize x.n = xn at *
  have u0 : (⟨#[32, 60, 61, 32]⟩ : ByteArray).size = 4 := rfl
  have u1 : ¬ (9223372036854775807 < xf.size + (⟨#[32, 60, 61, 32]⟩ : ByteArray).size) := by rw [u0]; omega
  have u2 : ¬ (9223372036854775807 < xf.size + 4) := by omega
  have u3 : xf.size + 4 ≤ 9223372036854775807 := by omega
  have u4 : (xf ++ ⟨#[32, 60, 61, 32]⟩).size = xf.size + 4 := by rw [ByteArray.size_append]; rfl
  have u5 : ¬ (9223372036854775807 < (xf ++ ⟨#[32, 60, 61, 32]⟩).size + dn.size) := by rw [u4]; omega
  have u6 : ¬ (9223372036854775807 < xf.size + 4 + dn.size) := by omega
  have u7 : xf.size + 4 + dn.size ≤ 9223372036854775807 := by omega
  go_enter Tryz.func121, Tryz.ntmps121
  go_wp2_with fail
  generalize (w.alloc (.cells #[.int .i64 5, .int .i64 xp, .string xf, .string xt, .int .i64 xn, .slice A xl c] 33)) = w1 at *
  go_region_with (first
    | (go_at_call 63; refine (HFm.out _ (by first | exact Fr.refl _ _ _ | exact (Fr.refl _ _ _).drew)).mono ?_; rintro e w2 ⟨rfl, hb2⟩; have hb2' : Below w1.heap.size w1 w2 := (by first | exact hb2 | exact drewB hb2); obtain ⟨HB2', HF2'⟩ := HOn.out w2 hb2'; have HB2 := Lib.hid HB2'; have HF2 := Lib.hid HF2'; obtain ⟨j0, j1, j2, j3, j4, j5⟩ := H6.out w2 HF2'; clear hb2 hb2' HB2' HF2')
    | (go_at_call 82; refine (HW0.out _ (by first | exact HB2.out | exact HB2.out.drew) (by first | exact HF2.out | exact HF2.out.drew)).mono ?_; rintro e w3 ⟨⟨v, rfl⟩, hb3, hf3⟩; have HB3 := Lib.hid hb3; have HF3 := Lib.hid hf3; clear hb3 hf3)
    | fail)
  all_goals
    go_wp2
    refine bodyPost_end (results_none rfl _ _ _) rfl ?_
    exact ⟨rfl, HB3.out, HF1.out.trans HF3.out⟩
set_option maxHeartbeats 4000000 in
theorem show_least (x : Rl) (hk : x.k = 6) : ShowSaid x := by
  intro A c w B b Bn l h hlen
  have hf1 := h.box c
  have HF1 := Lib.hid hf1
  have hfit := own_fits (by rw [hk]; rfl) h.fits
  have hr := h.right
  rw [right_56 x (by omega)] at hr
  simp only [Bool.and_eq_true, decide_eq_true_iff] at hr
  have hn0 : 0 ≤ x.n := hr.1.2
  have hn1 : x.n ≤ 1099511627776 := hr.2
  have hz1 : B ≤ (w.alloc (.cells (rlA x A c) 33)).heap.size := Nat.le_trans h.bs hf1.size
  have HB1 := Lib.hid (h.bw.alloc (.cells (rlA x A c) 33))
  have hds : (⟨(itL x.n).toArray⟩ : ByteArray).size ≤ 20 := (decT_size x.n (by omega) (by omega)).2
  have hsz : (x.f ++ ⟨#[32, 62, 61, 32]⟩ ++ ⟨(itL x.n).toArray⟩).size = x.f.size + 4 + (⟨(itL x.n).toArray⟩ : ByteArray).size := by rw [ByteArray.size_append, ByteArray.size_append]; rfl
  have hfs := hfit.1
  have hE : (x.f ++ ⟨#[32, 62, 61, 32]⟩ ++ ⟨(itL x.n).toArray⟩).data.toList = showL x := by rw [show_6 x hk, tl_app, tl_app]
  obtain ⟨S5, hS5⟩ : ∃ S5 : ByteArray, S5 = x.f ++ ⟨#[32, 62, 61, 32]⟩ ++ ⟨(itL x.n).toArray⟩ := ⟨_, rfl⟩
  rw [← hS5] at hsz hE
  have HW0 : Hid (∀ W : World, Bw W B b l → Fr B b (w.alloc (.cells (rlA x A c) 33)) W → Calls Tryz.prog 82 #[.pointer (some ⟨b, 0, none⟩), .string S5] W fun e w' => (∃ v, e = .returned v) ∧ Bw w' B b (l ++ showL x) ∧ Fr B b (w.alloc (.cells (rlA x A c) 33)) w') := Lib.hid (fun W hb hW => by
    refine (more_text B b l S5 (w.alloc (.cells (rlA x A c) 33)) hz1 (by rw [hsz]; omega) W hb hW).mono ?_
    rintro e w' ⟨rfl, h1, h2⟩
    rw [hE] at h1
    exact ⟨⟨_, rfl⟩, h1, h2⟩)
  have HFm : Hid (∀ W : World, Fr B b (w.alloc (.cells (rlA x A c) 33)) W → Calls Tryz.prog 63 #[.int .i64 x.n, .int .i64 10] W fun e w' => e = .returned (.string ⟨(itL x.n).toArray⟩) ∧ Below W.heap.size W w') := Lib.hid (fun W hW => format_any x.n W (h.ev.low (hf1.trans hW).below h.b8).gl (by omega) (by omega))
  have HOn : Hid (∀ W : World, Below (w.alloc (.cells (rlA x A c) 33)).heap.size (w.alloc (.cells (rlA x A c) 33)) W → Bw W B b l ∧ Fr B b (w.alloc (.cells (rlA x A c) 33)) W) := Lib.hid (fun W hW => ⟨HB1.out.below hW, Fr.of_below hW hz1⟩)
  have H6 := Lib.hid (box_cells x A c w B b h.bw.lt)
  obtain ⟨k0, k1, k2, k3, k4, k5⟩ := H6.out _ (Fr.refl _ _ _)
  clear h hf1 hE hlen hz1 hsz hfit hr hn0 hn1
  subst hS5
  unfold rlA at *
  generalize showL x = S at *
  rw [hk] at HF1 HW0 HB1 HFm H6 HOn k0 k1 k2 k3 k4 k5 ⊢
  clear hk
  generalize x.l.length = xl at *
  generalize x.p = xp at *
  generalize x.f = xf at *
  generalize x.t = xt at *
  generalize (⟨(itL x.n).toArray⟩ : ByteArray) = dn at *
  generalize x.n = xn at *
  have u0 : (⟨#[32, 62, 61, 32]⟩ : ByteArray).size = 4 := rfl
  have u1 : ¬ (9223372036854775807 < xf.size + (⟨#[32, 62, 61, 32]⟩ : ByteArray).size) := by rw [u0]; omega
  have u2 : ¬ (9223372036854775807 < xf.size + 4) := by omega
  have u3 : xf.size + 4 ≤ 9223372036854775807 := by omega
  have u4 : (xf ++ ⟨#[32, 62, 61, 32]⟩).size = xf.size + 4 := by rw [ByteArray.size_append]; rfl
  have u5 : ¬ (9223372036854775807 < (xf ++ ⟨#[32, 62, 61, 32]⟩).size + dn.size) := by rw [u4]; omega
  have u6 : ¬ (9223372036854775807 < xf.size + 4 + dn.size) := by omega
  have u7 : xf.size + 4 + dn.size ≤ 9223372036854775807 := by omega
  go_enter Tryz.func121, Tryz.ntmps121
  go_wp2_with fail
  generalize (w.alloc (.cells #[.int .i64 6, .int .i64 xp, .string xf, .string xt, .int .i64 xn, .slice A xl c] 33)) = w1 at *
  go_region_with (first
    | (go_at_call 63; refine (HFm.out _ (by first | exact Fr.refl _ _ _ | exact (Fr.refl _ _ _).drew)).mono ?_; rintro e w2 ⟨rfl, hb2⟩; have hb2' : Below w1.heap.size w1 w2 := (by first | exact hb2 | exact drewB hb2); obtain ⟨HB2', HF2'⟩ := HOn.out w2 hb2'; have HB2 := Lib.hid HB2'; have HF2 := Lib.hid HF2'; obtain ⟨j0, j1, j2, j3, j4, j5⟩ := H6.out w2 HF2'; clear hb2 hb2' HB2' HF2')
    | (go_at_call 82; refine (HW0.out _ (by first | exact HB2.out | exact HB2.out.drew) (by first | exact HF2.out | exact HF2.out.drew)).mono ?_; rintro e w3 ⟨⟨v, rfl⟩, hb3, hf3⟩; have HB3 := Lib.hid hb3; have HF3 := Lib.hid hf3; clear hb3 hf3)
    | fail)
  all_goals
    go_wp2
    refine bodyPost_end (results_none rfl _ _ _) rfl ?_
    exact ⟨rfl, HB3.out, HF1.out.trans HF3.out⟩
set_option maxHeartbeats 4000000 in
theorem show_like (x : Rl) (hk : x.k = 7) : ShowSaid x := by
  intro A c w B b Bn l h hlen
  have hf1 := h.box c
  have HF1 := Lib.hid hf1
  have hfit := own_fits (by rw [hk]; rfl) h.fits
  have hr := h.right
  rw [right_7 x hk] at hr
  simp only [Bool.and_eq_true, decide_eq_true_iff] at hr
  obtain ⟨m, hm⟩ := Int.eq_ofNat_of_zero_le hr.1.2
  have hm6 : m < 6 := by have := hr.2; omega
  have hz1 : B ≤ (w.alloc (.cells (rlA x A c) 33)).heap.size := Nat.le_trans h.bs hf1.size
  have HB1 := Lib.hid (h.bw.alloc (.cells (rlA x A c) 33))
  have hds : (⟨(wordL m).toArray⟩ : ByteArray).size ≤ 9 := by
    rcases (show m = 0 ∨ m = 1 ∨ m = 2 ∨ m = 3 ∨ m = 4 ∨ m = 5 by omega) with rfl | rfl | rfl | rfl | rfl | rfl <;> decide
  have hsz : (x.f ++ ⟨#[32, 61, 32]⟩ ++ ⟨(wordL m).toArray⟩ ++ ⟨#[46]⟩ ++ x.t).size = x.f.size + 3 + (⟨(wordL m).toArray⟩ : ByteArray).size + 1 + x.t.size := by rw [ByteArray.size_append, ByteArray.size_append, ByteArray.size_append, ByteArray.size_append]; rfl
  have hfs := hfit.1
  have hts := hfit.2.1
  have hE : (x.f ++ ⟨#[32, 61, 32]⟩ ++ ⟨(wordL m).toArray⟩ ++ ⟨#[46]⟩ ++ x.t).data.toList = showL x := by rw [show_7 x hk, hm, tl_app, tl_app, tl_app, tl_app]
  obtain ⟨S5, hS5⟩ : ∃ S5 : ByteArray, S5 = x.f ++ ⟨#[32, 61, 32]⟩ ++ ⟨(wordL m).toArray⟩ ++ ⟨#[46]⟩ ++ x.t := ⟨_, rfl⟩
  rw [← hS5] at hsz hE
  have HW0 : Hid (∀ W : World, Bw W B b l → Fr B b (w.alloc (.cells (rlA x A c) 33)) W → Calls Tryz.prog 82 #[.pointer (some ⟨b, 0, none⟩), .string S5] W fun e w' => (∃ v, e = .returned v) ∧ Bw w' B b (l ++ showL x) ∧ Fr B b (w.alloc (.cells (rlA x A c) 33)) w') := Lib.hid (fun W hb hW => by
    refine (more_text B b l S5 (w.alloc (.cells (rlA x A c) 33)) hz1 (by rw [hsz]; omega) W hb hW).mono ?_
    rintro e w' ⟨rfl, h1, h2⟩
    rw [hE] at h1
    exact ⟨⟨_, rfl⟩, h1, h2⟩)
  have H6 := Lib.hid (box_cells x A c w B b h.bw.lt)
  obtain ⟨k0, k1, k2, k3, k4, k5⟩ := H6.out _ (Fr.refl _ _ _)
  have hpp : (w.alloc (.cells (rlA x A c) 33)).cell? ⟨0, m, none⟩ = some (.string ⟨(wordL m).toArray⟩) := (h.ev.low hf1.below h.b8).pp m hm6
  have HPp : Hid (∀ W : World, Fr B b (w.alloc (.cells (rlA x A c) 33)) W → W.cell? ⟨0, m, none⟩ = some (.string ⟨(wordL m).toArray⟩)) := Lib.hid (fun W hW => (h.ev.low (hf1.trans hW).below h.b8).pp m hm6)
  have hm0 : (0 : Int) ≤ (m : Int) := by omega
  have hm1 : (m : Int) < 6 := by omega
  clear h hf1 hE hlen hz1 hsz hfit hr
  subst hS5
  unfold rlA at *
  generalize showL x = S at *
  rw [hk] at HF1 HW0 HB1 hpp H6 HPp k0 k1 k2 k3 k4 k5 ⊢
  rw [hm] at HF1 HW0 HB1 hpp H6 HPp k0 k1 k2 k3 k4 k5 ⊢
  clear hk hm
  generalize x.l.length = xl at *
  generalize x.f = xf at *
  generalize x.t = xt at *
  generalize (⟨(wordL m).toArray⟩ : ByteArray) = dn at *
  generalize x.n = xn at *
  have u0 : (⟨#[32, 61, 32]⟩ : ByteArray).size = 3 := rfl
  have u2 : ¬ (9223372036854775807 < xf.size + 3) := by omega
  have u3 : xf.size + 3 ≤ 9223372036854775807 := by omega
  have u4 : (xf ++ ⟨#[32, 61, 32]⟩).size = xf.size + 3 := by rw [ByteArray.size_append]; rfl
  have u6 : ¬ (9223372036854775807 < xf.size + 3 + dn.size) := by omega
  have u7 : xf.size + 3 + dn.size ≤ 9223372036854775807 := by omega
  have u8 : xf.size + 3 + dn.size + 1 ≤ 9223372036854775807 := by omega
  have u9 : xf.size + 3 + dn.size + 1 + xt.size ≤ 9223372036854775807 := by omega
  have v0 : (⟨#[46]⟩ : ByteArray).size = 1 := rfl
  have v1 : (xf ++ ⟨#[32, 61, 32]⟩ ++ dn).size = xf.size + 3 + dn.size := by rw [ByteArray.size_append, ByteArray.size_append]; rfl
  have v2 : ¬ (9223372036854775807 < xf.size + 3 + dn.size + 1) := by omega
  have v3 : (xf ++ ⟨#[32, 61, 32]⟩ ++ dn ++ ⟨#[46]⟩).size = xf.size + 3 + dn.size + 1 := by rw [ByteArray.size_append, ByteArray.size_append, ByteArray.size_append]; rfl
  have v4 : ¬ (9223372036854775807 < xf.size + 3 + dn.size + 1 + xt.size) := by omega
  go_enter Tryz.func121, Tryz.ntmps121
  go_wp2_with fail
  generalize (w.alloc (.cells #[.int .i64 7, .int .i64 (m : Int), .string xf, .string xt, .int .i64 xn, .slice A xl c] 33)) = w1 at *
  go_region_held3 (fun w' => w'.cell? ⟨w.heap.size, 2, none⟩ = some (.string xf) ∧ w'.cell? ⟨w.heap.size, 1, none⟩ = some (.int .i64 (m : Int)) ∧ w'.cell? ⟨w.heap.size, 3, none⟩ = some (.string xt) ∧ w'.cell? ⟨0, m, none⟩ = some (.string dn))
    (first | go_keep | exact ⟨j2, j1, j3, jp⟩)
    (first
    | (go_at_call 82; refine (HW0.out _ (by first | exact HB1.out | exact HB1.out.drew) (by first | exact Fr.refl _ _ _ | exact (Fr.refl _ _ _).drew)).mono ?_; rintro e w3 ⟨⟨v, rfl⟩, hb3, hf3⟩; have HB3 := Lib.hid hb3; have HF3 := Lib.hid hf3; obtain ⟨j0, j1, j2, j3, j4, j5⟩ := H6.out w3 hf3; have jp := HPp.out w3 hf3; clear hb3 hf3)
    | fail)
  all_goals
    go_wp2
    refine bodyPost_end (results_none rfl _ _ _) rfl ?_
    exact ⟨rfl, HB3.out, HF1.out.trans HF3.out⟩
theorem show_fuel (N : Nat) : ∀ x, SizeOf.sizeOf x ≤ N → ShowSaid x := by
  induction N with
  | zero =>
    intro x h
    obtain ⟨k, p, f, t, n, l⟩ := x
    simp at h
  | succ N ih =>
    intro x hN
    have hC : ∀ y ∈ x.l, ShowSaid y := fun y hy => ih y (by have := Rl.lt_mem hy; omega)
    intro A c w B b Bn l h hlen
    obtain ⟨h0, h7⟩ := right_k h.right
    rcases (show (x.k = 0 ∨ x.k = 1) ∨ x.k = 2 ∨ x.k = 3 ∨ x.k = 4 ∨ x.k = 5 ∨ x.k = 6 ∨ x.k = 7 by omega) with hk | hk | hk | hk | hk | hk | hk
    · exact show_row x hk hC A c w B b Bn l h hlen
    · exact show_not x hk hC A c w B b Bn l h hlen
    · exact show_is x hk A c w B b Bn l h hlen
    · exact show_has x hk A c w B b Bn l h hlen
    · exact show_most x hk A c w B b Bn l h hlen
    · exact show_least x hk A c w B b Bn l h hlen
    · exact show_like x hk A c w B b Bn l h hlen
theorem show_any (x : Rl) : ShowSaid x := show_fuel _ x (Nat.le_refl _)
end Go.Proofs.YtbkffdfboloogaaGreatDoor
namespace Go.Proofs.YtbkffdfboloogaaGreatDoor
open Go.RowKit Go.Lib
set_option linter.unusedVariables false
set_option maxRecDepth 100000

set_option maxHeartbeats 2000000 in
theorem showText_any (x : Rl) (A : Option Addr) (c : Nat) (w : World) (Bn : Nat) (hN : NL w Bn A x.l) (hBn : Bn ≤ w.heap.size) (hE : Ev w) (hr : rightR x = true) (hn : nsz x ≤ 1000) (hF : ∀ a ∈ atomsR x, Fits a) (hlen : (showL x).length ≤ 900000000000) :
    Calls Tryz.prog 96 #[.agg (rlA x A c)] w fun e w' => e = .returned (.string ⟨(showL x).toArray⟩) ∧ Below w.heap.size w w' := by
  have hb1 : Below w.heap.size w (w.alloc (.cells (rlA x A c) 33)) := (Below.refl _ _).alloc (Nat.le_refl _) _
  have hz1 : (w.alloc (.cells (rlA x A c) 33)).heap.size = w.heap.size + 1 := by simp
  have HR := Lib.hid (ruleMay_any x A c (w.alloc (.cells (rlA x A c) 33)) Bn (hN.kept (hb1.mono hBn)) (by omega) (hE.wd.all hb1) hn hF)
  rw [hr] at HR
  have h6 : ∀ W : World, Below (w.heap.size + 1) (w.alloc (.cells (rlA x A c) 33)) W → W.cell? ⟨w.heap.size, 0, none⟩ = some (.int .i64 x.k) ∧ W.cell? ⟨w.heap.size, 1, none⟩ = some (.int .i64 x.p) ∧ W.cell? ⟨w.heap.size, 2, none⟩ = some (.string x.f) ∧ W.cell? ⟨w.heap.size, 3, none⟩ = some (.string x.t) ∧ W.cell? ⟨w.heap.size, 4, none⟩ = some (.int .i64 x.n) ∧ W.cell? ⟨w.heap.size, 5, none⟩ = some (.slice A x.l.length c) := fun W hb => by
    have k : ∀ i v, (w.alloc (.cells (rlA x A c) 33)).cell? ⟨w.heap.size, i, none⟩ = some v → W.cell? ⟨w.heap.size, i, none⟩ = some v := fun i v h => (hb.cell (p := ⟨w.heap.size, i, none⟩) (by show w.heap.size < _; omega)).trans h
    exact ⟨k 0 _ (by simp [rlA]), k 1 _ (by simp [rlA]), k 2 _ (by simp [rlA]), k 3 _ (by simp [rlA]), k 4 _ (by simp [rlA]), k 5 _ (by simp [rlA])⟩
  have H6 := Lib.hid h6
  have HS : Hid (∀ W : World, Below (w.heap.size + 1) (w.alloc (.cells (rlA x A c) 33)) W → Calls Tryz.prog 121 #[.pointer (some ⟨W.heap.size, 0, none⟩), .agg (rlA x A c)] (W.alloc (.cells #[.pointer none, .slice none 0 0] 121)) fun e w' => e = .returned (.tuple #[]) ∧ Bw w' W.heap.size W.heap.size (showL x) ∧ Below W.heap.size W w') := Lib.hid (fun W hb => by
    have hbW := hb1.trans (hb.mono (by omega))
    have hz := hbW.size
    have hba : Below W.heap.size W (W.alloc (.cells #[.pointer none, .slice none 0 0] 121)) := (Below.refl _ _).alloc (Nat.le_refl _) _
    have h := show_any x A c (W.alloc (.cells #[.pointer none, .slice none 0 0] 121)) W.heap.size W.heap.size Bn [] ⟨hN.kept ((hbW.mono hBn).trans (hba.mono (by omega))), by omega, (hE.all hbW).all hba, by have := (hE.all hbW).lt; omega, Bw.new W, by simp, hr, hn, hF⟩ (by simpa using hlen)
    refine h.mono ?_
    rintro e w' ⟨rfl, h1, h2⟩
    exact ⟨rfl, by simpa using h1, hba.trans h2.below⟩)
  have HB1 := Lib.hid hb1
  clear hN hE hF hb1 h6 hr
  unfold rlA at *
  obtain ⟨k0, k1, k2, k3, k4, k5⟩ := H6.out _ (Below.refl _ _)
  generalize showL x = S at *
  generalize x.l.length = xl at *
  generalize x.k = xk at *
  generalize x.p = xp at *
  generalize x.f = xf at *
  generalize x.t = xt at *
  generalize x.n = xn at *
  go_enter Tryz.func96, Tryz.ntmps96
  go_wp2_with (first
    | (go_at_call 120; refine HR.out.mono ?_; rintro e w2 ⟨rfl, hb2⟩; rw [hz1] at hb2; have Hb2 := Lib.hid hb2; have HSs := Lib.hid (HS.out w2 hb2); clear k0 k1 k2 k3 k4 k5; have hz2 := hb2.size; have Ha2 := Lib.hid (H6.out _ (hb2.alloc (by omega) (.cells #[.pointer none, .slice none 0 0] 121))); obtain ⟨k0, k1, k2, k3, k4, k5⟩ := Ha2.out; clear hb2 Ha2)
    | (go_at_call 121; refine HSs.out.mono ?_; rintro e w3 ⟨rfl, hb3, hf3⟩; have HB3 := Lib.hid hb3; have HF3 := Lib.hid hf3; have hz3 := hf3.size; have HT := Lib.hid (text_bld _ _ _ w3 hb3 hz3); clear hb3 hf3)
    | (go_at_call 86; refine HT.out.mono ?_; rintro e w4 ⟨rfl, hb4, hf4⟩; have HF4 := Lib.hid (HF3.out.trans hf4.below); clear hb4 hf4)
    | fail)
  go_ret
  exact ⟨rfl, HB1.out.trans ((Hb2.out.mono (by omega)).trans (HF4.out.mono (by omega)))⟩
theorem lens_le (n : Nat) : ∀ r : List (List UInt8), (∀ x ∈ r, x.length ≤ n) → lens r ≤ n * r.length
  | [], _ => by simp [lens]
  | x :: r, h => by
    have := lens_le n r (fun y hy => h y (by simp [hy]))
    have := h x (by simp)
    simp [lens, Nat.mul_add] at *
    omega
theorem line_len (M : Nat) (L : List ByteArray) (hs : ∀ x ∈ L, x.size ≤ M) (hl : L.length ≤ 8) : (Lib.join (L.map (·.data.toList)) [32]).length ≤ 8 * M + 8 := by
  cases hL : L.map (·.data.toList) with
  | nil => simp [join_nil]
  | cons x r =>
    have hn : (x :: r).length = L.length := by rw [← hL]; simp
    have hb : ∀ y ∈ x :: r, y.length ≤ M := by
      intro y hy
      rw [← hL] at hy
      obtain ⟨z, hz, rfl⟩ := List.mem_map.1 hy
      have := hs z hz
      simpa using this
    have h1 := lens_le M _ hb
    have h2 : M * (x :: r).length ≤ M * 8 := Nat.mul_le_mul_left _ (by omega)
    rw [join_length]
    simp only [List.length_cons, List.length_nil] at hn h1 h2 ⊢
    omega
set_option maxHeartbeats 2000000 in
theorem line_bld (M : Nat) (hM : M ≤ 40000000) (L : List ByteArray) (g cp : Nat) (w : World) (B b : Nat) (l : Bs) (hL : ∀ (j : Nat) x, L[j]? = some x → w.cell? ⟨g, 0 + j, none⟩ = some (.string x)) (hg : g < w.heap.size) (hcp : L.length ≤ cp) (hs : ∀ x ∈ L, x.size ≤ M) (h8 : L.length ≤ 8) (hb : Bw w B b l) (hB : B ≤ w.heap.size) (hlen : l.length ≤ 900000000000) :
    Calls Tryz.prog 93 #[.slice (some ⟨g, 0, none⟩) L.length cp, .pointer (some ⟨b, 0, none⟩)] w fun e w' => e = .returned (.tuple #[]) ∧ Bw w' B b (l ++ lineL (L.map (·.data.toList))) ∧ Fr B b w w' := by
  have hll0 := line_len M L hs h8
  have hll : (Lib.join (L.map (·.data.toList)) [32]).length ≤ 400000000 := by omega
  have HJ := Lib.hid (Tryz.strings_Join g 0 cp L ⟨#[32]⟩ w hL hg (by omega) hcp (Nat.le_trans hll (by omega)))
  have hsz : (⟨(Lib.join (L.map (·.data.toList)) (⟨#[32]⟩ : ByteArray).data.toList).toArray⟩ : ByteArray).size ≤ 400000000 := by
    show (Lib.join (L.map (·.data.toList)) [32]).toArray.size ≤ 400000000
    rw [List.size_toArray]
    exact hll
  have HT : Hid ((⟨(Lib.join (L.map (·.data.toList)) (⟨#[32]⟩ : ByteArray).data.toList).toArray⟩ ++ ⟨#[59, 10]⟩ : ByteArray).data.toList = lineL (L.map (·.data.toList))) := Lib.hid (by rw [tl_app]; rfl)
  have HW : Hid (∀ (W : World) (s : ByteArray), s.size ≤ 400000002 → Below w.heap.size w W → Calls Tryz.prog 82 #[.pointer (some ⟨b, 0, none⟩), .string s] W fun e w' => (∃ v, e = .returned v) ∧ Bw w' B b (l ++ s.data.toList) ∧ Fr B b w w') := Lib.hid (fun W s hs2 hW => by
    have hz := hW.size
    refine (write_bld B b l s W (hb.below hW) (by omega) (by omega)).mono ?_
    rintro e w' ⟨rfl, h1, h2⟩
    exact ⟨⟨_, rfl⟩, h1, (Fr.of_below hW hB).trans h2⟩)
  clear hL hg hs hb hll hll0
  generalize (⟨(Lib.join (L.map (·.data.toList)) (⟨#[32]⟩ : ByteArray).data.toList).toArray⟩ : ByteArray) = J at *
  generalize lineL (L.map (·.data.toList)) = S at *
  generalize L.length = ll at *
  have hs2 : (J ++ ⟨#[59, 10]⟩).size ≤ 400000002 := by rw [ByteArray.size_append]; show J.size + 2 ≤ _; omega
  go_enter Tryz.func93, Tryz.ntmps93
  go_wp2_with (first
    | (go_at_call 59; refine HJ.out.mono ?_; rintro e w2 ⟨rfl, hb2⟩; have HB2 := Lib.hid hb2; clear hb2)
    | (go_at_call 82; refine (HW.out _ _ hs2 HB2.out).mono ?_; rintro e w3 ⟨⟨v, rfl⟩, hb3, hf3⟩; rw [HT.out] at hb3; have HB3 := Lib.hid hb3; have HF3 := Lib.hid hf3; clear hb3 hf3)
    | fail)
  refine bodyPost_end (results_none rfl _ _ _) rfl ?_
  exact ⟨rfl, HB3.out, HF3.out⟩
/-- a line of words that have just been put side by side -/
theorem line_new (M : Nat) (hM : M ≤ 40000000) (L : List ByteArray) (n : Nat) (hn : L.length = n) (w : World) (B b : Nat) (l : Bs) (hs : ∀ x ∈ L, x.size ≤ M) (h8 : n ≤ 8) (hb : Bw w B b l) (hB : B ≤ w.heap.size) (hlen : l.length ≤ 900000000000) :
    Calls Tryz.prog 93 #[.slice (some ⟨w.heap.size, 0, none⟩) n n, .pointer (some ⟨b, 0, none⟩)] (w.alloc (.cells (L.map Value.string).toArray 9)) fun e w' => e = .returned (.tuple #[]) ∧ Bw w' B b (l ++ lineL (L.map (·.data.toList))) ∧ Fr B b w w' ∧ (l ++ lineL (L.map (·.data.toList))).length ≤ l.length + (8 * M + 10) := by
  subst hn
  have hc : ∀ (j : Nat) x, L[j]? = some x → (w.alloc (.cells (L.map Value.string).toArray 9)).cell? ⟨w.heap.size, 0 + j, none⟩ = some (.string x) := fun j x hx => by
    have hj := (List.getElem?_eq_some_iff.1 hx).1
    have hh := heap_alloc_new w (.cells (L.map Value.string).toArray 9)
    unfold World.cell?
    simp only [Nat.zero_add]
    rw [hh]
    simp [hx]
  refine (line_bld M hM L w.heap.size L.length (w.alloc (.cells (L.map Value.string).toArray 9)) B b l hc (by simp) (Nat.le_refl _) hs h8 (hb.alloc _) (by simp; omega) hlen).mono ?_
  rintro e w' ⟨rfl, h1, h2⟩
  refine ⟨rfl, h1, ((Fr.refl B b w).alloc hB _).trans h2, ?_⟩
  have := line_len M L hs h8
  unfold lineL
  rw [List.length_append, List.length_append]
  simp only [List.length_cons, List.length_nil]
  omega
end Go.Proofs.YtbkffdfboloogaaGreatDoor
