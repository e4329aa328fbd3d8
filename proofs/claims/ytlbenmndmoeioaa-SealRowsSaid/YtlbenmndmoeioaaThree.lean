/- SealRows: the walk. -/
import Derived.Test.YtlbenmndmoeioaaEight
namespace Go.Proofs.Ytlbenmndmoeioaa
open Go.RowKit Go.Maps
set_option linter.unusedVariables false

set_option maxHeartbeats 8000000 in
set_option maxRecDepth 100000 in
theorem rows_main (a t : ByteArray) (j1 j2 : Nat) (w : World) (A : Option Addr) (c : Nat) (l : List Nt) (hR : Rn w w.heap.size A l) (hS : ∀ x ∈ l, Small x) (hv1 : hv l 18 = false) (hx : Small (a, t)) (hv2 : big (a, t) = false) (hj1 : j1 ≤ j2) (hj2 : j2 ≤ l.length) :
    Calls Try.prog 8 #[.slice A l.length c, .int .i64 j1, .int .i64 j2, .agg #[.string a, .string t]] w fun e w' => e = .returned (.bool true) ∧ Below w.heap.size w w' := by
  obtain ⟨hl, hsm⟩ := hv_false hv1
  obtain ⟨ha, ht⟩ := small_big hv2
  simp only at ha ht
  have hb0 := (Below.refl w.heap.size w).alloc (Nat.le_refl _) (.cells #[.string a, .string t] 27)
  have H0 := Lib.hid hb0
  have Hh := Lib.hid hv1
  have Hh2 := Lib.hid hv2
  obtain ⟨i0, hi0, hz0, hz1, hz2⟩ := info_parts infoPtr
  clear hb0 hv1 hv2
  go_enter Try.func8, Try.ntmps8
  go_wp2_with fail
  refine (awake_any _).mono ?_
  rintro e w1 ⟨rfl, hb1⟩
  have H1 := Lib.hid (below_trans' (Nat.le_refl _) H0.out hb1)
  have c0 : w1.cell? ⟨w.heap.size, 0, none⟩ = some (.string a) := by
    rw [hb1.cell (p := ⟨w.heap.size, 0, none⟩) (by simp)]; simp
  have c1 : w1.cell? ⟨w.heap.size, 1, none⟩ = some (.string t) := by
    rw [hb1.cell (p := ⟨w.heap.size, 1, none⟩) (by simp)]; simp
  have z1 : w.heap.size < w1.heap.size := by have := hb1.size; simp at this; omega
  clear hb1
  go_wp2_with fail
  refine (heavy_any 18 _ w.heap.size A c l (hR.below H1.out) hS (by unfold maxLen; omega) (by omega)).mono ?_
  rintro e w' ⟨rfl, rfl⟩
  rw [Hh.out]
  go_wp2_with fail
  refine (heavy_one a t _ (w1.heap.size + 1) _ 1 (Rn.one w1 a t) hx _ Hh2.out).mono ?_
  rintro e w' ⟨rfl, rfl⟩
  go_wp2_with fail
  obtain ⟨W0, hW0⟩ : ∃ W0 : World, W0 = ((w1.alloc (.cells #[.string a, .string t] 27)).alloc (.cells #[] 29)).alloc (.cells #[] 27) := ⟨_, rfl⟩
  have hbW : Below w1.heap.size w1 W0 := by rw [hW0]; exact (((Below.refl _ _).alloc (Nat.le_refl _) _).alloc (by simp) _).alloc (by simp; omega) _
  have ownW0 : W0.ownsRow (w.heap.size + 1) 29 1 (.slice (some ⟨w1.heap.size + 1, 0, none⟩) 0 0) 0 [] := by
    rw [hW0]
    have h := own43 (w1.alloc (.cells #[.string a, .string t] 27)) (w.heap.size + 1) (by simp; omega)
    have e : (w1.alloc (.cells #[.string a, .string t] 27)).heap.size = w1.heap.size + 1 := by simp
    rw [e] at h
    exact h.alloc _
  have HbW0 := Lib.hid (show Below w.heap.size w W0 from H1.out.trans (hbW.mono (by omega)))
  have d0W0 : W0.cell? ⟨w.heap.size, 0, none⟩ = some (.string a) := (hbW.cell (p := ⟨w.heap.size, 0, none⟩) z1).trans c0
  have d1W0 : W0.cell? ⟨w.heap.size, 1, none⟩ = some (.string t) := (hbW.cell (p := ⟨w.heap.size, 1, none⟩) z1).trans c1
  have zW0 : w.heap.size < W0.heap.size := by have := hbW.size; omega
  rw [← hW0]
  clear hW0 hbW c0 c1 z1 H1 H0
  generalize hg0 : w1.heap.size + 1 = g0 at *
  clear hg0
  go_wp2_with fail
  refine (new_any _).mono ?_
  rintro e W1 ⟨rfl, NcW1, hbW1, hsW1⟩
  have zW1 : W0.heap.size + 1 < W1.heap.size := by omega
  have yW1 : W0.heap.size < W0.heap.size + 1 := by omega
  clear hsW1
  have oc : w.heap.size < W0.heap.size := zW0
  have ownW1 := ownW0.kept (grown_of_below hbW1 none) (.inr (by simp [Value.ownBlock]))
  have HbW1 := Lib.hid (below_trans' (Nat.le_refl _) HbW0.out hbW1)
  have d0W1 := (hbW1.cell (p := ⟨w.heap.size, 0, none⟩) (by show w.heap.size < W0.heap.size; omega)).trans d0W0
  have d1W1 := (hbW1.cell (p := ⟨w.heap.size, 1, none⟩) (by show w.heap.size < W0.heap.size; omega)).trans d1W0
  clear hbW1 ownW0 d0W0 d1W0 HbW0 zW0
  generalize W0.heap.size = bc at *
  generalize bc + 1 = pc at *
  go_wp2_with fail
  refine (new_any _).mono ?_
  rintro e W2 ⟨rfl, NdW2, hbW2, hsW2⟩
  have zW2 : W1.heap.size + 1 < W2.heap.size := by omega
  have yW2 : W1.heap.size < W1.heap.size + 1 := by omega
  clear hsW2
  have NcW2 := NcW1.below hbW2 NcW1.plt NcW1.blt
  have od : pc < W1.heap.size := NcW1.plt
  have ownW2 := ownW1.kept (grown_of_below hbW2 none) (.inr (by simp [Value.ownBlock]))
  have HbW2 := Lib.hid (below_trans' (Nat.le_refl _) HbW1.out hbW2)
  have d0W2 := (hbW2.cell (p := ⟨w.heap.size, 0, none⟩) (by show w.heap.size < W1.heap.size; omega)).trans d0W1
  have d1W2 := (hbW2.cell (p := ⟨w.heap.size, 1, none⟩) (by show w.heap.size < W1.heap.size; omega)).trans d1W1
  clear hbW2 ownW1 d0W1 d1W1 HbW1 NcW1
  generalize W1.heap.size = bd at *
  generalize bd + 1 = pd at *
  go_wp2_with fail
  refine wp_loop_rounds 7 ?_
  rw [rounds_succ]
  go_wp2_with fail
  refine (new_any _).mono ?_
  rintro e X0 ⟨rfl, N0X0, hbX0, hsX0⟩
  have zX0 : W2.heap.size + 1 < X0.heap.size := by omega
  have yX0 : W2.heap.size < W2.heap.size + 1 := by omega
  clear hsX0
  have NcX0 := NcW2.below hbX0 NcW2.plt NcW2.blt
  have NdX0 := NdW2.below hbX0 NdW2.plt NdW2.blt
  have o0 : pd < W2.heap.size := NdW2.plt
  have ownX0 := ownW2.kept (grown_of_below hbX0 none) (.inr (by simp [Value.ownBlock]))
  have HbX0 := Lib.hid (below_trans' (Nat.le_refl _) HbW2.out hbX0)
  have d0X0 := (hbX0.cell (p := ⟨w.heap.size, 0, none⟩) (by show w.heap.size < W2.heap.size; omega)).trans d0W2
  have d1X0 := (hbX0.cell (p := ⟨w.heap.size, 1, none⟩) (by show w.heap.size < W2.heap.size; omega)).trans d1W2
  clear hbX0 ownW2 d0W2 d1W2 HbW2 NcW2 NdW2
  generalize W2.heap.size = b0 at *
  generalize b0 + 1 = p0 at *
  go_wp2_with (first | (at_builtin; refine wpList_append_lies _ rfl _ _ 43 rfl (w.heap.size + 1) 29 i0 _ 1 8 Try.underlying43 hi0 hz0 hz1 hz2 rfl (by decide) (.slice (some ⟨g0, 0, none⟩) 0 0) 0 [] rfl (ownX0.alloc _) ⟨X0.heap.size, 0, none⟩ 1 1 [.pointer (some ⟨p0, 0, none⟩)] rfl rfl (World.news_of_block (cs := #[.pointer (some ⟨p0, 0, none⟩)]) (t := 29) (fr := (0, 0)) (heap_alloc_new X0 _)) (by simp [Value.oneCell']) (by decide) (by decide) (by decide) (by simp; omega) (X0.heap.size + 1) (by simp) ?_; intro g1 cap1 Y0 ownY0 hgY0 hatY0 hltY0; simp only [Nat.zero_add, List.nil_append] at ownY0 ⊢) | fail)
  have yyY0 := hgY0.size
  simp at yyY0
  have NcY0 := (NcX0.alloc (.cells #[.pointer (some ⟨p0, 0, none⟩)] 29)).keepOwn (ownX0.alloc _) hgY0
  have NdY0 := (NdX0.alloc (.cells #[.pointer (some ⟨p0, 0, none⟩)] 29)).keepOwn (ownX0.alloc _) hgY0
  have N0Y0 := (N0X0.alloc (.cells #[.pointer (some ⟨p0, 0, none⟩)] 29)).keepOwn (ownX0.alloc _) hgY0
  have HbY0 := Lib.hid (show Below w.heap.size w Y0 from (HbX0.out.alloc (by omega) _).grown hgY0 (by simp; omega) (fun j hj => by have := (ownX0.lt j hj).1; omega))
  have d0Y0 : Y0.cell? ⟨w.heap.size, 0, none⟩ = some (.string a) := (keepX hgY0 (by simp; omega) (by have h7 := (ownX0.lt g0 rfl).1; show w.heap.size ≠ g0; omega)).trans ((World.cell?_alloc_lt X0 _ _ (by show w.heap.size < X0.heap.size; omega)).trans d0X0)
  have d1Y0 : Y0.cell? ⟨w.heap.size, 1, none⟩ = some (.string t) := (keepX hgY0 (by simp; omega) (by have h7 := (ownX0.lt g0 rfl).1; show w.heap.size ≠ g0; omega)).trans ((World.cell?_alloc_lt X0 _ _ (by show w.heap.size < X0.heap.size; omega)).trans d1X0)
  clear hgY0 hatY0 ownX0 d0X0 d1X0 HbX0 NcX0 NdX0 N0X0
  have zzY0 : w.heap.size < Y0.heap.size := by omega
  rw [rounds_succ]
  go_wp2_with fail
  refine (new_any _).mono ?_
  rintro e X1 ⟨rfl, N1X1, hbX1, hsX1⟩
  have zX1 : Y0.heap.size + 1 < X1.heap.size := by omega
  have yX1 : Y0.heap.size < Y0.heap.size + 1 := by omega
  clear hsX1
  have NcX1 := NcY0.below hbX1 NcY0.plt NcY0.blt
  have NdX1 := NdY0.below hbX1 NdY0.plt NdY0.blt
  have N0X1 := N0Y0.below hbX1 N0Y0.plt N0Y0.blt
  have o1 : p0 < Y0.heap.size := N0Y0.plt
  have ownX1 := ownY0.kept (grown_of_below hbX1 none) (.inr (by simp [Value.ownBlock]))
  have HbX1 := Lib.hid (below_trans' (Nat.le_refl _) HbY0.out hbX1)
  have d0X1 := (hbX1.cell (p := ⟨w.heap.size, 0, none⟩) (by show w.heap.size < Y0.heap.size; omega)).trans d0Y0
  have d1X1 := (hbX1.cell (p := ⟨w.heap.size, 1, none⟩) (by show w.heap.size < Y0.heap.size; omega)).trans d1Y0
  clear hbX1 ownY0 d0Y0 d1Y0 HbY0 NcY0 NdY0 N0Y0
  generalize Y0.heap.size = b1 at *
  generalize b1 + 1 = p1 at *
  go_wp2_with (first | (at_builtin; refine wpList_append_lies _ rfl _ _ 43 rfl (w.heap.size + 1) 29 i0 _ 1 8 Try.underlying43 hi0 hz0 hz1 hz2 rfl (by decide) (.slice (some ⟨g1, 0, none⟩) 1 cap1) 1 [.pointer (some ⟨p0, 0, none⟩)] rfl (ownX1.alloc _) ⟨X1.heap.size, 0, none⟩ 1 1 [.pointer (some ⟨p1, 0, none⟩)] rfl rfl (World.news_of_block (cs := #[.pointer (some ⟨p1, 0, none⟩)]) (t := 29) (fr := (0, 0)) (heap_alloc_new X1 _)) (by simp [Value.oneCell']) (by decide) (by decide) (by decide) (by simp; omega) (X1.heap.size + 1) (by simp) ?_; intro g2 cap2 Y1 ownY1 hgY1 hatY1 hltY1; simp only [Nat.reduceAdd, List.nil_append, List.cons_append] at ownY1 ⊢) | fail)
  have yyY1 := hgY1.size
  simp at yyY1
  have NcY1 := (NcX1.alloc (.cells #[.pointer (some ⟨p1, 0, none⟩)] 29)).keepOwn (ownX1.alloc _) hgY1
  have NdY1 := (NdX1.alloc (.cells #[.pointer (some ⟨p1, 0, none⟩)] 29)).keepOwn (ownX1.alloc _) hgY1
  have N0Y1 := (N0X1.alloc (.cells #[.pointer (some ⟨p1, 0, none⟩)] 29)).keepOwn (ownX1.alloc _) hgY1
  have N1Y1 := (N1X1.alloc (.cells #[.pointer (some ⟨p1, 0, none⟩)] 29)).keepOwn (ownX1.alloc _) hgY1
  have HbY1 := Lib.hid (show Below w.heap.size w Y1 from (HbX1.out.alloc (by omega) _).grown hgY1 (by simp; omega) (fun j hj => by have := (ownX1.lt j hj).1; omega))
  have d0Y1 : Y1.cell? ⟨w.heap.size, 0, none⟩ = some (.string a) := (keepX hgY1 (by simp; omega) (by have h7 := (ownX1.lt g1 rfl).1; show w.heap.size ≠ g1; omega)).trans ((World.cell?_alloc_lt X1 _ _ (by show w.heap.size < X1.heap.size; omega)).trans d0X1)
  have d1Y1 : Y1.cell? ⟨w.heap.size, 1, none⟩ = some (.string t) := (keepX hgY1 (by simp; omega) (by have h7 := (ownX1.lt g1 rfl).1; show w.heap.size ≠ g1; omega)).trans ((World.cell?_alloc_lt X1 _ _ (by show w.heap.size < X1.heap.size; omega)).trans d1X1)
  clear hgY1 hatY1 ownX1 d0X1 d1X1 HbX1 NcX1 NdX1 N0X1 N1X1
  have zzY1 : w.heap.size < Y1.heap.size := by omega
  rw [rounds_succ]
  go_wp2_with fail
  refine (new_any _).mono ?_
  rintro e X2 ⟨rfl, N2X2, hbX2, hsX2⟩
  have zX2 : Y1.heap.size + 1 < X2.heap.size := by omega
  have yX2 : Y1.heap.size < Y1.heap.size + 1 := by omega
  clear hsX2
  have NcX2 := NcY1.below hbX2 NcY1.plt NcY1.blt
  have NdX2 := NdY1.below hbX2 NdY1.plt NdY1.blt
  have N0X2 := N0Y1.below hbX2 N0Y1.plt N0Y1.blt
  have N1X2 := N1Y1.below hbX2 N1Y1.plt N1Y1.blt
  have o2 : p1 < Y1.heap.size := N1Y1.plt
  have ownX2 := ownY1.kept (grown_of_below hbX2 none) (.inr (by simp [Value.ownBlock]))
  have HbX2 := Lib.hid (below_trans' (Nat.le_refl _) HbY1.out hbX2)
  have d0X2 := (hbX2.cell (p := ⟨w.heap.size, 0, none⟩) (by show w.heap.size < Y1.heap.size; omega)).trans d0Y1
  have d1X2 := (hbX2.cell (p := ⟨w.heap.size, 1, none⟩) (by show w.heap.size < Y1.heap.size; omega)).trans d1Y1
  clear hbX2 ownY1 d0Y1 d1Y1 HbY1 NcY1 NdY1 N0Y1 N1Y1
  generalize Y1.heap.size = b2 at *
  generalize b2 + 1 = p2 at *
  go_wp2_with (first | (at_builtin; refine wpList_append_lies _ rfl _ _ 43 rfl (w.heap.size + 1) 29 i0 _ 1 8 Try.underlying43 hi0 hz0 hz1 hz2 rfl (by decide) (.slice (some ⟨g2, 0, none⟩) 2 cap2) 2 [.pointer (some ⟨p0, 0, none⟩), .pointer (some ⟨p1, 0, none⟩)] rfl (ownX2.alloc _) ⟨X2.heap.size, 0, none⟩ 1 1 [.pointer (some ⟨p2, 0, none⟩)] rfl rfl (World.news_of_block (cs := #[.pointer (some ⟨p2, 0, none⟩)]) (t := 29) (fr := (0, 0)) (heap_alloc_new X2 _)) (by simp [Value.oneCell']) (by decide) (by decide) (by decide) (by simp; omega) (X2.heap.size + 1) (by simp) ?_; intro g3 cap3 Y2 ownY2 hgY2 hatY2 hltY2; simp only [Nat.reduceAdd, List.nil_append, List.cons_append] at ownY2 ⊢) | fail)
  have yyY2 := hgY2.size
  simp at yyY2
  have NcY2 := (NcX2.alloc (.cells #[.pointer (some ⟨p2, 0, none⟩)] 29)).keepOwn (ownX2.alloc _) hgY2
  have NdY2 := (NdX2.alloc (.cells #[.pointer (some ⟨p2, 0, none⟩)] 29)).keepOwn (ownX2.alloc _) hgY2
  have N0Y2 := (N0X2.alloc (.cells #[.pointer (some ⟨p2, 0, none⟩)] 29)).keepOwn (ownX2.alloc _) hgY2
  have N1Y2 := (N1X2.alloc (.cells #[.pointer (some ⟨p2, 0, none⟩)] 29)).keepOwn (ownX2.alloc _) hgY2
  have N2Y2 := (N2X2.alloc (.cells #[.pointer (some ⟨p2, 0, none⟩)] 29)).keepOwn (ownX2.alloc _) hgY2
  have HbY2 := Lib.hid (show Below w.heap.size w Y2 from (HbX2.out.alloc (by omega) _).grown hgY2 (by simp; omega) (fun j hj => by have := (ownX2.lt j hj).1; omega))
  have d0Y2 : Y2.cell? ⟨w.heap.size, 0, none⟩ = some (.string a) := (keepX hgY2 (by simp; omega) (by have h7 := (ownX2.lt g2 rfl).1; show w.heap.size ≠ g2; omega)).trans ((World.cell?_alloc_lt X2 _ _ (by show w.heap.size < X2.heap.size; omega)).trans d0X2)
  have d1Y2 : Y2.cell? ⟨w.heap.size, 1, none⟩ = some (.string t) := (keepX hgY2 (by simp; omega) (by have h7 := (ownX2.lt g2 rfl).1; show w.heap.size ≠ g2; omega)).trans ((World.cell?_alloc_lt X2 _ _ (by show w.heap.size < X2.heap.size; omega)).trans d1X2)
  clear hgY2 hatY2 ownX2 d0X2 d1X2 HbX2 NcX2 NdX2 N0X2 N1X2 N2X2
  have zzY2 : w.heap.size < Y2.heap.size := by omega
  rw [rounds_succ]
  go_wp2_with fail
  refine (new_any _).mono ?_
  rintro e X3 ⟨rfl, N3X3, hbX3, hsX3⟩
  have zX3 : Y2.heap.size + 1 < X3.heap.size := by omega
  have yX3 : Y2.heap.size < Y2.heap.size + 1 := by omega
  clear hsX3
  have NcX3 := NcY2.below hbX3 NcY2.plt NcY2.blt
  have NdX3 := NdY2.below hbX3 NdY2.plt NdY2.blt
  have N0X3 := N0Y2.below hbX3 N0Y2.plt N0Y2.blt
  have N1X3 := N1Y2.below hbX3 N1Y2.plt N1Y2.blt
  have N2X3 := N2Y2.below hbX3 N2Y2.plt N2Y2.blt
  have o3 : p2 < Y2.heap.size := N2Y2.plt
  have ownX3 := ownY2.kept (grown_of_below hbX3 none) (.inr (by simp [Value.ownBlock]))
  have HbX3 := Lib.hid (below_trans' (Nat.le_refl _) HbY2.out hbX3)
  have d0X3 := (hbX3.cell (p := ⟨w.heap.size, 0, none⟩) (by show w.heap.size < Y2.heap.size; omega)).trans d0Y2
  have d1X3 := (hbX3.cell (p := ⟨w.heap.size, 1, none⟩) (by show w.heap.size < Y2.heap.size; omega)).trans d1Y2
  clear hbX3 ownY2 d0Y2 d1Y2 HbY2 NcY2 NdY2 N0Y2 N1Y2 N2Y2
  generalize Y2.heap.size = b3 at *
  generalize b3 + 1 = p3 at *
  go_wp2_with (first | (at_builtin; refine wpList_append_lies _ rfl _ _ 43 rfl (w.heap.size + 1) 29 i0 _ 1 8 Try.underlying43 hi0 hz0 hz1 hz2 rfl (by decide) (.slice (some ⟨g3, 0, none⟩) 3 cap3) 3 [.pointer (some ⟨p0, 0, none⟩), .pointer (some ⟨p1, 0, none⟩), .pointer (some ⟨p2, 0, none⟩)] rfl (ownX3.alloc _) ⟨X3.heap.size, 0, none⟩ 1 1 [.pointer (some ⟨p3, 0, none⟩)] rfl rfl (World.news_of_block (cs := #[.pointer (some ⟨p3, 0, none⟩)]) (t := 29) (fr := (0, 0)) (heap_alloc_new X3 _)) (by simp [Value.oneCell']) (by decide) (by decide) (by decide) (by simp; omega) (X3.heap.size + 1) (by simp) ?_; intro g4 cap4 Y3 ownY3 hgY3 hatY3 hltY3; simp only [Nat.reduceAdd, List.nil_append, List.cons_append] at ownY3 ⊢) | fail)
  have yyY3 := hgY3.size
  simp at yyY3
  have NcY3 := (NcX3.alloc (.cells #[.pointer (some ⟨p3, 0, none⟩)] 29)).keepOwn (ownX3.alloc _) hgY3
  have NdY3 := (NdX3.alloc (.cells #[.pointer (some ⟨p3, 0, none⟩)] 29)).keepOwn (ownX3.alloc _) hgY3
  have N0Y3 := (N0X3.alloc (.cells #[.pointer (some ⟨p3, 0, none⟩)] 29)).keepOwn (ownX3.alloc _) hgY3
  have N1Y3 := (N1X3.alloc (.cells #[.pointer (some ⟨p3, 0, none⟩)] 29)).keepOwn (ownX3.alloc _) hgY3
  have N2Y3 := (N2X3.alloc (.cells #[.pointer (some ⟨p3, 0, none⟩)] 29)).keepOwn (ownX3.alloc _) hgY3
  have N3Y3 := (N3X3.alloc (.cells #[.pointer (some ⟨p3, 0, none⟩)] 29)).keepOwn (ownX3.alloc _) hgY3
  have HbY3 := Lib.hid (show Below w.heap.size w Y3 from (HbX3.out.alloc (by omega) _).grown hgY3 (by simp; omega) (fun j hj => by have := (ownX3.lt j hj).1; omega))
  have d0Y3 : Y3.cell? ⟨w.heap.size, 0, none⟩ = some (.string a) := (keepX hgY3 (by simp; omega) (by have h7 := (ownX3.lt g3 rfl).1; show w.heap.size ≠ g3; omega)).trans ((World.cell?_alloc_lt X3 _ _ (by show w.heap.size < X3.heap.size; omega)).trans d0X3)
  have d1Y3 : Y3.cell? ⟨w.heap.size, 1, none⟩ = some (.string t) := (keepX hgY3 (by simp; omega) (by have h7 := (ownX3.lt g3 rfl).1; show w.heap.size ≠ g3; omega)).trans ((World.cell?_alloc_lt X3 _ _ (by show w.heap.size < X3.heap.size; omega)).trans d1X3)
  clear hgY3 hatY3 ownX3 d0X3 d1X3 HbX3 NcX3 NdX3 N0X3 N1X3 N2X3 N3X3
  have zzY3 : w.heap.size < Y3.heap.size := by omega
  rw [rounds_succ]
  go_wp2_with fail
  refine (new_any _).mono ?_
  rintro e X4 ⟨rfl, N4X4, hbX4, hsX4⟩
  have zX4 : Y3.heap.size + 1 < X4.heap.size := by omega
  have yX4 : Y3.heap.size < Y3.heap.size + 1 := by omega
  clear hsX4
  have NcX4 := NcY3.below hbX4 NcY3.plt NcY3.blt
  have NdX4 := NdY3.below hbX4 NdY3.plt NdY3.blt
  have N0X4 := N0Y3.below hbX4 N0Y3.plt N0Y3.blt
  have N1X4 := N1Y3.below hbX4 N1Y3.plt N1Y3.blt
  have N2X4 := N2Y3.below hbX4 N2Y3.plt N2Y3.blt
  have N3X4 := N3Y3.below hbX4 N3Y3.plt N3Y3.blt
  have o4 : p3 < Y3.heap.size := N3Y3.plt
  have ownX4 := ownY3.kept (grown_of_below hbX4 none) (.inr (by simp [Value.ownBlock]))
  have HbX4 := Lib.hid (below_trans' (Nat.le_refl _) HbY3.out hbX4)
  have d0X4 := (hbX4.cell (p := ⟨w.heap.size, 0, none⟩) (by show w.heap.size < Y3.heap.size; omega)).trans d0Y3
  have d1X4 := (hbX4.cell (p := ⟨w.heap.size, 1, none⟩) (by show w.heap.size < Y3.heap.size; omega)).trans d1Y3
  clear hbX4 ownY3 d0Y3 d1Y3 HbY3 NcY3 NdY3 N0Y3 N1Y3 N2Y3 N3Y3
  generalize Y3.heap.size = b4 at *
  generalize b4 + 1 = p4 at *
  go_wp2_with (first | (at_builtin; refine wpList_append_lies _ rfl _ _ 43 rfl (w.heap.size + 1) 29 i0 _ 1 8 Try.underlying43 hi0 hz0 hz1 hz2 rfl (by decide) (.slice (some ⟨g4, 0, none⟩) 4 cap4) 4 [.pointer (some ⟨p0, 0, none⟩), .pointer (some ⟨p1, 0, none⟩), .pointer (some ⟨p2, 0, none⟩), .pointer (some ⟨p3, 0, none⟩)] rfl (ownX4.alloc _) ⟨X4.heap.size, 0, none⟩ 1 1 [.pointer (some ⟨p4, 0, none⟩)] rfl rfl (World.news_of_block (cs := #[.pointer (some ⟨p4, 0, none⟩)]) (t := 29) (fr := (0, 0)) (heap_alloc_new X4 _)) (by simp [Value.oneCell']) (by decide) (by decide) (by decide) (by simp; omega) (X4.heap.size + 1) (by simp) ?_; intro g5 cap5 Y4 ownY4 hgY4 hatY4 hltY4; simp only [Nat.reduceAdd, List.nil_append, List.cons_append] at ownY4 ⊢) | fail)
  have yyY4 := hgY4.size
  simp at yyY4
  have NcY4 := (NcX4.alloc (.cells #[.pointer (some ⟨p4, 0, none⟩)] 29)).keepOwn (ownX4.alloc _) hgY4
  have NdY4 := (NdX4.alloc (.cells #[.pointer (some ⟨p4, 0, none⟩)] 29)).keepOwn (ownX4.alloc _) hgY4
  have N0Y4 := (N0X4.alloc (.cells #[.pointer (some ⟨p4, 0, none⟩)] 29)).keepOwn (ownX4.alloc _) hgY4
  have N1Y4 := (N1X4.alloc (.cells #[.pointer (some ⟨p4, 0, none⟩)] 29)).keepOwn (ownX4.alloc _) hgY4
  have N2Y4 := (N2X4.alloc (.cells #[.pointer (some ⟨p4, 0, none⟩)] 29)).keepOwn (ownX4.alloc _) hgY4
  have N3Y4 := (N3X4.alloc (.cells #[.pointer (some ⟨p4, 0, none⟩)] 29)).keepOwn (ownX4.alloc _) hgY4
  have N4Y4 := (N4X4.alloc (.cells #[.pointer (some ⟨p4, 0, none⟩)] 29)).keepOwn (ownX4.alloc _) hgY4
  have HbY4 := Lib.hid (show Below w.heap.size w Y4 from (HbX4.out.alloc (by omega) _).grown hgY4 (by simp; omega) (fun j hj => by have := (ownX4.lt j hj).1; omega))
  have d0Y4 : Y4.cell? ⟨w.heap.size, 0, none⟩ = some (.string a) := (keepX hgY4 (by simp; omega) (by have h7 := (ownX4.lt g4 rfl).1; show w.heap.size ≠ g4; omega)).trans ((World.cell?_alloc_lt X4 _ _ (by show w.heap.size < X4.heap.size; omega)).trans d0X4)
  have d1Y4 : Y4.cell? ⟨w.heap.size, 1, none⟩ = some (.string t) := (keepX hgY4 (by simp; omega) (by have h7 := (ownX4.lt g4 rfl).1; show w.heap.size ≠ g4; omega)).trans ((World.cell?_alloc_lt X4 _ _ (by show w.heap.size < X4.heap.size; omega)).trans d1X4)
  clear hgY4 hatY4 ownX4 d0X4 d1X4 HbX4 NcX4 NdX4 N0X4 N1X4 N2X4 N3X4 N4X4
  have zzY4 : w.heap.size < Y4.heap.size := by omega
  rw [rounds_succ]
  go_wp2_with fail
  refine (new_any _).mono ?_
  rintro e X5 ⟨rfl, N5X5, hbX5, hsX5⟩
  have zX5 : Y4.heap.size + 1 < X5.heap.size := by omega
  have yX5 : Y4.heap.size < Y4.heap.size + 1 := by omega
  clear hsX5
  have NcX5 := NcY4.below hbX5 NcY4.plt NcY4.blt
  have NdX5 := NdY4.below hbX5 NdY4.plt NdY4.blt
  have N0X5 := N0Y4.below hbX5 N0Y4.plt N0Y4.blt
  have N1X5 := N1Y4.below hbX5 N1Y4.plt N1Y4.blt
  have N2X5 := N2Y4.below hbX5 N2Y4.plt N2Y4.blt
  have N3X5 := N3Y4.below hbX5 N3Y4.plt N3Y4.blt
  have N4X5 := N4Y4.below hbX5 N4Y4.plt N4Y4.blt
  have o5 : p4 < Y4.heap.size := N4Y4.plt
  have ownX5 := ownY4.kept (grown_of_below hbX5 none) (.inr (by simp [Value.ownBlock]))
  have HbX5 := Lib.hid (below_trans' (Nat.le_refl _) HbY4.out hbX5)
  have d0X5 := (hbX5.cell (p := ⟨w.heap.size, 0, none⟩) (by show w.heap.size < Y4.heap.size; omega)).trans d0Y4
  have d1X5 := (hbX5.cell (p := ⟨w.heap.size, 1, none⟩) (by show w.heap.size < Y4.heap.size; omega)).trans d1Y4
  clear hbX5 ownY4 d0Y4 d1Y4 HbY4 NcY4 NdY4 N0Y4 N1Y4 N2Y4 N3Y4 N4Y4
  generalize Y4.heap.size = b5 at *
  generalize b5 + 1 = p5 at *
  go_wp2_with (first | (at_builtin; refine wpList_append_lies _ rfl _ _ 43 rfl (w.heap.size + 1) 29 i0 _ 1 8 Try.underlying43 hi0 hz0 hz1 hz2 rfl (by decide) (.slice (some ⟨g5, 0, none⟩) 5 cap5) 5 [.pointer (some ⟨p0, 0, none⟩), .pointer (some ⟨p1, 0, none⟩), .pointer (some ⟨p2, 0, none⟩), .pointer (some ⟨p3, 0, none⟩), .pointer (some ⟨p4, 0, none⟩)] rfl (ownX5.alloc _) ⟨X5.heap.size, 0, none⟩ 1 1 [.pointer (some ⟨p5, 0, none⟩)] rfl rfl (World.news_of_block (cs := #[.pointer (some ⟨p5, 0, none⟩)]) (t := 29) (fr := (0, 0)) (heap_alloc_new X5 _)) (by simp [Value.oneCell']) (by decide) (by decide) (by decide) (by simp; omega) (X5.heap.size + 1) (by simp) ?_; intro g6 cap6 Y5 ownY5 hgY5 hatY5 hltY5; simp only [Nat.reduceAdd, List.nil_append, List.cons_append] at ownY5 ⊢) | fail)
  have yyY5 := hgY5.size
  simp at yyY5
  have NcY5 := (NcX5.alloc (.cells #[.pointer (some ⟨p5, 0, none⟩)] 29)).keepOwn (ownX5.alloc _) hgY5
  have NdY5 := (NdX5.alloc (.cells #[.pointer (some ⟨p5, 0, none⟩)] 29)).keepOwn (ownX5.alloc _) hgY5
  have N0Y5 := (N0X5.alloc (.cells #[.pointer (some ⟨p5, 0, none⟩)] 29)).keepOwn (ownX5.alloc _) hgY5
  have N1Y5 := (N1X5.alloc (.cells #[.pointer (some ⟨p5, 0, none⟩)] 29)).keepOwn (ownX5.alloc _) hgY5
  have N2Y5 := (N2X5.alloc (.cells #[.pointer (some ⟨p5, 0, none⟩)] 29)).keepOwn (ownX5.alloc _) hgY5
  have N3Y5 := (N3X5.alloc (.cells #[.pointer (some ⟨p5, 0, none⟩)] 29)).keepOwn (ownX5.alloc _) hgY5
  have N4Y5 := (N4X5.alloc (.cells #[.pointer (some ⟨p5, 0, none⟩)] 29)).keepOwn (ownX5.alloc _) hgY5
  have N5Y5 := (N5X5.alloc (.cells #[.pointer (some ⟨p5, 0, none⟩)] 29)).keepOwn (ownX5.alloc _) hgY5
  have HbY5 := Lib.hid (show Below w.heap.size w Y5 from (HbX5.out.alloc (by omega) _).grown hgY5 (by simp; omega) (fun j hj => by have := (ownX5.lt j hj).1; omega))
  have d0Y5 : Y5.cell? ⟨w.heap.size, 0, none⟩ = some (.string a) := (keepX hgY5 (by simp; omega) (by have h7 := (ownX5.lt g5 rfl).1; show w.heap.size ≠ g5; omega)).trans ((World.cell?_alloc_lt X5 _ _ (by show w.heap.size < X5.heap.size; omega)).trans d0X5)
  have d1Y5 : Y5.cell? ⟨w.heap.size, 1, none⟩ = some (.string t) := (keepX hgY5 (by simp; omega) (by have h7 := (ownX5.lt g5 rfl).1; show w.heap.size ≠ g5; omega)).trans ((World.cell?_alloc_lt X5 _ _ (by show w.heap.size < X5.heap.size; omega)).trans d1X5)
  clear hgY5 hatY5 ownX5 d0X5 d1X5 HbX5 NcX5 NdX5 N0X5 N1X5 N2X5 N3X5 N4X5 N5X5
  have zzY5 : w.heap.size < Y5.heap.size := by omega
  rw [rounds_succ]
  go_wp2_with fail
  go_loopw [14] (fun i wr => ∃ k : Nat, k ≤ l.length ∧ i = .int .i64 ((k : Int) - 1) ∧ Ny wr pc bc [] ∧ Ny wr pd bd [] ∧ Ny wr p0 b0 (seg0 l j1 k) ∧ Ny wr p1 b1 (seg1 l j1 j2 k) ∧ Ny wr p2 b2 (seg2 l j2 k) ∧ Ny wr p3 b3 (seg0 l j1 k) ∧ Ny wr p4 b4 (seg1 l j1 j2 k) ∧ Ny wr p5 b5 (seg2 l j2 k) ∧ wr.ownsRow (w.heap.size + 1) 29 1 (.slice (some ⟨g6, 0, none⟩) 6 cap6) 6 [.pointer (some ⟨p0, 0, none⟩), .pointer (some ⟨p1, 0, none⟩), .pointer (some ⟨p2, 0, none⟩), .pointer (some ⟨p3, 0, none⟩), .pointer (some ⟨p4, 0, none⟩), .pointer (some ⟨p5, 0, none⟩)] ∧ Hid (Below w.heap.size w wr) ∧ wr.cell? ⟨w.heap.size, 0, none⟩ = some (.string a) ∧ wr.cell? ⟨w.heap.size, 1, none⟩ = some (.string t) ∧ Y5.heap.size ≤ wr.heap.size) (fun i _ => (intOf i + 1).toNat)
  case atStart =>
    have e0 : seg0 l j1 l.length = [] := by unfold seg0; rw [List.drop_eq_nil_of_le (by simp; omega)]; rfl
    have e1 : seg1 l j1 j2 l.length = [] := by unfold seg1; rw [List.drop_eq_nil_of_le (by simp; omega)]; rfl
    have e2 : seg2 l j2 l.length = [] := by unfold seg2; rw [List.drop_eq_nil_of_le (by omega)]; rfl
    exact ⟨l.length, Nat.le_refl _, rfl, NcY5, NdY5, by rw [e0]; exact N0Y5, by rw [e1]; exact N1Y5, by rw [e2]; exact N2Y5, by rw [e0]; exact N3Y5, by rw [e1]; exact N4Y5, by rw [e2]; exact N5Y5, ownY5, HbY5, d0Y5, d1Y5, Nat.le_refl _⟩
  case round =>
    clear NcY5 NdY5 N0Y5 N1Y5 N2Y5 N3Y5 N4Y5 N5Y5 ownY5 HbY5 d0Y5 d1Y5
    obtain ⟨k, hk, rfl, Ncwr, Ndwr, N0wr, N1wr, N2wr, N3wr, N4wr, N5wr, ownwr, Hbwr, d0wr, d1wr, hzwr⟩ := hrel
    cases k with
    | zero =>
      have e00 : ((0 : Nat) : Int) - 1 = -1 := by omega
      rw [e00]
      clear e00
      have hs0 := seg0_le l j1 0
      have hs1 := seg1_le l j1 j2 0
      have hs2 := seg2_le l j2 0
      have HA := Lib.hid (segs_mem l j1 j2 hj1 hj2)
      generalize seg0 l j1 0 = S0 at *
      generalize seg1 l j1 j2 0 = S1 at *
      generalize seg2 l j2 0 = S2 at *
      have hbig : p5 < wr.heap.size := N5wr.plt
      go_wp2_with fail
      obtain ⟨wo, rfl⟩ : ∃ wo : World, wo = wr := ⟨_, rfl⟩
      go_loopw [10, 16] (fun m i wr => ∃ (k g9 o9 c9 : Nat), k ≤ l.length ∧ i = .int .i64 k ∧ m = .slice (some ⟨g9, o9, none⟩) (putAll (l.take k)).length c9 ∧ Rn wr wr.heap.size (some ⟨g9, o9, none⟩) (putAll (l.take k)) ∧ Hid (Below wo.heap.size wo wr)) (fun _ i _ => l.length - (intOf i).toNat)
      case atStart => exact ⟨0, _, _, _, Nat.zero_le _, rfl, rfl, fun h => absurd h (by simp [putAll]), Lib.hid (Below.refl _ _)⟩
      case round =>
        obtain ⟨k, g9, o9, c9, hk3, rfl, rfl, hM, Hb3⟩ := hrel
        have hle := putAll_le (l.take k)
        have hlk : (l.take k).length ≤ k := by simp; omega
        have Hbw3 := Lib.hid (below_trans' (Hbwr.out.size) (Below.refl _ _) (Below.refl _ _) : Below w.heap.size wo wo)
        have z3 : wo.heap.size ≤ wr.heap.size := Hb3.out.size
        have Hww := Lib.hid (show Below w.heap.size w wr from Hbwr.out.trans (Hb3.out.mono Hbwr.out.size))
        by_cases hlt : k < l.length
        · obtain ⟨gl, ol, rfl, hgl, e0, e1⟩ := (hR.below Hww.out).at_ hlt
          have hxs := hsm l[k] (List.getElem_mem hlt)
          have HP := Lib.hid (putAll_snoc l k hlt)
          generalize l[k] = x at *
          obtain ⟨xa, xt⟩ := x
          simp only at hxs e0 e1
          have hk0 : (0 : Int) ≤ (k : Int) := Int.natCast_nonneg _
          have hk1 : (k : Int) < (l.length : Int) := by omega
          generalize hMM : putAll (l.take k) = M at *
          clear hMM
          go_wp2_with fail
          refine (put_any (xa, xt) _ wr.heap.size g9 o9 c9 M hM (Nat.le_refl _) (by omega) hxs.1 hxs.2).mono ?_
          rintro e w4 ⟨g', o', k', rfl, hM4, hb4⟩
          go_wp2_with fail
          go_roundw
          case rel => exact ⟨k + 1, g', o', k', by omega, by go_num, by rw [HP.out], by rw [HP.out]; exact hM4, Lib.hid (below_trans' (Nat.le_refl _) Hb3.out hb4)⟩
          case measure => simp [intOf]; omega
        · have ht3 : l.take k = l := List.take_of_length_le (by omega)
          rw [ht3] at hM ⊢
          clear ht3
          have hle3 := putAll_le l
          have hEa : Ei wr (w.heap.size + 1) g6 cap6 pc bc pd bd p0 b0 p1 b1 p2 b2 p3 b3 p4 b4 p5 b5 [] [] S0 S1 S2 S0 S1 S2 := ⟨Ncwr.below Hb3.out Ncwr.plt Ncwr.blt, Ndwr.below Hb3.out Ndwr.plt Ndwr.blt, N0wr.below Hb3.out N0wr.plt N0wr.blt, N1wr.below Hb3.out N1wr.plt N1wr.blt, N2wr.below Hb3.out N2wr.plt N2wr.blt, N3wr.below Hb3.out N3wr.plt N3wr.blt, N4wr.below Hb3.out N4wr.plt N4wr.blt, N5wr.below Hb3.out N5wr.plt N5wr.blt, ownwr.kept (grown_of_below Hb3.out none) (.inr (by simp [Value.ownBlock])), by omega, by omega, by omega, by omega, by omega, by omega, by omega, by omega, by omega, by omega, by omega, by omega, by omega, by omega, by omega⟩
          have hOa : Ot w wr a t wr.heap.size (some ⟨g9, o9, none⟩) (putAll l) := ⟨(Hb3.out.cell (p := ⟨w.heap.size, 0, none⟩) (by show w.heap.size < wo.heap.size; omega)).trans d0wr, (Hb3.out.cell (p := ⟨w.heap.size, 1, none⟩) (by show w.heap.size < wo.heap.size; omega)).trans d1wr, hM, Nat.le_refl _, by omega, Hww.out⟩
          clear Ncwr Ndwr N0wr N1wr N2wr N3wr N4wr N5wr ownwr d0wr d1wr hM Hbwr Hww Hbw3 Hb3
          have qb : w.heap.size < bc := by omega
          have q0 := hEa.cell 0 _ rfl
          go_wp2_with fail
          refine (merge_other _ pc bc p0 b0 [] S0 hEa.nc hEa.n0 (by omega) (by omega) (by (try simp only [List.length_nil]); omega)).mono ?_
          rintro e m1 ⟨Q1, rfl, nm1, hPm1, hgm1⟩
          have hEm1 := hEa.turnc nm1 hgm1
          have hOm1 := hOa.turn hEa.nc (by omega) hgm1
          have lm1 := fresh_len hPm1
          try simp only [List.length_nil] at lm1
          have Mm1 := Lib.hid (fresh_mem' hPm1)
          clear hEa hOa hgm1 nm1 hPm1 q0
          have q1 := hEm1.cell 1 _ rfl
          go_wp2_with fail
          refine (merge_other _ pc bc p1 b1 Q1 S1 hEm1.nc hEm1.n1 (by omega) (by omega) (by (try simp only [List.length_nil]); omega)).mono ?_
          rintro e m2 ⟨Q2, rfl, nm2, hPm2, hgm2⟩
          have hEm2 := hEm1.turnc nm2 hgm2
          have hOm2 := hOm1.turn hEm1.nc (by omega) hgm2
          have lm2 := fresh_len hPm2
          try simp only [List.length_nil] at lm2
          have Mm2 := Lib.hid (fresh_mem' hPm2)
          clear hEm1 hOm1 hgm2 nm2 hPm2 q1
          have q2 := hEm2.cell 2 _ rfl
          go_wp2_with fail
          refine (merge_other _ pc bc p2 b2 Q2 S2 hEm2.nc hEm2.n2 (by omega) (by omega) (by (try simp only [List.length_nil]); omega)).mono ?_
          rintro e m3 ⟨Q3, rfl, nm3, hPm3, hgm3⟩
          have hEm3 := hEm2.turnc nm3 hgm3
          have hOm3 := hOm2.turn hEm2.nc (by omega) hgm3
          have lm3 := fresh_len hPm3
          try simp only [List.length_nil] at lm3
          have Mm3 := Lib.hid (fresh_mem' hPm3)
          clear hEm2 hOm2 hgm3 nm3 hPm3 q2
          have q3 := hEm3.cell 3 _ rfl
          have q4 := hEm3.cell 4 _ rfl
          have q5 := hEm3.cell 5 _ rfl
          have Hl := Lib.hid (left_mem Mm1.out Mm2.out Mm3.out HA.out)
          clear Mm1 Mm2 Mm3
          go_wp2_with fail
          have tok1 : True := trivial
          have tok2 : True := trivial
          have tok3 : True := trivial
          go_region_held3 (fun w' => w'.cell? ⟨g6, 3, none⟩ = some (.pointer (some ⟨p3, 0, none⟩)) ∧ w'.cell? ⟨g6, 4, none⟩ = some (.pointer (some ⟨p4, 0, none⟩)) ∧ w'.cell? ⟨g6, 5, none⟩ = some (.pointer (some ⟨p5, 0, none⟩)))
            (first | go_keep)
            (first
              | (go_at_call 21; have _t := tok1; (with_reducible refine (merge_other _ p4 b4 p5 b5 S1 S2 hEm3.drew.n4 hEm3.drew.n5 (by omega) (by omega) (by (try simp only [List.length_nil]); omega)).mono ?_); rintro e m4 ⟨Q4, rfl, nm4, hPm4, hgm4⟩; have hEm4 := hEm3.drew.turn4 nm4 hgm4; have hOm4 := hOm3.drew.turn hEm3.drew.n4 (by omega) hgm4; have lm4 := fresh_len hPm4; (try simp only [List.length_nil] at lm4); have Mm4 := Lib.hid (fresh_mem' hPm4); have q3m4 := hEm4.cell 3 _ rfl; have q4m4 := hEm4.cell 4 _ rfl; have q5m4 := hEm4.cell 5 _ rfl; clear tok1 hgm4 nm4 hPm4)
              | (go_at_call 21; have _t := tok2; (with_reducible refine (merge_other _ p3 b3 p4 b4 S0 Q4 hEm4.n3 hEm4.n4 (by omega) (by omega) (by (try simp only [List.length_nil]); omega)).mono ?_); rintro e m5 ⟨Q5, rfl, nm5, hPm5, hgm5⟩; have hEm5 := hEm4.turn3 nm5 hgm5; have hOm5 := hOm4.turn hEm4.n3 (by omega) hgm5; have lm5 := fresh_len hPm5; (try simp only [List.length_nil] at lm5); have Mm5 := Lib.hid (fresh_mem' hPm5); have q3m5 := hEm5.cell 3 _ rfl; have q4m5 := hEm5.cell 4 _ rfl; have q5m5 := hEm5.cell 5 _ rfl; clear tok2 hgm5 nm5 hPm5)
              | (go_at_call 21; have _t := tok3; (with_reducible refine (merge_other _ pd bd p3 b3 [] Q5 hEm5.nd hEm5.n3 (by omega) (by omega) (by (try simp only [List.length_nil]); omega)).mono ?_); rintro e m6 ⟨Q6, rfl, nm6, hPm6, hgm6⟩; have hEm6 := hEm5.turnd nm6 hgm6; have hOm6 := hOm5.turn hEm5.nd (by omega) hgm6; have lm6 := fresh_len hPm6; (try simp only [List.length_nil] at lm6); have Mm6 := Lib.hid (fresh_mem' hPm6); have q3m6 := hEm6.cell 3 _ rfl; have q4m6 := hEm6.cell 4 _ rfl; have q5m6 := hEm6.cell 5 _ rfl; clear tok3 hgm6 nm6 hPm6))
          have Hr := Lib.hid (right_mem Mm4.out Mm5.out Mm6.out HA.out)
          clear Mm4 Mm5 Mm6 q3 q4 q5 q3m4 q4m4 q5m4 q3m5 q4m5 q5m5 q3m6 q4m6 q5m6 hEm3 hEm4 hEm5 hOm3 hOm4 hOm5
          have d0 := hOm6.d0
          have d1 := hOm6.d1
          go_wp2_with fail
          refine (refSign_any a t _ (by omega) (by omega)).mono ?_
          rintro e m7 ⟨rfl, hb7⟩
          have hE7 := hEm6.below hb7
          have hO7 := hOm6.below hb7
          clear d0 d1 hb7 hEm6 hOm6
          have d0 := hO7.d0
          have d1 := hO7.d1
          go_wp2_with fail
          refine (even_any a t _ _ pc bc wr.heap.size _ c9 Q3 (putAll l) hE7.nc hO7.rn hO7.le (perm_of_mem hE7.nc.nodup (putAll_nodup l) Hl.out) (by omega) (by omega) (by omega)).mono ?_
          rintro e m8 ⟨rfl, hb8⟩
          have hE8 := hE7.below hb8
          have hO8 := hO7.below hb8
          clear d0 d1 hb8 hE7 hO7
          have d0 := hO8.d0
          have d1 := hO8.d1
          go_wp2_with fail
          refine (even_any a t _ _ pd bd wr.heap.size _ c9 Q6 (putAll l) hE8.nd hO8.rn hO8.le (perm_of_mem hE8.nd.nodup (putAll_nodup l) Hr.out) (by omega) (by omega) (by omega)).mono ?_
          rintro e m9 ⟨rfl, hb9⟩
          have hO9 := hO8.below hb9
          go_wp2
          go_ret
          exact ⟨rfl, hO9.hb⟩
    | succ m =>
      have em : ((m + 1 : Nat) : Int) - 1 = (m : Int) := by omega
      rw [em]
      clear em
      have hlt : m < l.length := by omega
      obtain ⟨gl, ol, rfl, hgl, e0, e1⟩ := (hR.below Hbwr.out).at_ hlt
      have hxs := hsm l[m] (List.getElem_mem hlt)
      have hs0 := seg0_le l j1 (m + 1)
      have hs1 := seg1_le l j1 j2 (m + 1)
      have hs2 := seg2_le l j2 (m + 1)
      have Q0 := Lib.hid (fun h => seg0_yes l j1 m hlt h)
      have Q1 := Lib.hid (fun h h' => seg1_yes l j1 j2 m hlt h h')
      have Q2 := Lib.hid (fun h => seg2_yes l j2 m hlt h)
      generalize l[m] = x at *
      obtain ⟨xa, xt⟩ := x
      simp only at hxs e0 e1
      have hk0 : (0 : Int) ≤ (m : Int) := Int.natCast_nonneg _
      have hk1 : (m : Int) < (l.length : Int) := by omega
      have hgy : gl < wr.heap.size := by have := Hbwr.out.size; omega
      have hbig : p5 < wr.heap.size := N5wr.plt
      have hw3 : IntKind.i64.wrap 3 = 3 := by decide
      have hw4 : IntKind.i64.wrap 4 = 4 := by decide
      have hw5 : IntKind.i64.wrap 5 = 5 := by decide
      by_cases c1 : m < j1
      · have P0 := Lib.hid (Q0.out c1)
        have P1 := Lib.hid (seg1_lo l j1 j2 m c1)
        have P2 := Lib.hid (seg2_no l j2 m (by omega))
        clear Q0 Q1 Q2
        go_wp2_with fail
        have r0 := own_cell ownwr 0 (.pointer (some ⟨p0, 0, none⟩)) rfl
        have u0 := own_ne_b N0wr ownwr
        have v0 := (ownwr.lt g6 rfl).2
        go_region_held3 (fun w' => w'.cell? ⟨g6, 0, none⟩ = some (.pointer (some ⟨p0, 0, none⟩)) ∧ w'.cell? ⟨gl, ol + m * 2, none⟩ = some (.string xa) ∧ w'.cell? ⟨gl, ol + m * 2 + 1, none⟩ = some (.string xt))
          (first | go_keep)
          (first
            | (go_at_call 15; refine (notarySign_any (xa, xt) _ p0 b0 _ N0wr.drew hxs.1 hxs.2 (by omega)).mono ?_; rintro e w5 ⟨rfl, N0w5, hgw5⟩; have e4 : w5.cell? ⟨gl, ol + m * 2, none⟩ = some (.string xa) := (keepX hgw5 (by show gl < wr.heap.size; omega) (by omega)).trans e0; have e5 : w5.cell? ⟨gl, ol + m * 2 + 1, none⟩ = some (.string xt) := (keepX hgw5 (by show gl < wr.heap.size; omega) (by omega)).trans e1; have rr0 : w5.cell? ⟨g6, 0, none⟩ = some (.pointer (some ⟨p0, 0, none⟩)) := (keepX hgw5 v0 u0).trans r0))
        have Ncw5 := Ncwr.drew.kept hgw5 (by simp; omega) (by simp; omega)
        have Ndw5 := Ndwr.drew.kept hgw5 (by simp; omega) (by simp; omega)
        have N1w5 := N1wr.drew.kept hgw5 (by simp; omega) (by simp; omega)
        have N2w5 := N2wr.drew.kept hgw5 (by simp; omega) (by simp; omega)
        have N3w5 := N3wr.drew.kept hgw5 (by simp; omega) (by simp; omega)
        have N4w5 := N4wr.drew.kept hgw5 (by simp; omega) (by simp; omega)
        have N5w5 := N5wr.drew.kept hgw5 (by simp; omega) (by simp; omega)
        have ownw5 := (show wr.drew.ownsRow (w.heap.size + 1) 29 1 _ 6 _ from ownwr).kept hgw5 (.inr (by simp [Value.ownBlock]; exact u0))
        have zw5 : wr.heap.size ≤ w5.heap.size := hgw5.size
        have d0w5 : w5.cell? ⟨w.heap.size, 0, none⟩ = some (.string a) := (keepX hgw5 (by show w.heap.size < wr.heap.size; omega) (by omega)).trans d0wr
        have d1w5 : w5.cell? ⟨w.heap.size, 1, none⟩ = some (.string t) := (keepX hgw5 (by show w.heap.size < wr.heap.size; omega) (by omega)).trans d1wr
        have Hbw5 := Lib.hid (show Below w.heap.size w w5 from (Hbwr.out.drew).grown hgw5 (by show w.heap.size ≤ wr.heap.size; omega) (fun j hj => by cases hj; omega))
        clear e0 e1 d0wr d1wr hgw5 ownwr r0 rr0 u0 v0 Ncwr Ndwr N0wr N1wr N2wr N3wr N4wr N5wr
        go_wp2_with fail
        have r3 := own_cell ownw5 3 (.pointer (some ⟨p3, 0, none⟩)) rfl
        have u3 := own_ne_b N3w5 ownw5
        have v3 := (ownw5.lt g6 rfl).2
        go_region_held3 (fun w' => w'.cell? ⟨g6, 3, none⟩ = some (.pointer (some ⟨p3, 0, none⟩)) ∧ w'.cell? ⟨gl, ol + m * 2, none⟩ = some (.string xa) ∧ w'.cell? ⟨gl, ol + m * 2 + 1, none⟩ = some (.string xt))
          (first | go_keep)
          (first
            | (go_at_call 15; refine (notarySign_any (xa, xt) _ p3 b3 _ N3w5.drew hxs.1 hxs.2 (by omega)).mono ?_; rintro e w6 ⟨rfl, N3w6, hgw6⟩; have e6 : w6.cell? ⟨gl, ol + m * 2, none⟩ = some (.string xa) := (keepX hgw6 (by show gl < w5.heap.size; omega) (by omega)).trans e4; have e7 : w6.cell? ⟨gl, ol + m * 2 + 1, none⟩ = some (.string xt) := (keepX hgw6 (by show gl < w5.heap.size; omega) (by omega)).trans e5; have rr3 : w6.cell? ⟨g6, 3, none⟩ = some (.pointer (some ⟨p3, 0, none⟩)) := (keepX hgw6 v3 u3).trans r3))
        have Ncw6 := Ncw5.drew.kept hgw6 (by simp; omega) (by simp; omega)
        have Ndw6 := Ndw5.drew.kept hgw6 (by simp; omega) (by simp; omega)
        have N0w6 := N0w5.drew.kept hgw6 (by simp; omega) (by simp; omega)
        have N1w6 := N1w5.drew.kept hgw6 (by simp; omega) (by simp; omega)
        have N2w6 := N2w5.drew.kept hgw6 (by simp; omega) (by simp; omega)
        have N4w6 := N4w5.drew.kept hgw6 (by simp; omega) (by simp; omega)
        have N5w6 := N5w5.drew.kept hgw6 (by simp; omega) (by simp; omega)
        have ownw6 := (show w5.drew.ownsRow (w.heap.size + 1) 29 1 _ 6 _ from ownw5).kept hgw6 (.inr (by simp [Value.ownBlock]; exact u3))
        have zw6 : w5.heap.size ≤ w6.heap.size := hgw6.size
        have d0w6 : w6.cell? ⟨w.heap.size, 0, none⟩ = some (.string a) := (keepX hgw6 (by show w.heap.size < w5.heap.size; omega) (by omega)).trans d0w5
        have d1w6 : w6.cell? ⟨w.heap.size, 1, none⟩ = some (.string t) := (keepX hgw6 (by show w.heap.size < w5.heap.size; omega) (by omega)).trans d1w5
        have Hbw6 := Lib.hid (show Below w.heap.size w w6 from (Hbw5.out.drew).grown hgw6 (by show w.heap.size ≤ w5.heap.size; omega) (fun j hj => by cases hj; omega))
        clear e4 e5 d0w5 d1w5 hgw6 ownw5 r3 rr3 u3 v3 Ncw5 Ndw5 N0w5 N1w5 N2w5 N3w5 N4w5 N5w5
        go_wp2_with fail
        go_roundw
        case rel => exact ⟨m, by omega, by first | rfl | go_num, Ncw6, Ndw6, by rw [P0.out]; exact N0w6, by rw [P1.out]; exact N1w6, by rw [P2.out]; exact N2w6, by rw [P0.out]; exact N3w6, by rw [P1.out]; exact N4w6, by rw [P2.out]; exact N5w6, ownw6, Hbw6, d0w6, d1w6, by omega⟩
        case measure => first | (simp [intOf]; done) | (simp [intOf]; omega)
      · have P0 := Lib.hid (seg0_no l j1 m (by omega))
        by_cases c2 : m < j2
        · have P1 := Lib.hid (Q1.out (by omega) c2)
          have P2 := Lib.hid (seg2_no l j2 m c2)
          clear Q0 Q1 Q2
          go_wp2_with fail
          have r1 := own_cell ownwr 1 (.pointer (some ⟨p1, 0, none⟩)) rfl
          have u1 := own_ne_b N1wr ownwr
          have v1 := (ownwr.lt g6 rfl).2
          go_region_held3 (fun w' => w'.cell? ⟨g6, 1, none⟩ = some (.pointer (some ⟨p1, 0, none⟩)) ∧ w'.cell? ⟨gl, ol + m * 2, none⟩ = some (.string xa) ∧ w'.cell? ⟨gl, ol + m * 2 + 1, none⟩ = some (.string xt))
            (first | go_keep)
            (first
              | (go_at_call 15; refine (notarySign_any (xa, xt) _ p1 b1 _ N1wr.drew hxs.1 hxs.2 (by omega)).mono ?_; rintro e w5 ⟨rfl, N1w5, hgw5⟩; have e4 : w5.cell? ⟨gl, ol + m * 2, none⟩ = some (.string xa) := (keepX hgw5 (by show gl < wr.heap.size; omega) (by omega)).trans e0; have e5 : w5.cell? ⟨gl, ol + m * 2 + 1, none⟩ = some (.string xt) := (keepX hgw5 (by show gl < wr.heap.size; omega) (by omega)).trans e1; have rr1 : w5.cell? ⟨g6, 1, none⟩ = some (.pointer (some ⟨p1, 0, none⟩)) := (keepX hgw5 v1 u1).trans r1))
          have Ncw5 := Ncwr.drew.kept hgw5 (by simp; omega) (by simp; omega)
          have Ndw5 := Ndwr.drew.kept hgw5 (by simp; omega) (by simp; omega)
          have N0w5 := N0wr.drew.kept hgw5 (by simp; omega) (by simp; omega)
          have N2w5 := N2wr.drew.kept hgw5 (by simp; omega) (by simp; omega)
          have N3w5 := N3wr.drew.kept hgw5 (by simp; omega) (by simp; omega)
          have N4w5 := N4wr.drew.kept hgw5 (by simp; omega) (by simp; omega)
          have N5w5 := N5wr.drew.kept hgw5 (by simp; omega) (by simp; omega)
          have ownw5 := (show wr.drew.ownsRow (w.heap.size + 1) 29 1 _ 6 _ from ownwr).kept hgw5 (.inr (by simp [Value.ownBlock]; exact u1))
          have zw5 : wr.heap.size ≤ w5.heap.size := hgw5.size
          have d0w5 : w5.cell? ⟨w.heap.size, 0, none⟩ = some (.string a) := (keepX hgw5 (by show w.heap.size < wr.heap.size; omega) (by omega)).trans d0wr
          have d1w5 : w5.cell? ⟨w.heap.size, 1, none⟩ = some (.string t) := (keepX hgw5 (by show w.heap.size < wr.heap.size; omega) (by omega)).trans d1wr
          have Hbw5 := Lib.hid (show Below w.heap.size w w5 from (Hbwr.out.drew).grown hgw5 (by show w.heap.size ≤ wr.heap.size; omega) (fun j hj => by cases hj; omega))
          clear e0 e1 d0wr d1wr hgw5 ownwr r1 rr1 u1 v1 Ncwr Ndwr N0wr N1wr N2wr N3wr N4wr N5wr
          go_wp2_with fail
          have r4 := own_cell ownw5 4 (.pointer (some ⟨p4, 0, none⟩)) rfl
          have u4 := own_ne_b N4w5 ownw5
          have v4 := (ownw5.lt g6 rfl).2
          go_region_held3 (fun w' => w'.cell? ⟨g6, 4, none⟩ = some (.pointer (some ⟨p4, 0, none⟩)) ∧ w'.cell? ⟨gl, ol + m * 2, none⟩ = some (.string xa) ∧ w'.cell? ⟨gl, ol + m * 2 + 1, none⟩ = some (.string xt))
            (first | go_keep)
            (first
              | (go_at_call 15; refine (notarySign_any (xa, xt) _ p4 b4 _ N4w5.drew hxs.1 hxs.2 (by omega)).mono ?_; rintro e w6 ⟨rfl, N4w6, hgw6⟩; have e6 : w6.cell? ⟨gl, ol + m * 2, none⟩ = some (.string xa) := (keepX hgw6 (by show gl < w5.heap.size; omega) (by omega)).trans e4; have e7 : w6.cell? ⟨gl, ol + m * 2 + 1, none⟩ = some (.string xt) := (keepX hgw6 (by show gl < w5.heap.size; omega) (by omega)).trans e5; have rr4 : w6.cell? ⟨g6, 4, none⟩ = some (.pointer (some ⟨p4, 0, none⟩)) := (keepX hgw6 v4 u4).trans r4))
          have Ncw6 := Ncw5.drew.kept hgw6 (by simp; omega) (by simp; omega)
          have Ndw6 := Ndw5.drew.kept hgw6 (by simp; omega) (by simp; omega)
          have N0w6 := N0w5.drew.kept hgw6 (by simp; omega) (by simp; omega)
          have N1w6 := N1w5.drew.kept hgw6 (by simp; omega) (by simp; omega)
          have N2w6 := N2w5.drew.kept hgw6 (by simp; omega) (by simp; omega)
          have N3w6 := N3w5.drew.kept hgw6 (by simp; omega) (by simp; omega)
          have N5w6 := N5w5.drew.kept hgw6 (by simp; omega) (by simp; omega)
          have ownw6 := (show w5.drew.ownsRow (w.heap.size + 1) 29 1 _ 6 _ from ownw5).kept hgw6 (.inr (by simp [Value.ownBlock]; exact u4))
          have zw6 : w5.heap.size ≤ w6.heap.size := hgw6.size
          have d0w6 : w6.cell? ⟨w.heap.size, 0, none⟩ = some (.string a) := (keepX hgw6 (by show w.heap.size < w5.heap.size; omega) (by omega)).trans d0w5
          have d1w6 : w6.cell? ⟨w.heap.size, 1, none⟩ = some (.string t) := (keepX hgw6 (by show w.heap.size < w5.heap.size; omega) (by omega)).trans d1w5
          have Hbw6 := Lib.hid (show Below w.heap.size w w6 from (Hbw5.out.drew).grown hgw6 (by show w.heap.size ≤ w5.heap.size; omega) (fun j hj => by cases hj; omega))
          clear e4 e5 d0w5 d1w5 hgw6 ownw5 r4 rr4 u4 v4 Ncw5 Ndw5 N0w5 N1w5 N2w5 N3w5 N4w5 N5w5
          go_wp2_with fail
          go_roundw
          case rel => exact ⟨m, by omega, by first | rfl | go_num, Ncw6, Ndw6, by rw [P0.out]; exact N0w6, by rw [P1.out]; exact N1w6, by rw [P2.out]; exact N2w6, by rw [P0.out]; exact N3w6, by rw [P1.out]; exact N4w6, by rw [P2.out]; exact N5w6, ownw6, Hbw6, d0w6, d1w6, by omega⟩
          case measure => first | (simp [intOf]; done) | (simp [intOf]; omega)
        · have P1 := Lib.hid (seg1_hi l j1 j2 m (by omega) (by omega))
          have P2 := Lib.hid (Q2.out (by omega))
          clear Q0 Q1 Q2
          go_wp2_with fail
          have r2 := own_cell ownwr 2 (.pointer (some ⟨p2, 0, none⟩)) rfl
          have u2 := own_ne_b N2wr ownwr
          have v2 := (ownwr.lt g6 rfl).2
          go_region_held3 (fun w' => w'.cell? ⟨g6, 2, none⟩ = some (.pointer (some ⟨p2, 0, none⟩)) ∧ w'.cell? ⟨gl, ol + m * 2, none⟩ = some (.string xa) ∧ w'.cell? ⟨gl, ol + m * 2 + 1, none⟩ = some (.string xt))
            (first | go_keep)
            (first
              | (go_at_call 15; refine (notarySign_any (xa, xt) _ p2 b2 _ N2wr.drew hxs.1 hxs.2 (by omega)).mono ?_; rintro e w5 ⟨rfl, N2w5, hgw5⟩; have e4 : w5.cell? ⟨gl, ol + m * 2, none⟩ = some (.string xa) := (keepX hgw5 (by show gl < wr.heap.size; omega) (by omega)).trans e0; have e5 : w5.cell? ⟨gl, ol + m * 2 + 1, none⟩ = some (.string xt) := (keepX hgw5 (by show gl < wr.heap.size; omega) (by omega)).trans e1; have rr2 : w5.cell? ⟨g6, 2, none⟩ = some (.pointer (some ⟨p2, 0, none⟩)) := (keepX hgw5 v2 u2).trans r2))
          have Ncw5 := Ncwr.drew.kept hgw5 (by simp; omega) (by simp; omega)
          have Ndw5 := Ndwr.drew.kept hgw5 (by simp; omega) (by simp; omega)
          have N0w5 := N0wr.drew.kept hgw5 (by simp; omega) (by simp; omega)
          have N1w5 := N1wr.drew.kept hgw5 (by simp; omega) (by simp; omega)
          have N3w5 := N3wr.drew.kept hgw5 (by simp; omega) (by simp; omega)
          have N4w5 := N4wr.drew.kept hgw5 (by simp; omega) (by simp; omega)
          have N5w5 := N5wr.drew.kept hgw5 (by simp; omega) (by simp; omega)
          have ownw5 := (show wr.drew.ownsRow (w.heap.size + 1) 29 1 _ 6 _ from ownwr).kept hgw5 (.inr (by simp [Value.ownBlock]; exact u2))
          have zw5 : wr.heap.size ≤ w5.heap.size := hgw5.size
          have d0w5 : w5.cell? ⟨w.heap.size, 0, none⟩ = some (.string a) := (keepX hgw5 (by show w.heap.size < wr.heap.size; omega) (by omega)).trans d0wr
          have d1w5 : w5.cell? ⟨w.heap.size, 1, none⟩ = some (.string t) := (keepX hgw5 (by show w.heap.size < wr.heap.size; omega) (by omega)).trans d1wr
          have Hbw5 := Lib.hid (show Below w.heap.size w w5 from (Hbwr.out.drew).grown hgw5 (by show w.heap.size ≤ wr.heap.size; omega) (fun j hj => by cases hj; omega))
          clear e0 e1 d0wr d1wr hgw5 ownwr r2 rr2 u2 v2 Ncwr Ndwr N0wr N1wr N2wr N3wr N4wr N5wr
          go_wp2_with fail
          have r5 := own_cell ownw5 5 (.pointer (some ⟨p5, 0, none⟩)) rfl
          have u5 := own_ne_b N5w5 ownw5
          have v5 := (ownw5.lt g6 rfl).2
          go_region_held3 (fun w' => w'.cell? ⟨g6, 5, none⟩ = some (.pointer (some ⟨p5, 0, none⟩)) ∧ w'.cell? ⟨gl, ol + m * 2, none⟩ = some (.string xa) ∧ w'.cell? ⟨gl, ol + m * 2 + 1, none⟩ = some (.string xt))
            (first | go_keep)
            (first
              | (go_at_call 15; refine (notarySign_any (xa, xt) _ p5 b5 _ N5w5.drew hxs.1 hxs.2 (by omega)).mono ?_; rintro e w6 ⟨rfl, N5w6, hgw6⟩; have e6 : w6.cell? ⟨gl, ol + m * 2, none⟩ = some (.string xa) := (keepX hgw6 (by show gl < w5.heap.size; omega) (by omega)).trans e4; have e7 : w6.cell? ⟨gl, ol + m * 2 + 1, none⟩ = some (.string xt) := (keepX hgw6 (by show gl < w5.heap.size; omega) (by omega)).trans e5; have rr5 : w6.cell? ⟨g6, 5, none⟩ = some (.pointer (some ⟨p5, 0, none⟩)) := (keepX hgw6 v5 u5).trans r5))
          have Ncw6 := Ncw5.drew.kept hgw6 (by simp; omega) (by simp; omega)
          have Ndw6 := Ndw5.drew.kept hgw6 (by simp; omega) (by simp; omega)
          have N0w6 := N0w5.drew.kept hgw6 (by simp; omega) (by simp; omega)
          have N1w6 := N1w5.drew.kept hgw6 (by simp; omega) (by simp; omega)
          have N2w6 := N2w5.drew.kept hgw6 (by simp; omega) (by simp; omega)
          have N3w6 := N3w5.drew.kept hgw6 (by simp; omega) (by simp; omega)
          have N4w6 := N4w5.drew.kept hgw6 (by simp; omega) (by simp; omega)
          have ownw6 := (show w5.drew.ownsRow (w.heap.size + 1) 29 1 _ 6 _ from ownw5).kept hgw6 (.inr (by simp [Value.ownBlock]; exact u5))
          have zw6 : w5.heap.size ≤ w6.heap.size := hgw6.size
          have d0w6 : w6.cell? ⟨w.heap.size, 0, none⟩ = some (.string a) := (keepX hgw6 (by show w.heap.size < w5.heap.size; omega) (by omega)).trans d0w5
          have d1w6 : w6.cell? ⟨w.heap.size, 1, none⟩ = some (.string t) := (keepX hgw6 (by show w.heap.size < w5.heap.size; omega) (by omega)).trans d1w5
          have Hbw6 := Lib.hid (show Below w.heap.size w w6 from (Hbw5.out.drew).grown hgw6 (by show w.heap.size ≤ w5.heap.size; omega) (fun j hj => by cases hj; omega))
          clear e4 e5 d0w5 d1w5 hgw6 ownw5 r5 rr5 u5 v5 Ncw5 Ndw5 N0w5 N1w5 N2w5 N3w5 N4w5 N5w5
          go_wp2_with fail
          go_roundw
          case rel => exact ⟨m, by omega, by first | rfl | go_num, Ncw6, Ndw6, by rw [P0.out]; exact N0w6, by rw [P1.out]; exact N1w6, by rw [P2.out]; exact N2w6, by rw [P0.out]; exact N3w6, by rw [P1.out]; exact N4w6, by rw [P2.out]; exact N5w6, ownw6, Hbw6, d0w6, d1w6, by omega⟩
          case measure => first | (simp [intOf]; done) | (simp [intOf]; omega)
end Go.Proofs.Ytlbenmndmoeioaa
