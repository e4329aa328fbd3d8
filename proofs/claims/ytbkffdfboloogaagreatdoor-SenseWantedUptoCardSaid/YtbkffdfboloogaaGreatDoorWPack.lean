/- paper.Packing. -/
import Derived.Test.YtbkffdfboloogaaGreatDoorMT
import Derived.Test.YtbkffdfboloogaaGreatDoorWMarks
import Derived.Test.YtbkffdfboloogaaGreatDoorWList
namespace Go.Proofs.YtbkffdfboloogaaGreatDoor
open Go.RowKit Go.Maps Go.Lib
set_option linter.unusedVariables false
set_option maxRecDepth 100000

def pkF (d : Dl) (mk : ByteArray) (ls : ByteArray) : List Fp := [(⟨#[115, 101, 108, 108, 101, 114]⟩, d.sel), (⟨#[102, 114, 111, 109]⟩, d.frm), (⟨#[116, 111]⟩, d.dst), (⟨#[98, 111, 120, 101, 115]⟩, ⟨(itL d.box.length).toArray⟩), (⟨#[109, 97, 114, 107, 115]⟩, mk), (⟨#[99, 111, 110, 116, 101, 110, 116]⟩, ls)]
def pkR (d : Dl) (A : Option Addr) (c b base : Nat) : Nat → Value → World → Prop
  | 0, v, _ => v = .pointer (some ⟨b, 0, none⟩)
  | 1, v, _ => v = .string d.num
  | 2, v, _ => ∃ x, v = .string x
  | 3, v, _ => v = .pointer (some ⟨b, 1, none⟩)
  | 4, v, _ => v = .string d.sel
  | 5, v, _ => v = .pointer (some ⟨b, 1, none⟩)
  | 6, v, _ => v = .string d.sel
  | 7, v, _ => v = .pointer (some ⟨b, 7, none⟩)
  | 8, v, _ => v = .string d.frm
  | 9, v, _ => v = .pointer (some ⟨b, 8, none⟩)
  | 10, v, _ => v = .string d.dst
  | 11, v, _ => v = .pointer (some ⟨b, 11, none⟩)
  | 12, v, _ => v = .slice A d.box.length c
  | 13, v, _ => v = .int .i64 d.box.length
  | 14, v, _ => v = .string ⟨(itL d.box.length).toArray⟩
  | 15, v, _ => v = .pointer (some ⟨b, 11, none⟩)
  | 16, v, _ => v = .slice A d.box.length c
  | 17, v, _ => ∃ s : ByteArray, v = .string s ∧ s.size ≤ 3000000
  | 18, v, _ => v = .pointer (some ⟨b, 11, none⟩)
  | 19, v, _ => v = .slice A d.box.length c
  | 20, v, _ => ∃ s : ByteArray, v = .string s
  | 21, v, w => ∃ g mk ls, v = .slice (some ⟨g, 0, none⟩) 12 12 ∧ g < w.heap.size ∧ mk.size ≤ 3000000 ∧ StrAt w g 0 (flatF (pkF d mk ls))
  | 22, v, w => ∃ mk ls A' c', v = .slice A' 6 c' ∧ mk.size ≤ 3000000 ∧ Pw w base (.slice A' 6 c') (pkF d mk ls)
  | 23, v, w => ∃ x mk ls A' c', v = .agg #[.int .i64 1, .string x, .string d.sel, .slice A' 6 c'] ∧ mk.size ≤ 3000000 ∧ Pw w base (.slice A' 6 c') (pkF d mk ls)
  | _, _, _ => True
theorem pkR_kept {d : Dl} {A : Option Addr} {c b base : Nat} (i : Nat) (v : Value) (w w' : World) (hb : Below w.heap.size w w') (h : pkR d A c b base i v w) : pkR d A c b base i v w' := by
  match i, h with
  | 0, h => exact h
  | 1, h => exact h
  | 2, h => exact h
  | 3, h => exact h
  | 4, h => exact h
  | 5, h => exact h
  | 6, h => exact h
  | 7, h => exact h
  | 8, h => exact h
  | 9, h => exact h
  | 10, h => exact h
  | 11, h => exact h
  | 12, h => exact h
  | 13, h => exact h
  | 14, h => exact h
  | 15, h => exact h
  | 16, h => exact h
  | 17, h => exact h
  | 18, h => exact h
  | 19, h => exact h
  | 20, h => exact h
  | 21, ⟨g, mk, ls, h1, h2, k0, h3⟩ => exact ⟨g, mk, ls, h1, Nat.lt_of_lt_of_le h2 hb.size, k0, h3.below hb h2⟩
  | 22, ⟨mk, ls, A', c', h1, k0, h2⟩ => exact ⟨mk, ls, A', c', h1, k0, h2.below hb⟩
  | 23, ⟨x, mk, ls, A', c', h1, k0, h2⟩ => exact ⟨x, mk, ls, A', c', h1, k0, h2.below hb⟩
  | n + 24, h => trivial
set_option maxHeartbeats 4000000 in
theorem pk_any (d : Dl) (A : Option Addr) (c : Nat) (Bn : Nat) (w : World) (hn : d.num.size ≤ 1048576) (hb : d.box.length ≤ 20) (hE : Ev w) (hX : Bxs w Bn A d.box) (hBn : Bn ≤ w.heap.size) (hmk : ∀ b ∈ d.box, b.m.size ≤ 60) (hok : BxsOk d.box) :
    Calls Tryz.prog 25 #[.agg (dlA d A c)] w fun e w' => ∃ mk ls, mk.size ≤ 3000000 ∧ DocP w 1 (pkF d mk ls) e w' := by
  obtain ⟨W0, hW0⟩ : ∃ W0, W0 = (w.alloc (.cells (dlA d A c) 39)).alloc (.cells #[.int .i64 0, .string ⟨#[]⟩, .string ⟨#[]⟩, .slice none 0 0] 60) := ⟨_, rfl⟩
  have hz : W0.heap.size = w.heap.size + 2 := by rw [hW0]; simp
  have hB0 : Below w.heap.size w W0 := by rw [hW0]; exact ((Below.refl _ _).alloc (Nat.le_refl _) _).alloc (by simp) _
  have hk : ∀ i, i < 17 → W0.cell? ⟨w.heap.size, i, none⟩ = (dlA d A c)[i]? := fun i hi => by
    rw [hW0]
    have : i = 0 ∨ i = 1 ∨ i = 2 ∨ i = 3 ∨ i = 4 ∨ i = 5 ∨ i = 6 ∨ i = 7 ∨ i = 8 ∨ i = 9 ∨ i = 10 ∨ i = 11 ∨ i = 12 ∨ i = 13 ∨ i = 14 ∨ i = 15 ∨ i = 16 := by omega
    rcases this with rfl | rfl | rfl | rfl | rfl | rfl | rfl | rfl | rfl | rfl | rfl | rfl | rfl | rfl | rfl | rfl | rfl <;> simp [dlA]
  have hr : W0.heap[w.heap.size + 1]? = some (.cells #[.int .i64 0, .string ⟨#[]⟩, .string ⟨#[]⟩, .slice none 0 0] 60) := by
    rw [hW0]
    have : (w.alloc (.cells (dlA d A c) 39)).heap.size = w.heap.size + 1 := by simp
    rw [← this]
    exact heap_alloc_new _ _
  have HK : Hid (∀ W, Below (w.heap.size + 2) W0 W → ∀ i, i < 17 → W.cell? ⟨w.heap.size, i, none⟩ = (dlA d A c)[i]?) := Lib.hid (fun W hb i hi => (hb.cell (p := ⟨w.heap.size, i, none⟩) (by show w.heap.size < _; omega)).trans (hk i hi))
  have HE : Hid (∀ W, Below (w.heap.size + 2) W0 W → Ev W) := Lib.hid (fun W hb => hE.all (hB0.trans (hb.mono (by omega))))
  have HG : Hid (∀ W, Below (w.heap.size + 2) W0 W → Gl W) := Lib.hid (fun W hb => (HE.out W hb).gl)
  have HX : Hid (∀ W, Below (w.heap.size + 2) W0 W → Bxs W Bn A d.box) := Lib.hid (fun W hb => hX.kept ((hB0.trans (hb.mono (by omega))).mono hBn))
  clear hE hX
  have HR := Lib.hid hr
  have HZ := Lib.hid hz
  have HB0 := Lib.hid hB0
  have HU : Hid (∀ W W', Below (w.heap.size + 2) W0 W → Below W.heap.size W W' → Below (w.heap.size + 2) W0 W') := Lib.hid (fun W W' h1 h2 => h1.trans (h2.mono (by have := h1.size; omega)))
  clear hk hr hB0
  unfold dlA at *
  have hc0 : (dlA d A c)[0]? = some (.string d.num) := rfl
  have hc1 : (dlA d A c)[1]? = some (.string d.sel) := rfl
  have hc7 : (dlA d A c)[7]? = some (.string d.frm) := rfl
  have hc8 : (dlA d A c)[8]? = some (.string d.dst) := rfl
  have hc11 : (dlA d A c)[11]? = some (.slice A d.box.length c) := rfl
  generalize hCP : (fun e w' => ∃ mk ls, mk.size ≤ 3000000 ∧ DocP w 1 (pkF d mk ls) e w') = CP
  go_enter Tryz.func25, Tryz.ntmps25
  go_wp2_with fail
  rw [← hW0]
  clear hW0
  refine wp_region_facts (Le := fun w w' => Below w.heap.size w w') (C := fun W => Below (w.heap.size + 2) W0 W) (R := pkR d A c w.heap.size (w.heap.size + 2)) 24 24 [] (by kernel_rfl) (by kernel_rfl) (by kernel_rfl) rfl (Below.refl _ _).drew (fun W W' h1 h2 => HU.out W W' h2 h1) (fun i v w w' h => pkR_kept i v w w' h) (steps_take ?_) ?_
  · simp only [List.take_succ_cons, List.take_zero, StepsFrom]
    refine ⟨fact_step ?_, fact_step ?_, fact_step ?_, fact_step ?_, fact_step ?_, fact_step ?_, fact_step ?_, fact_step ?_, fact_step ?_, fact_step ?_, fact_step ?_, fact_step ?_, fact_step ?_, fact_step ?_, fact_step ?_, fact_step ?_, fact_step ?_, fact_step ?_, fact_step ?_, fact_step ?_, fact_step ?_, fact_step ?_, fact_step ?_, fact_step ?_, trivial⟩
    all_goals (intro a W hs hc hd K hK)
    all_goals have t1 : a.tmps[1]? = some (.pointer (some ⟨w.heap.size, 0, none⟩)) := (hs.rest 1 (of_decide_eq_true (by kernel_rfl))).trans rfl
    -- 0
    · go_simp
      exact hK _ _ (Below.refl _ _) rfl
    -- 1
    · obtain ⟨v0, s0, r0⟩ := hd { on := 0, ground := .data } (by simp) (by rfl) _ (by rfl)
      replace s0 := s0 _ rfl
      obtain rfl := r0
      have k := (HK.out W hc 0 (by omega)).trans hc0
      go_simp
      exact hK _ _ (Below.refl _ _) rfl
    -- 2
    · obtain ⟨v1, s1, r1⟩ := hd { on := 1, ground := .data } (by simp) (by rfl) _ (by rfl)
      replace s1 := s1 _ rfl
      obtain rfl := r1
      have u0 : (⟨#[112, 107, 45]⟩ : ByteArray).size = 3 := rfl
      have u1 : ¬ (9223372036854775807 < 3 + d.num.size) := by omega
      have u2 : 3 + d.num.size ≤ 9223372036854775807 := by omega
      go_simp
      exact hK _ _ (Below.refl _ _) ⟨_, rfl⟩
    -- 3
    · go_simp
      exact hK _ _ (Below.refl _ _) rfl
    -- 4
    · obtain ⟨v3, s3, r3⟩ := hd { on := 3, ground := .data } (by simp) (by rfl) _ (by rfl)
      replace s3 := s3 _ rfl
      obtain rfl := r3
      have k := (HK.out W hc 1 (by omega)).trans hc1
      go_simp
      exact hK _ _ (Below.refl _ _) rfl
    -- 5
    · go_simp
      exact hK _ _ (Below.refl _ _) rfl
    -- 6
    · obtain ⟨v5, s5, r5⟩ := hd { on := 5, ground := .data } (by simp) (by rfl) _ (by rfl)
      replace s5 := s5 _ rfl
      obtain rfl := r5
      have k := (HK.out W hc 1 (by omega)).trans hc1
      go_simp
      exact hK _ _ (Below.refl _ _) rfl
    -- 7
    · go_simp
      exact hK _ _ (Below.refl _ _) rfl
    -- 8
    · obtain ⟨v7, s7, r7⟩ := hd { on := 7, ground := .data } (by simp) (by rfl) _ (by rfl)
      replace s7 := s7 _ rfl
      obtain rfl := r7
      have k := (HK.out W hc 7 (by omega)).trans hc7
      go_simp
      exact hK _ _ (Below.refl _ _) rfl
    -- 9
    · go_simp
      exact hK _ _ (Below.refl _ _) rfl
    -- 10
    · obtain ⟨v9, s9, r9⟩ := hd { on := 9, ground := .data } (by simp) (by rfl) _ (by rfl)
      replace s9 := s9 _ rfl
      obtain rfl := r9
      have k := (HK.out W hc 8 (by omega)).trans hc8
      go_simp
      exact hK _ _ (Below.refl _ _) rfl
    -- 11
    · go_simp
      exact hK _ _ (Below.refl _ _) rfl
    -- 12
    · obtain ⟨v11, s11, r11⟩ := hd { on := 11, ground := .data } (by simp) (by rfl) _ (by rfl)
      replace s11 := s11 _ rfl
      obtain rfl := r11
      have k := (HK.out W hc 11 (by omega)).trans hc11
      go_simp
      exact hK _ _ (Below.refl _ _) rfl
    -- 13
    · obtain ⟨v12, s12, r12⟩ := hd { on := 12, ground := .data } (by simp) (by rfl) _ (by rfl)
      replace s12 := s12 _ rfl
      obtain rfl := r12
      go_simp
      exact hK _ _ (Below.refl _ _) rfl
    -- 14
    · obtain ⟨v13, s13, r13⟩ := hd { on := 13, ground := .data } (by simp) (by rfl) _ (by rfl)
      replace s13 := s13 _ rfl
      obtain rfl := r13
      have HC := Lib.hid (countTx_any d.box.length W (HG.out W hc) (by omega) (by omega))
      go_simp
      refine HC.out.mono ?_
      rintro e w' ⟨rfl, hb'⟩
      exact hK _ _ hb' rfl
    -- 15
    · go_simp
      exact hK _ _ (Below.refl _ _) rfl
    -- 16
    · obtain ⟨v15, s15, r15⟩ := hd { on := 15, ground := .data } (by simp) (by rfl) _ (by rfl)
      replace s15 := s15 _ rfl
      obtain rfl := r15
      have k := (HK.out W hc 11 (by omega)).trans hc11
      go_simp
      exact hK _ _ (Below.refl _ _) rfl
    -- 17
    · obtain ⟨v16, s16, r16⟩ := hd { on := 16, ground := .data } (by simp) (by rfl) _ (by rfl)
      replace s16 := s16 _ rfl
      obtain rfl := r16
      have HC := Lib.hid (marks_any d.box A c Bn W (HX.out W hc) (by have := hc.size; omega) hb hmk)
      go_simp
      refine HC.out.mono ?_
      rintro e w' ⟨⟨s, rfl, hs⟩, hb'⟩
      exact hK _ _ hb' ⟨s, rfl, hs⟩
    -- 18
    · go_simp
      exact hK _ _ (Below.refl _ _) rfl
    -- 19
    · obtain ⟨v18, s18, r18⟩ := hd { on := 18, ground := .data } (by simp) (by rfl) _ (by rfl)
      replace s18 := s18 _ rfl
      obtain rfl := r18
      have k := (HK.out W hc 11 (by omega)).trans hc11
      go_simp
      exact hK _ _ (Below.refl _ _) rfl
    -- 20
    · obtain ⟨v19, s19, r19⟩ := hd { on := 19, ground := .data } (by simp) (by rfl) _ (by rfl)
      replace s19 := s19 _ rfl
      obtain rfl := r19
      have HC := Lib.hid (list_any d.box A c Bn W (HX.out W hc) (by have := hc.size; omega) hok (HE.out W hc))
      go_simp
      refine HC.out.mono ?_
      rintro e w' ⟨⟨s, rfl⟩, hb'⟩
      exact hK _ _ hb' ⟨s, rfl⟩
    -- 21
    · obtain ⟨v6, s6, r6⟩ := hd { on := 6, ground := .data } (by simp) (by rfl) _ (by rfl)
      replace s6 := s6 _ rfl
      obtain ⟨v8, s8, r8⟩ := hd { on := 8, ground := .data } (by simp) (by rfl) _ (by rfl)
      replace s8 := s8 _ rfl
      obtain ⟨v10, s10, r10⟩ := hd { on := 10, ground := .data } (by simp) (by rfl) _ (by rfl)
      replace s10 := s10 _ rfl
      obtain ⟨v14, s14, r14⟩ := hd { on := 14, ground := .data } (by simp) (by rfl) _ (by rfl)
      replace s14 := s14 _ rfl
      obtain ⟨v17, s17, r17⟩ := hd { on := 17, ground := .data } (by simp) (by rfl) _ (by rfl)
      replace s17 := s17 _ rfl
      obtain ⟨v20, s20, r20⟩ := hd { on := 20, ground := .data } (by simp) (by rfl) _ (by rfl)
      replace s20 := s20 _ rfl
      obtain rfl := r6
      obtain rfl := r8
      obtain rfl := r10
      obtain rfl := r14
      obtain ⟨mk, rfl, k0⟩ := r17
      obtain ⟨ls, rfl⟩ := r20
      go_simp
      exact hK _ _ ((Below.refl _ _).alloc (Nat.le_refl _) _) ⟨_, mk, ls, rfl, by simp, k0, strAt_new W _ (flatF (pkF d mk ls))⟩
    -- 22
    · obtain ⟨v21, s21, r21⟩ := hd { on := 21, ground := .data } (by simp) (by rfl) _ (by rfl)
      replace s21 := s21 _ rfl
      obtain ⟨g, mk, ls, rfl, hg, k0, hst⟩ := r21
      have HC := Lib.hid (pfields_any (pkF d mk ls) 12 g 0 12 rfl W hst hg (show 6 ≤ 1000 by omega))
      have hW := hc.size
      go_simp
      refine HC.out.mono ?_
      rintro e w' ⟨A', n', c', rfl, rfl, hP, hb'⟩
      exact hK _ _ hb' ⟨mk, ls, A', c', rfl, k0, hP.down (by omega)⟩
    -- 23
    · obtain ⟨v2, s2, r2⟩ := hd { on := 2, ground := .data } (by simp) (by rfl) _ (by rfl)
      replace s2 := s2 _ rfl
      obtain ⟨v4, s4, r4⟩ := hd { on := 4, ground := .data } (by simp) (by rfl) _ (by rfl)
      replace s4 := s4 _ rfl
      obtain ⟨v22, s22, r22⟩ := hd { on := 22, ground := .data } (by simp) (by rfl) _ (by rfl)
      replace s22 := s22 _ rfl
      obtain ⟨x, rfl⟩ := r2
      obtain rfl := r4
      obtain ⟨mk, ls, A', c', rfl, k0, hP⟩ := r22
      go_simp
      exact hK _ _ (Below.refl _ _) ⟨_, _, _, _, _, rfl, k0, hP⟩
  · intro a W hs hc hf
    obtain ⟨v, s14, x, mk, ls, A', c', rfl, k0, hP⟩ := hf 23 _ rfl (by omega)
    replace s14 := s14 _ rfl
    have t2 : a.tmps[2]? = some (.pointer (some ⟨w.heap.size + 1, 0, none⟩)) := (hs.rest 2 (of_decide_eq_true (by kernel_rfl))).trans rfl
    have hr : W.heap[w.heap.size + 1]? = some (.cells #[.int .i64 0, .string ⟨#[]⟩, .string ⟨#[]⟩, .slice none 0 0] 60) := (hc.block _ (by omega)).trans HR.out
    have q0 : W.cell? ⟨w.heap.size + 1, 0, none⟩ = some (.int .i64 0) := by simp [World.cell?, hr]
    have q1 : W.cell? ⟨w.heap.size + 1, 1, none⟩ = some (.string ⟨#[]⟩) := by simp [World.cell?, hr]
    have q2 : W.cell? ⟨w.heap.size + 1, 2, none⟩ = some (.string ⟨#[]⟩) := by simp [World.cell?, hr]
    have q3 : W.cell? ⟨w.heap.size + 1, 3, none⟩ = some (.slice none 0 0) := by simp [World.cell?, hr]
    have hfz : ∀ i, W.frozen? ⟨w.heap.size + 1, i, none⟩ = false := fun i => by simp [World.frozen?, hr]
    refine wpOps_more (by rfl) rfl ?_
    go_simp
    refine wpOps_done ?_
    go_wp2_with fail
    refine bodyPost_ret (results_cell_row rfl _ _ (w.heap.size + 1) 60 #[.int .i64 1, .string x, .string d.sel, .slice A' 6 c'] (0, 0) _ (by simp [t2]) (doc_stored _ _ _ _ hr) Tryz.underlying60 rfl infoDocW) hs.defers ?_
    subst hCP
    refine ⟨mk, ls, k0, _, _, A', c', rfl, Pw.down ?_ (Nat.le_add_right _ 2), ?_⟩
    · exact ownsRow_setCell_below (ownsRow_setCell_below (ownsRow_setCell_below (ownsRow_setCell_below hP (by show w.heap.size + 1 < _; omega) _) (by show w.heap.size + 1 < _; omega) _) (by show w.heap.size + 1 < _; omega) _) (by show w.heap.size + 1 < _; omega) _
    · exact ((((HB0.out.trans (hc.mono (by omega))).setCell (by show w.heap.size ≤ w.heap.size + 1; omega) _).setCell (by show w.heap.size ≤ w.heap.size + 1; omega) _).setCell (by show w.heap.size ≤ w.heap.size + 1; omega) _).setCell (by show w.heap.size ≤ w.heap.size + 1; omega) _
end Go.Proofs.YtbkffdfboloogaaGreatDoor
