/- paper.Origin. paper.Invoice. -/
import Derived.Test.YtbkffdfboloogaaGreatDoorWReg
import Derived.Test.YtbkffdfboloogaaGreatDoorMS
import Derived.Test.YtbkffdfboloogaaGreatDoorNA
import Derived.Test.YtbkffdfboloogaaGreatDoorMC
namespace Go.Proofs.YtbkffdfboloogaaGreatDoor
open Go.RowKit Go.Maps Go.Lib
set_option linter.unusedVariables false
set_option maxRecDepth 100000

def orF (d : Dl) (s : ByteArray) : List Fp := [(⟨#[115, 101, 108, 108, 101, 114]⟩, d.sel), (⟨#[99, 111, 117, 110, 116, 114, 121]⟩, s), (⟨#[98, 111, 120, 101, 115]⟩, ⟨(itL d.box.length).toArray⟩)]
theorem infoDocW : (Tryz.prog.info? 60).map (·.size) = some 4 := by kernel_rfl
/-- what the operations of Origin's region yield -/
def orR (d : Dl) (A : Option Addr) (c b base : Nat) (s : ByteArray) : Nat → Value → World → Prop
  | 0, v, _ => v = .pointer (some ⟨b, 0, none⟩)
  | 1, v, _ => v = .string d.num
  | 2, v, _ => ∃ x, v = .string x
  | 3, v, _ => v = .pointer (some ⟨b, 1, none⟩)
  | 4, v, _ => v = .string d.sel
  | 5, v, _ => v = .pointer (some ⟨b, 1, none⟩)
  | 6, v, _ => v = .string d.sel
  | 7, v, _ => v = .string s
  | 8, v, _ => v = .pointer (some ⟨b, 11, none⟩)
  | 9, v, _ => v = .slice A d.box.length c
  | 10, v, _ => v = .int .i64 d.box.length
  | 11, v, _ => v = .string ⟨(itL d.box.length).toArray⟩
  | 12, v, w => ∃ g, v = .slice (some ⟨g, 0, none⟩) 6 6 ∧ g < w.heap.size ∧ StrAt w g 0 (flatF (orF d s))
  | 13, v, w => ∃ A' c', v = .slice A' 3 c' ∧ Pw w base (.slice A' 3 c') (orF d s)
  | 14, v, w => ∃ x A' c', v = .agg #[.int .i64 4, .string x, .string d.sel, .slice A' 3 c'] ∧ Pw w base (.slice A' 3 c') (orF d s)
  | _, _, _ => True
theorem orR_kept {d : Dl} {A : Option Addr} {c b base : Nat} {s : ByteArray} (i : Nat) (v : Value) (w w' : World) (hb : Below w.heap.size w w') (h : orR d A c b base s i v w) : orR d A c b base s i v w' := by
  match i, h with
  | 0, h => exact h
  | 1, h => exact h
  | 2, h => exact h
  | 3, h => exact h
  | 4, h => exact h
  | 5, h => exact h
  | 6, h => exact h
  | 7, h => exact h
  | 8, h => exact h
  | 9, h => exact h
  | 10, h => exact h
  | 11, h => exact h
  | 12, ⟨g, h1, h2, h3⟩ => exact ⟨g, h1, Nat.lt_of_lt_of_le h2 hb.size, h3.below hb h2⟩
  | 13, ⟨A', c', h1, h2⟩ => exact ⟨A', c', h1, h2.below hb⟩
  | 14, ⟨x, A', c', h1, h2⟩ => exact ⟨x, A', c', h1, h2.below hb⟩
  | n + 15, h => trivial
theorem strAt_new (W : World) (ty : TypeId) (S : List ByteArray) : StrAt (W.alloc (.cells (S.map Value.string).toArray ty)) W.heap.size 0 S := by
  intro i x hx
  have h := heap_alloc_new W (.cells (S.map Value.string).toArray ty)
  have hi : ((S.map Value.string).toArray)[i]? = some (.string x) := by simp [hx]
  rw [Nat.zero_add]
  unfold World.cell?
  show (match (W.alloc (.cells (S.map Value.string).toArray ty)).heap[W.heap.size]? with | some (.cells c _ _) => c[i]? | _ => none) = _
  rw [h]
  exact hi
theorem Pw.down {w : World} {base base' : Nat} {v : Value} {L : List Fp} (h : Pw w base v L) (hb : base' ≤ base) : Pw w base' v L := by
  refine ⟨h.1, ?_⟩
  rcases h.2 with h0 | ⟨g, cap, cur, h1, h2, h3⟩
  · exact .inl h0
  · exact .inr ⟨g, cap, cur, h1, by omega, h3⟩
theorem doc_stored {W : World} {g : Nat} {t : TypeId} {a b c d : Value} (v0 v1 v2 v3 : Value) (h : W.heap[g]? = some (.cells #[a, b, c, d] t (0, 0))) :
    ((((W.setCell ⟨g, 0, none⟩ v0).setCell ⟨g, 1, none⟩ v1).setCell ⟨g, 2, none⟩ v2).setCell ⟨g, 3, none⟩ v3).heap[g]? = some (.cells #[v0, v1, v2, v3] t (0, 0)) :=
  heap_setCell_same _ g 3 _ t v3 (heap_setCell_same _ g 2 _ t v2 (heap_setCell_same _ g 1 _ t v1 (heap_setCell_same _ g 0 _ t v0 h)))
theorem wpOps_done {P : Program} {Q : Exit → Act → World → Prop} {ops : Array Oper} {a : Act} {w : World} (h : Q .normal a w) : wpOps P ops Q [] a w := h
/-- what Origin leaves -/
def DocP (w : World) (k : Int) (F : List Fp) (e : Ending) (w' : World) : Prop := ∃ x y A' c', e = .returned (.agg #[.int .i64 k, .string x, .string y, .slice A' F.length c']) ∧ Pw w' w.heap.size (.slice A' F.length c') F ∧ Below w.heap.size w w'
set_option maxHeartbeats 4000000 in
theorem origin_any (d : Dl) (A : Option Addr) (c : Nat) (s : ByteArray) (w : World) (hG : Gl w) (hn : d.num.size ≤ 1048576) (hb : d.box.length ≤ 20) (h8 : 8 ≤ w.heap.size) :
    Calls Tryz.prog 28 #[.agg (dlA d A c), .string s] w fun e w' => DocP w 4 (orF d s) e w' := by
  obtain ⟨W0, hW0⟩ : ∃ W0, W0 = (w.alloc (.cells (dlA d A c) 39)).alloc (.cells #[.int .i64 0, .string ⟨#[]⟩, .string ⟨#[]⟩, .slice none 0 0] 60) := ⟨_, rfl⟩
  have hz : W0.heap.size = w.heap.size + 2 := by rw [hW0]; simp
  have hB0 : Below w.heap.size w W0 := by rw [hW0]; exact ((Below.refl _ _).alloc (Nat.le_refl _) _).alloc (by simp) _
  have hk : ∀ i, i < 17 → W0.cell? ⟨w.heap.size, i, none⟩ = (dlA d A c)[i]? := fun i hi => by
    rw [hW0]
    have : i = 0 ∨ i = 1 ∨ i = 2 ∨ i = 3 ∨ i = 4 ∨ i = 5 ∨ i = 6 ∨ i = 7 ∨ i = 8 ∨ i = 9 ∨ i = 10 ∨ i = 11 ∨ i = 12 ∨ i = 13 ∨ i = 14 ∨ i = 15 ∨ i = 16 := by omega
    rcases this with rfl | rfl | rfl | rfl | rfl | rfl | rfl | rfl | rfl | rfl | rfl | rfl | rfl | rfl | rfl | rfl | rfl <;> simp [dlA]
  have hr : W0.heap[w.heap.size + 1]? = some (.cells #[.int .i64 0, .string ⟨#[]⟩, .string ⟨#[]⟩, .slice none 0 0] 60) := by
    rw [hW0]
    have : (w.alloc (.cells (dlA d A c) 39)).heap.size = w.heap.size + 1 := by simp
    rw [← this]
    exact heap_alloc_new _ _
  have HK : Hid (∀ W, Below (w.heap.size + 2) W0 W → ∀ i, i < 17 → W.cell? ⟨w.heap.size, i, none⟩ = (dlA d A c)[i]?) := Lib.hid (fun W hb i hi => (hb.cell (p := ⟨w.heap.size, i, none⟩) (by show w.heap.size < _; omega)).trans (hk i hi))
  have HG : Hid (∀ W, Below (w.heap.size + 2) W0 W → Gl W) := Lib.hid (fun W hb => hG.low (hB0.trans (hb.mono (by omega))) h8)
  have HR := Lib.hid hr
  have HZ := Lib.hid hz
  have HB0 := Lib.hid hB0
  have HU : Hid (∀ W W', Below (w.heap.size + 2) W0 W → Below W.heap.size W W' → Below (w.heap.size + 2) W0 W') := Lib.hid (fun W W' h1 h2 => h1.trans (h2.mono (by have := h1.size; omega)))
  clear hk hr hG hB0
  unfold dlA at *
  have hcl : (dlA d A c)[0]? = some (.string d.num) ∧ (dlA d A c)[1]? = some (.string d.sel) ∧ (dlA d A c)[11]? = some (.slice A d.box.length c) := ⟨rfl, rfl, rfl⟩
  obtain ⟨hc0, hc1, hc11⟩ := hcl
  generalize hCP : DocP w 4 (orF d s) = CP
  go_enter Tryz.func28, Tryz.ntmps28
  go_wp2_with fail
  rw [← hW0]
  clear hW0
  refine wp_region_facts (Le := fun w w' => Below w.heap.size w w') (C := fun W => Below (w.heap.size + 2) W0 W) (R := orR d A c w.heap.size (w.heap.size + 2) s) 15 15 [] (by kernel_rfl) (by kernel_rfl) (by kernel_rfl) rfl (Below.refl _ _).drew (fun W W' h1 h2 => HU.out W W' h2 h1) (fun i v w w' h => orR_kept i v w w' h) (steps_take ?_) ?_
  · simp only [List.take_succ_cons, List.take_zero, StepsFrom]
    refine ⟨fact_step ?_, fact_step ?_, fact_step ?_, fact_step ?_, fact_step ?_, fact_step ?_, fact_step ?_, fact_step ?_, fact_step ?_, fact_step ?_, fact_step ?_, fact_step ?_, fact_step ?_, fact_step ?_, fact_step ?_, trivial⟩
    all_goals (intro a W hs hc hd K hK)
    all_goals have t1 : a.tmps[1]? = some (.string s) := (hs.rest 1 (of_decide_eq_true (by kernel_rfl))).trans rfl
    all_goals have t2 : a.tmps[2]? = some (.pointer (some ⟨w.heap.size, 0, none⟩)) := (hs.rest 2 (of_decide_eq_true (by kernel_rfl))).trans rfl
    -- 0
    · go_simp
      exact hK _ _ (Below.refl _ _) rfl
    -- 1
    · obtain ⟨v0, s0, r0⟩ := hd { on := 0, ground := .data } (by simp) (by rfl) _ (by rfl)
      replace s0 := s0 _ rfl
      obtain rfl := r0
      have k := (HK.out W hc 0 (by omega)).trans hc0
      go_simp
      exact hK _ _ (Below.refl _ _) rfl
    -- 2
    · obtain ⟨v1, s1, r1⟩ := hd { on := 1, ground := .data } (by simp) (by rfl) _ (by rfl)
      replace s1 := s1 _ rfl
      obtain rfl := r1
      have u0 : (⟨#[111, 114, 45]⟩ : ByteArray).size = 3 := rfl
      have u1 : ¬ (9223372036854775807 < 3 + d.num.size) := by omega
      have u2 : 3 + d.num.size ≤ 9223372036854775807 := by omega
      go_simp
      exact hK _ _ (Below.refl _ _) ⟨_, rfl⟩
    -- 3
    · go_simp
      exact hK _ _ (Below.refl _ _) rfl
    -- 4
    · obtain ⟨v3, s3, r3⟩ := hd { on := 3, ground := .data } (by simp) (by rfl) _ (by rfl)
      replace s3 := s3 _ rfl
      obtain rfl := r3
      have k := (HK.out W hc 1 (by omega)).trans hc1
      go_simp
      exact hK _ _ (Below.refl _ _) rfl
    -- 5
    · go_simp
      exact hK _ _ (Below.refl _ _) rfl
    -- 6
    · obtain ⟨v5, s5, r5⟩ := hd { on := 5, ground := .data } (by simp) (by rfl) _ (by rfl)
      replace s5 := s5 _ rfl
      obtain rfl := r5
      have k := (HK.out W hc 1 (by omega)).trans hc1
      go_simp
      exact hK _ _ (Below.refl _ _) rfl
    -- 7
    · go_simp
      exact hK _ _ (Below.refl _ _) rfl
    -- 8
    · go_simp
      exact hK _ _ (Below.refl _ _) rfl
    -- 9
    · obtain ⟨v8, s8, r8⟩ := hd { on := 8, ground := .data } (by simp) (by rfl) _ (by rfl)
      replace s8 := s8 _ rfl
      obtain rfl := r8
      have k := (HK.out W hc 11 (by omega)).trans hc11
      go_simp
      exact hK _ _ (Below.refl _ _) rfl
    -- 10
    · obtain ⟨v9, s9, r9⟩ := hd { on := 9, ground := .data } (by simp) (by rfl) _ (by rfl)
      replace s9 := s9 _ rfl
      obtain rfl := r9
      go_simp
      exact hK _ _ (Below.refl _ _) rfl
    -- 11
    · obtain ⟨v10, s10, r10⟩ := hd { on := 10, ground := .data } (by simp) (by rfl) _ (by rfl)
      replace s10 := s10 _ rfl
      obtain rfl := r10
      have HC := Lib.hid (countTx_any d.box.length W (HG.out W hc) (by omega) (by omega))
      go_simp
      refine HC.out.mono ?_
      rintro e w' ⟨rfl, hb'⟩
      exact hK _ _ hb' rfl
    -- 12
    · obtain ⟨v6, s6, r6⟩ := hd { on := 6, ground := .data } (by simp) (by rfl) _ (by rfl)
      replace s6 := s6 _ rfl
      obtain ⟨v7, s7, r7⟩ := hd { on := 7, ground := .data } (by simp) (by rfl) _ (by rfl)
      replace s7 := s7 _ rfl
      obtain ⟨v11, s11, r11⟩ := hd { on := 11, ground := .data } (by simp) (by rfl) _ (by rfl)
      replace s11 := s11 _ rfl
      obtain rfl := r6
      obtain rfl := r7
      obtain rfl := r11
      go_simp
      refine hK _ _ ((Below.refl _ _).alloc (Nat.le_refl _) _) ⟨_, rfl, by simp, ?_⟩
      exact strAt_new W _ (flatF (orF d s))
    -- 13
    · obtain ⟨v12, s12, r12⟩ := hd { on := 12, ground := .data } (by simp) (by rfl) _ (by rfl)
      replace s12 := s12 _ rfl
      obtain ⟨g, rfl, hg, hst⟩ := r12
      have HC := Lib.hid (pfields_any (orF d s) 6 g 0 6 rfl W hst hg (show 3 ≤ 1000 by omega))
      have hW := hc.size
      go_simp
      refine HC.out.mono ?_
      rintro e w' ⟨A', n', c', rfl, rfl, hP, hb'⟩
      exact hK _ _ hb' ⟨A', c', rfl, hP.down (by omega)⟩
    -- 14
    · obtain ⟨v2, s2, r2⟩ := hd { on := 2, ground := .data } (by simp) (by rfl) _ (by rfl)
      replace s2 := s2 _ rfl
      obtain ⟨v4, s4, r4⟩ := hd { on := 4, ground := .data } (by simp) (by rfl) _ (by rfl)
      replace s4 := s4 _ rfl
      obtain ⟨v13, s13, r13⟩ := hd { on := 13, ground := .data } (by simp) (by rfl) _ (by rfl)
      replace s13 := s13 _ rfl
      obtain ⟨x, rfl⟩ := r2
      obtain rfl := r4
      obtain ⟨A', c', rfl, hP⟩ := r13
      go_simp
      exact hK _ _ (Below.refl _ _) ⟨_, _, _, rfl, hP⟩
  · intro a W hs hc hf
    obtain ⟨v, s14, x, A', c', rfl, hP⟩ := hf 14 _ rfl (by omega)
    replace s14 := s14 _ rfl
    have t4 : a.tmps[4]? = some (.pointer (some ⟨w.heap.size + 1, 0, none⟩)) := (hs.rest 4 (of_decide_eq_true (by kernel_rfl))).trans rfl
    have hr : W.heap[w.heap.size + 1]? = some (.cells #[.int .i64 0, .string ⟨#[]⟩, .string ⟨#[]⟩, .slice none 0 0] 60) := (hc.block _ (by omega)).trans HR.out
    have q0 : W.cell? ⟨w.heap.size + 1, 0, none⟩ = some (.int .i64 0) := by simp [World.cell?, hr]
    have q1 : W.cell? ⟨w.heap.size + 1, 1, none⟩ = some (.string ⟨#[]⟩) := by simp [World.cell?, hr]
    have q2 : W.cell? ⟨w.heap.size + 1, 2, none⟩ = some (.string ⟨#[]⟩) := by simp [World.cell?, hr]
    have q3 : W.cell? ⟨w.heap.size + 1, 3, none⟩ = some (.slice none 0 0) := by simp [World.cell?, hr]
    have hfz : ∀ i, W.frozen? ⟨w.heap.size + 1, i, none⟩ = false := fun i => by simp [World.frozen?, hr]
    refine wpOps_more (by rfl) rfl ?_
    go_simp
    refine wpOps_done ?_
    go_wp2_with fail
    refine bodyPost_ret (results_cell_row rfl _ _ (w.heap.size + 1) 60 #[.int .i64 4, .string x, .string d.sel, .slice A' 3 c'] (0, 0) _ (by simp [t4]) (doc_stored _ _ _ _ hr) Tryz.underlying60 rfl infoDocW) hs.defers ?_
    subst hCP
    refine ⟨_, _, A', c', rfl, Pw.down ?_ (Nat.le_add_right _ 2), ?_⟩
    · exact ownsRow_setCell_below (ownsRow_setCell_below (ownsRow_setCell_below (ownsRow_setCell_below hP (by show w.heap.size + 1 < _; omega) _) (by show w.heap.size + 1 < _; omega) _) (by show w.heap.size + 1 < _; omega) _) (by show w.heap.size + 1 < _; omega) _
    · exact ((((HB0.out.trans (hc.mono (by omega))).setCell (by show w.heap.size ≤ w.heap.size + 1; omega) _).setCell (by show w.heap.size ≤ w.heap.size + 1; omega) _).setCell (by show w.heap.size ≤ w.heap.size + 1; omega) _).setCell (by show w.heap.size ≤ w.heap.size + 1; omega) _
end Go.Proofs.YtbkffdfboloogaaGreatDoor
namespace Go.Proofs.YtbkffdfboloogaaGreatDoor
open Go.RowKit Go.Maps Go.Lib
set_option linter.unusedVariables false
set_option maxRecDepth 100000

def invF (d : Dl) : List Fp := [(⟨#[115, 101, 108, 108, 101, 114]⟩, d.sel), (⟨#[98, 117, 121, 101, 114]⟩, d.buy), (⟨#[99, 117, 114, 114, 101, 110, 99, 121]⟩, d.cur), (⟨#[115, 117, 109]⟩, ⟨(itL d.amt).toArray⟩), (⟨#[102, 114, 111, 109]⟩, d.frm), (⟨#[116, 111]⟩, d.dst), (⟨#[98, 111, 120, 101, 115]⟩, ⟨(itL d.box.length).toArray⟩), (⟨#[116, 101, 114, 109]⟩, ⟨(itL d.trm).toArray⟩)]
def invR (d : Dl) (A : Option Addr) (c b base : Nat) : Nat → Value → World → Prop
  | 0, v, _ => v = .pointer (some ⟨b, 0, none⟩)
  | 1, v, _ => v = .string d.num
  | 2, v, _ => ∃ x, v = .string x
  | 3, v, _ => v = .pointer (some ⟨b, 1, none⟩)
  | 4, v, _ => v = .string d.sel
  | 5, v, _ => v = .pointer (some ⟨b, 1, none⟩)
  | 6, v, _ => v = .string d.sel
  | 7, v, _ => v = .pointer (some ⟨b, 2, none⟩)
  | 8, v, _ => v = .string d.buy
  | 9, v, _ => v = .pointer (some ⟨b, 9, none⟩)
  | 10, v, _ => v = .pointer (some ⟨b, 9, none⟩)
  | 11, v, _ => v = .string d.cur
  | 12, v, _ => v = .pointer (some ⟨b, 9, none⟩)
  | 13, v, _ => v = .pointer (some ⟨b, 10, none⟩)
  | 14, v, _ => v = .int .i64 d.amt
  | 15, v, _ => v = .string ⟨(itL d.amt).toArray⟩
  | 16, v, _ => v = .pointer (some ⟨b, 7, none⟩)
  | 17, v, _ => v = .string d.frm
  | 18, v, _ => v = .pointer (some ⟨b, 8, none⟩)
  | 19, v, _ => v = .string d.dst
  | 20, v, _ => v = .pointer (some ⟨b, 11, none⟩)
  | 21, v, _ => v = .slice A d.box.length c
  | 22, v, _ => v = .int .i64 d.box.length
  | 23, v, _ => v = .string ⟨(itL d.box.length).toArray⟩
  | 24, v, _ => v = .pointer (some ⟨b, 12, none⟩)
  | 25, v, _ => v = .int .i64 d.trm
  | 26, v, _ => v = .string ⟨(itL d.trm).toArray⟩
  | 27, v, w => ∃ g, v = .slice (some ⟨g, 0, none⟩) 16 16 ∧ g < w.heap.size ∧ StrAt w g 0 (flatF (invF d))
  | 28, v, w => ∃ A' c', v = .slice A' 8 c' ∧ Pw w base (.slice A' 8 c') (invF d)
  | 29, v, w => ∃ x A' c', v = .agg #[.int .i64 0, .string x, .string d.sel, .slice A' 8 c'] ∧ Pw w base (.slice A' 8 c') (invF d)
  | _, _, _ => True
theorem invR_kept {d : Dl} {A : Option Addr} {c b base : Nat} (i : Nat) (v : Value) (w w' : World) (hb : Below w.heap.size w w') (h : invR d A c b base i v w) : invR d A c b base i v w' := by
  match i, h with
  | 0, h => exact h
  | 1, h => exact h
  | 2, h => exact h
  | 3, h => exact h
  | 4, h => exact h
  | 5, h => exact h
  | 6, h => exact h
  | 7, h => exact h
  | 8, h => exact h
  | 9, h => exact h
  | 10, h => exact h
  | 11, h => exact h
  | 12, h => exact h
  | 13, h => exact h
  | 14, h => exact h
  | 15, h => exact h
  | 16, h => exact h
  | 17, h => exact h
  | 18, h => exact h
  | 19, h => exact h
  | 20, h => exact h
  | 21, h => exact h
  | 22, h => exact h
  | 23, h => exact h
  | 24, h => exact h
  | 25, h => exact h
  | 26, h => exact h
  | 27, ⟨g, h1, h2, h3⟩ => exact ⟨g, h1, Nat.lt_of_lt_of_le h2 hb.size, h3.below hb h2⟩
  | 28, ⟨A', c', h1, h2⟩ => exact ⟨A', c', h1, h2.below hb⟩
  | 29, ⟨x, A', c', h1, h2⟩ => exact ⟨x, A', c', h1, h2.below hb⟩
  | n + 30, h => trivial
set_option maxHeartbeats 4000000 in
theorem inv_any (d : Dl) (A : Option Addr) (c : Nat)  (w : World) (hn : d.num.size ≤ 1048576) (hb : d.box.length ≤ 20) (hG : Gl w) (h8 : 8 ≤ w.heap.size) (ha0 : -9223372036854775808 ≤ d.amt) (ha1 : d.amt ≤ 9223372036854775807) (ht0 : -9223372036854775808 ≤ d.trm) (ht1 : d.trm ≤ 9223372036854775807) :
    Calls Tryz.prog 24 #[.agg (dlA d A c)] w fun e w' => DocP w 0 (invF d) e w' := by
  obtain ⟨W0, hW0⟩ : ∃ W0, W0 = (w.alloc (.cells (dlA d A c) 39)).alloc (.cells #[.int .i64 0, .string ⟨#[]⟩, .string ⟨#[]⟩, .slice none 0 0] 60) := ⟨_, rfl⟩
  have hz : W0.heap.size = w.heap.size + 2 := by rw [hW0]; simp
  have hB0 : Below w.heap.size w W0 := by rw [hW0]; exact ((Below.refl _ _).alloc (Nat.le_refl _) _).alloc (by simp) _
  have hk : ∀ i, i < 17 → W0.cell? ⟨w.heap.size, i, none⟩ = (dlA d A c)[i]? := fun i hi => by
    rw [hW0]
    have : i = 0 ∨ i = 1 ∨ i = 2 ∨ i = 3 ∨ i = 4 ∨ i = 5 ∨ i = 6 ∨ i = 7 ∨ i = 8 ∨ i = 9 ∨ i = 10 ∨ i = 11 ∨ i = 12 ∨ i = 13 ∨ i = 14 ∨ i = 15 ∨ i = 16 := by omega
    rcases this with rfl | rfl | rfl | rfl | rfl | rfl | rfl | rfl | rfl | rfl | rfl | rfl | rfl | rfl | rfl | rfl | rfl <;> simp [dlA]
  have hr : W0.heap[w.heap.size + 1]? = some (.cells #[.int .i64 0, .string ⟨#[]⟩, .string ⟨#[]⟩, .slice none 0 0] 60) := by
    rw [hW0]
    have : (w.alloc (.cells (dlA d A c) 39)).heap.size = w.heap.size + 1 := by simp
    rw [← this]
    exact heap_alloc_new _ _
  have HK : Hid (∀ W, Below (w.heap.size + 2) W0 W → ∀ i, i < 17 → W.cell? ⟨w.heap.size, i, none⟩ = (dlA d A c)[i]?) := Lib.hid (fun W hb i hi => (hb.cell (p := ⟨w.heap.size, i, none⟩) (by show w.heap.size < _; omega)).trans (hk i hi))
  have HG : Hid (∀ W, Below (w.heap.size + 2) W0 W → Gl W) := Lib.hid (fun W hb => hG.low (hB0.trans (hb.mono (by omega))) h8)
  clear hG
  have HR := Lib.hid hr
  have HZ := Lib.hid hz
  have HB0 := Lib.hid hB0
  have HU : Hid (∀ W W', Below (w.heap.size + 2) W0 W → Below W.heap.size W W' → Below (w.heap.size + 2) W0 W') := Lib.hid (fun W W' h1 h2 => h1.trans (h2.mono (by have := h1.size; omega)))
  clear hk hr hB0
  unfold dlA at *
  have hc0 : (dlA d A c)[0]? = some (.string d.num) := rfl
  have hc1 : (dlA d A c)[1]? = some (.string d.sel) := rfl
  have hc2 : (dlA d A c)[2]? = some (.string d.buy) := rfl
  have hc7 : (dlA d A c)[7]? = some (.string d.frm) := rfl
  have hc8 : (dlA d A c)[8]? = some (.string d.dst) := rfl
  have hc9 : (dlA d A c)[9]? = some (.string d.cur) := rfl
  have hc10 : (dlA d A c)[10]? = some (.int .i64 d.amt) := rfl
  have hc11 : (dlA d A c)[11]? = some (.slice A d.box.length c) := rfl
  have hc12 : (dlA d A c)[12]? = some (.int .i64 d.trm) := rfl
  generalize hCP : (fun e w' => DocP w 0 (invF d) e w') = CP
  go_enter Tryz.func24, Tryz.ntmps24
  go_wp2_with fail
  rw [← hW0]
  clear hW0
  refine wp_region_facts (Le := fun w w' => Below w.heap.size w w') (C := fun W => Below (w.heap.size + 2) W0 W) (R := invR d A c w.heap.size (w.heap.size + 2)) 30 30 [] (by kernel_rfl) (by kernel_rfl) (by kernel_rfl) rfl (Below.refl _ _).drew (fun W W' h1 h2 => HU.out W W' h2 h1) (fun i v w w' h => invR_kept i v w w' h) (steps_take ?_) ?_
  · simp only [List.take_succ_cons, List.take_zero, StepsFrom]
    refine ⟨fact_step ?_, fact_step ?_, fact_step ?_, fact_step ?_, fact_step ?_, fact_step ?_, fact_step ?_, fact_step ?_, fact_step ?_, fact_step ?_, fact_step ?_, fact_step ?_, fact_step ?_, fact_step ?_, fact_step ?_, fact_step ?_, fact_step ?_, fact_step ?_, fact_step ?_, fact_step ?_, fact_step ?_, fact_step ?_, fact_step ?_, fact_step ?_, fact_step ?_, fact_step ?_, fact_step ?_, fact_step ?_, fact_step ?_, fact_step ?_, trivial⟩
    all_goals (intro a W hs hc hd K hK)
    all_goals have t1 : a.tmps[1]? = some (.pointer (some ⟨w.heap.size, 0, none⟩)) := (hs.rest 1 (of_decide_eq_true (by kernel_rfl))).trans rfl
    -- 0
    · go_simp
      exact hK _ _ (Below.refl _ _) rfl
    -- 1
    · obtain ⟨v0, s0, r0⟩ := hd { on := 0, ground := .data } (by simp) (by rfl) _ (by rfl)
      replace s0 := s0 _ rfl
      obtain rfl := r0
      have k := (HK.out W hc 0 (by omega)).trans hc0
      go_simp
      exact hK _ _ (Below.refl _ _) rfl
    -- 2
    · obtain ⟨v1, s1, r1⟩ := hd { on := 1, ground := .data } (by simp) (by rfl) _ (by rfl)
      replace s1 := s1 _ rfl
      obtain rfl := r1
      have u0 : (⟨#[105, 118, 45]⟩ : ByteArray).size = 3 := rfl
      have u1 : ¬ (9223372036854775807 < 3 + d.num.size) := by omega
      have u2 : 3 + d.num.size ≤ 9223372036854775807 := by omega
      go_simp
      exact hK _ _ (Below.refl _ _) ⟨_, rfl⟩
    -- 3
    · go_simp
      exact hK _ _ (Below.refl _ _) rfl
    -- 4
    · obtain ⟨v3, s3, r3⟩ := hd { on := 3, ground := .data } (by simp) (by rfl) _ (by rfl)
      replace s3 := s3 _ rfl
      obtain rfl := r3
      have k := (HK.out W hc 1 (by omega)).trans hc1
      go_simp
      exact hK _ _ (Below.refl _ _) rfl
    -- 5
    · go_simp
      exact hK _ _ (Below.refl _ _) rfl
    -- 6
    · obtain ⟨v5, s5, r5⟩ := hd { on := 5, ground := .data } (by simp) (by rfl) _ (by rfl)
      replace s5 := s5 _ rfl
      obtain rfl := r5
      have k := (HK.out W hc 1 (by omega)).trans hc1
      go_simp
      exact hK _ _ (Below.refl _ _) rfl
    -- 7
    · go_simp
      exact hK _ _ (Below.refl _ _) rfl
    -- 8
    · obtain ⟨v7, s7, r7⟩ := hd { on := 7, ground := .data } (by simp) (by rfl) _ (by rfl)
      replace s7 := s7 _ rfl
      obtain rfl := r7
      have k := (HK.out W hc 2 (by omega)).trans hc2
      go_simp
      exact hK _ _ (Below.refl _ _) rfl
    -- 9
    · go_simp
      exact hK _ _ (Below.refl _ _) rfl
    -- 10
    · obtain ⟨v9, s9, r9⟩ := hd { on := 9, ground := .data } (by simp) (by rfl) _ (by rfl)
      replace s9 := s9 _ rfl
      obtain rfl := r9
      go_simp
      exact hK _ _ (Below.refl _ _) rfl
    -- 11
    · obtain ⟨v10, s10, r10⟩ := hd { on := 10, ground := .data } (by simp) (by rfl) _ (by rfl)
      replace s10 := s10 _ rfl
      obtain rfl := r10
      have k := (HK.out W hc 9 (by omega)).trans hc9
      go_simp
      exact hK _ _ (Below.refl _ _) rfl
    -- 12
    · go_simp
      exact hK _ _ (Below.refl _ _) rfl
    -- 13
    · obtain ⟨v12, s12, r12⟩ := hd { on := 12, ground := .data } (by simp) (by rfl) _ (by rfl)
      replace s12 := s12 _ rfl
      obtain rfl := r12
      go_simp
      exact hK _ _ (Below.refl _ _) rfl
    -- 14
    · obtain ⟨v13, s13, r13⟩ := hd { on := 13, ground := .data } (by simp) (by rfl) _ (by rfl)
      replace s13 := s13 _ rfl
      obtain rfl := r13
      have k := (HK.out W hc 10 (by omega)).trans hc10
      go_simp
      exact hK _ _ (Below.refl _ _) rfl
    -- 15
    · obtain ⟨v14, s14, r14⟩ := hd { on := 14, ground := .data } (by simp) (by rfl) _ (by rfl)
      replace s14 := s14 _ rfl
      obtain rfl := r14
      have HC := Lib.hid (digitsTx_any d.amt W (HG.out W hc) (by omega) (by omega))
      go_simp
      refine HC.out.mono ?_
      rintro e w' ⟨rfl, hb'⟩
      exact hK _ _ hb' rfl
    -- 16
    · go_simp
      exact hK _ _ (Below.refl _ _) rfl
    -- 17
    · obtain ⟨v16, s16, r16⟩ := hd { on := 16, ground := .data } (by simp) (by rfl) _ (by rfl)
      replace s16 := s16 _ rfl
      obtain rfl := r16
      have k := (HK.out W hc 7 (by omega)).trans hc7
      go_simp
      exact hK _ _ (Below.refl _ _) rfl
    -- 18
    · go_simp
      exact hK _ _ (Below.refl _ _) rfl
    -- 19
    · obtain ⟨v18, s18, r18⟩ := hd { on := 18, ground := .data } (by simp) (by rfl) _ (by rfl)
      replace s18 := s18 _ rfl
      obtain rfl := r18
      have k := (HK.out W hc 8 (by omega)).trans hc8
      go_simp
      exact hK _ _ (Below.refl _ _) rfl
    -- 20
    · go_simp
      exact hK _ _ (Below.refl _ _) rfl
    -- 21
    · obtain ⟨v20, s20, r20⟩ := hd { on := 20, ground := .data } (by simp) (by rfl) _ (by rfl)
      replace s20 := s20 _ rfl
      obtain rfl := r20
      have k := (HK.out W hc 11 (by omega)).trans hc11
      go_simp
      exact hK _ _ (Below.refl _ _) rfl
    -- 22
    · obtain ⟨v21, s21, r21⟩ := hd { on := 21, ground := .data } (by simp) (by rfl) _ (by rfl)
      replace s21 := s21 _ rfl
      obtain rfl := r21
      go_simp
      exact hK _ _ (Below.refl _ _) rfl
    -- 23
    · obtain ⟨v22, s22, r22⟩ := hd { on := 22, ground := .data } (by simp) (by rfl) _ (by rfl)
      replace s22 := s22 _ rfl
      obtain rfl := r22
      have HC := Lib.hid (countTx_any d.box.length W (HG.out W hc) (by omega) (by omega))
      go_simp
      refine HC.out.mono ?_
      rintro e w' ⟨rfl, hb'⟩
      exact hK _ _ hb' rfl
    -- 24
    · go_simp
      exact hK _ _ (Below.refl _ _) rfl
    -- 25
    · obtain ⟨v24, s24, r24⟩ := hd { on := 24, ground := .data } (by simp) (by rfl) _ (by rfl)
      replace s24 := s24 _ rfl
      obtain rfl := r24
      have k := (HK.out W hc 12 (by omega)).trans hc12
      go_simp
      exact hK _ _ (Below.refl _ _) rfl
    -- 26
    · obtain ⟨v25, s25, r25⟩ := hd { on := 25, ground := .data } (by simp) (by rfl) _ (by rfl)
      replace s25 := s25 _ rfl
      obtain rfl := r25
      have HC := Lib.hid (countTx_any d.trm W (HG.out W hc) (by omega) (by omega))
      go_simp
      refine HC.out.mono ?_
      rintro e w' ⟨rfl, hb'⟩
      exact hK _ _ hb' rfl
    -- 27
    · obtain ⟨v6, s6, r6⟩ := hd { on := 6, ground := .data } (by simp) (by rfl) _ (by rfl)
      replace s6 := s6 _ rfl
      obtain ⟨v8, s8, r8⟩ := hd { on := 8, ground := .data } (by simp) (by rfl) _ (by rfl)
      replace s8 := s8 _ rfl
      obtain ⟨v11, s11, r11⟩ := hd { on := 11, ground := .data } (by simp) (by rfl) _ (by rfl)
      replace s11 := s11 _ rfl
      obtain ⟨v15, s15, r15⟩ := hd { on := 15, ground := .data } (by simp) (by rfl) _ (by rfl)
      replace s15 := s15 _ rfl
      obtain ⟨v17, s17, r17⟩ := hd { on := 17, ground := .data } (by simp) (by rfl) _ (by rfl)
      replace s17 := s17 _ rfl
      obtain ⟨v19, s19, r19⟩ := hd { on := 19, ground := .data } (by simp) (by rfl) _ (by rfl)
      replace s19 := s19 _ rfl
      obtain ⟨v23, s23, r23⟩ := hd { on := 23, ground := .data } (by simp) (by rfl) _ (by rfl)
      replace s23 := s23 _ rfl
      obtain ⟨v26, s26, r26⟩ := hd { on := 26, ground := .data } (by simp) (by rfl) _ (by rfl)
      replace s26 := s26 _ rfl
      obtain rfl := r6
      obtain rfl := r8
      obtain rfl := r11
      obtain rfl := r15
      obtain rfl := r17
      obtain rfl := r19
      obtain rfl := r23
      obtain rfl := r26
      go_simp
      exact hK _ _ ((Below.refl _ _).alloc (Nat.le_refl _) _) ⟨_, rfl, by simp, strAt_new W _ (flatF (invF d))⟩
    -- 28
    · obtain ⟨v27, s27, r27⟩ := hd { on := 27, ground := .data } (by simp) (by rfl) _ (by rfl)
      replace s27 := s27 _ rfl
      obtain ⟨g, rfl, hg, hst⟩ := r27
      have HC := Lib.hid (pfields_any (invF d) 16 g 0 16 rfl W hst hg (show 8 ≤ 1000 by omega))
      have hW := hc.size
      go_simp
      refine HC.out.mono ?_
      rintro e w' ⟨A', n', c', rfl, rfl, hP, hb'⟩
      exact hK _ _ hb' ⟨A', c', rfl, hP.down (by omega)⟩
    -- 29
    · obtain ⟨v2, s2, r2⟩ := hd { on := 2, ground := .data } (by simp) (by rfl) _ (by rfl)
      replace s2 := s2 _ rfl
      obtain ⟨v4, s4, r4⟩ := hd { on := 4, ground := .data } (by simp) (by rfl) _ (by rfl)
      replace s4 := s4 _ rfl
      obtain ⟨v28, s28, r28⟩ := hd { on := 28, ground := .data } (by simp) (by rfl) _ (by rfl)
      replace s28 := s28 _ rfl
      obtain ⟨x, rfl⟩ := r2
      obtain rfl := r4
      obtain ⟨A', c', rfl, hP⟩ := r28
      go_simp
      exact hK _ _ (Below.refl _ _) ⟨_, _, _, rfl, hP⟩
  · intro a W hs hc hf
    obtain ⟨v, s14, x, A', c', rfl, hP⟩ := hf 29 _ rfl (by omega)
    replace s14 := s14 _ rfl
    have t2 : a.tmps[2]? = some (.pointer (some ⟨w.heap.size + 1, 0, none⟩)) := (hs.rest 2 (of_decide_eq_true (by kernel_rfl))).trans rfl
    have hr : W.heap[w.heap.size + 1]? = some (.cells #[.int .i64 0, .string ⟨#[]⟩, .string ⟨#[]⟩, .slice none 0 0] 60) := (hc.block _ (by omega)).trans HR.out
    have q0 : W.cell? ⟨w.heap.size + 1, 0, none⟩ = some (.int .i64 0) := by simp [World.cell?, hr]
    have q1 : W.cell? ⟨w.heap.size + 1, 1, none⟩ = some (.string ⟨#[]⟩) := by simp [World.cell?, hr]
    have q2 : W.cell? ⟨w.heap.size + 1, 2, none⟩ = some (.string ⟨#[]⟩) := by simp [World.cell?, hr]
    have q3 : W.cell? ⟨w.heap.size + 1, 3, none⟩ = some (.slice none 0 0) := by simp [World.cell?, hr]
    have hfz : ∀ i, W.frozen? ⟨w.heap.size + 1, i, none⟩ = false := fun i => by simp [World.frozen?, hr]
    refine wpOps_more (by rfl) rfl ?_
    go_simp
    refine wpOps_done ?_
    go_wp2_with fail
    refine bodyPost_ret (results_cell_row rfl _ _ (w.heap.size + 1) 60 #[.int .i64 0, .string x, .string d.sel, .slice A' 8 c'] (0, 0) _ (by simp [t2]) (doc_stored _ _ _ _ hr) Tryz.underlying60 rfl infoDocW) hs.defers ?_
    subst hCP
    refine ⟨_, _, A', c', rfl, Pw.down ?_ (Nat.le_add_right _ 2), ?_⟩
    · exact ownsRow_setCell_below (ownsRow_setCell_below (ownsRow_setCell_below (ownsRow_setCell_below hP (by show w.heap.size + 1 < _; omega) _) (by show w.heap.size + 1 < _; omega) _) (by show w.heap.size + 1 < _; omega) _) (by show w.heap.size + 1 < _; omega) _
    · exact ((((HB0.out.trans (hc.mono (by omega))).setCell (by show w.heap.size ≤ w.heap.size + 1; omega) _).setCell (by show w.heap.size ≤ w.heap.size + 1; omega) _).setCell (by show w.heap.size ≤ w.heap.size + 1; omega) _).setCell (by show w.heap.size ≤ w.heap.size + 1; omega) _
end Go.Proofs.YtbkffdfboloogaaGreatDoor
