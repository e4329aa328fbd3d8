/- slices.Grow of a nil slice, slices.Concat of two slices of ints. -/
import Derived.Test.YtehjkgfdfihfmaaDoorSTree
import Derived.Lib.AppendZerosOnto
import Derived.Lib.AppendZeros
import Derived.Lib.SliceRun
import Derived.Maps.AppendAt
namespace Go.Proofs.YtehjkgfdfihfmaaDoor
open Go.RowKit Go.Maps Go.Lib
set_option linter.unusedVariables false
set_option maxRecDepth 100000

theorem info_int : (Tryd.prog.info? 3).map (fun i => (i.zero, i.size, i.bytes)) = some (some (.int .i64 0), 1, 8) := by kernel_rfl
abbrev iC (l : List Nat) : List Value := l.map fun (i : Nat) => Value.int .i64 (i : Int)
/-- v is a slice of its own, in a block from base on, of the numbers l -/
abbrev Ri (w : World) (base : Nat) (v : Value) (l : List Nat) : Prop := w.ownsRow base 3 1 v l.length (iC l)
theorem zero_cells (z : Value) (hz : z.cells.size = 1) (k : Nat) : (Builtin.zeroCells z.cells k).size = k := by
  unfold Builtin.zeroCells
  simp [hz]

set_option maxHeartbeats 2000000 in
theorem grow_nil (n : Nat) (w : World) (hn : n ≤ 1000000) : Calls Tryd.prog 45 #[.slice none 0 0, .int .i64 (n : Nat)] w fun e w' => ∃ v, e = .returned v ∧ Ri w' w.heap.size v [] ∧ (∃ A c, v = .slice A 0 c) ∧ Below w.heap.size w w' := by
  have hn0 : ¬ ((n : Int) < 0) := by omega
  by_cases h0 : n = 0
  · subst h0
    go_enter Tryd.func45, Tryd.ntmps45
    go_wp2
    go_ret
    exact ⟨_, rfl, World.ownsRow_nil _ _ _ _, ⟨none, 0, rfl⟩, Below.refl _ _⟩
  · obtain ⟨i0, hi, hz0, hz1, hz2⟩ := info_parts info_int
    have h4 : (n : Int) > 0 := by omega
    have hold : (Builtin.firstCells i0.size 0 (.slice none 0 0)).run Tryd.prog w.drew = .ok (([] : List Value)).toArray w.drew := run_firstCells_none w.drew i0.size 0 0 0
    have hrz : ∀ ty, (Builtin.append_ #[43, 3] ty #[.slice none 0 0, .int .i64 (n : Int)]).run Tryd.prog w =
        .ok (.slice (some ⟨w.heap.size, 0, none⟩) n (grownCap w n 0 3)) (w.drew.alloc (.cells (#[] ++ Builtin.zeroCells (Value.int .i64 0).cells n ++ Builtin.zeroCells (Value.int .i64 0).cells (grownCap w n 0 3 - n)) 3)) := fun ty => by
      have h := Lib.run_append_grow_zeros w 43 3 ty 3 i0 (.int .i64 0) .i64 .i64 Tryd.underlying43 Tryd.underlying3 hi hz0 none 0 0 [] hold n (by omega) (by omega) (by omega) (by omega) (by rw [hz2]; omega) (by rw [hz2]; exact growslice_fits (by omega) (by omega))
      simpa using h
    have hGn : n ≤ grownCap w n 0 3 := grownCap_ge w _ _ _
    have hGm : grownCap w n 0 3 ≤ maxLen := grownCap_le_maxLen w n 0 3 (by unfold maxLen; omega)
    generalize grownCap w n 0 3 = G at *
    have hG63 : G ≤ 9223372036854775807 := hGm
    clear hold
    go_enter Tryd.func45, Tryd.ntmps45
    go_wp2_with (at_builtin; refine Lib.wpList_append_run _ rfl _ _ _ _ rfl _ _ rfl rfl _ _ (hrz _) ?_)
    go_ret
    refine ⟨_, rfl, ⟨rfl, .inr ⟨w.heap.size, G, _, rfl, Nat.le_refl _, (MapKept.heap_alloc w.drew _).1, Nat.zero_le _, hGm, ?_, by simp⟩⟩, ⟨_, _, rfl⟩, ((Below.refl w.heap.size w).drew).alloc (Nat.le_refl _) _⟩
    have e1 := zero_cells (.int .i64 0) rfl n
    have e2 := zero_cells (.int .i64 0) rfl (G - n)
    change (Builtin.zeroCells #[Value.int .i64 0] n).size = n at e1
    change (Builtin.zeroCells #[Value.int .i64 0] (G - n)).size = G - n at e2
    simp only [Array.size_append, Array.empty_append, Value.cells]
    rw [e1, e2]
    omega

theorem World.grownBy_refl' (w : World) (v : Value) : w.grownBy w v.ownBlock := ⟨rfl, rfl, rfl, Nat.le_refl _, fun _ _ _ => rfl⟩
/-- the cells of a slice's numbers -/
theorem Ri.cells {w : World} {base : Nat} {v : Value} {l : List Nat} (h : Ri w base v l) : (v = .slice none 0 0 ∧ l = []) ∨ ∃ g cap, v = .slice (some ⟨g, 0, none⟩) l.length cap ∧ base ≤ g ∧ g < w.heap.size ∧ l.length ≤ cap ∧ (∀ i x, l[i]? = some x → w.cell? ⟨g, i, none⟩ = some (.int .i64 (x : Nat))) := by
  rcases h.2 with ⟨h1, h2⟩ | ⟨g, cap, cur, h1, h2, h3, h4, h5, h6, h7⟩
  · exact .inl ⟨h1, List.length_eq_zero_iff.1 h2⟩
  · refine .inr ⟨g, cap, h1, h2, (Array.getElem?_eq_some_iff.1 h3).1, h4, ?_⟩
    intro i x hx
    have hi := (List.getElem?_eq_some_iff.1 hx).1
    have e1 : (iC l)[i]? = some (.int .i64 (x : Nat)) := by simp [iC, hx]
    rw [← h7, List.getElem?_take, if_pos (by omega)] at e1
    have e2 : cur[i]? = some (.int .i64 (x : Nat)) := by simpa using e1
    simp [World.cell?, h3, e2]
theorem Ri.below {w w' : World} {base : Nat} {v : Value} {l : List Nat} (h : Ri w base v l) (hb : Below w.heap.size w w') : Ri w' base v l := by
  refine ⟨h.1, ?_⟩
  rcases h.2 with h0 | ⟨g, cap, cur, h1, h2, h3, h4⟩
  · exact .inl h0
  · exact .inr ⟨g, cap, cur, h1, h2, (hb.block g (Array.getElem?_eq_some_iff.1 h3).1).trans h3, h4⟩
theorem Ri.form {w : World} {base : Nat} {v : Value} {l : List Nat} (h : Ri w base v l) : ∃ A c, v = .slice A l.length c := by
  rcases h.2 with ⟨h1, h2⟩ | ⟨g, cap, cur, h1, _⟩
  · exact ⟨none, 0, by rw [h1, h2]⟩
  · exact ⟨_, _, h1⟩
theorem iC_append (a b : List Nat) : iC (a ++ b) = iC a ++ iC b := by simp [iC]

/-- appending one slice of one's own to another -/
theorem app_rows {P : Program} {w : World} {base bx : Nat} {t e : TypeId} {z : Value} {bytes : Nat} (ty : TypeId) (ht : P.underlying t = some (.slice e)) (hi : (P.info? e).map (fun i => (i.zero, i.size, i.bytes)) = some (some z, 1, bytes)) (hz : z.cells.size = 1)
    {v x : Value} {n m : Nat} {xs ys : List Value} (hv : w.ownsRow base e 1 v n xs) (hx : w.ownsRow bx e 1 x m ys) (h1 : ∀ u ∈ ys, u.oneCell' = true) (h63 : n + m ≤ 1000000000) (hby : (n + m) * bytes ≤ 140737488355328) (hbase : base ≤ w.heap.size) :
    ∃ v' w', (Builtin.append_ #[t, t] ty #[v, x]).run P w = .ok v' w' ∧ w'.ownsRow base e 1 v' (n + m) (xs ++ ys) ∧ w.grownBy w' v.ownBlock ∧ (v'.ownBlock = v.ownBlock ∨ v'.ownBlock = some w.heap.size) := by
  obtain ⟨i0, hi0, hz0, hz1, hz2⟩ := info_parts hi
  rcases hx.2 with ⟨rfl, h0⟩ | ⟨g, cap, cur, rfl, _, hg, _, _, _, htake⟩
  · have : ys = [] := List.length_eq_zero_iff.1 (by rw [hx.1, h0])
    subst this h0
    refine ⟨v, w, run_append_owned_none w base t ty e i0 1 ht hi0 v n xs hv, by simpa using hv, World.grownBy_refl' w v, .inl rfl⟩
  · obtain ⟨v', w', hr, h2, h3, _, h5⟩ := run_append_own_at (P := P) (w := w) base t ty e i0 z 1 bytes ht hi0 hz0 hz1 hz2 hz (by omega) v n xs hv ⟨g, 0, none⟩ m cap ys hx.1 (fun j u hu => by
      have hj : j < m * 1 := by rw [← hx.1]; exact (List.getElem?_eq_some_iff.1 hu).1
      rw [show (⟨g, 0, none⟩ : Addr).add j = ⟨g, j, none⟩ from by unfold Addr.add; split <;> simp_all]
      rw [hx.cellAt j hj]
      exact hu) h1 (by unfold maxLen; omega) hby hbase
    exact ⟨v', w', hr, h2, h3, h5⟩
theorem one_iC (l : List Nat) : ∀ u ∈ iC l, u.oneCell' = true := by
  intro u hu
  obtain ⟨i, _, rfl⟩ := List.mem_map.1 hu
  rfl
theorem app_Ri {w : World} {base bx : Nat} (ty : TypeId) {v x : Value} {l m : List Nat} (hv : Ri w base v l) (hx : Ri w bx x m) (h63 : l.length + m.length ≤ 1000000) (hbase : base ≤ w.heap.size) :
    ∃ v' w', (Builtin.append_ #[43, 43] ty #[v, x]).run Tryd.prog w = .ok v' w' ∧ Ri w' base v' (l ++ m) ∧ w.grownBy w' v.ownBlock ∧ (v'.ownBlock = v.ownBlock ∨ v'.ownBlock = some w.heap.size) := by
  obtain ⟨v', w', h1, h2, h3, h4⟩ := app_rows (P := Tryd.prog) (t := 43) (e := 3) ty Tryd.underlying43 info_int rfl hv hx (one_iC m) (by omega) (by omega) hbase
  exact ⟨v', w', h1, by unfold Ri; rw [List.length_append, iC_append]; exact h2, h3, h4⟩

set_option maxHeartbeats 2000000 in
/-- slices.Concat(a, b) -/
theorem concat_any (a b : List Nat) (Aa Ab : Option Addr) (ca cb g c : Nat) (w : World) (ba bb : Nat) (hA : Ri w ba (.slice Aa a.length ca) a) (hB : Ri w bb (.slice Ab b.length cb) b) (hg : g < w.heap.size) (c0 : w.cell? ⟨g, 0, none⟩ = some (.slice Aa a.length ca)) (c1 : w.cell? ⟨g, 1, none⟩ = some (.slice Ab b.length cb)) (la : a.length ≤ 100000) (lb : b.length ≤ 100000) :
    Calls Tryd.prog 38 #[.slice (some ⟨g, 0, none⟩) 2 c] w fun e w' => ∃ v, e = .returned v ∧ Ri w' w.heap.size v (a ++ b) ∧ Below w.heap.size w w' := by
  obtain ⟨i0, hi, hz0, hz1, hz2⟩ := info_parts info_int
  have HA := Lib.hid hA
  have HB := Lib.hid hB
  clear hA hB
  go_enter Tryd.func38, Tryd.ntmps38
  go_wp2_with fail
  go_loopw [3, 11] (fun z i wr => ∃ k n : Nat, i = .int .i64 (k : Int) ∧ z = .int .i64 (n : Int) ∧ ((k = 0 ∧ n = 0) ∨ (k = 1 ∧ n = a.length) ∨ (k = 2 ∧ n = a.length + b.length)) ∧ wr = w) (fun _ i _ => 2 - (RowKit.intOf i).toNat)
  case atStart => exact ⟨0, 0, rfl, rfl, .inl ⟨rfl, rfl⟩, rfl⟩
  case round =>
    obtain ⟨k, n, rfl, rfl, hk, rfl⟩ := hrel
    rcases hk with ⟨rfl, rfl⟩ | ⟨rfl, rfl⟩ | ⟨rfl, rfl⟩
    · have hz : ¬ ((0 : Int) + (a.length : Int) < 0) := by omega
      have hz' : ¬ ((a.length : Int) < 0) := by omega
      go_wp2
      go_roundw
      case rel => exact ⟨1, a.length, by go_num, by simp, .inr (.inl ⟨rfl, rfl⟩), by simp⟩
      case measure => simp [RowKit.intOf]
    · have hz : ¬ ((a.length : Int) + (b.length : Int) < 0) := by omega
      go_wp2
      go_roundw
      case rel => exact ⟨2, a.length + b.length, by go_num, by simp, .inr (.inr ⟨rfl, rfl⟩), by simp⟩
      case measure => simp [RowKit.intOf]
    · obtain ⟨w0, rfl⟩ : ∃ w0, w0 = wr := ⟨_, rfl⟩
      have HGr := Lib.hid (grow_nil (a.length + b.length) w0 (by omega))
      have hc1 : ((a.length : Int) + (b.length : Int)) = ((a.length + b.length : Nat) : Int) := by simp
      rw [hc1] at *
      go_wp2_with (first
        | (go_at_call 45; refine HGr.out.mono ?_; rintro e w2 ⟨v2, rfl, hR2, ⟨A2, cc2, rfl⟩, hb2⟩)
        | fail)
      have HB2 := Lib.hid hb2
      have HR2 := Lib.hid hR2
      clear hR2 hb2 HGr hc1
      go_loopw [6, 27] (fun z i wx => ∃ (k : Nat) (v : Value) (l : List Nat), i = .int .i64 (k : Int) ∧ z = v ∧ ((k = 0 ∧ [] = l) ∨ (k = 1 ∧ a = l) ∨ (k = 2 ∧ a ++ b = l)) ∧ Hid (Ri wx w0.heap.size v l) ∧ (∃ A c, v = .slice A l.length c) ∧ Hid (Below w0.heap.size w0 wx)) (fun _ i _ => 2 - (RowKit.intOf i).toNat)
      case atStart => exact ⟨0, _, [], rfl, rfl, .inl ⟨rfl, rfl⟩, HR2, ⟨_, _, rfl⟩, HB2⟩
      case round =>
        obtain ⟨k, v, l, rfl, rfl, hk, HR, ⟨A3, c3, rfl⟩, HBx⟩ := hrel
        have hbs := HBx.out.size
        have d0 := (HBx.out.cell (p := ⟨g, 0, none⟩) hg).trans c0
        have d1 := (HBx.out.cell (p := ⟨g, 1, none⟩) hg).trans c1
        rcases hk with ⟨rfl, rfl⟩ | ⟨rfl, rfl⟩ | ⟨rfl, rfl⟩
        · obtain ⟨v4, w4, hr, h2, h3, h4⟩ := app_Ri 43 HR.out (HA.out.below HBx.out) (by simp; omega) hbs
          have HB4 : Hid (Below w0.heap.size w0 w4) := Lib.hid (HBx.out.grown h3 hbs (fun q e => by
            rcases HR.out.2 with ⟨h0, _⟩ | ⟨g', cap', cur, he', hb', _⟩
            · rw [h0] at e; simp [Value.ownBlock] at e
            · rw [he'] at e
              simp [Value.ownBlock] at e
              omega))
          obtain ⟨A4, c4, rfl⟩ := h2.form
          have H2 : Hid (Ri w4 w0.heap.size (.slice A4 ([] ++ a).length c4) ([] ++ a)) := Lib.hid h2
          clear h2 h3 h4
          go_wp2_with (at_builtin; refine Lib.wpList_append_run _ rfl _ _ _ _ rfl _ _ rfl rfl _ _ hr ?_)
          go_roundw
          case rel => exact ⟨1, _, [] ++ a, by go_num, rfl, .inr (.inl ⟨rfl, by simp⟩), H2, ⟨_, _, rfl⟩, HB4⟩
          case measure => simp [RowKit.intOf]
        · obtain ⟨v4, w4, hr, h2, h3, h4⟩ := app_Ri 43 HR.out (HB.out.below HBx.out) (by omega) hbs
          have HB4 : Hid (Below w0.heap.size w0 w4) := Lib.hid (HBx.out.grown h3 hbs (fun q e => by
            rcases HR.out.2 with ⟨h0, _⟩ | ⟨g', cap', cur, he', hb', _⟩
            · rw [h0] at e; simp [Value.ownBlock] at e
            · rw [he'] at e
              simp [Value.ownBlock] at e
              omega))
          obtain ⟨A4, c4, rfl⟩ := h2.form
          have H2 : Hid (Ri w4 w0.heap.size (.slice A4 (a ++ b).length c4) (a ++ b)) := Lib.hid h2
          clear h2 h3 h4
          go_wp2_with (at_builtin; refine Lib.wpList_append_run _ rfl _ _ _ _ rfl _ _ rfl rfl _ _ hr ?_)
          go_roundw
          case rel => exact ⟨2, _, a ++ b, by go_num, rfl, .inr (.inr ⟨rfl, rfl⟩), by rw [List.length_append] at H2; exact H2, ⟨A4, c4, by rw [List.length_append]⟩, HB4⟩
          case measure => simp [RowKit.intOf]
        · go_wp2
          go_ret
          exact ⟨_, rfl, HR.out, HBx.out⟩
end Go.Proofs.YtehjkgfdfihfmaaDoor
