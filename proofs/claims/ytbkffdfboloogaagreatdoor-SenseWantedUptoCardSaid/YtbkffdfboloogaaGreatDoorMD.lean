/- slices.Grow of a nil slice, slices.Concat of two slices of ints. Slices of slices of numbers, each in a block of its own. -/
import Derived.Test.YtbkffdfboloogaaGreatDoorMB
import Derived.Lib.AppendZerosOnto
import Derived.Lib.AppendZeros
import Derived.Lib.SliceRun
import Derived.Maps.AppendAt
namespace Go.Proofs.YtbkffdfboloogaaGreatDoor
open Go.RowKit Go.Maps Go.Lib
set_option linter.unusedVariables false
set_option maxRecDepth 100000

theorem info_int : (Tryz.prog.info? 3).map (fun i => (i.zero, i.size, i.bytes)) = some (some (.int .i64 0), 1, 8) := by kernel_rfl
abbrev iC (l : List Nat) : List Value := l.map fun (i : Nat) => Value.int .i64 (i : Int)
/-- v is a slice of its own, in a block from base on, of the numbers l -/
abbrev Ri (w : World) (base : Nat) (v : Value) (l : List Nat) : Prop := w.ownsRow base 3 1 v l.length (iC l)
theorem zero_cells (z : Value) (hz : z.cells.size = 1) (k : Nat) : (Builtin.zeroCells z.cells k).size = k := by
  unfold Builtin.zeroCells
  simp [hz]

set_option maxHeartbeats 2000000 in
theorem grow_nil (n : Nat) (w : World) (hn : n ≤ 1000000) : Calls Tryz.prog 131 #[.slice none 0 0, .int .i64 (n : Nat)] w fun e w' => ∃ v, e = .returned v ∧ Ri w' w.heap.size v [] ∧ (∃ A c, v = .slice A 0 c) ∧ Below w.heap.size w w' := by
  have hn0 : ¬ ((n : Int) < 0) := by omega
  by_cases h0 : n = 0
  · subst h0
    go_enter Tryz.func131, Tryz.ntmps131
    go_wp2
    go_ret
    exact ⟨_, rfl, World.ownsRow_nil _ _ _ _, ⟨none, 0, rfl⟩, Below.refl _ _⟩
  · obtain ⟨i0, hi, hz0, hz1, hz2⟩ := info_parts info_int
    have h4 : (n : Int) > 0 := by omega
    have hold : (Builtin.firstCells i0.size 0 (.slice none 0 0)).run Tryz.prog w.drew = .ok (([] : List Value)).toArray w.drew := run_firstCells_none w.drew i0.size 0 0 0
    have hrz : ∀ ty, (Builtin.append_ #[75, 3] ty #[.slice none 0 0, .int .i64 (n : Int)]).run Tryz.prog w =
        .ok (.slice (some ⟨w.heap.size, 0, none⟩) n (grownCap w n 0 3)) (w.drew.alloc (.cells (#[] ++ Builtin.zeroCells (Value.int .i64 0).cells n ++ Builtin.zeroCells (Value.int .i64 0).cells (grownCap w n 0 3 - n)) 3)) := fun ty => by
      have h := Lib.run_append_grow_zeros w 75 3 ty 3 i0 (.int .i64 0) .i64 .i64 Tryz.underlying75 Tryz.underlying3 hi hz0 none 0 0 [] hold n (by omega) (by omega) (by omega) (by omega) (by rw [hz2]; omega) (by rw [hz2]; exact growslice_fits (by omega) (by omega))
      simpa using h
    have hGn : n ≤ grownCap w n 0 3 := grownCap_ge w _ _ _
    have hGm : grownCap w n 0 3 ≤ maxLen := grownCap_le_maxLen w n 0 3 (by unfold maxLen; omega)
    generalize grownCap w n 0 3 = G at *
    have hG63 : G ≤ 9223372036854775807 := hGm
    clear hold
    go_enter Tryz.func131, Tryz.ntmps131
    go_wp2_with (at_builtin; refine Lib.wpList_append_run _ rfl _ _ _ _ rfl _ _ rfl rfl _ _ (hrz _) ?_)
    go_ret
    refine ⟨_, rfl, ⟨rfl, .inr ⟨w.heap.size, G, _, rfl, Nat.le_refl _, (MapKept.heap_alloc w.drew _).1, Nat.zero_le _, hGm, ?_, by simp⟩⟩, ⟨_, _, rfl⟩, ((Below.refl w.heap.size w).drew).alloc (Nat.le_refl _) _⟩
    have e1 := zero_cells (.int .i64 0) rfl n
    have e2 := zero_cells (.int .i64 0) rfl (G - n)
    change (Builtin.zeroCells #[Value.int .i64 0] n).size = n at e1
    change (Builtin.zeroCells #[Value.int .i64 0] (G - n)).size = G - n at e2
    simp only [Array.size_append, Array.empty_append, Value.cells]
    rw [e1, e2]
    omega

theorem World.grownBy_refl' (w : World) (v : Value) : w.grownBy w v.ownBlock := ⟨rfl, rfl, rfl, Nat.le_refl _, fun _ _ _ => rfl⟩
/-- the cells of a slice's numbers -/
theorem Ri.cells {w : World} {base : Nat} {v : Value} {l : List Nat} (h : Ri w base v l) : (v = .slice none 0 0 ∧ l = []) ∨ ∃ g cap, v = .slice (some ⟨g, 0, none⟩) l.length cap ∧ base ≤ g ∧ g < w.heap.size ∧ l.length ≤ cap ∧ (∀ i x, l[i]? = some x → w.cell? ⟨g, i, none⟩ = some (.int .i64 (x : Nat))) := by
  rcases h.2 with ⟨h1, h2⟩ | ⟨g, cap, cur, h1, h2, h3, h4, h5, h6, h7⟩
  · exact .inl ⟨h1, List.length_eq_zero_iff.1 h2⟩
  · refine .inr ⟨g, cap, h1, h2, (Array.getElem?_eq_some_iff.1 h3).1, h4, ?_⟩
    intro i x hx
    have hi := (List.getElem?_eq_some_iff.1 hx).1
    have e1 : (iC l)[i]? = some (.int .i64 (x : Nat)) := by simp [iC, hx]
    rw [← h7, List.getElem?_take, if_pos (by omega)] at e1
    have e2 : cur[i]? = some (.int .i64 (x : Nat)) := by simpa using e1
    simp [World.cell?, h3, e2]
theorem Ri.below {w w' : World} {base : Nat} {v : Value} {l : List Nat} (h : Ri w base v l) (hb : Below w.heap.size w w') : Ri w' base v l := by
  refine ⟨h.1, ?_⟩
  rcases h.2 with h0 | ⟨g, cap, cur, h1, h2, h3, h4⟩
  · exact .inl h0
  · exact .inr ⟨g, cap, cur, h1, h2, (hb.block g (Array.getElem?_eq_some_iff.1 h3).1).trans h3, h4⟩
theorem Ri.form {w : World} {base : Nat} {v : Value} {l : List Nat} (h : Ri w base v l) : ∃ A c, v = .slice A l.length c := by
  rcases h.2 with ⟨h1, h2⟩ | ⟨g, cap, cur, h1, _⟩
  · exact ⟨none, 0, by rw [h1, h2]⟩
  · exact ⟨_, _, h1⟩
theorem iC_append (a b : List Nat) : iC (a ++ b) = iC a ++ iC b := by simp [iC]

/-- appending one slice of one's own to another -/
theorem app_rows {P : Program} {w : World} {base bx : Nat} {t e : TypeId} {z : Value} {bytes : Nat} (ty : TypeId) (ht : P.underlying t = some (.slice e)) (hi : (P.info? e).map (fun i => (i.zero, i.size, i.bytes)) = some (some z, 1, bytes)) (hz : z.cells.size = 1)
    {v x : Value} {n m : Nat} {xs ys : List Value} (hv : w.ownsRow base e 1 v n xs) (hx : w.ownsRow bx e 1 x m ys) (h1 : ∀ u ∈ ys, u.oneCell' = true) (h63 : n + m ≤ 1000000000) (hby : (n + m) * bytes ≤ 140737488355328) (hbase : base ≤ w.heap.size) :
    ∃ v' w', (Builtin.append_ #[t, t] ty #[v, x]).run P w = .ok v' w' ∧ w'.ownsRow base e 1 v' (n + m) (xs ++ ys) ∧ w.grownBy w' v.ownBlock ∧ (v'.ownBlock = v.ownBlock ∨ v'.ownBlock = some w.heap.size) := by
  obtain ⟨i0, hi0, hz0, hz1, hz2⟩ := info_parts hi
  rcases hx.2 with ⟨rfl, h0⟩ | ⟨g, cap, cur, rfl, _, hg, _, _, _, htake⟩
  · have : ys = [] := List.length_eq_zero_iff.1 (by rw [hx.1, h0])
    subst this h0
    refine ⟨v, w, run_append_owned_none w base t ty e i0 1 ht hi0 v n xs hv, by simpa using hv, World.grownBy_refl' w v, .inl rfl⟩
  · obtain ⟨v', w', hr, h2, h3, _, h5⟩ := run_append_own_at (P := P) (w := w) base t ty e i0 z 1 bytes ht hi0 hz0 hz1 hz2 hz (by omega) v n xs hv ⟨g, 0, none⟩ m cap ys hx.1 (fun j u hu => by
      have hj : j < m * 1 := by rw [← hx.1]; exact (List.getElem?_eq_some_iff.1 hu).1
      rw [show (⟨g, 0, none⟩ : Addr).add j = ⟨g, j, none⟩ from by unfold Addr.add; split <;> simp_all]
      rw [hx.cellAt j hj]
      exact hu) h1 (by unfold maxLen; omega) hby hbase
    exact ⟨v', w', hr, h2, h3, h5⟩
theorem one_iC (l : List Nat) : ∀ u ∈ iC l, u.oneCell' = true := by
  intro u hu
  obtain ⟨i, _, rfl⟩ := List.mem_map.1 hu
  rfl
theorem app_Ri {w : World} {base bx : Nat} (ty : TypeId) {v x : Value} {l m : List Nat} (hv : Ri w base v l) (hx : Ri w bx x m) (h63 : l.length + m.length ≤ 1000000) (hbase : base ≤ w.heap.size) :
    ∃ v' w', (Builtin.append_ #[75, 75] ty #[v, x]).run Tryz.prog w = .ok v' w' ∧ Ri w' base v' (l ++ m) ∧ w.grownBy w' v.ownBlock ∧ (v'.ownBlock = v.ownBlock ∨ v'.ownBlock = some w.heap.size) := by
  obtain ⟨v', w', h1, h2, h3, h4⟩ := app_rows (P := Tryz.prog) (t := 75) (e := 3) ty Tryz.underlying75 info_int rfl hv hx (one_iC m) (by omega) (by omega) hbase
  exact ⟨v', w', h1, by unfold Ri; rw [List.length_append, iC_append]; exact h2, h3, h4⟩

set_option maxHeartbeats 2000000 in
/-- slices.Concat(a, b) -/
theorem concat_any (a b : List Nat) (Aa Ab : Option Addr) (ca cb g c : Nat) (w : World) (ba bb : Nat) (hA : Ri w ba (.slice Aa a.length ca) a) (hB : Ri w bb (.slice Ab b.length cb) b) (hg : g < w.heap.size) (c0 : w.cell? ⟨g, 0, none⟩ = some (.slice Aa a.length ca)) (c1 : w.cell? ⟨g, 1, none⟩ = some (.slice Ab b.length cb)) (la : a.length ≤ 100000) (lb : b.length ≤ 100000) :
    Calls Tryz.prog 100 #[.slice (some ⟨g, 0, none⟩) 2 c] w fun e w' => ∃ v, e = .returned v ∧ Ri w' w.heap.size v (a ++ b) ∧ Below w.heap.size w w' := by
  obtain ⟨i0, hi, hz0, hz1, hz2⟩ := info_parts info_int
  have HA := Lib.hid hA
  have HB := Lib.hid hB
  clear hA hB
  go_enter Tryz.func100, Tryz.ntmps100
  go_wp2_with fail
  go_loopw [3, 11] (fun z i wr => ∃ k n : Nat, i = .int .i64 (k : Int) ∧ z = .int .i64 (n : Int) ∧ ((k = 0 ∧ n = 0) ∨ (k = 1 ∧ n = a.length) ∨ (k = 2 ∧ n = a.length + b.length)) ∧ wr = w) (fun _ i _ => 2 - (RowKit.intOf i).toNat)
  case atStart => exact ⟨0, 0, rfl, rfl, .inl ⟨rfl, rfl⟩, rfl⟩
  case round =>
    obtain ⟨k, n, rfl, rfl, hk, rfl⟩ := hrel
    rcases hk with ⟨rfl, rfl⟩ | ⟨rfl, rfl⟩ | ⟨rfl, rfl⟩
    · have hz : ¬ ((0 : Int) + (a.length : Int) < 0) := by omega
      have hz' : ¬ ((a.length : Int) < 0) := by omega
      go_wp2
      go_roundw
      case rel => exact ⟨1, a.length, by go_num, by simp, .inr (.inl ⟨rfl, rfl⟩), by simp⟩
      case measure => simp [RowKit.intOf]
    · have hz : ¬ ((a.length : Int) + (b.length : Int) < 0) := by omega
      go_wp2
      go_roundw
      case rel => exact ⟨2, a.length + b.length, by go_num, by simp, .inr (.inr ⟨rfl, rfl⟩), by simp⟩
      case measure => simp [RowKit.intOf]
    · obtain ⟨w0, rfl⟩ : ∃ w0, w0 = wr := ⟨_, rfl⟩
      have HGr := Lib.hid (grow_nil (a.length + b.length) w0 (by omega))
      have hc1 : ((a.length : Int) + (b.length : Int)) = ((a.length + b.length : Nat) : Int) := by simp
      rw [hc1] at *
      go_wp2_with (first
        | (go_at_call 131; refine HGr.out.mono ?_; rintro e w2 ⟨v2, rfl, hR2, ⟨A2, cc2, rfl⟩, hb2⟩)
        | fail)
      have HB2 := Lib.hid hb2
      have HR2 := Lib.hid hR2
      clear hR2 hb2 HGr hc1
      go_loopw [6, 27] (fun z i wx => ∃ (k : Nat) (v : Value) (l : List Nat), i = .int .i64 (k : Int) ∧ z = v ∧ ((k = 0 ∧ [] = l) ∨ (k = 1 ∧ a = l) ∨ (k = 2 ∧ a ++ b = l)) ∧ Hid (Ri wx w0.heap.size v l) ∧ (∃ A c, v = .slice A l.length c) ∧ Hid (Below w0.heap.size w0 wx)) (fun _ i _ => 2 - (RowKit.intOf i).toNat)
      case atStart => exact ⟨0, _, [], rfl, rfl, .inl ⟨rfl, rfl⟩, HR2, ⟨_, _, rfl⟩, HB2⟩
      case round =>
        obtain ⟨k, v, l, rfl, rfl, hk, HR, ⟨A3, c3, rfl⟩, HBx⟩ := hrel
        have hbs := HBx.out.size
        have d0 := (HBx.out.cell (p := ⟨g, 0, none⟩) hg).trans c0
        have d1 := (HBx.out.cell (p := ⟨g, 1, none⟩) hg).trans c1
        rcases hk with ⟨rfl, rfl⟩ | ⟨rfl, rfl⟩ | ⟨rfl, rfl⟩
        · obtain ⟨v4, w4, hr, h2, h3, h4⟩ := app_Ri 75 HR.out (HA.out.below HBx.out) (by simp; omega) hbs
          have HB4 : Hid (Below w0.heap.size w0 w4) := Lib.hid (HBx.out.grown h3 hbs (fun q e => by
            rcases HR.out.2 with ⟨h0, _⟩ | ⟨g', cap', cur, he', hb', _⟩
            · rw [h0] at e; simp [Value.ownBlock] at e
            · rw [he'] at e
              simp [Value.ownBlock] at e
              omega))
          obtain ⟨A4, c4, rfl⟩ := h2.form
          have H2 : Hid (Ri w4 w0.heap.size (.slice A4 ([] ++ a).length c4) ([] ++ a)) := Lib.hid h2
          clear h2 h3 h4
          go_wp2_with (at_builtin; refine Lib.wpList_append_run _ rfl _ _ _ _ rfl _ _ rfl rfl _ _ hr ?_)
          go_roundw
          case rel => exact ⟨1, _, [] ++ a, by go_num, rfl, .inr (.inl ⟨rfl, by simp⟩), H2, ⟨_, _, rfl⟩, HB4⟩
          case measure => simp [RowKit.intOf]
        · obtain ⟨v4, w4, hr, h2, h3, h4⟩ := app_Ri 75 HR.out (HB.out.below HBx.out) (by omega) hbs
          have HB4 : Hid (Below w0.heap.size w0 w4) := Lib.hid (HBx.out.grown h3 hbs (fun q e => by
            rcases HR.out.2 with ⟨h0, _⟩ | ⟨g', cap', cur, he', hb', _⟩
            · rw [h0] at e; simp [Value.ownBlock] at e
            · rw [he'] at e
              simp [Value.ownBlock] at e
              omega))
          obtain ⟨A4, c4, rfl⟩ := h2.form
          have H2 : Hid (Ri w4 w0.heap.size (.slice A4 (a ++ b).length c4) (a ++ b)) := Lib.hid h2
          clear h2 h3 h4
          go_wp2_with (at_builtin; refine Lib.wpList_append_run _ rfl _ _ _ _ rfl _ _ rfl rfl _ _ hr ?_)
          go_roundw
          case rel => exact ⟨2, _, a ++ b, by go_num, rfl, .inr (.inr ⟨rfl, rfl⟩), by rw [List.length_append] at H2; exact H2, ⟨A4, c4, by rw [List.length_append]⟩, HB4⟩
          case measure => simp [RowKit.intOf]
        · go_wp2
          go_ret
          exact ⟨_, rfl, HR.out, HBx.out⟩
end Go.Proofs.YtbkffdfboloogaaGreatDoor
namespace Go.Proofs.YtbkffdfboloogaaGreatDoor
open Go.RowKit Go.Maps Go.Lib
set_option linter.unusedVariables false
set_option maxRecDepth 100000

theorem info_ints : (Tryz.prog.info? 75).map (fun i => (i.zero, i.size, i.bytes)) = some (some (.slice none 0 0), 1, 24) := by kernel_rfl
/-- v's elements are the slices vs, of the numbers ls, each in a block of its own, all from base on -/
structure LL (w : World) (base : Nat) (v : Value) (ls : List (List Nat)) (vs : List Value) : Prop where
  row : w.ownsRow base 75 1 v ls.length vs
  len : vs.length = ls.length
  each : ∀ (i : Nat) (u : Value) (l : List Nat), vs[i]? = some u → ls[i]? = some l → Ri w base u l
  apart : ∀ (i j : Nat) (u u' : Value), vs[i]? = some u → vs[j]? = some u' → i ≠ j → u.ownBlock = none ∨ u.ownBlock ≠ u'.ownBlock
theorem Ri.lt {w : World} {base : Nat} {v : Value} {l : List Nat} (h : Ri w base v l) {q : Nat} (hq : v.ownBlock = some q) : base ≤ q ∧ q < w.heap.size ∧ ∃ cur, w.heap[q]? = some (.cells cur 3 (0, 0)) := by
  rcases h.2 with ⟨h1, _⟩ | ⟨g, cap, cur, h1, h2, h3, _⟩
  · rw [h1] at hq; simp [Value.ownBlock] at hq
  · rw [h1] at hq
    simp [Value.ownBlock] at hq
    subst hq
    exact ⟨h2, (Array.getElem?_eq_some_iff.1 h3).1, cur, h3⟩
theorem Ri.keep {w w' : World} {base : Nat} {v : Value} {l : List Nat} (h : Ri w base v l) (hk : ∀ q, v.ownBlock = some q → w'.heap[q]? = w.heap[q]?) : Ri w' base v l := by
  refine ⟨h.1, ?_⟩
  rcases h.2 with h0 | ⟨g, cap, cur, h1, h2, h3, h4⟩
  · exact .inl h0
  · exact .inr ⟨g, cap, cur, h1, h2, (hk g (by rw [h1]; simp [Value.ownBlock])).trans h3, h4⟩
theorem Ri.base {w : World} {base base' : Nat} {v : Value} {l : List Nat} (h : Ri w base v l) (hb : base' ≤ base) : Ri w base' v l := by
  refine ⟨h.1, ?_⟩
  rcases h.2 with h0 | ⟨g, cap, cur, h1, h2, h3, h4⟩
  · exact .inl h0
  · exact .inr ⟨g, cap, cur, h1, by omega, h3, h4⟩
section
variable {w w' : World} {base : Nat} {v : Value} {ls : List (List Nat)} {vs : List Value}
theorem LL.rowlt (h : LL w base v ls vs) {q : Nat} (hq : v.ownBlock = some q) : base ≤ q ∧ q < w.heap.size ∧ ∃ cur, w.heap[q]? = some (.cells cur 75 (0, 0)) := by
  rcases h.row.2 with ⟨h1, _⟩ | ⟨g, cap, cur, h1, h2, h3, _⟩
  · rw [h1] at hq; simp [Value.ownBlock] at hq
  · rw [h1] at hq
    simp [Value.ownBlock] at hq
    subst hq
    exact ⟨h2, (Array.getElem?_eq_some_iff.1 h3).1, cur, h3⟩
/-- the row's block is no element's -/
theorem LL.row_ne (h : LL w base v ls vs) {i : Nat} {u : Value} (hu : vs[i]? = some u) {q : Nat} (hq : u.ownBlock = some q) : v.ownBlock ≠ some q := by
  intro e
  obtain ⟨_, _, c1, e1⟩ := h.rowlt e
  have hi : i < ls.length := by rw [← h.len]; exact (List.getElem?_eq_some_iff.1 hu).1
  obtain ⟨_, _, c2, e2⟩ := (h.each i u _ hu (List.getElem?_eq_getElem hi)).lt hq
  rw [e1] at e2
  simp at e2
theorem LL.keep (h : LL w base v ls vs) (hk : ∀ q, base ≤ q → q < w.heap.size → w'.heap[q]? = w.heap[q]?) : LL w' base v ls vs := by
  refine ⟨⟨h.row.1, ?_⟩, h.len, fun i u l hu hl => (h.each i u l hu hl).keep fun q hq => ?_, h.apart⟩
  · rcases h.row.2 with h0 | ⟨g, cap, cur, h1, h2, h3, h4⟩
    · exact .inl h0
    · exact .inr ⟨g, cap, cur, h1, h2, (hk g h2 (Array.getElem?_eq_some_iff.1 h3).1).trans h3, h4⟩
  · have := (h.each i u l hu hl).lt hq
    exact hk q this.1 this.2.1
theorem LL.below (h : LL w base v ls vs) (hb : Below w.heap.size w w') : LL w' base v ls vs := h.keep fun q _ hq => hb.block q hq
theorem LL.form (h : LL w base v ls vs) : ∃ A c, v = .slice A ls.length c := by
  rcases h.row.2 with ⟨h1, h2⟩ | ⟨g, cap, cur, h1, _⟩
  · exact ⟨none, 0, by rw [h1, h2]⟩
  · exact ⟨_, _, h1⟩
theorem LL.at_ (h : LL w base v ls vs) {i : Nat} (hi : i < ls.length) : ∃ g cap A c, v = .slice (some ⟨g, 0, none⟩) ls.length cap ∧ base ≤ g ∧ g < w.heap.size ∧ vs[i]? = some (.slice A ls[i].length c) ∧ w.cell? ⟨g, i, none⟩ = some (.slice A ls[i].length c) ∧ Ri w base (.slice A ls[i].length c) ls[i] := by
  have hiv : i < vs.length := by rw [h.len]; exact hi
  have hR := h.each i vs[i] ls[i] (List.getElem?_eq_getElem hiv) (List.getElem?_eq_getElem hi)
  obtain ⟨A, c, e⟩ := hR.form
  rcases h.row.2 with ⟨_, h2⟩ | ⟨g, cap, cur, h1, h2, h3, _⟩
  · omega
  · refine ⟨g, cap, A, c, h1, h2, (Array.getElem?_eq_some_iff.1 h3).1, by rw [← e]; exact List.getElem?_eq_getElem hiv, ?_, by rw [← e]; exact hR⟩
    have hrow := h.row
    rw [h1] at hrow
    rw [hrow.cellAt i (by omega), ← e]
    exact List.getElem?_eq_getElem hiv
theorem LL.nil (w : World) (base : Nat) : LL w base (.slice none 0 0) [] [] := ⟨World.ownsRow_nil _ _ _ _, rfl, by simp, by simp⟩
/-- the element i is another one now -/
theorem LL.set (h : LL w base v ls vs) {i : Nat} (hi : i < ls.length) {g cap : Nat} (hv : v = .slice (some ⟨g, 0, none⟩) ls.length cap) {w1 : World} {u u' : Value} {l' : List Nat} (hu : vs[i]? = some u)
    (hg : w.grownBy w1 u.ownBlock) (hR : Ri w1 base u' l') (hloc : u'.ownBlock = u.ownBlock ∨ u'.ownBlock = some w.heap.size) :
    LL (w1.setCell ⟨g, i, none⟩ u') base v (ls.set i l') (vs.set i u') := by
  have hiv : i < vs.length := by rw [h.len]; exact hi
  have hgo : v.ownBlock = some g := by rw [hv]; simp [Value.ownBlock]
  obtain ⟨hgb, hgl, cur, hgc⟩ := h.rowlt hgo
  have hgu : some g ≠ u.ownBlock := fun e => h.row_ne hu e.symm hgo
  have hg1 : w1.heap[g]? = some (.cells cur 75 (0, 0)) := (hg.block g hgl hgu).trans hgc
  have hother : ∀ q, q ≠ g → (w1.setCell ⟨g, i, none⟩ u').heap[q]? = w1.heap[q]? := fun q hq => Below.heap_setCell _ _ _ q hq
  refine ⟨?_, by simp [h.len], ?_, ?_⟩
  · have hrow := h.row
    rcases hrow.2 with ⟨h1, _⟩ | ⟨g', cap', cur', h1, h2, h3, h4, h5, h6, h7⟩
    · rw [h1] at hv; cases hv
    · rw [h1] at hv
      injection hv with hv1 _ hv3
      injection hv1 with hv1
      injection hv1 with hv1
      subst hv1 hv3
      rw [h3] at hgc
      injection hgc with hgc
      injection hgc with hgc
      subst hgc
      refine ⟨by simp [hrow.1], .inr ⟨g', cap', cur'.setIfInBounds i u', by simp [h1], h2, ?_, by simpa using h4, h5, by simpa using h6, ?_⟩⟩
      · obtain ⟨hlt, hk⟩ := Array.getElem?_eq_some_iff.1 hg1
        show (w1.heap.modify g' _)[g']? = _
        rw [Array.getElem?_eq_getElem (by rw [Array.size_modify]; exact hlt), Array.getElem_modify_self, hk]
        rfl
      · simp only [List.length_set, Array.toList_setIfInBounds]
        rw [List.take_set, h7]
  · intro j x l hx hl
    rw [List.getElem?_set] at hx hl
    by_cases e : i = j
    · subst e
      rw [if_pos rfl, if_pos hiv] at hx
      rw [if_pos rfl, if_pos hi] at hl
      cases hx
      cases hl
      refine hR.keep fun q hq => hother q ?_
      rintro rfl
      rcases hloc with e | e
      · rw [hq] at e; exact hgu e
      · rw [hq] at e; injection e with e; omega
    · rw [if_neg e] at hx hl
      have hRj := h.each j x l hx hl
      refine hRj.keep fun q hq => ?_
      have hq2 := hRj.lt hq
      have hqg : q ≠ g := by rintro rfl; exact h.row_ne hx hq hgo
      rw [hother q hqg]
      refine hg.block q hq2.2.1 ?_
      intro e2
      rcases h.apart i j u x hu hx e with e3 | e3
      · rw [e3] at e2; cases e2
      · exact e3 (by rw [← e2, hq])
  · intro a b x y hx hy hab
    rw [List.getElem?_set] at hx hy
    by_cases ea : i = a
    · subst ea
      rw [if_pos rfl, if_pos hiv] at hx
      cases hx
      rw [if_neg (fun e => hab e)] at hy
      rcases hloc with e | e
      · rw [e]; exact h.apart i b u y hu hy hab
      · refine .inr fun e2 => ?_
        have hb : b < ls.length := by rw [← h.len]; exact (List.getElem?_eq_some_iff.1 hy).1
        have := ((h.each b y _ hy (List.getElem?_eq_getElem hb)).lt (e2.symm.trans e)).2.1
        omega
    · rw [if_neg ea] at hx
      by_cases eb : i = b
      · subst eb
        rw [if_pos rfl, if_pos hiv] at hy
        cases hy
        rcases hloc with e | e
        · rw [e]; exact h.apart a i x u hx hu hab
        · cases hxo : x.ownBlock with
          | none => exact .inl rfl
          | some q =>
            refine .inr fun e2 => ?_
            have ha : a < ls.length := by rw [← h.len]; exact (List.getElem?_eq_some_iff.1 hx).1
            have := ((h.each a x _ hx (List.getElem?_eq_getElem ha)).lt hxo).2.1
            rw [e] at e2
            injection e2 with e2
            omega
      · rw [if_neg eb] at hy
        exact h.apart a b x y hx hy hab
end
end Go.Proofs.YtbkffdfboloogaaGreatDoor
