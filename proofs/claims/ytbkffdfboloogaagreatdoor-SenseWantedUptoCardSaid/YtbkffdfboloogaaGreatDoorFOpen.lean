/- A credit as an argument. -/
import Derived.Test.YtbkffdfboloogaaGreatDoorMC
import Derived.Test.YtbkffdfboloogaaGreatDoorMO
import Derived.ShutString
import Derived.ChangeOld
import Derived.Deep.Slices
import Derived.Deep.Fields
import Derived.ChangeSame
namespace Go.Proofs.YtbkffdfboloogaaGreatDoor
open Go.ChangeShapes Go.WideShapes Go.ChangeAt Go.RowKit Go.Deep Go.Lib
set_option linter.unusedVariables false
set_option maxRecDepth 100000

theorem wf_i64 {z : Int} (h : (Lit.int .i64 z).wf = true) : -9223372036854775808 ≤ z ∧ z ≤ 9223372036854775807 := by
  simp [Lit.wf, IntKind.min, IntKind.max, IntKind.signed, IntKind.bits] at h
  exact h
theorem hSNode : Tryz.prog.underlying 33 = some (.struct (Tryz.prog.fieldsOf 33)) := by kernel_rfl
theorem cellsNode : Tryz.prog.cellsOf 33 = 6 := by kernel_rfl
theorem oneNode : oneCellFields Tryz.prog (Tryz.prog.fieldsOf 33) = true := by kernel_rfl
theorem fieldsNode : (Tryz.prog.fieldsOf 33).map (·.type) = #[3, 3, 9, 9, 2, 31] := by kernel_rfl
theorem weights_all {H : Type} {P : Program} {e : TypeId} {l : List (DataW H)} {d : DataW H} (h : d ∈ l) {n : Nat} (hn : n ∈ d.weights P e) : n ∈ DataW.weightsAll P e l := by
  induction l with
  | nil => cases h
  | cons c l ih =>
    rw [DataW.weightsAll, List.mem_append]
    rcases List.mem_cons.1 h with rfl | h
    · exact .inl hn
    · exact .inr (ih h)
theorem node_fuel {H : Type} {enc : TypeId × Value → H} {W : World} {base : Nat} {spare : Nat → Bool} {held : Bool} (N : Nat) : ∀ fuel, fuel ≤ N → ∀ cs y, DataW.trod enc Tryz.prog W base spare held fuel 33 cs = some y → (∀ n ∈ y.1.weights Tryz.prog 33, n ≤ 140737488351232) →
    ∃ (x : Rl) (A : Option Addr) (c : Nat), cs = [.int .i64 x.k, .int .i64 x.p, .string x.f, .string x.t, .int .i64 x.n, .slice A x.l.length c] ∧ NL W W.heap.size A x.l ∧ Good x := by
  induction N with
  | zero =>
    intro fuel hf cs y h hw
    obtain ⟨ys, n', hn', _⟩ := DataW.trod_struct hSNode h
    omega
  | succ N ih =>
    intro fuel hf cs y h hw
    obtain ⟨ys, n', hn', hy, hlen, hyl, hf'⟩ := DataW.trod_struct hSNode h
    rw [cellsNode] at hlen
    have hsz : (Tryz.prog.fieldsOf 33).size = 6 := by kernel_rfl
    have field : ∀ (j : Nat), j < 6 → ∃ (f : Field) (v : Value), (Tryz.prog.fieldsOf 33)[j]? = some f ∧ cs[j]? = some v ∧ ∃ y, ys[j]? = some y ∧ DataW.trod enc Tryz.prog W base spare held n' f.type [v] = some y := by
      intro j hj
      have hjf : (Tryz.prog.fieldsOf 33)[j]? = some ((Tryz.prog.fieldsOf 33)[j]'(by rw [hsz]; exact hj)) := Array.getElem?_eq_getElem (by rw [hsz]; exact hj)
      obtain ⟨ho, hk⟩ := hone_of oneNode j _ hjf
      have h1 := hf' j _ hjf
      rw [ho, hk] at h1
      have hone' : (cs.drop j).take 1 = [cs[j]'(by omega)] := by
        rw [List.drop_eq_getElem_cons (by omega)]
        rfl
      rw [hone'] at h1
      exact ⟨_, cs[j]'(by omega), hjf, List.getElem?_eq_getElem (by omega), ys[j]'(by omega), List.getElem?_eq_getElem (by omega), h1.trans (List.getElem?_eq_getElem (by omega))⟩
    have ty : ∀ (j : Nat) (f : Field), (Tryz.prog.fieldsOf 33)[j]? = some f → (#[3, 3, 9, 9, 2, 31] : Array TypeId)[j]? = some f.type := by
      intro j f hj
      rw [← fieldsNode, Array.getElem?_map, hj]
      rfl
    obtain ⟨f0, v0, e0, c0, y0, g0, t0⟩ := field 0 (by omega)
    obtain ⟨f1, v1, e1, c1, y1, g1, t1⟩ := field 1 (by omega)
    obtain ⟨f2, v2, e2, c2, y2, g2, t2⟩ := field 2 (by omega)
    obtain ⟨f3, v3, e3, c3, y3, g3, t3⟩ := field 3 (by omega)
    obtain ⟨f4, v4, e4, c4, y4, g4, t4⟩ := field 4 (by omega)
    obtain ⟨f5, v5, e5, c5, y5, g5, t5⟩ := field 5 (by omega)
    rw [show f0.type = 3 from (Option.some.inj (ty 0 f0 e0)).symm] at t0
    rw [show f1.type = 3 from (Option.some.inj (ty 1 f1 e1)).symm] at t1
    rw [show f2.type = 9 from (Option.some.inj (ty 2 f2 e2)).symm] at t2
    rw [show f3.type = 9 from (Option.some.inj (ty 3 f3 e3)).symm] at t3
    rw [show f4.type = 2 from (Option.some.inj (ty 4 f4 e4)).symm] at t4
    rw [show f5.type = 31 from (Option.some.inj (ty 5 f5 e5)).symm] at t5
    obtain ⟨z0, w0, _, _⟩ := DataW.trod_int Tryz.underlying3 t0
    obtain ⟨z1, w1, _, _⟩ := DataW.trod_int Tryz.underlying3 t1
    obtain ⟨z2, w2, x2, _⟩ := DataW.trod_string Tryz.underlying9 t2
    obtain ⟨z3, w3, x3, _⟩ := DataW.trod_string Tryz.underlying9 t3
    obtain ⟨z4, w4, _, s4⟩ := DataW.trod_int Tryz.underlying2 t4
    simp only [List.cons.injEq, and_true] at w0 w1 w2 w3 w4
    subst w0 w1 w2 w3 w4
    obtain ⟨b0, b1⟩ := wf_i64 s4
    have part : ∀ (j : Nat) (t : TypeId) (z : DataW H × List MemPlace), (#[3, 3, 9, 9, 2, 31] : Array TypeId)[j]? = some t → ys[j]? = some z → ∀ n ∈ z.1.weights Tryz.prog t, n ≤ 140737488351232 := by
      intro j t z htj hzj n hn
      refine hw n ?_
      rw [hy]
      simp only [DataW.weights, hSNode]
      refine DataW.weights_mem_each (j := j) (t := t) ?_ (d := z.1) ?_ n hn
      · rw [← Array.toList_map, fieldsNode, ← htj, ← Array.getElem?_toList]
      · rw [List.getElem?_map, hzj]
        rfl
    have hz2 : z2.size ≤ 140737488351232 := by
      have := part 2 9 y2 rfl g2 z2.data.toList.length (by rw [x2]; simp [DataW.weights])
      simpa using this
    have hz3 : z3.size ≤ 140737488351232 := by
      have := part 3 9 y3 rfl g3 z3.data.toList.length (by rw [x3]; simp [DataW.weights])
      simpa using this
    have hp5 := part 5 31 y5 rfl g5
    have hcs : cs = [.int .i64 z0, .int .i64 z1, .string z2, .string z3, .int .i64 z4, v5] := by
      apply List.ext_getElem?
      intro i
      match i with
      | 0 => exact c0
      | 1 => exact c1
      | 2 => exact c2
      | 3 => exact c3
      | 4 => exact c4
      | 5 => exact c5
      | i + 6 => rw [List.getElem?_eq_none (by omega), List.getElem?_eq_none (by simp)]
    rcases DataW.trod_slice Tryz.underlying31 t5 with ⟨hv, _⟩ | ⟨a, len, cap, elems, rest, n2, hn2, hv, x5, _, _, _, hel, hi, _, _⟩
    · simp only [List.cons.injEq, and_true] at hv
      subst hv
      exact ⟨⟨z0, z1, z2, z3, z4, []⟩, none, 0, hcs, NL.nil _ _ _, ⟨_, b0, b1, hz2, hz3, fun y hy => by cases hy⟩⟩
    · simp only [List.cons.injEq, and_true] at hv
      subst hv
      rw [cellsNode] at hi
      have each : ∀ i, i < len → ∃ z : Rl × Option Addr × Nat, (∀ j, j < 6 → W.cell? ((a.add (i * 6)).add j) = [Value.int .i64 z.1.k, .int .i64 z.1.p, .string z.1.f, .string z.1.t, .int .i64 z.1.n, .slice z.2.1 z.1.l.length z.2.2][j]?) ∧ NL W W.heap.size z.2.1 z.1.l ∧ Good z.1 := by
        intro i hil
        have h1 := hi i hil
        rw [List.getElem?_eq_getElem (by omega)] at h1
        obtain ⟨cs', hc, ht'⟩ := Option.bind_eq_some_iff.1 h1
        obtain ⟨x, A, c, rfl, hN, hg⟩ := ih n2 (by omega) cs' _ ht' (fun n hn => hp5 n (by
          rw [x5]
          simp only [DataW.weights, Tryz.underlying31]
          exact List.mem_cons_of_mem _ (List.mem_append_left _ (weights_all (List.mem_map.2 ⟨elems[i]'(by omega), List.getElem_mem _, rfl⟩) hn))))
        obtain ⟨_, hcl, hat⟩ := World.cells?_some hc
        exact ⟨⟨x, A, c⟩, fun j hj => hat j hj, hN, hg⟩
      let f : Nat → Rl × Option Addr × Nat := fun i => if h : i < len then Classical.choose (each i h) else (⟨0, 0, ⟨#[]⟩, ⟨#[]⟩, 0, []⟩, none, 0)
      have hfx : ∀ i, i < len → (∀ j, j < 6 → W.cell? ((a.add (i * 6)).add j) = [Value.int .i64 (f i).1.k, .int .i64 (f i).1.p, .string (f i).1.f, .string (f i).1.t, .int .i64 (f i).1.n, .slice (f i).2.1 (f i).1.l.length (f i).2.2][j]?) ∧ NL W W.heap.size (f i).2.1 (f i).1.l ∧ Good (f i).1 := by
        intro i hil
        simp only [f, hil, dif_pos]
        exact Classical.choose_spec (each i hil)
      have hat : ∀ i y, ((List.range len).map fun i => (f i).1)[i]? = some y → i < len ∧ (f i).1 = y := by
        intro i y hy
        have hil : i < len := by have := (List.getElem?_eq_some_iff.1 hy).1; simpa using this
        rw [List.getElem?_map, List.getElem?_range hil] at hy
        exact ⟨hil, by simpa using hy⟩
      refine ⟨⟨z0, z1, z2, z3, z4, (List.range len).map fun i => (f i).1⟩, some a, cap, by rw [hcs]; simp [Rl.k, Rl.p, Rl.f, Rl.t, Rl.n, Rl.l], ⟨_, _, fun i => (f i).2.1, fun i => (f i).2.2, fun h0 => ?_, fun i y hy => ?_⟩, ⟨_, b0, b1, hz2, hz3, fun y hy => ?_⟩⟩
      · have hl0 : 0 < len := by simpa [Rl.l] using h0
        obtain ⟨b, off, spot⟩ := a
        have c00 := (hfx 0 hl0).1 0 (by omega)
        have hspot : spot = none := by
          have := World.cell?_spot c00
          simpa [Addr.add] using this
        subst hspot
        have hblk : b < W.heap.size := by
          have := World.block_lt_of_cell? W _ c00
          simpa [Addr.add] using this
        refine ⟨b, off, rfl, hblk, fun i y hy => ?_⟩
        obtain ⟨hil, hyx⟩ := hat i y hy
        obtain ⟨hcells, _, _⟩ := hfx i hil
        rw [hyx] at hcells
        have key : ∀ j, j < 6 → W.cell? ⟨b, off + i * 6 + j, none⟩ = [Value.int .i64 y.k, .int .i64 y.p, .string y.f, .string y.t, .int .i64 y.n, .slice (f i).2.1 y.l.length (f i).2.2][j]? := fun j hj => by
          have := hcells j hj
          rw [Go.Deep.add_add, Lib.add_plain] at this
          rw [Nat.add_assoc]
          exact this
        exact ⟨key 0 (by omega), key 1 (by omega), key 2 (by omega), key 3 (by omega), key 4 (by omega), key 5 (by omega)⟩
      · obtain ⟨hil, hyx⟩ := hat i y hy
        have := (hfx i hil).2.1
        rw [hyx] at this
        exact this
      · obtain ⟨i, hil, rfl⟩ := List.mem_map.1 hy
        exact (hfx i (List.mem_range.1 hil)).2.2
theorem part_of {H : Type} {P : Program} {t : TypeId} {fs : Array Field} (hS : P.underlying t = some (.struct fs)) {ys : List (DataW H × List MemPlace)} {j : Nat} {f : Field} (hf : fs[j]? = some f) {z : DataW H × List MemPlace} (hz : ys[j]? = some z) {n : Nat} (hn : n ∈ z.1.weights P f.type) : n ∈ (DataW.agg (ys.map (·.1))).weights P t := by
  simp only [DataW.weights, hS]
  refine DataW.weights_mem_each (j := j) (t := f.type) ?_ (d := z.1) ?_ n hn
  · rw [List.getElem?_map, Array.getElem?_toList, hf]
    rfl
  · rw [List.getElem?_map, hz]
    rfl
theorem fld {fs : Array Field} {L : Array (TypeId × Nat)} (h : fs.map (fun f => (f.type, f.offset)) = L) {j : Nat} {ty : TypeId} {off : Nat} (hj : L[j]? = some (ty, off)) : ∃ f, fs[j]? = some f ∧ f.type = ty ∧ f.offset = off := by
  rw [← h, Array.getElem?_map] at hj
  obtain ⟨f, hf, e⟩ := Option.map_eq_some_iff.1 hj
  injection e with e1 e2
  exact ⟨f, hf, e1, e2⟩
theorem one_atO {cs : List Value} {off : Nat} (h : off < cs.length) : (cs.drop off).take 1 = [cs[off]] := by
  rw [List.drop_eq_getElem_cons h]
  rfl
theorem cellsIntO : Tryz.prog.cellsOf 3 = 1 := by kernel_rfl
theorem cellsI64O : Tryz.prog.cellsOf 2 = 1 := by kernel_rfl
theorem cellsStrO : Tryz.prog.cellsOf 9 = 1 := by kernel_rfl
theorem cellsBoolO : Tryz.prog.cellsOf 4 = 1 := by kernel_rfl
theorem cellsNeedsO : Tryz.prog.cellsOf 24 = 1 := by kernel_rfl
theorem hSNeed : Tryz.prog.underlying 35 = some (.struct (Tryz.prog.fieldsOf 35)) := by kernel_rfl
theorem cellsNeed : Tryz.prog.cellsOf 35 = 8 := by kernel_rfl
theorem layNeed : (Tryz.prog.fieldsOf 35).map (fun f => (f.type, f.offset)) = #[(3, 0), (3, 1), (33, 2)] := by kernel_rfl
theorem hSMoney : Tryz.prog.underlying 23 = some (.struct (Tryz.prog.fieldsOf 23)) := by kernel_rfl
theorem cellsMoney : Tryz.prog.cellsOf 23 = 2 := by kernel_rfl
theorem layMoney : (Tryz.prog.fieldsOf 23).map (fun f => (f.type, f.offset)) = #[(9, 0), (2, 1)] := by kernel_rfl
theorem hSCredit : Tryz.prog.underlying 26 = some (.struct (Tryz.prog.fieldsOf 26)) := by kernel_rfl
theorem cellsCredit : Tryz.prog.cellsOf 26 = 18 := by kernel_rfl
theorem layCredit : (Tryz.prog.fieldsOf 26).map (fun f => (f.type, f.offset)) = #[(9, 0), (9, 1), (9, 2), (9, 3), (9, 4), (9, 5), (9, 6), (23, 7), (3, 9), (3, 10), (3, 11), (3, 12), (3, 13), (3, 14), (4, 15), (4, 16), (24, 17)] := by kernel_rfl
section
variable {H : Type} {enc : TypeId × Value → H} {W : World} {base : Nat} {spare : Nat → Bool} {held : Bool} {fuel : Nat} {cs : List Value} {y : DataW H × List MemPlace}
/-- a field of one cell -/
theorem cell_fld {ty : TypeId} {n off : Nat} {z : Option (DataW H × List MemPlace)} (hc : Tryz.prog.cellsOf ty = 1) (ho : off < cs.length) (h : DataW.trod enc Tryz.prog W base spare held n ty ((cs.drop off).take (Tryz.prog.cellsOf ty)) = z) : DataW.trod enc Tryz.prog W base spare held n ty [cs[off]] = z := by
  rw [hc, one_atO ho] at h
  exact h
theorem need_one (h : DataW.trod enc Tryz.prog W base spare held fuel 35 cs = some y) (hw : ∀ n ∈ y.1.weights Tryz.prog 35, n ≤ 140737488351232) :
    ∃ (x : Nd) (A : Option Addr) (c : Nat), cs = (ndA x A c).toList ∧ NL W W.heap.size A x.r.l ∧ Good x.r ∧ -9223372036854775808 ≤ x.k ∧ x.k ≤ 9223372036854775807 := by
  obtain ⟨ys, n', hn', hy, hlen, hyl, hf'⟩ := DataW.trod_struct hSNeed h
  rw [cellsNeed] at hlen
  have hsz : (Tryz.prog.fieldsOf 35).size = 3 := by kernel_rfl
  rw [hsz] at hyl
  obtain ⟨f0, e0, t0, o0⟩ := fld layNeed (j := 0) rfl
  obtain ⟨f1, e1, t1, o1⟩ := fld layNeed (j := 1) rfl
  obtain ⟨f2, e2, t2, o2⟩ := fld layNeed (j := 2) rfl
  have g0 := hf' 0 f0 e0
  have g1 := hf' 1 f1 e1
  have g2 := hf' 2 f2 e2
  rw [t0, o0] at g0
  rw [t1, o1] at g1
  rw [t2, o2, cellsNode] at g2
  have hp2 : ∀ n ∈ (ys[2]'(by omega)).1.weights Tryz.prog f2.type, n ≤ 140737488351232 := fun n hn => hw n (by rw [hy]; exact part_of hSNeed e2 (List.getElem?_eq_getElem (by omega)) hn)
  rw [t2] at hp2
  obtain ⟨z0, w0, _, s0⟩ := DataW.trod_int Tryz.underlying3 ((cell_fld cellsIntO (by omega) g0).trans (List.getElem?_eq_getElem (by omega)))
  obtain ⟨z1, w1, _, _⟩ := DataW.trod_int Tryz.underlying3 ((cell_fld cellsIntO (by omega) g1).trans (List.getElem?_eq_getElem (by omega)))
  obtain ⟨r, A, c, hr, hN, hg⟩ := node_fuel n' n' (Nat.le_refl _) _ _ (g2.trans (List.getElem?_eq_getElem (by omega))) hp2
  simp only [List.cons.injEq, and_true] at w0 w1
  obtain ⟨b0, b1⟩ := wf_i64 s0
  refine ⟨⟨z0, z1, r⟩, A, c, ?_, hN, hg, b0, b1⟩
  have e : cs = [cs[0]'(by omega)] ++ ([cs[1]'(by omega)] ++ (cs.drop 2).take 6) := by
    have h6 : (cs.drop 2).take 6 = cs.drop 2 := List.take_of_length_le (by rw [List.length_drop]; omega)
    rw [h6]
    have d0 := List.drop_eq_getElem_cons (i := 0) (l := cs) (by omega)
    have d1 := List.drop_eq_getElem_cons (i := 1) (l := cs) (by omega)
    rw [List.drop_zero] at d0
    rw [List.singleton_append, List.singleton_append, ← d1]
    exact d0
  rw [e, w0, w1, hr]
  rfl
/-- what a credit's argument is -/
structure GoodC (c : Cr) : Prop where
  str : ∀ s ∈ [c.num, c.app, c.ben, c.iss, c.con, c.frm, c.dst, c.cur], s.size ≤ 140737488351232
  need : ∀ x ∈ c.needs, Good x.r ∧ -9223372036854775808 ≤ x.k ∧ x.k ≤ 9223372036854775807
  few : c.needs.length ≤ maxLen
theorem credit_one (h : DataW.trod enc Tryz.prog W base spare held fuel 26 cs = some y) (hw : ∀ n ∈ y.1.weights Tryz.prog 26, n ≤ 140737488351232) :
    ∃ (x : Cr) (A : Option Addr) (c : Nat), cs = (crA x A c).toList ∧ Ns W W.heap.size A x.needs ∧ GoodC x ∧ (A = none → c = 0) := by
  obtain ⟨ys, n', hn', hy, hlen, hyl, hf'⟩ := DataW.trod_struct hSCredit h
  rw [cellsCredit] at hlen
  have hsz : (Tryz.prog.fieldsOf 26).size = 17 := by kernel_rfl
  rw [hsz] at hyl
  have part : ∀ (j : Nat) (hj : j < ys.length) (f : Field), (Tryz.prog.fieldsOf 26)[j]? = some f → ∀ n ∈ (ys[j]'hj).1.weights Tryz.prog f.type, n ≤ 140737488351232 := fun j hj f hf n hn => hw n (by rw [hy]; exact part_of hSCredit hf (List.getElem?_eq_getElem hj) hn)
  obtain ⟨f0, e0, t0, o0⟩ := fld layCredit (j := 0) rfl
  have g0 := hf' 0 f0 e0
  rw [t0, o0] at g0
  obtain ⟨f1, e1, t1, o1⟩ := fld layCredit (j := 1) rfl
  have g1 := hf' 1 f1 e1
  rw [t1, o1] at g1
  obtain ⟨f2, e2, t2, o2⟩ := fld layCredit (j := 2) rfl
  have g2 := hf' 2 f2 e2
  rw [t2, o2] at g2
  obtain ⟨f3, e3, t3, o3⟩ := fld layCredit (j := 3) rfl
  have g3 := hf' 3 f3 e3
  rw [t3, o3] at g3
  obtain ⟨f4, e4, t4, o4⟩ := fld layCredit (j := 4) rfl
  have g4 := hf' 4 f4 e4
  rw [t4, o4] at g4
  obtain ⟨f5, e5, t5, o5⟩ := fld layCredit (j := 5) rfl
  have g5 := hf' 5 f5 e5
  rw [t5, o5] at g5
  obtain ⟨f6, e6, t6, o6⟩ := fld layCredit (j := 6) rfl
  have g6 := hf' 6 f6 e6
  rw [t6, o6] at g6
  obtain ⟨f7, e7, t7, o7⟩ := fld layCredit (j := 7) rfl
  have g7 := hf' 7 f7 e7
  rw [t7, o7] at g7
  obtain ⟨f8, e8, t8, o8⟩ := fld layCredit (j := 8) rfl
  have g8 := hf' 8 f8 e8
  rw [t8, o8] at g8
  obtain ⟨f9, e9, t9, o9⟩ := fld layCredit (j := 9) rfl
  have g9 := hf' 9 f9 e9
  rw [t9, o9] at g9
  obtain ⟨f10, e10, t10, o10⟩ := fld layCredit (j := 10) rfl
  have g10 := hf' 10 f10 e10
  rw [t10, o10] at g10
  obtain ⟨f11, e11, t11, o11⟩ := fld layCredit (j := 11) rfl
  have g11 := hf' 11 f11 e11
  rw [t11, o11] at g11
  obtain ⟨f12, e12, t12, o12⟩ := fld layCredit (j := 12) rfl
  have g12 := hf' 12 f12 e12
  rw [t12, o12] at g12
  obtain ⟨f13, e13, t13, o13⟩ := fld layCredit (j := 13) rfl
  have g13 := hf' 13 f13 e13
  rw [t13, o13] at g13
  obtain ⟨f14, e14, t14, o14⟩ := fld layCredit (j := 14) rfl
  have g14 := hf' 14 f14 e14
  rw [t14, o14] at g14
  obtain ⟨f15, e15, t15, o15⟩ := fld layCredit (j := 15) rfl
  have g15 := hf' 15 f15 e15
  rw [t15, o15] at g15
  obtain ⟨f16, e16, t16, o16⟩ := fld layCredit (j := 16) rfl
  have g16 := hf' 16 f16 e16
  rw [t16, o16] at g16
  obtain ⟨z0, w0, x0, _⟩ := DataW.trod_string Tryz.underlying9 ((cell_fld cellsStrO (by omega) g0).trans (List.getElem?_eq_getElem (by omega)))
  have s0 : z0.size ≤ 140737488351232 := by
    have := part 0 (by omega) f0 e0 z0.data.toList.length (by rw [x0, t0]; simp [DataW.weights])
    simpa using this
  obtain ⟨z1, w1, x1, _⟩ := DataW.trod_string Tryz.underlying9 ((cell_fld cellsStrO (by omega) g1).trans (List.getElem?_eq_getElem (by omega)))
  have s1 : z1.size ≤ 140737488351232 := by
    have := part 1 (by omega) f1 e1 z1.data.toList.length (by rw [x1, t1]; simp [DataW.weights])
    simpa using this
  obtain ⟨z2, w2, x2, _⟩ := DataW.trod_string Tryz.underlying9 ((cell_fld cellsStrO (by omega) g2).trans (List.getElem?_eq_getElem (by omega)))
  have s2 : z2.size ≤ 140737488351232 := by
    have := part 2 (by omega) f2 e2 z2.data.toList.length (by rw [x2, t2]; simp [DataW.weights])
    simpa using this
  obtain ⟨z3, w3, x3, _⟩ := DataW.trod_string Tryz.underlying9 ((cell_fld cellsStrO (by omega) g3).trans (List.getElem?_eq_getElem (by omega)))
  have s3 : z3.size ≤ 140737488351232 := by
    have := part 3 (by omega) f3 e3 z3.data.toList.length (by rw [x3, t3]; simp [DataW.weights])
    simpa using this
  obtain ⟨z4, w4, x4, _⟩ := DataW.trod_string Tryz.underlying9 ((cell_fld cellsStrO (by omega) g4).trans (List.getElem?_eq_getElem (by omega)))
  have s4 : z4.size ≤ 140737488351232 := by
    have := part 4 (by omega) f4 e4 z4.data.toList.length (by rw [x4, t4]; simp [DataW.weights])
    simpa using this
  obtain ⟨z5, w5, x5, _⟩ := DataW.trod_string Tryz.underlying9 ((cell_fld cellsStrO (by omega) g5).trans (List.getElem?_eq_getElem (by omega)))
  have s5 : z5.size ≤ 140737488351232 := by
    have := part 5 (by omega) f5 e5 z5.data.toList.length (by rw [x5, t5]; simp [DataW.weights])
    simpa using this
  obtain ⟨z6, w6, x6, _⟩ := DataW.trod_string Tryz.underlying9 ((cell_fld cellsStrO (by omega) g6).trans (List.getElem?_eq_getElem (by omega)))
  have s6 : z6.size ≤ 140737488351232 := by
    have := part 6 (by omega) f6 e6 z6.data.toList.length (by rw [x6, t6]; simp [DataW.weights])
    simpa using this
  rw [cellsMoney] at g7
  obtain ⟨ms, n7, hn7, hm, hml, hmyl, hmf⟩ := DataW.trod_struct hSMoney (g7.trans (List.getElem?_eq_getElem (by omega)))
  rw [cellsMoney] at hml
  have hmsz : (Tryz.prog.fieldsOf 23).size = 2 := by kernel_rfl
  rw [hmsz] at hmyl
  obtain ⟨m0, me0, mt0, mo0⟩ := fld layMoney (j := 0) rfl
  obtain ⟨m1, me1, mt1, mo1⟩ := fld layMoney (j := 1) rfl
  have mg0 := hmf 0 m0 me0
  have mg1 := hmf 1 m1 me1
  rw [mt0, mo0] at mg0
  rw [mt1, mo1] at mg1
  obtain ⟨z7, w7, x7, _⟩ := DataW.trod_string Tryz.underlying9 ((cell_fld cellsStrO (by omega) mg0).trans (List.getElem?_eq_getElem (by omega)))
  obtain ⟨z8, w8, _, _⟩ := DataW.trod_int Tryz.underlying2 ((cell_fld cellsI64O (by omega) mg1).trans (List.getElem?_eq_getElem (by omega)))
  have s7 : z7.size ≤ 140737488351232 := by
    have h7 := part 7 (by omega) f7 e7
    rw [t7] at h7
    have := h7 z7.data.toList.length (by
      rw [hm]
      refine part_of hSMoney me0 (List.getElem?_eq_getElem (by omega)) ?_
      rw [x7, mt0]; simp [DataW.weights])
    simpa using this
  obtain ⟨z9, w9, _, _⟩ := DataW.trod_int Tryz.underlying3 ((cell_fld cellsIntO (by omega) g8).trans (List.getElem?_eq_getElem (by omega)))
  obtain ⟨z10, w10, _, _⟩ := DataW.trod_int Tryz.underlying3 ((cell_fld cellsIntO (by omega) g9).trans (List.getElem?_eq_getElem (by omega)))
  obtain ⟨z11, w11, _, _⟩ := DataW.trod_int Tryz.underlying3 ((cell_fld cellsIntO (by omega) g10).trans (List.getElem?_eq_getElem (by omega)))
  obtain ⟨z12, w12, _, _⟩ := DataW.trod_int Tryz.underlying3 ((cell_fld cellsIntO (by omega) g11).trans (List.getElem?_eq_getElem (by omega)))
  obtain ⟨z13, w13, _, _⟩ := DataW.trod_int Tryz.underlying3 ((cell_fld cellsIntO (by omega) g12).trans (List.getElem?_eq_getElem (by omega)))
  obtain ⟨z14, w14, _, _⟩ := DataW.trod_int Tryz.underlying3 ((cell_fld cellsIntO (by omega) g13).trans (List.getElem?_eq_getElem (by omega)))
  obtain ⟨z15, w15, _⟩ := DataW.trod_bool Tryz.underlying4 ((cell_fld cellsBoolO (by omega) g14).trans (List.getElem?_eq_getElem (by omega)))
  obtain ⟨z16, w16, _⟩ := DataW.trod_bool Tryz.underlying4 ((cell_fld cellsBoolO (by omega) g15).trans (List.getElem?_eq_getElem (by omega)))
  have h17 := (cell_fld cellsNeedsO (by omega) g16).trans (List.getElem?_eq_getElem (by omega))
  have hp := part 16 (by omega) f16 e16
  rw [t16] at hp
  have hN : ∃ (A : Option Addr) (c : Nat) (l : List Nd), cs[17]'(by omega) = .slice A l.length c ∧ Ns W W.heap.size A l ∧ l.length ≤ maxLen ∧ (A = none → c = 0) ∧ ∀ x ∈ l, Good x.r ∧ -9223372036854775808 ≤ x.k ∧ x.k ≤ 9223372036854775807 := by
    rcases DataW.trod_slice Tryz.underlying24 h17 with ⟨hv, _⟩ | ⟨a, len, cap, elems, rest, n2, hn2, hv, x5, _, hlc, hcm, hel, hi, _, _⟩
    · simp only [List.cons.injEq, and_true] at hv
      exact ⟨none, 0, [], hv, fun h => absurd h (by decide), by simp, fun _ => rfl, fun x hx => by cases hx⟩
    · simp only [List.cons.injEq, and_true] at hv
      rw [cellsNeed] at hi
      have each : ∀ i, i < len → ∃ z : Nd × Option Addr × Nat, (∀ j, j < 8 → W.cell? ((a.add (i * 8)).add j) = (ndA z.1 z.2.1 z.2.2).toList[j]?) ∧ NL W W.heap.size z.2.1 z.1.r.l ∧ Good z.1.r ∧ -9223372036854775808 ≤ z.1.k ∧ z.1.k ≤ 9223372036854775807 := by
        intro i hil
        have h1 := hi i hil
        rw [List.getElem?_eq_getElem (by omega)] at h1
        obtain ⟨cs', hc, ht'⟩ := Option.bind_eq_some_iff.1 h1
        obtain ⟨x, A, c, rfl, hN, hg⟩ := need_one ht' (fun n hn => hp n (by
          rw [x5]
          simp only [DataW.weights, Tryz.underlying24]
          exact List.mem_cons_of_mem _ (List.mem_append_left _ (weights_all (List.mem_map.2 ⟨elems[i]'(by omega), List.getElem_mem _, rfl⟩) hn))))
        obtain ⟨_, hcl, hat⟩ := World.cells?_some hc
        exact ⟨⟨x, A, c⟩, fun j hj => hat j hj, hN, hg⟩
      let f : Nat → Nd × Option Addr × Nat := fun i => if h : i < len then Classical.choose (each i h) else (⟨0, 0, ⟨0, 0, ⟨#[]⟩, ⟨#[]⟩, 0, []⟩⟩, none, 0)
      have hfx : ∀ i, i < len → (∀ j, j < 8 → W.cell? ((a.add (i * 8)).add j) = (ndA (f i).1 (f i).2.1 (f i).2.2).toList[j]?) ∧ NL W W.heap.size (f i).2.1 (f i).1.r.l ∧ Good (f i).1.r ∧ -9223372036854775808 ≤ (f i).1.k ∧ (f i).1.k ≤ 9223372036854775807 := by
        intro i hil
        simp only [f, hil, dif_pos]
        exact Classical.choose_spec (each i hil)
      have hat : ∀ i y, ((List.range len).map fun i => (f i).1)[i]? = some y → i < len ∧ (f i).1 = y := by
        intro i y hy
        have hil : i < len := by have := (List.getElem?_eq_some_iff.1 hy).1; simpa using this
        rw [List.getElem?_map, List.getElem?_range hil] at hy
        exact ⟨hil, by simpa using hy⟩
      refine ⟨some a, cap, (List.range len).map fun i => (f i).1, by rw [hv]; simp, fun h0 => ?_, ?_, fun h => (by cases h), fun y hy => ?_⟩
      · have hl0 : 0 < len := by simpa using h0
        obtain ⟨b, off, spot⟩ := a
        have c00 := (hfx 0 hl0).1 0 (by omega)
        have hspot : spot = none := by
          have := World.cell?_spot c00
          simpa [Addr.add] using this
        subst hspot
        have hblk : b < W.heap.size := by
          have := World.block_lt_of_cell? W _ c00
          simpa [Addr.add] using this
        refine ⟨b, off, rfl, hblk, fun i y hy => ?_⟩
        obtain ⟨hil, hyx⟩ := hat i y hy
        obtain ⟨hcells, hnl, _⟩ := hfx i hil
        rw [hyx] at hcells hnl
        have key : ∀ j, j < 8 → W.cell? ⟨b, off + i * 8 + j, none⟩ = (ndA y (f i).2.1 (f i).2.2).toList[j]? := fun j hj => by
          have := hcells j hj
          rw [Go.Deep.add_add, Lib.add_plain] at this
          rw [Nat.add_assoc]
          exact this
        exact ⟨_, _, ⟨key 0 (by omega), key 1 (by omega), key 2 (by omega), key 3 (by omega), key 4 (by omega), key 5 (by omega), key 6 (by omega), key 7 (by omega)⟩, hnl⟩
      · rw [List.length_map, List.length_range]
        exact Nat.le_trans hlc hcm
      · obtain ⟨i, hil, rfl⟩ := List.mem_map.1 hy
        exact (hfx i (List.mem_range.1 hil)).2.2
  obtain ⟨A, c, l, h17e, hNs, hFw, hAc, hGd⟩ := hN
  simp only [List.cons.injEq, and_true] at w0 w1 w2 w3 w4 w5 w6 w7 w8 w9 w10 w11 w12 w13 w14 w15 w16
  refine ⟨⟨z0, z1, z2, z3, z4, z5, z6, z7, z8, z9, z10, z11, z12, z13, z14, z15, z16, l⟩, A, c, ?_, hNs, ⟨fun s hs => ?_, hGd, hFw⟩, hAc⟩
  · rw [List.getElem_take, List.getElem_drop] at w7 w8
    apply List.ext_getElem?
    intro i
    match i with
    | 0 => exact (List.getElem?_eq_getElem (by omega)).trans (congrArg some w0)
    | 1 => exact (List.getElem?_eq_getElem (by omega)).trans (congrArg some w1)
    | 2 => exact (List.getElem?_eq_getElem (by omega)).trans (congrArg some w2)
    | 3 => exact (List.getElem?_eq_getElem (by omega)).trans (congrArg some w3)
    | 4 => exact (List.getElem?_eq_getElem (by omega)).trans (congrArg some w4)
    | 5 => exact (List.getElem?_eq_getElem (by omega)).trans (congrArg some w5)
    | 6 => exact (List.getElem?_eq_getElem (by omega)).trans (congrArg some w6)
    | 7 => exact (List.getElem?_eq_getElem (by omega)).trans (congrArg some w7)
    | 8 => exact (List.getElem?_eq_getElem (by omega)).trans (congrArg some w8)
    | 9 => exact (List.getElem?_eq_getElem (by omega)).trans (congrArg some w9)
    | 10 => exact (List.getElem?_eq_getElem (by omega)).trans (congrArg some w10)
    | 11 => exact (List.getElem?_eq_getElem (by omega)).trans (congrArg some w11)
    | 12 => exact (List.getElem?_eq_getElem (by omega)).trans (congrArg some w12)
    | 13 => exact (List.getElem?_eq_getElem (by omega)).trans (congrArg some w13)
    | 14 => exact (List.getElem?_eq_getElem (by omega)).trans (congrArg some w14)
    | 15 => exact (List.getElem?_eq_getElem (by omega)).trans (congrArg some w15)
    | 16 => exact (List.getElem?_eq_getElem (by omega)).trans (congrArg some w16)
    | 17 => exact (List.getElem?_eq_getElem (by omega)).trans (congrArg some h17e)
    | i + 18 => rw [List.getElem?_eq_none (by omega), List.getElem?_eq_none (by simp [crA])]
  · simp only [List.mem_cons, List.not_mem_nil, or_false] at hs
    rcases hs with rfl | rfl | rfl | rfl | rfl | rfl | rfl | rfl <;> assumption
end
theorem open_credit {H : Type} {enc : TypeId × Value → H} {W : World} {base : Nat} {v : Value} {d : DataW H} {p : List MemPlace} {spare : Nat → Bool} {held : Bool} {b0 : Nat}
    (hv : Value.okWide Tryz.prog W .any b0 26 v) (h : DataW.Trod enc Tryz.prog W base spare held 26 v d p) (hw : ∀ n ∈ d.weights Tryz.prog 26, n ≤ 140737488351232) :
    ∃ (x : Cr) (A : Option Addr) (c : Nat), v = .agg (crA x A c) ∧ Ns W W.heap.size A x.needs ∧ GoodC x ∧ (A = none → c = 0) := by
  obtain ⟨cs, rfl, _⟩ := okWide_struct hSCredit hv
  obtain ⟨fuel, hf⟩ := h
  obtain ⟨x, A, c, hc, hN, hg⟩ := credit_one hf hw
  refine ⟨x, A, c, ?_, hN, hg⟩
  congr 1
  rw [← Array.toList_inj]
  simpa [Value.cells] using hc
end Go.Proofs.YtbkffdfboloogaaGreatDoor
