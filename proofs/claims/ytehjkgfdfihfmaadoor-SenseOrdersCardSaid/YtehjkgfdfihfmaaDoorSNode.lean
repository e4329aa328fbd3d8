/- A rule as an argument. -/
import Derived.Test.YtehjkgfdfihfmaaDoorSLaid
import Derived.Test.YtehjkgfdfihfmaaDoorSOrdP
import Derived.ShutString
import Derived.ChangeOld
import Derived.Deep.Slices
import Derived.Deep.Fields
import Derived.ChangeSame
namespace Go.Proofs.YtehjkgfdfihfmaaDoor
open Go.ChangeShapes Go.WideShapes Go.ChangeAt Go.RowKit Go.Deep Go.Lib
set_option linter.unusedVariables false
set_option maxRecDepth 100000

/-- each number of a rule is an int64, each text no longer than memory reaches -/
inductive Good : Rl → Prop
  | mk (x : Rl) (h0 : -9223372036854775808 ≤ x.n) (h1 : x.n ≤ 9223372036854775807) (hf : x.f.size ≤ 140737488351232) (ht : x.t.size ≤ 140737488351232) (hk : ∀ y ∈ x.l, Good y) : Good x
theorem Good.atoms (N : Nat) : ∀ x, SizeOf.sizeOf x ≤ N → Good x → ∀ a ∈ atomsR x, (-9223372036854775808 ≤ a.n ∧ a.n ≤ 9223372036854775807) ∧ a.f.size ≤ 140737488351232 ∧ a.t.size ≤ 140737488351232 := by
  induction N with
  | zero =>
    intro x h
    obtain ⟨k, p, f, t, n, l⟩ := x
    simp at h
  | succ N ih =>
    intro x h hg a ha
    obtain ⟨_, h0, h1, hf, ht, hk⟩ := hg
    cases hat : atomB x.k with
    | true => rw [atoms_a x hat] at ha; simp at ha; subst ha; exact ⟨⟨h0, h1⟩, hf, ht⟩
    | false =>
      by_cases h2 : 0 ≤ x.k ∧ x.k ≤ 2
      · rw [atoms_l x h2] at ha
        obtain ⟨y, hy, ha⟩ := mem_atomsL.1 ha
        exact ih y (by have := Rl.lt_mem hy; omega) (hk y hy) a ha
      · rw [atoms_o x hat h2] at ha; cases ha
theorem laidOut : laidOutB Tryd.prog = true := by kernel_rfl
theorem wf_i64 {z : Int} (h : (Lit.int .i64 z).wf = true) : -9223372036854775808 ≤ z ∧ z ≤ 9223372036854775807 := by
  simp [Lit.wf, IntKind.min, IntKind.max, IntKind.signed, IntKind.bits] at h
  exact h
theorem hSNode : Tryd.prog.underlying 24 = some (.struct (Tryd.prog.fieldsOf 24)) := by kernel_rfl
theorem cellsNode : Tryd.prog.cellsOf 24 = 6 := by kernel_rfl
theorem oneNode : oneCellFields Tryd.prog (Tryd.prog.fieldsOf 24) = true := by kernel_rfl
theorem fieldsNode : (Tryd.prog.fieldsOf 24).map (·.type) = #[3, 3, 9, 9, 2, 22] := by kernel_rfl
theorem weights_all {H : Type} {P : Program} {e : TypeId} {l : List (DataW H)} {d : DataW H} (h : d ∈ l) {n : Nat} (hn : n ∈ d.weights P e) : n ∈ DataW.weightsAll P e l := by
  induction l with
  | nil => cases h
  | cons c l ih =>
    rw [DataW.weightsAll, List.mem_append]
    rcases List.mem_cons.1 h with rfl | h
    · exact .inl hn
    · exact .inr (ih h)
theorem node_fuel {H : Type} {enc : TypeId × Value → H} {W : World} {base : Nat} {spare : Nat → Bool} {held : Bool} (N : Nat) : ∀ fuel, fuel ≤ N → ∀ cs y, DataW.trod enc Tryd.prog W base spare held fuel 24 cs = some y → (∀ n ∈ y.1.weights Tryd.prog 24, n ≤ 140737488351232) →
    ∃ (x : Rl) (A : Option Addr) (c : Nat), cs = [.int .i64 x.k, .int .i64 x.p, .string x.f, .string x.t, .int .i64 x.n, .slice A x.l.length c] ∧ NL W W.heap.size A x.l ∧ Good x := by
  induction N with
  | zero =>
    intro fuel hf cs y h hw
    obtain ⟨ys, n', hn', _⟩ := DataW.trod_struct hSNode h
    omega
  | succ N ih =>
    intro fuel hf cs y h hw
    obtain ⟨ys, n', hn', hy, hlen, hyl, hf'⟩ := DataW.trod_struct hSNode h
    rw [cellsNode] at hlen
    have hsz : (Tryd.prog.fieldsOf 24).size = 6 := by kernel_rfl
    have field : ∀ (j : Nat), j < 6 → ∃ (f : Field) (v : Value), (Tryd.prog.fieldsOf 24)[j]? = some f ∧ cs[j]? = some v ∧ ∃ y, ys[j]? = some y ∧ DataW.trod enc Tryd.prog W base spare held n' f.type [v] = some y := by
      intro j hj
      have hjf : (Tryd.prog.fieldsOf 24)[j]? = some ((Tryd.prog.fieldsOf 24)[j]'(by rw [hsz]; exact hj)) := Array.getElem?_eq_getElem (by rw [hsz]; exact hj)
      obtain ⟨ho, hk⟩ := hone_of oneNode j _ hjf
      have h1 := hf' j _ hjf
      rw [ho, hk] at h1
      have hone' : (cs.drop j).take 1 = [cs[j]'(by omega)] := by
        rw [List.drop_eq_getElem_cons (by omega)]
        rfl
      rw [hone'] at h1
      exact ⟨_, cs[j]'(by omega), hjf, List.getElem?_eq_getElem (by omega), ys[j]'(by omega), List.getElem?_eq_getElem (by omega), h1.trans (List.getElem?_eq_getElem (by omega))⟩
    have ty : ∀ (j : Nat) (f : Field), (Tryd.prog.fieldsOf 24)[j]? = some f → (#[3, 3, 9, 9, 2, 22] : Array TypeId)[j]? = some f.type := by
      intro j f hj
      rw [← fieldsNode, Array.getElem?_map, hj]
      rfl
    obtain ⟨f0, v0, e0, c0, y0, g0, t0⟩ := field 0 (by omega)
    obtain ⟨f1, v1, e1, c1, y1, g1, t1⟩ := field 1 (by omega)
    obtain ⟨f2, v2, e2, c2, y2, g2, t2⟩ := field 2 (by omega)
    obtain ⟨f3, v3, e3, c3, y3, g3, t3⟩ := field 3 (by omega)
    obtain ⟨f4, v4, e4, c4, y4, g4, t4⟩ := field 4 (by omega)
    obtain ⟨f5, v5, e5, c5, y5, g5, t5⟩ := field 5 (by omega)
    rw [show f0.type = 3 from (Option.some.inj (ty 0 f0 e0)).symm] at t0
    rw [show f1.type = 3 from (Option.some.inj (ty 1 f1 e1)).symm] at t1
    rw [show f2.type = 9 from (Option.some.inj (ty 2 f2 e2)).symm] at t2
    rw [show f3.type = 9 from (Option.some.inj (ty 3 f3 e3)).symm] at t3
    rw [show f4.type = 2 from (Option.some.inj (ty 4 f4 e4)).symm] at t4
    rw [show f5.type = 22 from (Option.some.inj (ty 5 f5 e5)).symm] at t5
    obtain ⟨z0, w0, _, _⟩ := DataW.trod_int Tryd.underlying3 t0
    obtain ⟨z1, w1, _, _⟩ := DataW.trod_int Tryd.underlying3 t1
    obtain ⟨z2, w2, x2, _⟩ := DataW.trod_string Tryd.underlying9 t2
    obtain ⟨z3, w3, x3, _⟩ := DataW.trod_string Tryd.underlying9 t3
    obtain ⟨z4, w4, _, s4⟩ := DataW.trod_int Tryd.underlying2 t4
    simp only [List.cons.injEq, and_true] at w0 w1 w2 w3 w4
    subst w0 w1 w2 w3 w4
    obtain ⟨b0, b1⟩ := wf_i64 s4
    have part : ∀ (j : Nat) (t : TypeId) (z : DataW H × List MemPlace), (#[3, 3, 9, 9, 2, 22] : Array TypeId)[j]? = some t → ys[j]? = some z → ∀ n ∈ z.1.weights Tryd.prog t, n ≤ 140737488351232 := by
      intro j t z htj hzj n hn
      refine hw n ?_
      rw [hy]
      simp only [DataW.weights, hSNode]
      refine DataW.weights_mem_each (j := j) (t := t) ?_ (d := z.1) ?_ n hn
      · rw [← Array.toList_map, fieldsNode, ← htj, ← Array.getElem?_toList]
      · rw [List.getElem?_map, hzj]
        rfl
    have hz2 : z2.size ≤ 140737488351232 := by
      have := part 2 9 y2 rfl g2 z2.data.toList.length (by rw [x2]; simp [DataW.weights])
      simpa using this
    have hz3 : z3.size ≤ 140737488351232 := by
      have := part 3 9 y3 rfl g3 z3.data.toList.length (by rw [x3]; simp [DataW.weights])
      simpa using this
    have hp5 := part 5 22 y5 rfl g5
    have hcs : cs = [.int .i64 z0, .int .i64 z1, .string z2, .string z3, .int .i64 z4, v5] := by
      apply List.ext_getElem?
      intro i
      match i with
      | 0 => exact c0
      | 1 => exact c1
      | 2 => exact c2
      | 3 => exact c3
      | 4 => exact c4
      | 5 => exact c5
      | i + 6 => rw [List.getElem?_eq_none (by omega), List.getElem?_eq_none (by simp)]
    rcases DataW.trod_slice Tryd.underlying22 t5 with ⟨hv, _⟩ | ⟨a, len, cap, elems, rest, n2, hn2, hv, x5, _, _, _, hel, hi, _, _⟩
    · simp only [List.cons.injEq, and_true] at hv
      subst hv
      exact ⟨⟨z0, z1, z2, z3, z4, []⟩, none, 0, hcs, NL.nil _ _ _, ⟨_, b0, b1, hz2, hz3, fun y hy => by cases hy⟩⟩
    · simp only [List.cons.injEq, and_true] at hv
      subst hv
      rw [cellsNode] at hi
      have each : ∀ i, i < len → ∃ z : Rl × Option Addr × Nat, (∀ j, j < 6 → W.cell? ((a.add (i * 6)).add j) = [Value.int .i64 z.1.k, .int .i64 z.1.p, .string z.1.f, .string z.1.t, .int .i64 z.1.n, .slice z.2.1 z.1.l.length z.2.2][j]?) ∧ NL W W.heap.size z.2.1 z.1.l ∧ Good z.1 := by
        intro i hil
        have h1 := hi i hil
        rw [List.getElem?_eq_getElem (by omega)] at h1
        obtain ⟨cs', hc, ht'⟩ := Option.bind_eq_some_iff.1 h1
        obtain ⟨x, A, c, rfl, hN, hg⟩ := ih n2 (by omega) cs' _ ht' (fun n hn => hp5 n (by
          rw [x5]
          simp only [DataW.weights, Tryd.underlying22]
          exact List.mem_cons_of_mem _ (List.mem_append_left _ (weights_all (List.mem_map.2 ⟨elems[i]'(by omega), List.getElem_mem _, rfl⟩) hn))))
        obtain ⟨_, hcl, hat⟩ := World.cells?_some hc
        exact ⟨⟨x, A, c⟩, fun j hj => hat j hj, hN, hg⟩
      let f : Nat → Rl × Option Addr × Nat := fun i => if h : i < len then Classical.choose (each i h) else (⟨0, 0, ⟨#[]⟩, ⟨#[]⟩, 0, []⟩, none, 0)
      have hfx : ∀ i, i < len → (∀ j, j < 6 → W.cell? ((a.add (i * 6)).add j) = [Value.int .i64 (f i).1.k, .int .i64 (f i).1.p, .string (f i).1.f, .string (f i).1.t, .int .i64 (f i).1.n, .slice (f i).2.1 (f i).1.l.length (f i).2.2][j]?) ∧ NL W W.heap.size (f i).2.1 (f i).1.l ∧ Good (f i).1 := by
        intro i hil
        simp only [f, hil, dif_pos]
        exact Classical.choose_spec (each i hil)
      have hat : ∀ i y, ((List.range len).map fun i => (f i).1)[i]? = some y → i < len ∧ (f i).1 = y := by
        intro i y hy
        have hil : i < len := by have := (List.getElem?_eq_some_iff.1 hy).1; simpa using this
        rw [List.getElem?_map, List.getElem?_range hil] at hy
        exact ⟨hil, by simpa using hy⟩
      refine ⟨⟨z0, z1, z2, z3, z4, (List.range len).map fun i => (f i).1⟩, some a, cap, by rw [hcs]; simp [Rl.k, Rl.p, Rl.f, Rl.t, Rl.n, Rl.l], ⟨_, _, fun i => (f i).2.1, fun i => (f i).2.2, fun h0 => ?_, fun i y hy => ?_⟩, ⟨_, b0, b1, hz2, hz3, fun y hy => ?_⟩⟩
      · have hl0 : 0 < len := by simpa [Rl.l] using h0
        obtain ⟨b, off, spot⟩ := a
        have c00 := (hfx 0 hl0).1 0 (by omega)
        have hspot : spot = none := by
          have := World.cell?_spot c00
          simpa [Addr.add] using this
        subst hspot
        have hblk : b < W.heap.size := by
          have := World.block_lt_of_cell? W _ c00
          simpa [Addr.add] using this
        refine ⟨b, off, rfl, hblk, fun i y hy => ?_⟩
        obtain ⟨hil, hyx⟩ := hat i y hy
        obtain ⟨hcells, _, _⟩ := hfx i hil
        rw [hyx] at hcells
        have key : ∀ j, j < 6 → W.cell? ⟨b, off + i * 6 + j, none⟩ = [Value.int .i64 y.k, .int .i64 y.p, .string y.f, .string y.t, .int .i64 y.n, .slice (f i).2.1 y.l.length (f i).2.2][j]? := fun j hj => by
          have := hcells j hj
          rw [Go.Deep.add_add, Lib.add_plain] at this
          rw [Nat.add_assoc]
          exact this
        exact ⟨key 0 (by omega), key 1 (by omega), key 2 (by omega), key 3 (by omega), key 4 (by omega), key 5 (by omega)⟩
      · obtain ⟨hil, hyx⟩ := hat i y hy
        have := (hfx i hil).2.1
        rw [hyx] at this
        exact this
      · obtain ⟨i, hil, rfl⟩ := List.mem_map.1 hy
        exact (hfx i (List.mem_range.1 hil)).2.2
theorem open_node {H : Type} {enc : TypeId × Value → H} {W : World} {base : Nat} {v : Value} {d : DataW H} {p : List MemPlace} {spare : Nat → Bool} {held : Bool} {b0 : Nat}
    (hv : Value.okWide Tryd.prog W .any b0 24 v) (h : DataW.Trod enc Tryd.prog W base spare held 24 v d p) (hw : ∀ n ∈ d.weights Tryd.prog 24, n ≤ 140737488351232) :
    ∃ (x : Rl) (A : Option Addr) (c : Nat), v = .agg #[.int .i64 x.k, .int .i64 x.p, .string x.f, .string x.t, .int .i64 x.n, .slice A x.l.length c] ∧ NL W W.heap.size A x.l ∧ Good x := by
  obtain ⟨cs, rfl, _⟩ := okWide_struct hSNode hv
  obtain ⟨fuel, hf⟩ := h
  obtain ⟨x, A, c, hc, hN, hg⟩ := node_fuel fuel fuel (Nat.le_refl _) _ _ hf hw
  refine ⟨x, A, c, ?_, hN, hg⟩
  congr 1
  rw [← Array.toList_inj]
  simpa [Value.cells] using hc
end Go.Proofs.YtehjkgfdfihfmaaDoor
