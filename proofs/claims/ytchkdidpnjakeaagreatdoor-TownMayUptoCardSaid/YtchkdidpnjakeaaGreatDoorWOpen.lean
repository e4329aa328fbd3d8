/- A deal as an argument, its bulk bounded. -/
import Derived.Test.YtchkdidpnjakeaaGreatDoorGWReg
import Derived.Test.YtchkdidpnjakeaaGreatDoorGMAwk
import Derived.Test.YtchkdidpnjakeaaGreatDoorRows
namespace Go.Proofs.YtchkdidpnjakeaaGreatDoor
open Go.ChangeShapes Go.WideShapes Go.ChangeAt Go.RowKit Go.Deep Go.Lib
set_option linter.unusedVariables false
set_option maxRecDepth 100000

def ltA (x : Lt) : Array Value := #[.string x.g, .int .i64 x.c]
def bxA (b : Bx) (A : Option Addr) (c : Nat) : Array Value := #[.string b.m, .int .i64 b.k, .slice A b.l.length c]

section
variable {H : Type}
theorem bulk_one (d : DataW H) : 1 ≤ Rows.uptoBulk d := by
  cases d with
  | lit l => cases l <;> simp [Rows.uptoBulk]
  | nil => simp [Rows.uptoBulk]
  | ptr d => simp [Rows.uptoBulk]
  | slice elems spare => simp [Rows.uptoBulk]
  | agg parts => simp [Rows.uptoBulk]
  | iface t d => simp [Rows.uptoBulk]
  | map entries => simp [Rows.uptoBulk]
  | held h => simp [Rows.uptoBulk]
theorem bulk_part {d : DataW H} {l : List (DataW H)} (h : d ∈ l) : Rows.uptoBulk d ≤ Rows.uptoBulkAll l := by
  induction l with
  | nil => cases h
  | cons x r ih =>
    simp only [Rows.uptoBulkAll]
    cases List.mem_cons.1 h with
    | inl e => subst e; omega
    | inr e => have := ih e; omega
theorem bulk_len (l : List (DataW H)) : l.length ≤ Rows.uptoBulkAll l := by
  induction l with
  | nil => simp [Rows.uptoBulkAll]
  | cons x r ih => have := bulk_one x; simp only [Rows.uptoBulkAll, List.length_cons]; omega
theorem bulk_agg (l : List (DataW H)) : Rows.uptoBulkAll l ≤ Rows.uptoBulk (.agg l) := by
  simp only [Rows.uptoBulk]
  omega
theorem bulk_slice (l s : List (DataW H)) : Rows.uptoBulkAll l ≤ Rows.uptoBulk (.slice l s) := by
  simp only [Rows.uptoBulk]
  omega
theorem bulk_str (bytes : List UInt8) : Rows.uptoBulk (DataW.lit (H := H) (.string bytes)) = bytes.length + 1 := by
  simp [Rows.uptoBulk]
theorem bulk_field {ys : List (DataW H × List MemPlace)} {y : DataW H × List MemPlace} {m : List MemPlace} (hy : y = (.agg (ys.map (·.1)), m)) {j : Nat} (hj : j < ys.length) : Rows.uptoBulk (ys[j]).1 ≤ Rows.uptoBulk y.1 := by
  subst hy
  have h1 := bulk_part (d := (ys[j]).1) (l := ys.map (·.1)) (List.mem_map.2 ⟨_, List.getElem_mem hj, rfl⟩)
  have h2 := bulk_agg (ys.map (·.1))
  exact Nat.le_trans h1 h2
theorem bulk_text {d : DataW H × List MemPlace} {z : ByteArray} (hx : d = (.lit (.string z.data.toList), [])) {N : Nat} (h : Rows.uptoBulk d.1 ≤ N) : z.size ≤ N := by
  subst hx
  rw [bulk_str, Array.length_toList] at h
  show z.data.size ≤ N
  omega
end
section
variable {H : Type} {enc : TypeId × Value → H} {W : World} {base : Nat} {spare : Nat → Bool} {held : Bool} {fuel : Nat} {cs : List Value} {y : DataW H × List MemPlace}
/-- a slice whose elements are read alike -/
theorem slice_rows {α : Type} [Inhabited α] {sl el : TypeId} {n : Nat} (hu : Tryz.prog.underlying sl = some (.slice el)) (hc : Tryz.prog.cellsOf el = n) (h0 : 0 < n) (f : α → List Value) (Q : α → DataW H → Prop) (M : Nat)
    (hone : ∀ fuel cs z, DataW.trod enc Tryz.prog W base spare held fuel el cs = some z → Rows.uptoBulk z.1 ≤ M → ∃ x, cs = f x ∧ cs.length = n ∧ Q x z.1) (h : DataW.trod enc Tryz.prog W base spare held fuel sl cs = some y) (hM : Rows.uptoBulk y.1 ≤ M) :
    ∃ (A : Option Addr) (c : Nat) (L : List α) (E : List (DataW H)), cs = [.slice A L.length c] ∧ (A = none → c = 0) ∧ (0 < L.length → ∃ g off, A = some ⟨g, off, none⟩ ∧ g < W.heap.size ∧ ∀ (i : Nat) x, L[i]? = some x → ∀ j, j < n → W.cell? ⟨g, off + i * n + j, none⟩ = (f x)[j]?) ∧
      E.length = L.length ∧ Rows.uptoBulkAll E ≤ Rows.uptoBulk y.1 ∧ ∀ (i : Nat) x, L[i]? = some x → ∃ e, E[i]? = some e ∧ Q x e := by
  rcases DataW.trod_slice hu h with ⟨hv, hy⟩ | ⟨a, len, cap, elems, rest, n2, hn2, hv, x5, _, hlc, hcm, hel, hi, _, _⟩
  · subst hy
    exact ⟨none, 0, [], [], hv, fun _ => rfl, fun h => absurd h (by simp), rfl, by simp [Rows.uptoBulkAll], fun i x hx => by simp at hx⟩
  · rw [hc] at hi
    have hbE' : Rows.uptoBulkAll (elems.map (·.1)) ≤ Rows.uptoBulk y.1 := by
      rw [x5]
      exact bulk_slice _ _
    have hbE := Nat.le_trans hbE' hM
    have each : ∀ i, i < len → ∃ z : α, (∀ j, j < n → W.cell? ((a.add (i * n)).add j) = (f z)[j]?) ∧ ∃ e, (elems.map (·.1))[i]? = some e ∧ Q z e := by
      intro i hil
      have h1 := hi i hil
      rw [List.getElem?_eq_getElem (by omega)] at h1
      obtain ⟨cs', hcs, ht'⟩ := Option.bind_eq_some_iff.1 h1
      obtain ⟨x, rfl, hln, hQ⟩ := hone _ _ _ ht' (Nat.le_trans (bulk_part (List.mem_map.2 ⟨elems[i]'(by omega), List.getElem_mem _, rfl⟩)) hbE)
      obtain ⟨_, hcl, hat⟩ := World.cells?_some hcs
      exact ⟨x, fun j hj => hat j (by omega), _, by rw [List.getElem?_map, List.getElem?_eq_getElem (by omega)]; rfl, hQ⟩
    let F : Nat → α := fun i => if h : i < len then Classical.choose (each i h) else default
    have hfx : ∀ i, i < len → (∀ j, j < n → W.cell? ((a.add (i * n)).add j) = (f (F i))[j]?) ∧ ∃ e, (elems.map (·.1))[i]? = some e ∧ Q (F i) e := by
      intro i hil
      simp only [F, hil, dif_pos]
      exact Classical.choose_spec (each i hil)
    have hat : ∀ i y, ((List.range len).map F)[i]? = some y → i < len ∧ F i = y := by
      intro i y hy
      have hil : i < len := by have := (List.getElem?_eq_some_iff.1 hy).1; simpa using this
      rw [List.getElem?_map, List.getElem?_range hil] at hy
      exact ⟨hil, by simpa using hy⟩
    refine ⟨some a, cap, (List.range len).map F, elems.map (·.1), by rw [hv]; simp, fun h => (by cases h), fun h0' => ?_, by simpa using hel, hbE', fun i y hy => ?_⟩
    · have hl0 : 0 < len := by simpa using h0'
      obtain ⟨b, off, spot⟩ := a
      have c00 : ∃ v, W.cell? ((Addr.add ⟨b, off, spot⟩ (0 * n)).add 0) = some v := by
        have h1 := hi 0 hl0
        rw [List.getElem?_eq_getElem (by omega)] at h1
        obtain ⟨cs', hcs, ht'⟩ := Option.bind_eq_some_iff.1 h1
        obtain ⟨x, _, hln, hQ⟩ := hone _ _ _ ht' (Nat.le_trans (bulk_part (List.mem_map.2 ⟨elems[0]'(by omega), List.getElem_mem _, rfl⟩)) hbE)
        obtain ⟨_, hcl, hat⟩ := World.cells?_some hcs
        exact ⟨_, (hat 0 (by omega)).trans (List.getElem?_eq_getElem (by omega))⟩
      obtain ⟨v, c00⟩ := c00
      have hspot : spot = none := by
        have := World.cell?_spot c00
        simpa [Addr.add] using this
      subst hspot
      have hblk : b < W.heap.size := by
        have := World.block_lt_of_cell? W _ c00
        simpa [Addr.add] using this
      refine ⟨b, off, rfl, hblk, fun i y hy j hj => ?_⟩
      obtain ⟨hil, hyx⟩ := hat i y hy
      have := (hfx i hil).1 j hj
      rw [hyx, Go.Deep.add_add, Lib.add_plain] at this
      rw [Nat.add_assoc]
      exact this
    · obtain ⟨hil, hyx⟩ := hat i y hy
      have := (hfx i hil).2
      rw [hyx] at this
      exact this
theorem hSLot : Tryz.prog.underlying 91 = some (.struct (Tryz.prog.fieldsOf 91)) := by kernel_rfl
theorem cellsLot : Tryz.prog.cellsOf 91 = 2 := by kernel_rfl
theorem layLot : (Tryz.prog.fieldsOf 91).map (fun f => (f.type, f.offset)) = #[(9, 0), (3, 1)] := by kernel_rfl
theorem hSBox : Tryz.prog.underlying 89 = some (.struct (Tryz.prog.fieldsOf 89)) := by kernel_rfl
theorem cellsBox : Tryz.prog.cellsOf 89 = 3 := by kernel_rfl
theorem layBox : (Tryz.prog.fieldsOf 89).map (fun f => (f.type, f.offset)) = #[(9, 0), (3, 1), (87, 2)] := by kernel_rfl
theorem cellsLotsO : Tryz.prog.cellsOf 87 = 1 := by kernel_rfl
theorem cellsBoxesO : Tryz.prog.cellsOf 70 = 1 := by kernel_rfl
theorem hSDeal : Tryz.prog.underlying 72 = some (.struct (Tryz.prog.fieldsOf 72)) := by kernel_rfl
theorem cellsDeal : Tryz.prog.cellsOf 72 = 17 := by kernel_rfl
theorem layDeal : (Tryz.prog.fieldsOf 72).map (fun f => (f.type, f.offset)) = #[(9, 0), (9, 1), (9, 2), (9, 3), (9, 4), (9, 5), (9, 6), (9, 7), (9, 8), (69, 9), (70, 11), (3, 12), (3, 13), (3, 14), (3, 15), (3, 16)] := by kernel_rfl
instance : Inhabited Lt := ⟨⟨⟨#[]⟩, 0⟩⟩
instance : Inhabited Bx := ⟨⟨⟨#[]⟩, 0, []⟩⟩
theorem lot_one (h : DataW.trod enc Tryz.prog W base spare held fuel 91 cs = some y) (hb : Rows.uptoBulk y.1 ≤ 1048576) : ∃ x : Lt, cs = (ltA x).toList ∧ cs.length = 2 ∧ LtOk x := by
  obtain ⟨ys, n', hn', hy, hlen, hyl, hf'⟩ := DataW.trod_struct hSLot h
  rw [cellsLot] at hlen
  have hsz : (Tryz.prog.fieldsOf 91).size = 2 := by kernel_rfl
  rw [hsz] at hyl
  obtain ⟨f0, e0, t0, o0⟩ := fld layLot (j := 0) rfl
  obtain ⟨f1, e1, t1, o1⟩ := fld layLot (j := 1) rfl
  have g0 := hf' 0 f0 e0
  have g1 := hf' 1 f1 e1
  rw [t0, o0] at g0
  rw [t1, o1] at g1
  obtain ⟨z0, w0, x0, _⟩ := DataW.trod_string Tryz.underlying9 ((cell_fld cellsStrO (by omega) g0).trans (List.getElem?_eq_getElem (by omega)))
  obtain ⟨z1, w1, _, s1⟩ := DataW.trod_int Tryz.underlying3 ((cell_fld cellsIntO (by omega) g1).trans (List.getElem?_eq_getElem (by omega)))
  have b0 := bulk_text x0 (Nat.le_trans (bulk_field hy (by omega)) hb)
  simp only [List.cons.injEq, and_true] at w0 w1
  obtain ⟨b1, b2⟩ := wf_i64 s1
  refine ⟨⟨z0, z1⟩, ?_, hlen, b0, b1, b2⟩
  apply List.ext_getElem?
  intro i
  match i with
  | 0 => exact (List.getElem?_eq_getElem (by omega)).trans (congrArg some w0)
  | 1 => exact (List.getElem?_eq_getElem (by omega)).trans (congrArg some w1)
  | i + 2 => rw [List.getElem?_eq_none (by omega), List.getElem?_eq_none (by simp [ltA])]
abbrev Bx3 := Bx × Option Addr × Nat
def BxIs (W : World) (t : Bx3) (e : DataW H) : Prop := Lts W W.heap.size t.2.1 t.1.l ∧ (t.2.1 = none → t.2.2 = 0) ∧ t.1.m.size ≤ 1048576 ∧ LtsOk t.1.l ∧ t.1.l.length ≤ Rows.uptoBulk e ∧ t.1.m.size + 1 ≤ Rows.uptoBulk e
theorem box_one (h : DataW.trod enc Tryz.prog W base spare held fuel 89 cs = some y) (hb : Rows.uptoBulk y.1 ≤ 1048576) : ∃ t : Bx3, cs = (bxA t.1 t.2.1 t.2.2).toList ∧ cs.length = 3 ∧ BxIs W t y.1 := by
  obtain ⟨ys, n', hn', hy, hlen, hyl, hf'⟩ := DataW.trod_struct hSBox h
  rw [cellsBox] at hlen
  have hsz : (Tryz.prog.fieldsOf 89).size = 3 := by kernel_rfl
  rw [hsz] at hyl
  obtain ⟨f0, e0, t0, o0⟩ := fld layBox (j := 0) rfl
  obtain ⟨f1, e1, t1, o1⟩ := fld layBox (j := 1) rfl
  obtain ⟨f2, e2, t2, o2⟩ := fld layBox (j := 2) rfl
  have g0 := hf' 0 f0 e0
  have g1 := hf' 1 f1 e1
  have g2 := hf' 2 f2 e2
  rw [t0, o0] at g0
  rw [t1, o1] at g1
  rw [t2, o2] at g2
  obtain ⟨z0, w0, x0, _⟩ := DataW.trod_string Tryz.underlying9 ((cell_fld cellsStrO (by omega) g0).trans (List.getElem?_eq_getElem (by omega)))
  obtain ⟨z1, w1, _, s1⟩ := DataW.trod_int Tryz.underlying3 ((cell_fld cellsIntO (by omega) g1).trans (List.getElem?_eq_getElem (by omega)))
  have b0 := bulk_text x0 (Nat.le_trans (bulk_field hy (by omega)) hb)
  have k2 : Rows.uptoBulk (ys[2]'(by omega)).1 ≤ Rows.uptoBulk y.1 := bulk_field hy (by omega)
  obtain ⟨A, c, L, E, w2, hA, hrow, hEl, hEb, hE⟩ := slice_rows (n := 2) Tryz.underlying87 cellsLot (by omega) (fun x : Lt => (ltA x).toList) (fun x _ => LtOk x) 1048576 (fun fuel cs z hz hzb => lot_one hz hzb) ((cell_fld cellsLotsO (by omega) g2).trans (List.getElem?_eq_getElem (by omega))) (Nat.le_trans k2 hb)
  have hLen : L.length ≤ Rows.uptoBulk y.1 := by
    have h1 := bulk_len E
    omega
  simp only [List.cons.injEq, and_true] at w0 w1 w2
  have bm : z0.size + 1 ≤ Rows.uptoBulk y.1 := by
    have h1 := bulk_field hy (j := 0) (by omega)
    rw [x0, bulk_str, Array.length_toList] at h1
    exact h1
  refine ⟨(⟨z0, z1, L⟩, A, c), ?_, hlen, fun h0 => ?_, hA, b0, ⟨Nat.le_trans hLen hb, fun x hx => ?_⟩, hLen, bm⟩
  · apply List.ext_getElem?
    intro i
    match i with
    | 0 => exact (List.getElem?_eq_getElem (by omega)).trans (congrArg some w0)
    | 1 => exact (List.getElem?_eq_getElem (by omega)).trans (congrArg some w1)
    | 2 => exact (List.getElem?_eq_getElem (by omega)).trans (congrArg some w2)
    | i + 3 => rw [List.getElem?_eq_none (by omega), List.getElem?_eq_none (by simp [bxA])]
  · obtain ⟨g, off, e, hg, hcl⟩ := hrow h0
    exact ⟨g, off, e, hg, fun i x hx => ⟨hcl i x hx 0 (by omega), hcl i x hx 1 (by omega)⟩⟩
  · obtain ⟨i, hi⟩ := List.getElem?_of_mem hx
    obtain ⟨e, _, hq⟩ := hE i x hi
    exact hq
theorem lots_sum : ∀ (L : List Bx3) (E : List (DataW H)), E.length = L.length → (∀ (i : Nat) x, L[i]? = some x → ∃ e, E[i]? = some e ∧ BxIs W x e) → (lotsOf (L.map (·.1))).length ≤ Rows.uptoBulkAll E
  | [], E, h, _ => by simp [lotsOf]
  | x :: L, [], h, _ => by simp at h
  | x :: L, e :: E, h, hE => by
    obtain ⟨e', he, hq⟩ := hE 0 x rfl
    simp only [List.getElem?_cons_zero, Option.some.injEq] at he
    subst he
    have h1 := lots_sum L E (by simpa using h) (fun i y hy => by simpa using hE (i + 1) y (by simpa using hy))
    have h2 := hq.2.2.2.2.1
    unfold lotsOf at h1 ⊢
    rw [List.map_cons, List.flatMap_cons, List.length_append]
    simp only [Rows.uptoBulkAll]
    omega
/-- texts joined are no longer than their bulk -/
theorem joinB_len : ∀ xs : List ByteArray, (Lib.join (xs.map (·.data.toList)) (⟨#[44]⟩ : ByteArray).data.toList).length ≤ (xs.map fun x => x.size + 1).sum
  | [] => by simp [Lib.join]
  | [x] => by
    have h1 : x.data.toList.length = x.size := Array.length_toList
    have e : Lib.join ([x].map (·.data.toList)) (⟨#[44]⟩ : ByteArray).data.toList = x.data.toList := by simp [Lib.join]
    rw [e]
    simp only [List.map_cons, List.map_nil, List.sum_cons, List.sum_nil]
    omega
  | x :: y :: ys => by
    have h1 : x.data.toList.length = x.size := Array.length_toList
    have h3 := joinB_len (y :: ys)
    have e : Lib.join ((x :: y :: ys).map (·.data.toList)) (⟨#[44]⟩ : ByteArray).data.toList = x.data.toList ++ (⟨#[44]⟩ : ByteArray).data.toList ++ Lib.join ((y :: ys).map (·.data.toList)) (⟨#[44]⟩ : ByteArray).data.toList := by
      simp [Lib.join]
    have h6 : (⟨#[44]⟩ : ByteArray).data.toList.length = 1 := rfl
    have h7 : ((x :: y :: ys).map fun x => x.size + 1).sum = (x.size + 1) + ((y :: ys).map fun x => x.size + 1).sum := by
      simp only [List.map_cons, List.sum_cons]
    rw [e, List.length_append, List.length_append, h6, h7]
    omega
theorem joinT_len (xs : List ByteArray) : (joinT xs).size ≤ (xs.map fun x => x.size + 1).sum := by
  have h := joinB_len xs
  show (List.toArray _).size ≤ _
  rw [List.size_toArray]
  exact h
theorem marks_sum : ∀ (L : List Bx3) (E : List (DataW H)), E.length = L.length → (∀ (i : Nat) x, L[i]? = some x → ∃ e, E[i]? = some e ∧ BxIs W x e) → ((L.map (·.1.m)).map fun x => x.size + 1).sum ≤ Rows.uptoBulkAll E
  | [], E, h, _ => by simp
  | x :: L, [], h, _ => by simp at h
  | x :: L, e :: E, h, hE => by
    obtain ⟨e', he, hq⟩ := hE 0 x rfl
    simp only [List.getElem?_cons_zero, Option.some.injEq] at he
    subst he
    have h1 := marks_sum L E (by simpa using h) (fun i y hy => by simpa using hE (i + 1) y (by simpa using hy))
    have h2 := hq.2.2.2.2.2
    rw [List.map_cons, List.map_cons, List.sum_cons]
    simp only [Rows.uptoBulkAll]
    omega
/-- what a deal's argument is -/
structure GoodD (d : Dl) : Prop where
  str : ∀ s ∈ [d.num, d.sel, d.buy, d.car, d.iss, d.hou, d.ins, d.frm, d.dst, d.cur], s.size ≤ 1048576
  int : ∀ n ∈ [d.amt, d.trm, d.lat, d.exp, d.ten, d.dut], -9223372036854775808 ≤ n ∧ n ≤ 9223372036854775807
  box : BxsOk d.box
  wide : (marksT d.box).size ≤ 1048576
theorem deal_one (h : DataW.trod enc Tryz.prog W base spare held fuel 72 cs = some y) (hb : Rows.uptoBulk y.1 ≤ 1048576) :
    ∃ (d : Dl) (A : Option Addr) (c : Nat), cs = (dlA d A c).toList ∧ Bxs W W.heap.size A d.box ∧ GoodD d ∧ (A = none → c = 0) := by
  obtain ⟨ys, n', hn', hy, hlen, hyl, hf'⟩ := DataW.trod_struct hSDeal h
  rw [cellsDeal] at hlen
  have hsz : (Tryz.prog.fieldsOf 72).size = 16 := by kernel_rfl
  rw [hsz] at hyl
  obtain ⟨f0, e0, t0, o0⟩ := fld layDeal (j := 0) rfl
  have g0 := hf' 0 f0 e0
  rw [t0, o0] at g0
  obtain ⟨f1, e1, t1, o1⟩ := fld layDeal (j := 1) rfl
  have g1 := hf' 1 f1 e1
  rw [t1, o1] at g1
  obtain ⟨f2, e2, t2, o2⟩ := fld layDeal (j := 2) rfl
  have g2 := hf' 2 f2 e2
  rw [t2, o2] at g2
  obtain ⟨f3, e3, t3, o3⟩ := fld layDeal (j := 3) rfl
  have g3 := hf' 3 f3 e3
  rw [t3, o3] at g3
  obtain ⟨f4, e4, t4, o4⟩ := fld layDeal (j := 4) rfl
  have g4 := hf' 4 f4 e4
  rw [t4, o4] at g4
  obtain ⟨f5, e5, t5, o5⟩ := fld layDeal (j := 5) rfl
  have g5 := hf' 5 f5 e5
  rw [t5, o5] at g5
  obtain ⟨f6, e6, t6, o6⟩ := fld layDeal (j := 6) rfl
  have g6 := hf' 6 f6 e6
  rw [t6, o6] at g6
  obtain ⟨f7, e7, t7, o7⟩ := fld layDeal (j := 7) rfl
  have g7 := hf' 7 f7 e7
  rw [t7, o7] at g7
  obtain ⟨f8, e8, t8, o8⟩ := fld layDeal (j := 8) rfl
  have g8 := hf' 8 f8 e8
  rw [t8, o8] at g8
  obtain ⟨f9, e9, t9, o9⟩ := fld layDeal (j := 9) rfl
  have g9 := hf' 9 f9 e9
  rw [t9, o9] at g9
  obtain ⟨f10, e10, t10, o10⟩ := fld layDeal (j := 10) rfl
  have g10 := hf' 10 f10 e10
  rw [t10, o10] at g10
  obtain ⟨f11, e11, t11, o11⟩ := fld layDeal (j := 11) rfl
  have g11 := hf' 11 f11 e11
  rw [t11, o11] at g11
  obtain ⟨f12, e12, t12, o12⟩ := fld layDeal (j := 12) rfl
  have g12 := hf' 12 f12 e12
  rw [t12, o12] at g12
  obtain ⟨f13, e13, t13, o13⟩ := fld layDeal (j := 13) rfl
  have g13 := hf' 13 f13 e13
  rw [t13, o13] at g13
  obtain ⟨f14, e14, t14, o14⟩ := fld layDeal (j := 14) rfl
  have g14 := hf' 14 f14 e14
  rw [t14, o14] at g14
  obtain ⟨f15, e15, t15, o15⟩ := fld layDeal (j := 15) rfl
  have g15 := hf' 15 f15 e15
  rw [t15, o15] at g15
  obtain ⟨z0, w0, x0, _⟩ := DataW.trod_string Tryz.underlying9 ((cell_fld cellsStrO (by omega) g0).trans (List.getElem?_eq_getElem (by omega)))
  have s0 := bulk_text x0 (Nat.le_trans (bulk_field hy (by omega)) hb)
  obtain ⟨z1, w1, x1, _⟩ := DataW.trod_string Tryz.underlying9 ((cell_fld cellsStrO (by omega) g1).trans (List.getElem?_eq_getElem (by omega)))
  have s1 := bulk_text x1 (Nat.le_trans (bulk_field hy (by omega)) hb)
  obtain ⟨z2, w2, x2, _⟩ := DataW.trod_string Tryz.underlying9 ((cell_fld cellsStrO (by omega) g2).trans (List.getElem?_eq_getElem (by omega)))
  have s2 := bulk_text x2 (Nat.le_trans (bulk_field hy (by omega)) hb)
  obtain ⟨z3, w3, x3, _⟩ := DataW.trod_string Tryz.underlying9 ((cell_fld cellsStrO (by omega) g3).trans (List.getElem?_eq_getElem (by omega)))
  have s3 := bulk_text x3 (Nat.le_trans (bulk_field hy (by omega)) hb)
  obtain ⟨z4, w4, x4, _⟩ := DataW.trod_string Tryz.underlying9 ((cell_fld cellsStrO (by omega) g4).trans (List.getElem?_eq_getElem (by omega)))
  have s4 := bulk_text x4 (Nat.le_trans (bulk_field hy (by omega)) hb)
  obtain ⟨z5, w5, x5, _⟩ := DataW.trod_string Tryz.underlying9 ((cell_fld cellsStrO (by omega) g5).trans (List.getElem?_eq_getElem (by omega)))
  have s5 := bulk_text x5 (Nat.le_trans (bulk_field hy (by omega)) hb)
  obtain ⟨z6, w6, x6, _⟩ := DataW.trod_string Tryz.underlying9 ((cell_fld cellsStrO (by omega) g6).trans (List.getElem?_eq_getElem (by omega)))
  have s6 := bulk_text x6 (Nat.le_trans (bulk_field hy (by omega)) hb)
  obtain ⟨z7, w7, x7, _⟩ := DataW.trod_string Tryz.underlying9 ((cell_fld cellsStrO (by omega) g7).trans (List.getElem?_eq_getElem (by omega)))
  have s7 := bulk_text x7 (Nat.le_trans (bulk_field hy (by omega)) hb)
  obtain ⟨z8, w8, x8, _⟩ := DataW.trod_string Tryz.underlying9 ((cell_fld cellsStrO (by omega) g8).trans (List.getElem?_eq_getElem (by omega)))
  have s8 := bulk_text x8 (Nat.le_trans (bulk_field hy (by omega)) hb)
  rw [cellsMoney] at g9
  have k9 : Rows.uptoBulk (ys[9]'(by omega)).1 ≤ Rows.uptoBulk y.1 := bulk_field hy (by omega)
  obtain ⟨ms, n7, hn7, hm, hml, hmyl, hmf⟩ := DataW.trod_struct hSMoney (g9.trans (List.getElem?_eq_getElem (by omega)))
  rw [cellsMoney] at hml
  have hmsz : (Tryz.prog.fieldsOf 69).size = 2 := by kernel_rfl
  rw [hmsz] at hmyl
  obtain ⟨m0, me0, mt0, mo0⟩ := fld layMoney (j := 0) rfl
  obtain ⟨m1, me1, mt1, mo1⟩ := fld layMoney (j := 1) rfl
  have mg0 := hmf 0 m0 me0
  have mg1 := hmf 1 m1 me1
  rw [mt0, mo0] at mg0
  rw [mt1, mo1] at mg1
  obtain ⟨z9, w9, x9, _⟩ := DataW.trod_string Tryz.underlying9 ((cell_fld cellsStrO (by omega) mg0).trans (List.getElem?_eq_getElem (by omega)))
  obtain ⟨z10, w10, _, v10⟩ := DataW.trod_int Tryz.underlying2 ((cell_fld cellsI64O (by omega) mg1).trans (List.getElem?_eq_getElem (by omega)))
  have s9 := bulk_text x9 (Nat.le_trans (bulk_field hm (by omega)) (Nat.le_trans k9 hb))
  have k10 : Rows.uptoBulk (ys[10]'(by omega)).1 ≤ Rows.uptoBulk y.1 := bulk_field hy (by omega)
  obtain ⟨A, c, L, E, w11, hA, hrow, hEl, hEb, hE⟩ := slice_rows (n := 3) Tryz.underlying70 cellsBox (by omega) (fun t : Bx3 => (bxA t.1 t.2.1 t.2.2).toList) (fun t e => BxIs W t e) 1048576 (fun fuel cs z hz hzb => box_one hz hzb) ((cell_fld cellsBoxesO (by omega) g10).trans (List.getElem?_eq_getElem (by omega))) (Nat.le_trans k10 hb)
  obtain ⟨z12, w12, _, v12⟩ := DataW.trod_int Tryz.underlying3 ((cell_fld cellsIntO (by omega) g11).trans (List.getElem?_eq_getElem (by omega)))
  obtain ⟨z13, w13, _, v13⟩ := DataW.trod_int Tryz.underlying3 ((cell_fld cellsIntO (by omega) g12).trans (List.getElem?_eq_getElem (by omega)))
  obtain ⟨z14, w14, _, v14⟩ := DataW.trod_int Tryz.underlying3 ((cell_fld cellsIntO (by omega) g13).trans (List.getElem?_eq_getElem (by omega)))
  obtain ⟨z15, w15, _, v15⟩ := DataW.trod_int Tryz.underlying3 ((cell_fld cellsIntO (by omega) g14).trans (List.getElem?_eq_getElem (by omega)))
  obtain ⟨z16, w16, _, v16⟩ := DataW.trod_int Tryz.underlying3 ((cell_fld cellsIntO (by omega) g15).trans (List.getElem?_eq_getElem (by omega)))
  simp only [List.cons.injEq, and_true] at w0 w1 w2 w3 w4 w5 w6 w7 w8 w9 w10 w11 w12 w13 w14 w15 w16
  have hsum := lots_sum L E hEl hE
  have hbox : BxsOk (L.map (·.1)) := by
    refine ⟨?_, ⟨Nat.le_trans hsum (Nat.le_trans hEb (Nat.le_trans k10 hb)), fun x hx => ?_⟩, fun b hx => ?_⟩
    · rw [List.length_map, ← hEl]
      exact Nat.le_trans (bulk_len E) (Nat.le_trans hEb (Nat.le_trans k10 hb))
    · unfold lotsOf at hx
      obtain ⟨b, hb1, hb2⟩ := List.mem_flatMap.1 hx
      obtain ⟨t, ht, rfl⟩ := List.mem_map.1 hb1
      obtain ⟨i, hi⟩ := List.getElem?_of_mem ht
      obtain ⟨e, _, hq⟩ := hE i t hi
      exact hq.2.2.2.1.2 x hb2
    · obtain ⟨t, ht, rfl⟩ := List.mem_map.1 hx
      obtain ⟨i, hi⟩ := List.getElem?_of_mem ht
      obtain ⟨e, _, hq⟩ := hE i t hi
      exact hq.2.2.1
  have hwide : (marksT (L.map (·.1))).size ≤ 1048576 := by
    have h1 := joinT_len ((L.map (·.1)).map (·.m))
    have h2 := marks_sum L E hEl hE
    have e : (L.map (·.1)).map (·.m) = L.map (·.1.m) := by rw [List.map_map]; rfl
    have h1 : (marksT (L.map (·.1))).size ≤ _ := h1
    rw [e] at h1
    exact Nat.le_trans h1 (Nat.le_trans h2 (Nat.le_trans hEb (Nat.le_trans k10 hb)))
  refine ⟨⟨z0, z1, z2, z3, z4, z5, z6, z7, z8, z9, z10, L.map (·.1), z12, z13, z14, z15, z16⟩, A, c, ?_, fun h0 => ?_, ⟨fun s hs => ?_, fun n hn => ?_, hbox, hwide⟩, hA⟩
  · rw [List.getElem_take, List.getElem_drop] at w9 w10
    apply List.ext_getElem?
    intro i
    match i with
    | 0 => exact (List.getElem?_eq_getElem (by omega)).trans (congrArg some w0)
    | 1 => exact (List.getElem?_eq_getElem (by omega)).trans (congrArg some w1)
    | 2 => exact (List.getElem?_eq_getElem (by omega)).trans (congrArg some w2)
    | 3 => exact (List.getElem?_eq_getElem (by omega)).trans (congrArg some w3)
    | 4 => exact (List.getElem?_eq_getElem (by omega)).trans (congrArg some w4)
    | 5 => exact (List.getElem?_eq_getElem (by omega)).trans (congrArg some w5)
    | 6 => exact (List.getElem?_eq_getElem (by omega)).trans (congrArg some w6)
    | 7 => exact (List.getElem?_eq_getElem (by omega)).trans (congrArg some w7)
    | 8 => exact (List.getElem?_eq_getElem (by omega)).trans (congrArg some w8)
    | 9 => exact (List.getElem?_eq_getElem (by omega)).trans (congrArg some w9)
    | 10 => exact (List.getElem?_eq_getElem (by omega)).trans (congrArg some w10)
    | 11 => exact (List.getElem?_eq_getElem (by omega)).trans (congrArg some (w11.trans (by rw [List.length_map])))
    | 12 => exact (List.getElem?_eq_getElem (by omega)).trans (congrArg some w12)
    | 13 => exact (List.getElem?_eq_getElem (by omega)).trans (congrArg some w13)
    | 14 => exact (List.getElem?_eq_getElem (by omega)).trans (congrArg some w14)
    | 15 => exact (List.getElem?_eq_getElem (by omega)).trans (congrArg some w15)
    | 16 => exact (List.getElem?_eq_getElem (by omega)).trans (congrArg some w16)
    | i + 17 => rw [List.getElem?_eq_none (by omega), List.getElem?_eq_none (by simp [dlA])]
  · have h0' : 0 < L.length := by simpa using h0
    obtain ⟨g, off, e, hg, hcl⟩ := hrow h0'
    refine ⟨g, off, e, hg, fun i b hbi => ?_⟩
    rw [show (⟨z0, z1, z2, z3, z4, z5, z6, z7, z8, z9, z10, L.map (·.1), z12, z13, z14, z15, z16⟩ : Dl).box = L.map (·.1) from rfl, List.getElem?_map] at hbi
    obtain ⟨t, ht, rfl⟩ := Option.map_eq_some_iff.1 hbi
    obtain ⟨e', _, hq⟩ := hE i t ht
    exact ⟨t.2.1, t.2.2, hcl i t ht 0 (by omega), hcl i t ht 1 (by omega), hcl i t ht 2 (by omega), hq.1, hq.2.1⟩
  · simp only [List.mem_cons, List.not_mem_nil, or_false] at hs
    rcases hs with rfl | rfl | rfl | rfl | rfl | rfl | rfl | rfl | rfl | rfl <;> assumption
  · simp only [List.mem_cons, List.not_mem_nil, or_false] at hn
    rcases hn with rfl | rfl | rfl | rfl | rfl | rfl
    · exact wf_i64 v10
    · exact wf_i64 v12
    · exact wf_i64 v13
    · exact wf_i64 v14
    · exact wf_i64 v15
    · exact wf_i64 v16
end
theorem open_deal {H : Type} {enc : TypeId × Value → H} {W : World} {base : Nat} {v : Value} {d : DataW H} {p : List MemPlace} {spare : Nat → Bool} {held : Bool} {b0 : Nat}
    (hv : Value.okWide Tryz.prog W .any b0 72 v) (h : DataW.Trod enc Tryz.prog W base spare held 72 v d p) (hb : Rows.uptoBulk d ≤ 1048576) :
    ∃ (x : Dl) (A : Option Addr) (c : Nat), v = .agg (dlA x A c) ∧ Bxs W W.heap.size A x.box ∧ GoodD x ∧ (A = none → c = 0) := by
  obtain ⟨cs, rfl, _⟩ := okWide_struct hSDeal hv
  obtain ⟨fuel, hf⟩ := h
  obtain ⟨x, A, c, hc, hN, hg⟩ := deal_one hf hb
  refine ⟨x, A, c, ?_, hN, hg⟩
  congr 1
  rw [← Array.toList_inj]
  simpa [Value.cells] using hc
end Go.Proofs.YtchkdidpnjakeaaGreatDoor
