/- A setup, calls as arguments, their bulk bounded. A setup that was read is of bounded size; the first eight blocks are the variables'. What the row's list gives; a world for its witness. -/
import Derived.Test.YtchkdidpnjakeaaGreatDoorWOpen
import Derived.Test.YtchkdidpnjakeaaGreatDoorGBCloneI
import Derived.Test.YtchkdidpnjakeaaGreatDoorGMAwk
import Derived.Deep.DeepHandedRow
import Derived.Test.YtchkdidpnjakeaaGreatDoorCards
import Derived.Test.YtchkdidpnjakeaaGreatDoorGAKey
import Derived.ProofKit
import Derived.OpenShut
import Derived.Deep.DeepWitnessRowRef
import Derived.Stop.LaidErr
import Derived.Lib.LaidTab
import Derived.Shelf.Vars
namespace Go.Proofs.YtchkdidpnjakeaaGreatDoor
open Go.ChangeShapes Go.WideShapes Go.ChangeAt Go.RowKit Go.Deep Go.Lib
set_option linter.unusedVariables false
set_option maxRecDepth 100000

theorem hSParty : Tryz.prog.underlying 38 = some (.struct (Tryz.prog.fieldsOf 38)) := by kernel_rfl
theorem cellsParty : Tryz.prog.cellsOf 38 = 3 := by kernel_rfl
theorem layParty : (Tryz.prog.fieldsOf 38).map (fun f => (f.type, f.offset)) = #[(9, 0), (9, 1), (3, 2)] := by kernel_rfl
theorem hSEntry : Tryz.prog.underlying 51 = some (.struct (Tryz.prog.fieldsOf 51)) := by kernel_rfl
theorem cellsEntry : Tryz.prog.cellsOf 51 = 3 := by kernel_rfl
theorem layEntry : (Tryz.prog.fieldsOf 51).map (fun f => (f.type, f.offset)) = #[(9, 0), (9, 1), (2, 2)] := by kernel_rfl
theorem hSCal : Tryz.prog.underlying 27 = some (.struct (Tryz.prog.fieldsOf 27)) := by kernel_rfl
theorem cellsCal : Tryz.prog.cellsOf 27 = 2 := by kernel_rfl
theorem layCal : (Tryz.prog.fieldsOf 27).map (fun f => (f.type, f.offset)) = #[(25, 0), (25, 1)] := by kernel_rfl
theorem hSSetup : Tryz.prog.underlying 29 = some (.struct (Tryz.prog.fieldsOf 29)) := by kernel_rfl
theorem cellsSetup : Tryz.prog.cellsOf 29 = 5 := by kernel_rfl
theorem laySetup : (Tryz.prog.fieldsOf 29).map (fun f => (f.type, f.offset)) = #[(22, 0), (23, 1), (24, 2), (27, 3)] := by kernel_rfl
theorem cellsIntsO : Tryz.prog.cellsOf 25 = 1 := by kernel_rfl
theorem cellsPartiesO : Tryz.prog.cellsOf 22 = 1 := by kernel_rfl
theorem cellsDealsO : Tryz.prog.cellsOf 23 = 1 := by kernel_rfl
theorem cellsEntriesO : Tryz.prog.cellsOf 24 = 1 := by kernel_rfl
instance : Inhabited Py := ⟨⟨⟨#[]⟩, ⟨#[]⟩, 0⟩⟩
instance : Inhabited Led.Ent := ⟨⟨⟨#[]⟩, ⟨#[]⟩, 0⟩⟩
instance : Inhabited Dl := ⟨⟨⟨#[]⟩, ⟨#[]⟩, ⟨#[]⟩, ⟨#[]⟩, ⟨#[]⟩, ⟨#[]⟩, ⟨#[]⟩, ⟨#[]⟩, ⟨#[]⟩, ⟨#[]⟩, 0, [], 0, 0, 0, 0, 0⟩⟩
section
variable {H : Type} {enc : TypeId × Value → H} {W : World} {base : Nat} {spare : Nat → Bool} {held : Bool} {fuel : Nat} {cs : List Value} {y : DataW H × List MemPlace}
theorem str_oneB (h : DataW.trod enc Tryz.prog W base spare held fuel 9 cs = some y) : ∃ x : ByteArray, cs = [Value.string x] ∧ cs.length = 1 ∧ True := by
  obtain ⟨z, hc, _, _⟩ := DataW.trod_string Tryz.underlying9 h
  exact ⟨z, hc, by rw [hc]; rfl, trivial⟩
theorem int_oneB (h : DataW.trod enc Tryz.prog W base spare held fuel 3 cs = some y) : ∃ x : Int, cs = [Value.int .i64 x] ∧ cs.length = 1 ∧ (-9223372036854775808 ≤ x ∧ x ≤ 9223372036854775807) := by
  obtain ⟨z, hc, _, hv⟩ := DataW.trod_int Tryz.underlying3 h
  exact ⟨z, hc, by rw [hc]; rfl, wf_i64 hv⟩
def PyIs (x : Py) : Prop := x.nm.size ≤ 1048576 ∧ x.bk.size ≤ 1048576 ∧ -9223372036854775808 ≤ x.kd ∧ x.kd ≤ 9223372036854775807
theorem party_oneB (h : DataW.trod enc Tryz.prog W base spare held fuel 38 cs = some y) (hb : Rows.uptoBulk y.1 ≤ 1048576) : ∃ x : Py, cs = [Value.string x.nm, Value.string x.bk, Value.int .i64 x.kd] ∧ cs.length = 3 ∧ PyIs x := by
  obtain ⟨ys, n', hn', hy, hlen, hyl, hf'⟩ := DataW.trod_struct hSParty h
  rw [cellsParty] at hlen
  have hsz : (Tryz.prog.fieldsOf 38).size = 3 := by kernel_rfl
  rw [hsz] at hyl
  obtain ⟨f0, e0, t0, o0⟩ := fld layParty (j := 0) rfl
  have g0 := hf' 0 f0 e0
  rw [t0, o0] at g0
  obtain ⟨f1, e1, t1, o1⟩ := fld layParty (j := 1) rfl
  have g1 := hf' 1 f1 e1
  rw [t1, o1] at g1
  obtain ⟨f2, e2, t2, o2⟩ := fld layParty (j := 2) rfl
  have g2 := hf' 2 f2 e2
  rw [t2, o2] at g2
  obtain ⟨z0, w0, x0, _⟩ := DataW.trod_string Tryz.underlying9 ((cell_fld cellsStrO (by omega) g0).trans (List.getElem?_eq_getElem (by omega)))
  have s0 := bulk_text x0 (Nat.le_trans (bulk_field hy (by omega)) hb)
  obtain ⟨z1, w1, x1, _⟩ := DataW.trod_string Tryz.underlying9 ((cell_fld cellsStrO (by omega) g1).trans (List.getElem?_eq_getElem (by omega)))
  have s1 := bulk_text x1 (Nat.le_trans (bulk_field hy (by omega)) hb)
  obtain ⟨z2, w2, _, v2⟩ := DataW.trod_int Tryz.underlying3 ((cell_fld cellsIntO (by omega) g2).trans (List.getElem?_eq_getElem (by omega)))
  have v2 := wf_i64 v2
  simp only [List.cons.injEq, and_true] at w0 w1 w2
  refine ⟨⟨z0, z1, z2⟩, ?_, hlen, s0, s1, v2⟩
  · apply List.ext_getElem?
    intro i
    match i with
    | 0 => exact (List.getElem?_eq_getElem (by omega)).trans (congrArg some w0)
    | 1 => exact (List.getElem?_eq_getElem (by omega)).trans (congrArg some w1)
    | 2 => exact (List.getElem?_eq_getElem (by omega)).trans (congrArg some w2)
    | i + 3 => rw [List.getElem?_eq_none (by omega), List.getElem?_eq_none (by simp)]
def EnIs (x : Led.Ent) : Prop := x.acc.size ≤ 1048576 ∧ x.cur.size ≤ 1048576 ∧ -9223372036854775808 ≤ x.n ∧ x.n ≤ 9223372036854775807
theorem entry_oneB (h : DataW.trod enc Tryz.prog W base spare held fuel 51 cs = some y) (hb : Rows.uptoBulk y.1 ≤ 1048576) : ∃ x : Led.Ent, cs = [Value.string x.acc, Value.string x.cur, Value.int .i64 x.n] ∧ cs.length = 3 ∧ EnIs x := by
  obtain ⟨ys, n', hn', hy, hlen, hyl, hf'⟩ := DataW.trod_struct hSEntry h
  rw [cellsEntry] at hlen
  have hsz : (Tryz.prog.fieldsOf 51).size = 3 := by kernel_rfl
  rw [hsz] at hyl
  obtain ⟨f0, e0, t0, o0⟩ := fld layEntry (j := 0) rfl
  have g0 := hf' 0 f0 e0
  rw [t0, o0] at g0
  obtain ⟨f1, e1, t1, o1⟩ := fld layEntry (j := 1) rfl
  have g1 := hf' 1 f1 e1
  rw [t1, o1] at g1
  obtain ⟨f2, e2, t2, o2⟩ := fld layEntry (j := 2) rfl
  have g2 := hf' 2 f2 e2
  rw [t2, o2] at g2
  obtain ⟨z0, w0, x0, _⟩ := DataW.trod_string Tryz.underlying9 ((cell_fld cellsStrO (by omega) g0).trans (List.getElem?_eq_getElem (by omega)))
  have s0 := bulk_text x0 (Nat.le_trans (bulk_field hy (by omega)) hb)
  obtain ⟨z1, w1, x1, _⟩ := DataW.trod_string Tryz.underlying9 ((cell_fld cellsStrO (by omega) g1).trans (List.getElem?_eq_getElem (by omega)))
  have s1 := bulk_text x1 (Nat.le_trans (bulk_field hy (by omega)) hb)
  obtain ⟨z2, w2, _, v2⟩ := DataW.trod_int Tryz.underlying2 ((cell_fld cellsI64O (by omega) g2).trans (List.getElem?_eq_getElem (by omega)))
  have v2 := wf_i64 v2
  simp only [List.cons.injEq, and_true] at w0 w1 w2
  refine ⟨⟨z0, z1, z2⟩, ?_, hlen, s0, s1, v2⟩
  · apply List.ext_getElem?
    intro i
    match i with
    | 0 => exact (List.getElem?_eq_getElem (by omega)).trans (congrArg some w0)
    | 1 => exact (List.getElem?_eq_getElem (by omega)).trans (congrArg some w1)
    | 2 => exact (List.getElem?_eq_getElem (by omega)).trans (congrArg some w2)
    | i + 3 => rw [List.getElem?_eq_none (by omega), List.getElem?_eq_none (by simp)]
abbrev Dl3 := Dl × Option Addr × Nat
def DlIs (W : World) (t : Dl3) : Prop := Bxs W W.heap.size t.2.1 t.1.box ∧ GoodD t.1
theorem deal_oneB (h : DataW.trod enc Tryz.prog W base spare held fuel 72 cs = some y) (hb : Rows.uptoBulk y.1 ≤ 1048576) : ∃ t : Dl3, cs = (dlA t.1 t.2.1 t.2.2).toList ∧ cs.length = 17 ∧ DlIs W t := by
  obtain ⟨d, A, c, h1, h2, h3, h4⟩ := deal_one h hb
  exact ⟨(d, A, c), h1, by rw [h1]; rfl, h2, h3⟩
/-- a setup as an argument -/
structure SuIs (W : World) (u : Su) (a : Sa) : Prop where
  at_ : SuAt W W.heap.size u a
  par : u.par.length ≤ 1048576
  dl : u.dl.length ≤ 1048576
  fd : u.fd.length ≤ 1048576
  rest : u.rest.length ≤ 1048576
  hol : u.hol.length ≤ 1048576
  py : ∀ x ∈ u.par, PyIs x
  dls : ∀ d ∈ u.dl, GoodD d
  fds : ∀ x ∈ u.fd, EnIs x
theorem cal_oneB (h : DataW.trod enc Tryz.prog W base spare held fuel 27 cs = some y) (hb : Rows.uptoBulk y.1 ≤ 1048576) : ∃ (RA HA : Option Addr) (rc hc : Nat) (R M : List Int), cs = [Value.slice RA R.length rc, Value.slice HA M.length hc] ∧ It W W.heap.size RA R ∧ It W W.heap.size HA M ∧ R.length ≤ 1048576 ∧ M.length ≤ 1048576 := by
  obtain ⟨ys, n', hn', hy, hlen, hyl, hf'⟩ := DataW.trod_struct hSCal h
  rw [cellsCal] at hlen
  have hsz : (Tryz.prog.fieldsOf 27).size = 2 := by kernel_rfl
  rw [hsz] at hyl
  obtain ⟨f0, e0, t0, o0⟩ := fld layCal (j := 0) rfl
  have g0 := hf' 0 f0 e0
  rw [t0, o0] at g0
  obtain ⟨f1, e1, t1, o1⟩ := fld layCal (j := 1) rfl
  have g1 := hf' 1 f1 e1
  rw [t1, o1] at g1
  have k0 : Rows.uptoBulk (ys[0]'(by omega)).1 ≤ Rows.uptoBulk y.1 := bulk_field hy (by omega)
  obtain ⟨A0, c0, L0, E0, w0, hA0, hrow0, hEl0, hEb0, hE0⟩ := slice_rows (n := 1) Tryz.underlying25 cellsIntO (by omega) (fun x : Int => [Value.int .i64 x]) (fun x _ => -9223372036854775808 ≤ x ∧ x ≤ 9223372036854775807) 1048576 (fun fuel cs z hz hzb => int_oneB hz) ((cell_fld cellsIntsO (by omega) g0).trans (List.getElem?_eq_getElem (by omega))) (Nat.le_trans k0 hb)
  have hl0 : L0.length ≤ 1048576 := by have h1 := bulk_len E0; omega
  have k1 : Rows.uptoBulk (ys[1]'(by omega)).1 ≤ Rows.uptoBulk y.1 := bulk_field hy (by omega)
  obtain ⟨A1, c1, L1, E1, w1, hA1, hrow1, hEl1, hEb1, hE1⟩ := slice_rows (n := 1) Tryz.underlying25 cellsIntO (by omega) (fun x : Int => [Value.int .i64 x]) (fun x _ => -9223372036854775808 ≤ x ∧ x ≤ 9223372036854775807) 1048576 (fun fuel cs z hz hzb => int_oneB hz) ((cell_fld cellsIntsO (by omega) g1).trans (List.getElem?_eq_getElem (by omega))) (Nat.le_trans k1 hb)
  have hl1 : L1.length ≤ 1048576 := by have h1 := bulk_len E1; omega
  simp only [List.cons.injEq, and_true] at w0 w1
  refine ⟨A0, A1, c0, c1, L0, L1, ?_, fun h0 => ?_, fun h0 => ?_, hl0, hl1⟩
  · apply List.ext_getElem?
    intro i
    match i with
    | 0 => exact (List.getElem?_eq_getElem (by omega)).trans (congrArg some w0)
    | 1 => exact (List.getElem?_eq_getElem (by omega)).trans (congrArg some w1)
    | i + 2 => rw [List.getElem?_eq_none (by omega), List.getElem?_eq_none (by simp)]
  · obtain ⟨g, off, e, hg, hcl⟩ := hrow0 h0
    exact ⟨g, off, e, hg, fun i x hx => by have := hcl i x hx 0 (by omega); simpa using this⟩
  · obtain ⟨g, off, e, hg, hcl⟩ := hrow1 h0
    exact ⟨g, off, e, hg, fun i x hx => by have := hcl i x hx 0 (by omega); simpa using this⟩
theorem setup_oneB (h : DataW.trod enc Tryz.prog W base spare held fuel 29 cs = some y) (hb : Rows.uptoBulk y.1 ≤ 1048576) : ∃ (u : Su) (a : Sa), cs = [Value.slice a.PA u.par.length a.pc, .slice a.DA u.dl.length a.dc, .slice a.FA u.fd.length a.fc, .slice a.RA u.rest.length a.rc, .slice a.HA u.hol.length a.hc] ∧ SuIs W u a := by
  obtain ⟨ys, n', hn', hy, hlen, hyl, hf'⟩ := DataW.trod_struct hSSetup h
  rw [cellsSetup] at hlen
  have hsz : (Tryz.prog.fieldsOf 29).size = 4 := by kernel_rfl
  rw [hsz] at hyl
  obtain ⟨f0, e0, t0, o0⟩ := fld laySetup (j := 0) rfl
  have g0 := hf' 0 f0 e0
  rw [t0, o0] at g0
  obtain ⟨f1, e1, t1, o1⟩ := fld laySetup (j := 1) rfl
  have g1 := hf' 1 f1 e1
  rw [t1, o1] at g1
  obtain ⟨f2, e2, t2, o2⟩ := fld laySetup (j := 2) rfl
  have g2 := hf' 2 f2 e2
  rw [t2, o2] at g2
  obtain ⟨f3, e3, t3, o3⟩ := fld laySetup (j := 3) rfl
  have g3 := hf' 3 f3 e3
  rw [t3, o3] at g3
  have k0 : Rows.uptoBulk (ys[0]'(by omega)).1 ≤ Rows.uptoBulk y.1 := bulk_field hy (by omega)
  obtain ⟨A0, c0, L0, E0, w0, hA0, hrow0, hEl0, hEb0, hE0⟩ := slice_rows (n := 3) Tryz.underlying22 cellsParty (by omega) (fun x : Py => [Value.string x.nm, Value.string x.bk, Value.int .i64 x.kd]) (fun x _ => PyIs x) 1048576 (fun fuel cs z hz hzb => party_oneB hz hzb) ((cell_fld cellsPartiesO (by omega) g0).trans (List.getElem?_eq_getElem (by omega))) (Nat.le_trans k0 hb)
  have hl0 : L0.length ≤ 1048576 := by have h1 := bulk_len E0; omega
  have k1 : Rows.uptoBulk (ys[1]'(by omega)).1 ≤ Rows.uptoBulk y.1 := bulk_field hy (by omega)
  obtain ⟨A1, c1, L1, E1, w1, hA1, hrow1, hEl1, hEb1, hE1⟩ := slice_rows (n := 17) Tryz.underlying23 cellsDeal (by omega) (fun t : Dl3 => (dlA t.1 t.2.1 t.2.2).toList) (fun t _ => DlIs W t) 1048576 (fun fuel cs z hz hzb => deal_oneB hz hzb) ((cell_fld cellsDealsO (by omega) g1).trans (List.getElem?_eq_getElem (by omega))) (Nat.le_trans k1 hb)
  have hl1 : L1.length ≤ 1048576 := by have h1 := bulk_len E1; omega
  have k2 : Rows.uptoBulk (ys[2]'(by omega)).1 ≤ Rows.uptoBulk y.1 := bulk_field hy (by omega)
  obtain ⟨A2, c2, L2, E2, w2, hA2, hrow2, hEl2, hEb2, hE2⟩ := slice_rows (n := 3) Tryz.underlying24 cellsEntry (by omega) (fun x : Led.Ent => [Value.string x.acc, Value.string x.cur, Value.int .i64 x.n]) (fun x _ => EnIs x) 1048576 (fun fuel cs z hz hzb => entry_oneB hz hzb) ((cell_fld cellsEntriesO (by omega) g2).trans (List.getElem?_eq_getElem (by omega))) (Nat.le_trans k2 hb)
  have hl2 : L2.length ≤ 1048576 := by have h1 := bulk_len E2; omega
  rw [cellsCal] at g3
  have k3 : Rows.uptoBulk (ys[3]'(by omega)).1 ≤ Rows.uptoBulk y.1 := bulk_field hy (by omega)
  obtain ⟨RA, HA, rc, hc, R, M, hq, hR, hM, hRl, hMl⟩ := cal_oneB (g3.trans (List.getElem?_eq_getElem (by omega))) (Nat.le_trans k3 hb)
  simp only [List.cons.injEq, and_true] at w0 w1 w2
  have e3 : cs[3]? = some (Value.slice RA R.length rc) := by
    have h1 : ((cs.drop 3).take 2)[0]? = some (Value.slice RA R.length rc) := by rw [hq]; rfl
    rwa [List.getElem?_take_of_lt (by omega), List.getElem?_drop] at h1
  have e4 : cs[4]? = some (Value.slice HA M.length hc) := by
    have h1 : ((cs.drop 3).take 2)[1]? = some (Value.slice HA M.length hc) := by rw [hq]; rfl
    rwa [List.getElem?_take_of_lt (by omega), List.getElem?_drop] at h1
  refine ⟨⟨L0, L1.map (·.1), L2, R, M⟩, ⟨A0, c0, A1, c1, A2, c2, RA, rc, HA, hc⟩, ?_, ⟨⟨fun h0 => ?_, fun h0 => ?_, fun h0 => ?_, hR, hM⟩, hl0, by rw [List.length_map]; exact hl1, hl2, hRl, hMl, fun x hx => ?_, fun d hd => ?_, fun x hx => ?_⟩⟩
  · apply List.ext_getElem?
    intro i
    match i with
    | 0 => exact (List.getElem?_eq_getElem (by omega)).trans (congrArg some w0)
    | 1 => exact (List.getElem?_eq_getElem (by omega)).trans (congrArg some (w1.trans (by rw [List.length_map])))
    | 2 => exact (List.getElem?_eq_getElem (by omega)).trans (congrArg some w2)
    | 3 => exact e3
    | 4 => exact e4
    | i + 5 => rw [List.getElem?_eq_none (by omega), List.getElem?_eq_none (by simp)]
  · obtain ⟨g, off, e, hg, hcl⟩ := hrow0 h0
    exact ⟨g, off, e, hg, fun i x hx => ⟨hcl i x hx 0 (by omega), hcl i x hx 1 (by omega), hcl i x hx 2 (by omega)⟩⟩
  · have h0' : 0 < L1.length := by simpa using h0
    obtain ⟨g, off, e, hg, hcl⟩ := hrow1 h0'
    refine ⟨g, off, e, hg, fun i d hd => ?_⟩
    rw [show (⟨L0, L1.map (·.1), L2, R, M⟩ : Su).dl = L1.map (·.1) from rfl, List.getElem?_map] at hd
    obtain ⟨t, ht, rfl⟩ := Option.map_eq_some_iff.1 hd
    obtain ⟨e', _, hq⟩ := hE1 i t ht
    refine ⟨t.2.1, t.2.2, fun j v hv => ?_, hq.1, fun hn => ?_⟩
    · have hj : j < 17 := (Array.getElem?_eq_some_iff.1 hv).1
      have := hcl i t ht j hj
      rw [this, Array.getElem?_toList]
      exact hv
    · by_cases h2 : 0 < t.1.box.length
      · obtain ⟨g2, off2, e2, _⟩ := hq.1 h2
        rw [hn] at e2
        cases e2
      · omega
  · obtain ⟨g, off, e, hg, hcl⟩ := hrow2 h0
    exact ⟨g, off, e, hg, fun i x hx => ⟨hcl i x hx 0 (by omega), hcl i x hx 1 (by omega), hcl i x hx 2 (by omega)⟩⟩
  · obtain ⟨i, hi⟩ := List.getElem?_of_mem hx
    obtain ⟨e, _, hq⟩ := hE0 i x hi
    exact hq
  · obtain ⟨t, ht, rfl⟩ := List.mem_map.1 hd
    obtain ⟨i, hi⟩ := List.getElem?_of_mem ht
    obtain ⟨e, _, hq⟩ := hE1 i t hi
    exact hq.2
  · obtain ⟨i, hi⟩ := List.getElem?_of_mem hx
    obtain ⟨e, _, hq⟩ := hE2 i x hi
    exact hq
end
theorem open_setup {H : Type} {enc : TypeId × Value → H} {W : World} {base : Nat} {v : Value} {d : DataW H} {p : List MemPlace} {spare : Nat → Bool} {held : Bool} {b0 : Nat}
    (hv : Value.okWide Tryz.prog W .any b0 29 v) (h : DataW.Trod enc Tryz.prog W base spare held 29 v d p) (hb : Rows.uptoBulk d ≤ 1048576) :
    ∃ (u : Su) (a : Sa), v = .agg #[.slice a.PA u.par.length a.pc, .slice a.DA u.dl.length a.dc, .slice a.FA u.fd.length a.fc, .slice a.RA u.rest.length a.rc, .slice a.HA u.hol.length a.hc] ∧ SuIs W u a := by
  obtain ⟨cs, rfl, _⟩ := okWide_struct hSSetup hv
  obtain ⟨fuel, hf⟩ := h
  obtain ⟨u, a, hc, hI⟩ := setup_oneB hf hb
  refine ⟨u, a, ?_, hI⟩
  congr 1
  rw [← Array.toList_inj]
  simpa [Value.cells] using hc
end Go.Proofs.YtchkdidpnjakeaaGreatDoor
namespace Go.Proofs.YtchkdidpnjakeaaGreatDoor
open Go.ChangeShapes Go.WideShapes Go.ChangeAt Go.RowKit Go.Deep Go.Lib
set_option linter.unusedVariables false
set_option maxRecDepth 100000

theorem SuIs.b {W : World} {u : Su} {a : Sa} (h : SuIs W u a) : SuB u := by
  refine ⟨Nat.le_trans h.par (by omega), Nat.le_trans h.dl (by omega), Nat.le_trans h.fd (by omega), Nat.le_trans h.rest (by omega), Nat.le_trans h.hol (by omega), fun d hd => ⟨?_, fun b hb => ?_⟩⟩
  · have := (h.dls d hd).box.few
    omega
  · have h1 := lots_le d.box b hb
    have h2 := (h.dls d hd).box.lots.1
    omega
theorem SuIs.sz {W : World} {u : Su} {a : Sa} (h : SuIs W u a) (hf : FewU u) : SuSz u := by
  have hm : 1048576 ≤ maxLen := by unfold maxLen; omega
  refine ⟨hf, fun p hp => ?_, ⟨hf.dl, fun d hd s hs => ?_, fun d hd => (h.b.box d hd).1, fun d hd b hb => ⟨?_, (h.b.box d hd).2 b hb, fun x hx => ?_⟩⟩, ⟨hf.fd, fun f hf => ?_⟩⟩
  · have := h.py p hp
    exact ⟨Nat.le_trans this.1 hm, Nat.le_trans this.2.1 hm⟩
  · exact Nat.le_trans ((h.dls d hd).str s hs) hm
  · exact Nat.le_trans ((h.dls d hd).box.mark b hb) hm
  · exact Nat.le_trans (((h.dls d hd).box.of_mem hb).2 x hx).1 hm
  · have := h.fds f hf
    exact ⟨Nat.le_trans this.1 hm, Nat.le_trans this.2.1 hm⟩
theorem eight {W : World} (h : W.ShapedOpen Tryz.prog) : 8 ≤ W.heap.size := by
  have h7 : (((begin Tryz.prog (fun _ _ => 0) default).world.heap[7]?).bind Obj.row?).isSome = true := by kernel_rfl
  obtain ⟨⟨zero, t⟩, h7⟩ := Option.isSome_iff_exists.1 h7
  obtain ⟨cs, hc, _⟩ := h.1 7 zero t (of_decide_eq_true (by kernel_rfl)) h7
  have := (Array.getElem?_eq_some_iff.1 hc).1
  omega
end Go.Proofs.YtchkdidpnjakeaaGreatDoor
namespace Go.Proofs.YtchkdidpnjakeaaGreatDoor
open Go.ChangeShapes Go.WideShapes Go.ChangeAt Go.RowKit Go.Deep Go.Lib
set_option linter.unusedVariables false
set_option maxRecDepth 100000

theorem own : ownKnob Tryz.prog.godebug = none := by kernel_rfl
theorem laidOutK : laidOutB Tryz.prog = true := Led.laidOut
def litsOf (d : DataW Unit) : Array Value := match d with
  | .agg l => (l.map fun x => match x with
    | .lit (.string z) => Value.string ⟨z.toArray⟩
    | .lit (.int k v) => Value.int k v
    | _ => Value.bool false).toArray
  | _ => #[]
def relaid (cs : Array Value) (o : Obj) : Obj := match o with
  | .cells _ t frozen => .cells cs t frozen
  | o => o
abbrev rangeS : ByteArray := { data := #[118, 97, 108, 117, 101, 32, 111, 117, 116, 32, 111, 102, 32, 114, 97, 110, 103, 101] }
abbrev syntaxS : ByteArray := { data := #[105, 110, 118, 97, 108, 105, 100, 32, 115, 121, 110, 116, 97, 120] }
noncomputable def low : Nat := (World.holding Tryz.prog default ⟨#[], #[], []⟩).heap.size
/-- a world for the witness: the settled one, the variables holding what their initialisers lay -/
noncomputable def laidWorld (os : Os) : World :=
  let w0 := World.holding Tryz.prog os ⟨#[.cells #[.string rangeS] 376, .cells #[.string syntaxS] 376], #[], []⟩
  { w0 with heap := (((((((w0.heap.modify 0 (relaid (litsOf Rows.laid_supercargo_post_kinds))).modify 1 (relaid (litsOf Rows.laid_supercargo_field_kinds))).modify 2 (relaid (litsOf Rows.laid_internal_strconv_uint64pow10))).modify 6 (relaid (litsOf Rows.laid_math_bits_deBruijn32tab))).modify 7 (relaid (litsOf Rows.laid_math_bits_deBruijn64tab))).modify 3 (relaid #[.iface 374 (.pointer (some ⟨low + 1, 0, none⟩))])).modify 4 (relaid #[.iface 374 (.pointer (some ⟨low, 0, none⟩))])) }
end Go.Proofs.YtchkdidpnjakeaaGreatDoor
