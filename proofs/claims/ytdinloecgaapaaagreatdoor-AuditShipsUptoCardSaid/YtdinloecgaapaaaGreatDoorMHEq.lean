/- What audit and the document tell of a carrier is one, plain. Names and acts as arguments, their bulk bounded. -/
import Derived.Test.YtdinloecgaapaaaGreatDoorMHDoc
import Derived.Test.YtdinloecgaapaaaGreatDoorMRPut
import Derived.Test.YtdinloecgaapaaaGreatDoorRows
import Derived.ProofKit
import Derived.OpenShut
import Derived.Deep.DeepHandedRow
import Derived.ShutString
import Derived.ChangeOld
import Derived.Deep.Slices
import Derived.Deep.Fields
import Derived.ChangeSame
namespace Go.Proofs.YtdinloecgaapaaaGreatDoor
open Go.RowKit Go.Maps Go.Lib Go.Sort
set_option linter.unusedVariables false
set_option maxRecDepth 100000

/-- who has what, by a chain's boxes -/
def whL (H : ByteArray → List Hn) (keys : List ByteArray) : List Wh := keys.map fun s => (s, (whoOf H s).getD ⟨#[]⟩)
theorem whoOf_some (H : ByteArray → List Hn) (s : ByteArray) : (whoOf H s).isSome = true ↔ H s ≠ [] := by
  unfold whoOf
  rw [Option.isSome_map]
  cases h : H s with
  | nil => simp
  | cons x l => simp
theorem hasW_whL (H : ByteArray → List Hn) (s : ByteArray) : ∀ keys : List ByteArray, (s ∈ keys → hasW (whL H keys) s = some ((whoOf H s).getD ⟨#[]⟩)) ∧ (s ∉ keys → hasW (whL H keys) s = none) := by
  intro keys
  induction keys with
  | nil => exact ⟨fun h => (by cases h), fun _ => rfl⟩
  | cons k keys ih =>
    unfold hasW whL at ih ⊢
    rw [List.map_cons, List.find?_cons]
    by_cases e : k = s
    · subst e
      exact ⟨fun _ => by simp, fun h => absurd (List.mem_cons_self ..) h⟩
    · rw [show decide ((k, (whoOf H k).getD ⟨#[]⟩).1 = s) = false from decide_eq_false e]
      simp only
      refine ⟨fun h => ih.1 ?_, fun h => ih.2 fun h2 => h (List.mem_cons_of_mem _ h2)⟩
      rcases List.mem_cons.1 h with rfl | h
      · exact absurd rfl e
      · exact h
theorem has_who (H : ByteArray → List Hn) (keys : List ByteArray) (h : ∀ s, s ∈ keys ↔ H s ≠ []) : hasW (whL H keys) = whoOf H := by
  funext s
  by_cases h0 : H s = []
  · rw [(hasW_whL H s keys).2 fun h2 => (h s).1 h2 h0]
    unfold whoOf
    rw [h0]
    rfl
  · rw [(hasW_whL H s keys).1 ((h s).2 h0)]
    obtain ⟨y, hy⟩ := Option.isSome_iff_exists.1 ((whoOf_some H s).2 h0)
    rw [hy]
    rfl
theorem live_any (G : ByteArray → Option (Option Nat)) (S : Nat → Option En) (BL : List Bm) (hent : ∀ k v, G k = some v → ∃ e x, v = some e ∧ S e = some x) (hB : ∀ x, (∃ m ∈ BL, m.x = x) ↔ ∃ k e, G k = some (some e) ∧ S e = some x) (s : ByteArray) : liveB (BL.map Bm.bl) s = true ↔ anyB G S (livE s) := by
  unfold liveB
  rw [List.any_eq_true]
  constructor
  · rintro ⟨y, hy, hl⟩
    obtain ⟨m, hm, rfl⟩ := List.mem_map.1 hy
    obtain ⟨k, e, hG, hS⟩ := (hB m.x).1 ⟨m, hm, rfl⟩
    refine ⟨k, ?_⟩
    rw [toldB_some hG hS]
    unfold livE
    rw [Bool.and_eq_true] at hl ⊢
    refine ⟨?_, (containsS_iff _ _).2 ((inS_iff _ _).1 hl.2)⟩
    have := of_decide_eq_true hl.1
    show (m.x.s == 0) = true
    rw [show m.x.s = 0 from this]
    rfl
  · rintro ⟨k, hk⟩
    obtain ⟨v0, hv0⟩ := Option.isSome_iff_exists.1 (toldB_is hk)
    obtain ⟨e0, x, rfl, hSe⟩ := hent _ _ hv0
    rw [toldB_some hv0 hSe] at hk
    obtain ⟨m, hm, hx⟩ := (hB x).2 ⟨k, e0, hv0, hSe⟩
    subst hx
    refine ⟨m.bl, List.mem_map.2 ⟨m, hm, rfl⟩, ?_⟩
    unfold livE at hk
    rw [Bool.and_eq_true] at hk ⊢
    exact ⟨decide_eq_true (show m.bl.s = 0 from (by simpa using hk.1 : m.x.s = 0)), (inS_iff _ _).2 ((containsS_iff _ _).1 hk.2)⟩
theorem bool_ext {a b : Bool} (h : a = true ↔ b = true) : a = b := by
  cases a <;> cases b <;> simp_all
/-- the plain law -/
theorem ship_law (name : ByteArray) (out : List Hn) (G : ByteArray → Option (Option Nat)) (S : Nat → Option En) (H : ByteArray → List Hn) (BL : List Bm) (keys M : List ByteArray) (D : Shp)
    (hent : ∀ k v, G k = some v → ∃ e x, v = some e ∧ S e = some x) (hB : ∀ x, (∃ m ∈ BL, m.x = x) ↔ ∃ k e, G k = some (some e) ∧ S e = some x) (hk : ∀ s, s ∈ keys ↔ H s ≠ []) (hM : Srt M) (hm : ∀ s, s ∈ M ↔ allB G S H out s)
    (h1 : D.name = name) (h2 : D.out = out) (h3 : D.wh = whoOf H) (h4 : ∀ q, D.su q = true ↔ surA G S q) (h5 : ∀ s, D.lv s = true ↔ anyB G S (livE s)) :
    docS D M = docS (docD name (whL H keys) out BL) (docM (whL H keys) out BL) := by
  have eD : D = docD name (whL H keys) out BL := by
    obtain ⟨n, o, wh, su, lv⟩ := D
    simp only at h1 h2 h3 h4 h5
    subst h1 h2 h3
    unfold docD
    rw [has_who H keys hk]
    congr 1
    · funext q
      refine bool_ext ?_
      rw [h4 q, surB_iff]
      constructor
      · rintro ⟨k, e, x, hG, hS, hs⟩
        obtain ⟨m, hm', rfl⟩ := (hB x).2 ⟨k, e, hG, hS⟩
        exact ⟨m, hm', hs⟩
      · rintro ⟨m, hm', hs⟩
        obtain ⟨k, e, hG, hS⟩ := (hB m.x).1 ⟨m, hm', rfl⟩
        exact ⟨k, e, m.x, hG, hS, hs⟩
    · funext s
      refine bool_ext ?_
      rw [h5 s, live_any G S BL hent hB s]
  have hd := docM_srt (whL H keys) out BL
  have eM : M = docM (whL H keys) out BL := by
    refine srt_unique _ _ hM hd.1 fun s => ?_
    rw [hm s, hd.2 s]
    unfold allB
    refine or_congr ?_ (or_congr Iff.rfl ?_)
    · rw [← hk s]
      unfold whL
      simp only [List.mem_map]
      constructor
      · intro h
        exact ⟨_, ⟨s, h, rfl⟩, rfl⟩
      · rintro ⟨p, ⟨y, hy, rfl⟩, rfl⟩
        exact hy
    · constructor
      · rintro ⟨k, e, x, hG, hS, hs⟩
        obtain ⟨m, hm', rfl⟩ := (hB x).2 ⟨k, e, hG, hS⟩
        exact ⟨m, hm', hs⟩
      · rintro ⟨m, hm', hs⟩
        obtain ⟨k, e, hG, hS⟩ := (hB m.x).1 ⟨m, hm', rfl⟩
        exact ⟨k, e, m.x, hG, hS, hs⟩
  rw [eD, eM]
end Go.Proofs.YtdinloecgaapaaaGreatDoor
namespace Go.Proofs.YtdinloecgaapaaaGreatDoor
open Go.ChangeShapes Go.WideShapes Go.ChangeAt Go.RowKit Go.Deep Go.Lib
set_option linter.unusedVariables false
set_option maxRecDepth 100000

theorem fld {fs : Array Field} {L : Array (TypeId × Nat)} (h : fs.map (fun f => (f.type, f.offset)) = L) {j : Nat} {ty : TypeId} {off : Nat} (hj : L[j]? = some (ty, off)) : ∃ f, fs[j]? = some f ∧ f.type = ty ∧ f.offset = off := by
  rw [← h, Array.getElem?_map] at hj
  obtain ⟨f, hf, e⟩ := Option.map_eq_some_iff.1 hj
  injection e with e1 e2
  exact ⟨f, hf, e1, e2⟩
theorem one_atO {cs : List Value} {off : Nat} (h : off < cs.length) : (cs.drop off).take 1 = [cs[off]] := by
  rw [List.drop_eq_getElem_cons h]
  rfl
theorem cellsIntO : Tryz.prog.cellsOf 3 = 1 := by kernel_rfl
theorem cellsStrO : Tryz.prog.cellsOf 9 = 1 := by kernel_rfl
theorem cellsBoolO : Tryz.prog.cellsOf 4 = 1 := by kernel_rfl
section
variable {H : Type}
theorem bulk_one (d : DataW H) : 1 ≤ Rows.uptoBulk d := by
  cases d with
  | lit l => cases l <;> simp [Rows.uptoBulk]
  | nil => simp [Rows.uptoBulk]
  | ptr d => simp [Rows.uptoBulk]
  | slice elems spare => simp [Rows.uptoBulk]
  | agg parts => simp [Rows.uptoBulk]
  | iface t d => simp [Rows.uptoBulk]
  | map entries => simp [Rows.uptoBulk]
  | held h => simp [Rows.uptoBulk]
theorem bulk_part {d : DataW H} {l : List (DataW H)} (h : d ∈ l) : Rows.uptoBulk d ≤ Rows.uptoBulkAll l := by
  induction l with
  | nil => cases h
  | cons x r ih =>
    simp only [Rows.uptoBulkAll]
    cases List.mem_cons.1 h with
    | inl e => subst e; omega
    | inr e => have := ih e; omega
theorem bulk_len (l : List (DataW H)) : l.length ≤ Rows.uptoBulkAll l := by
  induction l with
  | nil => simp [Rows.uptoBulkAll]
  | cons x r ih => have := bulk_one x; simp only [Rows.uptoBulkAll, List.length_cons]; omega
theorem bulk_agg (l : List (DataW H)) : Rows.uptoBulkAll l ≤ Rows.uptoBulk (.agg l) := by
  simp only [Rows.uptoBulk]
  omega
theorem bulk_slice (l s : List (DataW H)) : Rows.uptoBulkAll l ≤ Rows.uptoBulk (.slice l s) := by
  simp only [Rows.uptoBulk]
  omega
theorem bulk_str (bytes : List UInt8) : Rows.uptoBulk (DataW.lit (H := H) (.string bytes)) = bytes.length + 1 := by
  simp [Rows.uptoBulk]
theorem bulk_field {ys : List (DataW H × List MemPlace)} {y : DataW H × List MemPlace} {m : List MemPlace} (hy : y = (.agg (ys.map (·.1)), m)) {j : Nat} (hj : j < ys.length) : Rows.uptoBulk (ys[j]).1 ≤ Rows.uptoBulk y.1 := by
  subst hy
  have h1 := bulk_part (d := (ys[j]).1) (l := ys.map (·.1)) (List.mem_map.2 ⟨_, List.getElem_mem hj, rfl⟩)
  have h2 := bulk_agg (ys.map (·.1))
  exact Nat.le_trans h1 h2
theorem bulk_text {d : DataW H × List MemPlace} {z : ByteArray} (hx : d = (.lit (.string z.data.toList), [])) {N : Nat} (h : Rows.uptoBulk d.1 ≤ N) : z.size ≤ N := by
  subst hx
  rw [bulk_str, Array.length_toList] at h
  show z.data.size ≤ N
  omega
end
section
variable {H : Type} {enc : TypeId × Value → H} {W : World} {base : Nat} {spare : Nat → Bool} {held : Bool} {fuel : Nat} {cs : List Value} {y : DataW H × List MemPlace}
/-- a slice whose elements are read alike -/
theorem slice_rows {α : Type} [Inhabited α] {sl el : TypeId} {n : Nat} (hu : Tryz.prog.underlying sl = some (.slice el)) (hc : Tryz.prog.cellsOf el = n) (h0 : 0 < n) (f : α → List Value) (Q : α → DataW H → Prop) (M : Nat)
    (hone : ∀ fuel cs z, DataW.trod enc Tryz.prog W base spare held fuel el cs = some z → Rows.uptoBulk z.1 ≤ M → ∃ x, cs = f x ∧ cs.length = n ∧ Q x z.1) (h : DataW.trod enc Tryz.prog W base spare held fuel sl cs = some y) (hM : Rows.uptoBulk y.1 ≤ M) :
    ∃ (A : Option Addr) (c : Nat) (L : List α) (E : List (DataW H)), cs = [.slice A L.length c] ∧ (A = none → c = 0) ∧ (0 < L.length → ∃ g off, A = some ⟨g, off, none⟩ ∧ g < W.heap.size ∧ ∀ (i : Nat) x, L[i]? = some x → ∀ j, j < n → W.cell? ⟨g, off + i * n + j, none⟩ = (f x)[j]?) ∧
      E.length = L.length ∧ Rows.uptoBulkAll E ≤ Rows.uptoBulk y.1 ∧ ∀ (i : Nat) x, L[i]? = some x → ∃ e, E[i]? = some e ∧ Q x e := by
  rcases DataW.trod_slice hu h with ⟨hv, hy⟩ | ⟨a, len, cap, elems, rest, n2, hn2, hv, x5, _, hlc, hcm, hel, hi, _, _⟩
  · subst hy
    exact ⟨none, 0, [], [], hv, fun _ => rfl, fun h => absurd h (by simp), rfl, by simp [Rows.uptoBulkAll], fun i x hx => by simp at hx⟩
  · rw [hc] at hi
    have hbE' : Rows.uptoBulkAll (elems.map (·.1)) ≤ Rows.uptoBulk y.1 := by
      rw [x5]
      exact bulk_slice _ _
    have hbE := Nat.le_trans hbE' hM
    have each : ∀ i, i < len → ∃ z : α, (∀ j, j < n → W.cell? ((a.add (i * n)).add j) = (f z)[j]?) ∧ ∃ e, (elems.map (·.1))[i]? = some e ∧ Q z e := by
      intro i hil
      have h1 := hi i hil
      rw [List.getElem?_eq_getElem (by omega)] at h1
      obtain ⟨cs', hcs, ht'⟩ := Option.bind_eq_some_iff.1 h1
      obtain ⟨x, rfl, hln, hQ⟩ := hone _ _ _ ht' (Nat.le_trans (bulk_part (List.mem_map.2 ⟨elems[i]'(by omega), List.getElem_mem _, rfl⟩)) hbE)
      obtain ⟨_, hcl, hat⟩ := World.cells?_some hcs
      exact ⟨x, fun j hj => hat j (by omega), _, by rw [List.getElem?_map, List.getElem?_eq_getElem (by omega)]; rfl, hQ⟩
    let F : Nat → α := fun i => if h : i < len then Classical.choose (each i h) else default
    have hfx : ∀ i, i < len → (∀ j, j < n → W.cell? ((a.add (i * n)).add j) = (f (F i))[j]?) ∧ ∃ e, (elems.map (·.1))[i]? = some e ∧ Q (F i) e := by
      intro i hil
      simp only [F, hil, dif_pos]
      exact Classical.choose_spec (each i hil)
    have hat : ∀ i y, ((List.range len).map F)[i]? = some y → i < len ∧ F i = y := by
      intro i y hy
      have hil : i < len := by have := (List.getElem?_eq_some_iff.1 hy).1; simpa using this
      rw [List.getElem?_map, List.getElem?_range hil] at hy
      exact ⟨hil, by simpa using hy⟩
    refine ⟨some a, cap, (List.range len).map F, elems.map (·.1), by rw [hv]; simp, fun h => (by cases h), fun h0' => ?_, by simpa using hel, hbE', fun i y hy => ?_⟩
    · have hl0 : 0 < len := by simpa using h0'
      obtain ⟨b, off, spot⟩ := a
      have c00 : ∃ v, W.cell? ((Addr.add ⟨b, off, spot⟩ (0 * n)).add 0) = some v := by
        have h1 := hi 0 hl0
        rw [List.getElem?_eq_getElem (by omega)] at h1
        obtain ⟨cs', hcs, ht'⟩ := Option.bind_eq_some_iff.1 h1
        obtain ⟨x, _, hln, hQ⟩ := hone _ _ _ ht' (Nat.le_trans (bulk_part (List.mem_map.2 ⟨elems[0]'(by omega), List.getElem_mem _, rfl⟩)) hbE)
        obtain ⟨_, hcl, hat⟩ := World.cells?_some hcs
        exact ⟨_, (hat 0 (by omega)).trans (List.getElem?_eq_getElem (by omega))⟩
      obtain ⟨v, c00⟩ := c00
      have hspot : spot = none := by
        have := World.cell?_spot c00
        simpa [Addr.add] using this
      subst hspot
      have hblk : b < W.heap.size := by
        have := World.block_lt_of_cell? W _ c00
        simpa [Addr.add] using this
      refine ⟨b, off, rfl, hblk, fun i y hy j hj => ?_⟩
      obtain ⟨hil, hyx⟩ := hat i y hy
      have := (hfx i hil).1 j hj
      rw [hyx, Go.Deep.add_add, Lib.add_plain] at this
      rw [Nat.add_assoc]
      exact this
    · obtain ⟨hil, hyx⟩ := hat i y hy
      have := (hfx i hil).2
      rw [hyx] at this
      exact this
theorem cell_fld {ty : TypeId} {n off : Nat} {z : Option (DataW H × List MemPlace)} (hc : Tryz.prog.cellsOf ty = 1) (ho : off < cs.length) (h : DataW.trod enc Tryz.prog W base spare held n ty ((cs.drop off).take (Tryz.prog.cellsOf ty)) = z) : DataW.trod enc Tryz.prog W base spare held n ty [cs[off]] = z := by
  rw [hc, one_atO ho] at h
  exact h
theorem cellsStrsO : Tryz.prog.cellsOf 22 = 1 := by kernel_rfl
theorem cellsActsO : Tryz.prog.cellsOf 28 = 1 := by kernel_rfl
instance : Inhabited ByteArray := ⟨⟨#[]⟩⟩
/-- a row of texts -/
theorem texts_one (h : DataW.trod enc Tryz.prog W base spare held fuel 22 cs = some y) (hb : Rows.uptoBulk y.1 ≤ 1048576) :
    ∃ (A : Option Addr) (c : Nat) (L : List ByteArray), cs = [.slice A L.length c] ∧ Rs W W.heap.size A L ∧ L.length ≤ 1048576 ∧ ∀ x ∈ L, x.size ≤ 1048576 := by
  obtain ⟨A, c, L, E, w2, hA, hrow, hEl, hEb, hE⟩ := slice_rows (n := 1) Tryz.underlying22 cellsStrO (by omega) (fun x : ByteArray => [Value.string x]) (fun x _ => x.size ≤ 1048576) 1048576 (fun fuel cs z hz hzb => by
    rcases cs with _ | ⟨c0, _ | ⟨c1, cs⟩⟩
    · obtain ⟨z0, w0, _⟩ := DataW.trod_string Tryz.underlying9 hz
      cases w0
    · obtain ⟨z0, w0, x0, _⟩ := DataW.trod_string Tryz.underlying9 hz
      exact ⟨z0, w0, rfl, bulk_text x0 hzb⟩
    · obtain ⟨z0, w0, _⟩ := DataW.trod_string Tryz.underlying9 hz
      cases w0) h hb
  refine ⟨A, c, L, w2, fun h0 => ?_, ?_, fun x hx => ?_⟩
  · obtain ⟨g, off, e, hg, hcl⟩ := hrow h0
    exact ⟨g, off, e, hg, fun i x hx => by
      have := hcl i x hx 0 (by omega)
      rw [Nat.mul_one, Nat.add_zero] at this
      exact this⟩
  · have h1 := bulk_len E
    omega
  · obtain ⟨i, hi⟩ := List.getElem?_of_mem hx
    obtain ⟨e, _, hq⟩ := hE i x hi
    exact hq
theorem hSBillO : Tryz.prog.underlying 59 = some (.struct (Tryz.prog.fieldsOf 59)) := by kernel_rfl
theorem cellsBillO : Tryz.prog.cellsOf 59 = 9 := by kernel_rfl
theorem layBillO : (Tryz.prog.fieldsOf 59).map (fun f => (f.type, f.offset)) = #[(9, 0), (9, 1), (9, 2), (9, 3), (9, 4), (22, 5), (22, 6), (3, 7), (4, 8)] := by kernel_rfl
theorem hSActO : Tryz.prog.underlying 61 = some (.struct (Tryz.prog.fieldsOf 61)) := by kernel_rfl
theorem cellsActO : Tryz.prog.cellsOf 61 = 15 := by kernel_rfl
theorem layActO : (Tryz.prog.fieldsOf 61).map (fun f => (f.type, f.offset)) = #[(3, 0), (3, 1), (3, 2), (9, 3), (9, 4), (9, 5), (59, 6)] := by kernel_rfl
theorem bill_one (h : DataW.trod enc Tryz.prog W base spare held fuel 59 cs = some y) (hb : Rows.uptoBulk y.1 ≤ 1048576) :
    ∃ x : En, cs = (blA x).toList ∧ cs.length = 9 ∧ Rs W W.heap.size x.A x.l ∧ Rs W W.heap.size x.PA x.p ∧ x.nu.size ≤ 1048576 ∧ x.sh.size ≤ 1048576 ∧ x.fr.size ≤ 1048576 ∧ x.to.size ≤ 1048576 ∧ x.l.length ≤ 1048576 ∧ x.p.length ≤ 1048576 := by
  obtain ⟨ys, n', hn', hy, hlen, hyl, hf'⟩ := DataW.trod_struct hSBillO h
  rw [cellsBillO] at hlen
  have hsz : (Tryz.prog.fieldsOf 59).size = 9 := by kernel_rfl
  rw [hsz] at hyl
  obtain ⟨f0, e0, t0, o0⟩ := fld layBillO (j := 0) rfl
  have g0 := hf' 0 f0 e0
  rw [t0, o0] at g0
  obtain ⟨z0, w0, x0, _⟩ := DataW.trod_string Tryz.underlying9 ((cell_fld cellsStrO (by omega) g0).trans (List.getElem?_eq_getElem (by omega)))
  have b0 := bulk_text x0 (Nat.le_trans (bulk_field hy (by omega)) hb)
  obtain ⟨f1, e1, t1, o1⟩ := fld layBillO (j := 1) rfl
  have g1 := hf' 1 f1 e1
  rw [t1, o1] at g1
  obtain ⟨z1, w1, x1, _⟩ := DataW.trod_string Tryz.underlying9 ((cell_fld cellsStrO (by omega) g1).trans (List.getElem?_eq_getElem (by omega)))
  have b1 := bulk_text x1 (Nat.le_trans (bulk_field hy (by omega)) hb)
  obtain ⟨f2, e2, t2, o2⟩ := fld layBillO (j := 2) rfl
  have g2 := hf' 2 f2 e2
  rw [t2, o2] at g2
  obtain ⟨z2, w2, x2, _⟩ := DataW.trod_string Tryz.underlying9 ((cell_fld cellsStrO (by omega) g2).trans (List.getElem?_eq_getElem (by omega)))
  have b2 := bulk_text x2 (Nat.le_trans (bulk_field hy (by omega)) hb)
  obtain ⟨f3, e3, t3, o3⟩ := fld layBillO (j := 3) rfl
  have g3 := hf' 3 f3 e3
  rw [t3, o3] at g3
  obtain ⟨z3, w3, x3, _⟩ := DataW.trod_string Tryz.underlying9 ((cell_fld cellsStrO (by omega) g3).trans (List.getElem?_eq_getElem (by omega)))
  have b3 := bulk_text x3 (Nat.le_trans (bulk_field hy (by omega)) hb)
  obtain ⟨f4, e4, t4, o4⟩ := fld layBillO (j := 4) rfl
  have g4 := hf' 4 f4 e4
  rw [t4, o4] at g4
  obtain ⟨z4, w4, x4, _⟩ := DataW.trod_string Tryz.underlying9 ((cell_fld cellsStrO (by omega) g4).trans (List.getElem?_eq_getElem (by omega)))
  have b4 := bulk_text x4 (Nat.le_trans (bulk_field hy (by omega)) hb)
  obtain ⟨f5, e5, t5, o5⟩ := fld layBillO (j := 5) rfl
  have g5 := hf' 5 f5 e5
  rw [t5, o5] at g5
  have k5 : Rows.uptoBulk (ys[5]'(by omega)).1 ≤ Rows.uptoBulk y.1 := bulk_field hy (by omega)
  obtain ⟨A5, c5, L5, w5, hr5, hl5, hs5⟩ := texts_one ((cell_fld cellsStrsO (by omega) g5).trans (List.getElem?_eq_getElem (by omega))) (Nat.le_trans k5 hb)
  obtain ⟨f6, e6, t6, o6⟩ := fld layBillO (j := 6) rfl
  have g6 := hf' 6 f6 e6
  rw [t6, o6] at g6
  have k6 : Rows.uptoBulk (ys[6]'(by omega)).1 ≤ Rows.uptoBulk y.1 := bulk_field hy (by omega)
  obtain ⟨A6, c6, L6, w6, hr6, hl6, hs6⟩ := texts_one ((cell_fld cellsStrsO (by omega) g6).trans (List.getElem?_eq_getElem (by omega))) (Nat.le_trans k6 hb)
  obtain ⟨f7, e7, t7, o7⟩ := fld layBillO (j := 7) rfl
  have g7 := hf' 7 f7 e7
  rw [t7, o7] at g7
  obtain ⟨z7, w7, _, s7⟩ := DataW.trod_int Tryz.underlying3 ((cell_fld cellsIntO (by omega) g7).trans (List.getElem?_eq_getElem (by omega)))
  obtain ⟨f8, e8, t8, o8⟩ := fld layBillO (j := 8) rfl
  have g8 := hf' 8 f8 e8
  rw [t8, o8] at g8
  obtain ⟨z8, w8, _⟩ := DataW.trod_bool Tryz.underlying4 ((cell_fld cellsBoolO (by omega) g8).trans (List.getElem?_eq_getElem (by omega)))
  simp only [List.cons.injEq, and_true] at w0 w1 w2 w3 w4 w5 w6 w7 w8
  refine ⟨⟨z0, z1, z2, z3, z4, A5, L5, c5, A6, L6, c6, z7, z8, 0, fun _ => ⟨0, ⟨#[]⟩, none, 0, 0⟩⟩, ?_, hlen, hr5, hr6, b0, b2, b3, b4, hl5, hl6⟩
  apply List.ext_getElem?
  intro i
  match i with
  | 0 => exact (List.getElem?_eq_getElem (by omega)).trans (congrArg some w0)
  | 1 => exact (List.getElem?_eq_getElem (by omega)).trans (congrArg some w1)
  | 2 => exact (List.getElem?_eq_getElem (by omega)).trans (congrArg some w2)
  | 3 => exact (List.getElem?_eq_getElem (by omega)).trans (congrArg some w3)
  | 4 => exact (List.getElem?_eq_getElem (by omega)).trans (congrArg some w4)
  | 5 => exact (List.getElem?_eq_getElem (by omega)).trans (congrArg some w5)
  | 6 => exact (List.getElem?_eq_getElem (by omega)).trans (congrArg some w6)
  | 7 => exact (List.getElem?_eq_getElem (by omega)).trans (congrArg some w7)
  | 8 => exact (List.getElem?_eq_getElem (by omega)).trans (congrArg some w8)
  | i + 9 => rw [List.getElem?_eq_none (by omega), List.getElem?_eq_none (by simp [blA])]
theorem act_one (h : DataW.trod enc Tryz.prog W base spare held fuel 61 cs = some y) (hb : Rows.uptoBulk y.1 ≤ 1048576) :
    ∃ a : Aa, cs = (aaA a).toList ∧ cs.length = 15 ∧ Rs W W.heap.size a.x.A a.x.l ∧ Rs W W.heap.size a.x.PA a.x.p ∧ AaOk a := by
  obtain ⟨ys, n', hn', hy, hlen, hyl, hf'⟩ := DataW.trod_struct hSActO h
  rw [cellsActO] at hlen
  have hsz : (Tryz.prog.fieldsOf 61).size = 7 := by kernel_rfl
  rw [hsz] at hyl
  obtain ⟨f0, e0, t0, o0⟩ := fld layActO (j := 0) rfl
  have g0 := hf' 0 f0 e0
  rw [t0, o0] at g0
  obtain ⟨z0, w0, _, s0⟩ := DataW.trod_int Tryz.underlying3 ((cell_fld cellsIntO (by omega) g0).trans (List.getElem?_eq_getElem (by omega)))
  obtain ⟨f1, e1, t1, o1⟩ := fld layActO (j := 1) rfl
  have g1 := hf' 1 f1 e1
  rw [t1, o1] at g1
  obtain ⟨z1, w1, _, s1⟩ := DataW.trod_int Tryz.underlying3 ((cell_fld cellsIntO (by omega) g1).trans (List.getElem?_eq_getElem (by omega)))
  obtain ⟨f2, e2, t2, o2⟩ := fld layActO (j := 2) rfl
  have g2 := hf' 2 f2 e2
  rw [t2, o2] at g2
  obtain ⟨z2, w2, _, s2⟩ := DataW.trod_int Tryz.underlying3 ((cell_fld cellsIntO (by omega) g2).trans (List.getElem?_eq_getElem (by omega)))
  obtain ⟨f3, e3, t3, o3⟩ := fld layActO (j := 3) rfl
  have g3 := hf' 3 f3 e3
  rw [t3, o3] at g3
  obtain ⟨z3, w3, x3, _⟩ := DataW.trod_string Tryz.underlying9 ((cell_fld cellsStrO (by omega) g3).trans (List.getElem?_eq_getElem (by omega)))
  have b3 := bulk_text x3 (Nat.le_trans (bulk_field hy (by omega)) hb)
  obtain ⟨f4, e4, t4, o4⟩ := fld layActO (j := 4) rfl
  have g4 := hf' 4 f4 e4
  rw [t4, o4] at g4
  obtain ⟨z4, w4, x4, _⟩ := DataW.trod_string Tryz.underlying9 ((cell_fld cellsStrO (by omega) g4).trans (List.getElem?_eq_getElem (by omega)))
  have b4 := bulk_text x4 (Nat.le_trans (bulk_field hy (by omega)) hb)
  obtain ⟨f5, e5, t5, o5⟩ := fld layActO (j := 5) rfl
  have g5 := hf' 5 f5 e5
  rw [t5, o5] at g5
  obtain ⟨z5, w5, x5, _⟩ := DataW.trod_string Tryz.underlying9 ((cell_fld cellsStrO (by omega) g5).trans (List.getElem?_eq_getElem (by omega)))
  have b5 := bulk_text x5 (Nat.le_trans (bulk_field hy (by omega)) hb)
  obtain ⟨f6, e6, t6, o6⟩ := fld layActO (j := 6) rfl
  have g6 := hf' 6 f6 e6
  rw [t6, o6] at g6
  rw [cellsBillO] at g6
  obtain ⟨x, hx, hxl, r1, r2, q0, q1, q2, q3, q4, q5⟩ := bill_one (g6.trans (List.getElem?_eq_getElem (by omega))) (Nat.le_trans (bulk_field hy (by omega)) hb)
  simp only [List.cons.injEq, and_true] at w0 w1 w2 w3 w4 w5
  refine ⟨⟨z0, z1, z2, z3, z4, z5, x⟩, ?_, hlen, r1, r2, ⟨by simp only; omega, by simp only; omega, by simp only; omega, by simp only; omega, by simp only; omega, by simp only; omega, by simp only; omega, by simp only; omega, by simp only; omega⟩⟩
  have hat : ∀ j, j < 9 → cs[6 + j]? = (blA x).toList[j]? := fun j hj => by
    rw [← hx, List.getElem?_take, if_pos hj, List.getElem?_drop]
  apply List.ext_getElem?
  intro i
  match i with
  | 0 => exact (List.getElem?_eq_getElem (by omega)).trans (congrArg some w0)
  | 1 => exact (List.getElem?_eq_getElem (by omega)).trans (congrArg some w1)
  | 2 => exact (List.getElem?_eq_getElem (by omega)).trans (congrArg some w2)
  | 3 => exact (List.getElem?_eq_getElem (by omega)).trans (congrArg some w3)
  | 4 => exact (List.getElem?_eq_getElem (by omega)).trans (congrArg some w4)
  | 5 => exact (List.getElem?_eq_getElem (by omega)).trans (congrArg some w5)
  | 6 => exact hat 0 (by omega)
  | 7 => exact hat 1 (by omega)
  | 8 => exact hat 2 (by omega)
  | 9 => exact hat 3 (by omega)
  | 10 => exact hat 4 (by omega)
  | 11 => exact hat 5 (by omega)
  | 12 => exact hat 6 (by omega)
  | 13 => exact hat 7 (by omega)
  | 14 => exact hat 8 (by omega)
  | i + 15 => rw [List.getElem?_eq_none (by omega), List.getElem?_eq_none (by simp [aaA])]
instance : Inhabited En := ⟨⟨⟨#[]⟩, ⟨#[]⟩, ⟨#[]⟩, ⟨#[]⟩, ⟨#[]⟩, none, [], 0, none, [], 0, 0, false, 0, fun _ => ⟨0, ⟨#[]⟩, none, 0, 0⟩⟩⟩
instance : Inhabited Aa := ⟨⟨0, 0, 0, ⟨#[]⟩, ⟨#[]⟩, ⟨#[]⟩, default⟩⟩
theorem acts_one (h : DataW.trod enc Tryz.prog W base spare held fuel 28 cs = some y) (hb : Rows.uptoBulk y.1 ≤ 1048576) :
    ∃ (A : Option Addr) (c : Nat) (L : List Aa), cs = [.slice A L.length c] ∧ Ra W W.heap.size A L ∧ L.length ≤ 1048576 := by
  obtain ⟨A, c, L, E, w2, hA, hrow, hEl, hEb, hE⟩ := slice_rows (n := 15) Tryz.underlying28 cellsActO (by omega) (fun a : Aa => (aaA a).toList) (fun a _ => Rs W W.heap.size a.x.A a.x.l ∧ Rs W W.heap.size a.x.PA a.x.p ∧ AaOk a) 1048576 (fun fuel cs z hz hzb => act_one hz hzb) h hb
  refine ⟨A, c, L, w2, fun h0 => ?_, ?_⟩
  · obtain ⟨g, off, e, hg, hcl⟩ := hrow h0
    refine ⟨g, off, e, hg, fun i a ha => ⟨fun j v hv => ?_, ?_⟩⟩
    · have hj : j < 15 := by have := (List.getElem?_eq_some_iff.1 hv).1; simpa [aaA] using this
      exact (hcl i a ha j hj).trans hv
    · obtain ⟨e', _, hq⟩ := hE i a ha
      exact hq
  · have h1 := bulk_len E
    omega
/-- a row of acts, where it lies, its capacity -/
abbrev Ac4 := List Aa × Option Addr × Nat
/-- a slice of rows of acts -/
def Rr (w : World) (B : Nat) (A : Option Addr) (L : List Ac4) : Prop :=
  0 < L.length → ∃ g off, A = some ⟨g, off, none⟩ ∧ g < B ∧ ∀ (i : Nat) t, L[i]? = some t → w.cell? ⟨g, off + i, none⟩ = some (.slice t.2.1 t.1.length t.2.2) ∧ Ra w B t.2.1 t.1 ∧ t.1.length ≤ 1048576
theorem rows_one (h : DataW.trod enc Tryz.prog W base spare held fuel 23 cs = some y) (hb : Rows.uptoBulk y.1 ≤ 1048576) :
    ∃ (A : Option Addr) (c : Nat) (L : List Ac4), cs = [.slice A L.length c] ∧ Rr W W.heap.size A L ∧ L.length ≤ 1048576 := by
  obtain ⟨A, c, L, E, w2, hA, hrow, hEl, hEb, hE⟩ := slice_rows (n := 1) Tryz.underlying23 cellsActsO (by omega) (fun t : Ac4 => [Value.slice t.2.1 t.1.length t.2.2]) (fun t _ => Ra W W.heap.size t.2.1 t.1 ∧ t.1.length ≤ 1048576) 1048576 (fun fuel cs z hz hzb => by
    obtain ⟨A, c, L, e, h1, h2⟩ := acts_one hz hzb
    exact ⟨(L, A, c), e, by rw [e]; rfl, h1, h2⟩) h hb
  refine ⟨A, c, L, w2, fun h0 => ?_, ?_⟩
  · obtain ⟨g, off, e, hg, hcl⟩ := hrow h0
    refine ⟨g, off, e, hg, fun i t ht => ⟨?_, ?_⟩⟩
    · have := hcl i t ht 0 (by omega)
      rw [Nat.mul_one, Nat.add_zero] at this
      exact this
    · obtain ⟨e', _, hq⟩ := hE i t ht
      exact hq
  · have h1 := bulk_len E
    omega
end
theorem open_names {H : Type} {enc : TypeId × Value → H} {W : World} {base : Nat} {v : Value} {d : DataW H} {p : List MemPlace} {spare : Nat → Bool} {held : Bool} {b0 : Nat}
    (hv : Value.okWide Tryz.prog W .any b0 22 v) (h : DataW.Trod enc Tryz.prog W base spare held 22 v d p) (hb : Rows.uptoBulk d ≤ 1048576) :
    ∃ (A : Option Addr) (c : Nat) (L : List ByteArray), v = .slice A L.length c ∧ Rs W W.heap.size A L ∧ L.length ≤ 1048576 ∧ ∀ x ∈ L, x.size ≤ 1048576 := by
  obtain ⟨a0, len, cap, rfl⟩ := okWide_slice Tryz.underlying22 hv
  obtain ⟨fuel, hf⟩ := h
  obtain ⟨A, c, L, e, r⟩ := texts_one hf hb
  simp only [Value.cells, List.cons.injEq, and_true] at e
  exact ⟨A, c, L, e, r⟩
theorem open_rows {H : Type} {enc : TypeId × Value → H} {W : World} {base : Nat} {v : Value} {d : DataW H} {p : List MemPlace} {spare : Nat → Bool} {held : Bool} {b0 : Nat}
    (hv : Value.okWide Tryz.prog W .any b0 23 v) (h : DataW.Trod enc Tryz.prog W base spare held 23 v d p) (hb : Rows.uptoBulk d ≤ 1048576) :
    ∃ (A : Option Addr) (c : Nat) (L : List Ac4), v = .slice A L.length c ∧ Rr W W.heap.size A L ∧ L.length ≤ 1048576 := by
  obtain ⟨a0, len, cap, rfl⟩ := okWide_slice Tryz.underlying23 hv
  obtain ⟨fuel, hf⟩ := h
  obtain ⟨A, c, L, e, r⟩ := rows_one hf hb
  simp only [Value.cells, List.cons.injEq, and_true] at e
  exact ⟨A, c, L, e, r⟩
end Go.Proofs.YtdinloecgaapaaaGreatDoor
