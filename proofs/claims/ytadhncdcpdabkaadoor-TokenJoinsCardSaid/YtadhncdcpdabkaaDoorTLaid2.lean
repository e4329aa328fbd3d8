/- The list of two tables; a slice of tokens as an argument. -/
import Derived.Test.YtadhncdcpdabkaaDoorTLaid
import Derived.Test.YtadhncdcpdabkaaDoorTJoins
import Derived.ShutString
import Derived.ChangeOld
import Derived.Deep.Slices
import Derived.Deep.Fields
import Derived.ChangeSame
namespace Go.Proofs.YtadhncdcpdabkaaDoor
open Go.ChangeShapes Go.WideShapes Go.ChangeAt Go.RowKit Go.Deep Go.Lib
set_option linter.unusedVariables false

theorem laidOut : laidOutB Tryd.prog = true := by kernel_rfl
theorem gKinds : Tryd.prog.globalNamed "supercargo/token.kinds" = some 1 := by kernel_rfl
theorem gKindsType : (Tryd.prog.globals[1]?).map (·.type) = some 53 := by kernel_rfl
theorem cellsKinds : Tryd.prog.cellsOf 53 = 6 := by kernel_rfl
def kindCells : Array Value := (kindNames.map fun l => Value.string ⟨l.toArray⟩).toArray
theorem kinds_laid {H : Type} : (Rows.laid_supercargo_token_kinds : DataW H) = strData kindNames := rfl
theorem kindCells_at (k : Nat) (h : k < 6) : kindCells[k]? = some (.string (kindB k)) := by
  have h2 : k < kindNames.length := h
  simp [kindCells, kindB, h2]
theorem both_of {W : World} (h : laidMet Tryd.prog [("supercargo/token.words", Rows.laid_supercargo_token_words), ("supercargo/token.kinds", Rows.laid_supercargo_token_kinds)] W) : Wd W ∧ Kd W := by
  refine ⟨wd_of h, ?_⟩
  obtain ⟨ps, ⟨g', t', cs, fuel, p, q, _, _, _, _, hrest, _⟩, _⟩ := h
  obtain ⟨g2, t2, cs2, fuel2, p2, q2, hg2, ht2, hvar, hd, _, _⟩ := hrest
  obtain rfl := Option.some.inj (gKinds.symm.trans hg2)
  obtain rfl := Option.some.inj (gKindsType.symm.trans ht2)
  rw [kinds_laid] at hd
  have hc := cells_of_strs Tryd.underlying53 Tryd.underlying9 cellsString cellsKinds hd
  simp only [World.var?, gKinds, Option.bind_some] at hvar
  split at hvar
  · rename_i cs' t fr hh
    injection hvar with hvar
    subst hvar
    have : cs' = kindCells := by rw [← Array.toList_inj, hc]; rfl
    subst this
    refine ⟨(Array.getElem?_eq_some_iff.1 hh).1, fun k hk => ?_⟩
    simp only [World.cell?, hh]
    exact kindCells_at k hk
  · cases hvar
/-- a world for the witness: both tables hold what their initialisers lay -/
noncomputable def laidWorld2 (os : Os) : World :=
  { laidWorld os with heap := (laidWorld os).heap.modify 1 fun
      | .cells _ t frozen => .cells kindCells t frozen
      | o => o }
theorem cellsTok : Tryd.prog.cellsOf 31 = 3 := by kernel_rfl
theorem oneTok : oneCellFields Tryd.prog (Tryd.prog.fieldsOf 31) = true := by kernel_rfl
theorem fieldsTok : (Tryd.prog.fieldsOf 31).map (·.type) = #[3, 3, 9] := by kernel_rfl

theorem open_toks {H : Type} {enc : TypeId × Value → H} {W : World} {base : Nat} {v : Value} {d : DataW H} {p : List MemPlace} {spare : Nat → Bool} {held : Bool} {b0 : Nat}
    (hv : Value.okWide Tryd.prog W .any b0 23 v) (h : DataW.Trod enc Tryd.prog W base spare held 23 v d p) :
    ∃ (A : Option Addr) (c : Nat) (L : List GT), v = .slice A L.length c ∧ Rg W W.heap.size A L ∧ L.length ≤ maxLen ∧ ∀ x ∈ L, x.x.size ≤ maxLen := by
  obtain ⟨a0, len, cap, rfl⟩ := okWide_slice Tryd.underlying23 hv
  obtain ⟨fuel, hf⟩ := h
  rcases open_slice Tryd.underlying23 hf with ⟨hcs, _⟩ | ⟨a, len', cap', m, n, D, Pl, hcs, hb, hl, hm, hmm, hx, hi⟩
  · simp [Value.cells] at hcs
    obtain ⟨rfl, rfl, rfl⟩ := hcs
    exact ⟨none, 0, [], rfl, fun h => absurd h (by decide), by simp [maxLen], by simp⟩
  · simp [Value.cells] at hcs
    obtain ⟨rfl, rfl, rfl⟩ := hcs
    have hlm : len ≤ m := by rw [hmm]; split <;> omega
    have each : ∀ i, i < len → ∃ x : GT, W.cell? (a.add (i * 3)) = some (.int .i64 x.k) ∧ W.cell? (a.add (i * 3 + 1)) = some (.int .i64 x.p) ∧ W.cell? (a.add (i * 3 + 2)) = some (.string x.x) ∧ x.x.size ≤ maxLen := by
      intro i hi'
      obtain ⟨cs', hc, ht'⟩ := hi i (by omega)
      rw [cellsTok] at hc
      obtain ⟨ys, n', hn', hy, hlen, hyl, hf'⟩ := DataW.trod_struct hSTok ht'
      obtain ⟨_, hcl, hat⟩ := World.cells?_some hc
      have field : ∀ (j : Nat), j < 3 → ∃ (f : Field) (v : Value), (Tryd.prog.fieldsOf 31)[j]? = some f ∧ W.cell? (a.add (i * 3 + j)) = some v ∧ ∃ y, DataW.trod enc Tryd.prog W base spare held n' f.type [v] = some y := by
        intro j hj
        have hsz : (Tryd.prog.fieldsOf 31).size = 3 := by kernel_rfl
        have hjf : (Tryd.prog.fieldsOf 31)[j]? = some ((Tryd.prog.fieldsOf 31)[j]'(by rw [hsz]; exact hj)) := Array.getElem?_eq_getElem (by rw [hsz]; exact hj)
        obtain ⟨ho, hk⟩ := hone_of oneTok j _ hjf
        have h1 := hf' j _ hjf
        rw [ho, hk] at h1
        have hone' : (cs'.drop j).take 1 = [cs'[j]'(by omega)] := by
          rw [List.drop_eq_getElem_cons (by omega)]
          rfl
        rw [hone'] at h1
        refine ⟨_, cs'[j]'(by omega), hjf, ?_, ys[j]'(by omega), h1.trans (List.getElem?_eq_getElem (by omega))⟩
        rw [← Go.Deep.add_add, hat j hj, List.getElem?_eq_getElem (by omega)]
      have ty : ∀ (j : Nat) (f : Field), (Tryd.prog.fieldsOf 31)[j]? = some f → (#[3, 3, 9] : Array TypeId)[j]? = some f.type := by
        intro j f hj
        rw [← fieldsTok, Array.getElem?_map, hj]
        rfl
      obtain ⟨f0, v0, e0, c0, y0, t0⟩ := field 0 (by omega)
      obtain ⟨f1, v1, e1, c1, y1, t1⟩ := field 1 (by omega)
      obtain ⟨f2, v2, e2, c2, y2, t2⟩ := field 2 (by omega)
      have q0 : f0.type = 3 := (Option.some.inj (ty 0 f0 e0)).symm
      have q1 : f1.type = 3 := (Option.some.inj (ty 1 f1 e1)).symm
      have q2 : f2.type = 9 := (Option.some.inj (ty 2 f2 e2)).symm
      rw [q0] at t0
      rw [q1] at t1
      rw [q2] at t2
      obtain ⟨z0, w0, _, _⟩ := DataW.trod_int Tryd.underlying3 t0
      obtain ⟨z1, w1, _, _⟩ := DataW.trod_int Tryd.underlying3 t1
      obtain ⟨z2, w2, _, s2⟩ := DataW.trod_string Tryd.underlying9 t2
      simp at w0 w1 w2
      subst w0 w1 w2
      exact ⟨⟨z0, z1, z2⟩, c0, c1, c2, s2⟩
    obtain ⟨f, hf'⟩ : ∃ f : Nat → GT, ∀ i, i < len → W.cell? (a.add (i * 3)) = some (.int .i64 (f i).k) ∧ W.cell? (a.add (i * 3 + 1)) = some (.int .i64 (f i).p) ∧ W.cell? (a.add (i * 3 + 2)) = some (.string (f i).x) ∧ (f i).x.size ≤ maxLen := by
      refine ⟨fun i => if h : i < len then Classical.choose (each i h) else ⟨0, 0, ByteArray.empty⟩, fun i hi => ?_⟩
      simp only [hi, dif_pos]
      exact Classical.choose_spec (each i hi)
    refine ⟨some a, cap, (List.range len).map f, by simp, ?_, by simp; omega, ?_⟩
    · intro hlen
      have h0 : 0 < len := by simpa using hlen
      obtain ⟨b, off, spot⟩ := a
      have hspot : spot = none := by
        have := (hf' 0 (by omega)).1
        simpa [Addr.add] using World.cell?_spot this
      subst hspot
      have hblk : b < W.heap.size := by
        have := World.block_lt_of_cell? W _ (hf' 0 (by omega)).1
        simpa [Addr.add] using this
      refine ⟨b, off, rfl, hblk, fun i x hx => ?_⟩
      have hi : i < len := by have := (List.getElem?_eq_some_iff.1 hx).1; simpa using this
      have hxe : f i = x := by
        rw [List.getElem?_map, List.getElem?_range hi] at hx
        simpa using hx
      obtain ⟨c0, c1, c2, _⟩ := hf' i hi
      rw [add_plain] at c0 c1 c2
      rw [hxe] at c0 c1 c2
      exact ⟨c0, by rw [Nat.add_assoc]; exact c1, by rw [Nat.add_assoc]; exact c2⟩
    · intro x hx
      obtain ⟨i, hi, rfl⟩ := List.mem_map.1 hx
      exact (hf' i (List.mem_range.1 hi)).2.2.2
end Go.Proofs.YtadhncdcpdabkaaDoor
