/- The frame's common parts; a slice of acts as an argument. -/
import Derived.Test.YtooeelaobmhifaaGreatDoorMWalk
import Derived.Test.YtooeelaobmhifaaGreatDoorCards
import Derived.Test.YtooeelaobmhifaaGreatDoorTie
import Derived.ProofKit
import Derived.OpenShut
import Derived.Deep.DeepHandedRow
import Derived.ShutString
import Derived.ChangeOld
import Derived.Deep.Slices
import Derived.Deep.Fields
import Derived.ChangeSame
namespace Go.Proofs.YtooeelaobmhifaaGreatDoor
open Go.ChangeShapes Go.WideShapes Go.ChangeAt Go.RowKit Go.Deep Go.Lib
set_option linter.unusedVariables false
set_option maxRecDepth 100000

theorem own : ownKnob Tryz.prog.godebug = none := by kernel_rfl
def tab32 : Array Value := #[.int .u8 0, .int .u8 1, .int .u8 28, .int .u8 2, .int .u8 29, .int .u8 14, .int .u8 24, .int .u8 3, .int .u8 30, .int .u8 22, .int .u8 20, .int .u8 15, .int .u8 25, .int .u8 17, .int .u8 4, .int .u8 8, .int .u8 31, .int .u8 27, .int .u8 13, .int .u8 23, .int .u8 21, .int .u8 19, .int .u8 16, .int .u8 7, .int .u8 26, .int .u8 12, .int .u8 18, .int .u8 6, .int .u8 11, .int .u8 5, .int .u8 10, .int .u8 9]
def tab64 : Array Value := #[.int .u8 0, .int .u8 1, .int .u8 56, .int .u8 2, .int .u8 57, .int .u8 49, .int .u8 28, .int .u8 3, .int .u8 61, .int .u8 58, .int .u8 42, .int .u8 50, .int .u8 38, .int .u8 29, .int .u8 17, .int .u8 4, .int .u8 62, .int .u8 47, .int .u8 59, .int .u8 36, .int .u8 45, .int .u8 43, .int .u8 51, .int .u8 22, .int .u8 53, .int .u8 39, .int .u8 33, .int .u8 30, .int .u8 24, .int .u8 18, .int .u8 12, .int .u8 5, .int .u8 63, .int .u8 55, .int .u8 48, .int .u8 27, .int .u8 60, .int .u8 41, .int .u8 37, .int .u8 16, .int .u8 46, .int .u8 35, .int .u8 44, .int .u8 21, .int .u8 52, .int .u8 32, .int .u8 23, .int .u8 11, .int .u8 54, .int .u8 26, .int .u8 40, .int .u8 15, .int .u8 34, .int .u8 20, .int .u8 31, .int .u8 10, .int .u8 25, .int .u8 14, .int .u8 19, .int .u8 9, .int .u8 13, .int .u8 8, .int .u8 7, .int .u8 6]
def tabP : Array Value := #[.int .u64 1, .int .u64 10, .int .u64 100, .int .u64 1000, .int .u64 10000, .int .u64 100000, .int .u64 1000000, .int .u64 10000000, .int .u64 100000000, .int .u64 1000000000, .int .u64 10000000000, .int .u64 100000000000, .int .u64 1000000000000, .int .u64 10000000000000, .int .u64 100000000000000, .int .u64 1000000000000000, .int .u64 10000000000000000, .int .u64 100000000000000000, .int .u64 1000000000000000000, .int .u64 10000000000000000000]
def relaid (cs : Array Value) (o : Obj) : Obj := match o with
  | .cells _ t frozen => .cells cs t frozen
  | o => o
/-- a world for the witness: the settled one, the three tables holding what their initialisers lay -/
noncomputable def laidWorld (os : Os) : World :=
  { World.holding Tryz.prog os ⟨#[], #[], []⟩ with heap := (((World.holding Tryz.prog os ⟨#[], #[], []⟩).heap.modify 0 (relaid tabP)).modify 2 (relaid tab32)).modify 3 (relaid tab64) }
theorem wf_u16 {z : Int} (h : (Lit.int .u16 z).wf = true) : 0 ≤ z ∧ z ≤ 65535 := by
  simp [Lit.wf, IntKind.min, IntKind.max, IntKind.signed, IntKind.bits] at h
  exact h
theorem wf_u8 {z : Int} (h : (Lit.int .u8 z).wf = true) : 0 ≤ z ∧ z ≤ 255 := by
  simp [Lit.wf, IntKind.min, IntKind.max, IntKind.signed, IntKind.bits] at h
  exact h
theorem hSAc : Tryz.prog.underlying 30 = some (.struct (Tryz.prog.fieldsOf 30)) := by kernel_rfl
theorem cellsAc : Tryz.prog.cellsOf 30 = 3 := by kernel_rfl
theorem oneAc : oneCellFields Tryz.prog (Tryz.prog.fieldsOf 30) = true := by kernel_rfl
theorem fieldsAc : (Tryz.prog.fieldsOf 30).map (·.type) = #[5, 5, 28] := by kernel_rfl

theorem open_acts {H : Type} {enc : TypeId × Value → H} {W : World} {base : Nat} {v : Value} {d : DataW H} {p : List MemPlace} {spare : Nat → Bool} {held : Bool} {b0 : Nat}
    (hv : Value.okWide Tryz.prog W .any b0 22 v) (h : DataW.Trod enc Tryz.prog W base spare held 22 v d p) :
    ∃ (A : Option Addr) (c : Nat) (L : List Ac3), v = .slice A L.length c ∧ Ra W W.heap.size A L ∧ ∀ x ∈ L, x.Fine := by
  obtain ⟨a0, len, cap, rfl⟩ := okWide_slice Tryz.underlying22 hv
  obtain ⟨fuel, hf⟩ := h
  rcases open_slice Tryz.underlying22 hf with ⟨hcs, _⟩ | ⟨a, len', cap', m, n, D, Pl, hcs, hb, hl, hm, hmm, hx, hi⟩
  · simp [Value.cells] at hcs
    obtain ⟨rfl, rfl, rfl⟩ := hcs
    exact ⟨none, 0, [], rfl, fun h => absurd h (by decide), by simp⟩
  · simp [Value.cells] at hcs
    obtain ⟨rfl, rfl, rfl⟩ := hcs
    have hlm : len ≤ m := by rw [hmm]; split <;> omega
    have each : ∀ i, i < len → ∃ x : Ac3, W.cell? (a.add (i * 3)) = some (.int .u8 (x.kind : Nat)) ∧ W.cell? (a.add (i * 3 + 1)) = some (.int .u8 (x.id : Nat)) ∧ W.cell? (a.add (i * 3 + 2)) = some (.int .u16 (x.n : Nat)) ∧ x.Fine := by
      intro i hi'
      obtain ⟨cs', hc, ht'⟩ := hi i (by omega)
      rw [cellsAc] at hc
      obtain ⟨ys, n', hn', hy, hlen, hyl, hf'⟩ := DataW.trod_struct hSAc ht'
      obtain ⟨_, hcl, hat⟩ := World.cells?_some hc
      have field : ∀ (j : Nat), j < 3 → ∃ (f : Field) (v : Value), (Tryz.prog.fieldsOf 30)[j]? = some f ∧ W.cell? (a.add (i * 3 + j)) = some v ∧ ∃ y, DataW.trod enc Tryz.prog W base spare held n' f.type [v] = some y := by
        intro j hj
        have hsz : (Tryz.prog.fieldsOf 30).size = 3 := by kernel_rfl
        have hjf : (Tryz.prog.fieldsOf 30)[j]? = some ((Tryz.prog.fieldsOf 30)[j]'(by rw [hsz]; exact hj)) := Array.getElem?_eq_getElem (by rw [hsz]; exact hj)
        obtain ⟨ho, hk⟩ := hone_of oneAc j _ hjf
        have h1 := hf' j _ hjf
        rw [ho, hk] at h1
        have hone' : (cs'.drop j).take 1 = [cs'[j]'(by omega)] := by
          rw [List.drop_eq_getElem_cons (by omega)]
          rfl
        rw [hone'] at h1
        refine ⟨_, cs'[j]'(by omega), hjf, ?_, ys[j]'(by omega), h1.trans (List.getElem?_eq_getElem (by omega))⟩
        rw [← Go.Deep.add_add, hat j hj, List.getElem?_eq_getElem (by omega)]
      have ty : ∀ (j : Nat) (f : Field), (Tryz.prog.fieldsOf 30)[j]? = some f → (#[5, 5, 28] : Array TypeId)[j]? = some f.type := by
        intro j f hj
        rw [← fieldsAc, Array.getElem?_map, hj]
        rfl
      obtain ⟨f0, v0, e0, c0, y0, t0⟩ := field 0 (by omega)
      obtain ⟨f1, v1, e1, c1, y1, t1⟩ := field 1 (by omega)
      obtain ⟨f2, v2, e2, c2, y2, t2⟩ := field 2 (by omega)
      have q0 : f0.type = 5 := (Option.some.inj (ty 0 f0 e0)).symm
      have q1 : f1.type = 5 := (Option.some.inj (ty 1 f1 e1)).symm
      have q2 : f2.type = 28 := (Option.some.inj (ty 2 f2 e2)).symm
      rw [q0] at t0
      rw [q1] at t1
      rw [q2] at t2
      obtain ⟨z0, w0, _, s0⟩ := DataW.trod_int Tryz.underlying5 t0
      obtain ⟨z1, w1, _, s1⟩ := DataW.trod_int Tryz.underlying5 t1
      obtain ⟨z2, w2, _, s2⟩ := DataW.trod_int Tryz.underlying28 t2
      simp at w0 w1 w2
      subst w0 w1 w2
      obtain ⟨r0, r1⟩ := wf_u8 s0
      obtain ⟨u0, u1⟩ := wf_u8 s1
      obtain ⟨x0, x1⟩ := wf_u16 s2
      refine ⟨⟨z0.toNat, z1.toNat, z2.toNat⟩, ?_, ?_, ?_, ⟨by simp only; omega, by simp only; omega, by simp only; omega⟩⟩
      · rw [Int.toNat_of_nonneg r0]; exact c0
      · rw [Int.toNat_of_nonneg u0]; exact c1
      · rw [Int.toNat_of_nonneg x0]; exact c2
    obtain ⟨f, hf'⟩ : ∃ f : Nat → Ac3, ∀ i, i < len → W.cell? (a.add (i * 3)) = some (.int .u8 ((f i).kind : Nat)) ∧ W.cell? (a.add (i * 3 + 1)) = some (.int .u8 ((f i).id : Nat)) ∧ W.cell? (a.add (i * 3 + 2)) = some (.int .u16 ((f i).n : Nat)) ∧ (f i).Fine := by
      refine ⟨fun i => if h : i < len then Classical.choose (each i h) else ⟨0, 0, 0⟩, fun i hi => ?_⟩
      simp only [hi, dif_pos]
      exact Classical.choose_spec (each i hi)
    refine ⟨some a, cap, (List.range len).map f, by simp, ?_, ?_⟩
    · intro hlen
      have h0 : 0 < len := by simpa using hlen
      obtain ⟨b, off, spot⟩ := a
      have hspot : spot = none := by
        have := (hf' 0 (by omega)).1
        simpa [Addr.add] using World.cell?_spot this
      subst hspot
      have hblk : b < W.heap.size := by
        have := World.block_lt_of_cell? W _ (hf' 0 (by omega)).1
        simpa [Addr.add] using this
      refine ⟨b, off, rfl, hblk, fun i x hx => ?_⟩
      have hi : i < len := by have := (List.getElem?_eq_some_iff.1 hx).1; simpa using this
      have hxe : f i = x := by
        rw [List.getElem?_map, List.getElem?_range hi] at hx
        simpa using hx
      obtain ⟨c0, c1, c2, _⟩ := hf' i hi
      rw [Lib.add_plain] at c0 c1 c2
      rw [hxe] at c0 c1 c2
      exact ⟨c0, by rw [Nat.add_assoc]; exact c1, by rw [Nat.add_assoc]; exact c2⟩
    · intro x hx
      obtain ⟨i, hi, rfl⟩ := List.mem_map.1 hx
      exact (hf' i (List.mem_range.1 hi)).2.2.2
end Go.Proofs.YtooeelaobmhifaaGreatDoor
