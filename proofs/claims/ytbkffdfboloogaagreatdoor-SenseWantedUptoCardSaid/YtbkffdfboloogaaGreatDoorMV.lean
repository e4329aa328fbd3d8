/- Own slices of faults, and what append makes of them. sense.Check's closure that tells a fault once. -/
import Derived.Test.YtbkffdfboloogaaGreatDoorFKey
import Derived.Test.YtbkffdfboloogaaGreatDoorMO
import Derived.BigQuiet
namespace Go.Proofs.YtbkffdfboloogaaGreatDoor
open Go.RowKit Go.Maps Go.Lib
set_option linter.unusedVariables false
set_option maxRecDepth 100000

/-- the cells of a fault -/
def fl (x : Ft) : List Value := [.int .i64 x.1, .int .i64 x.2.1, .string x.2.2.1, .int .i64 x.2.2.2]
def fls (L : List Ft) : List Value := L.flatMap fl
def z4 : List Value := [.int .i64 0, .int .i64 0, .string ⟨#[]⟩, .int .i64 0]
theorem info_fault : (Tryz.prog.info? 52).map (fun i => (i.zero, i.size, i.bytes)) = some (some (.agg z4.toArray), 4, 40) := by kernel_rfl
theorem fls_len (L : List Ft) : (fls L).length = L.length * 4 := by
  induction L with
  | nil => rfl
  | cons x L ih =>
    rw [fls, List.flatMap_cons, List.length_append]
    show 4 + (fls L).length = _
    rw [ih, List.length_cons]
    omega
theorem fls_app (L M : List Ft) : fls (L ++ M) = fls L ++ fls M := List.flatMap_append
theorem fls_at (L : List Ft) : ∀ (i : Nat) (x : Ft), L[i]? = some x → ∀ j, j < 4 → (fls L)[i * 4 + j]? = (fl x)[j]? := by
  induction L with
  | nil => intro i x h; simp at h
  | cons y L ih =>
    intro i x h j hj
    have hy : (fl y).length = 4 := rfl
    rw [fls, List.flatMap_cons]
    match i, h with
    | 0, h =>
      simp at h
      subst h
      rw [List.getElem?_append_left (by omega)]
      congr 1
      omega
    | i + 1, h =>
      simp at h
      rw [List.getElem?_append_right (by omega), hy, show (i + 1) * 4 + j - 4 = i * 4 + j by omega]
      exact ih i x h j hj
theorem fls_one (L : List Ft) : ∀ u ∈ fls L, u.oneCell' = true := by
  intro u hu
  obtain ⟨x, _, hu⟩ := List.mem_flatMap.1 hu
  simp only [fl, List.mem_cons, List.not_mem_nil, or_false] at hu
  rcases hu with rfl | rfl | rfl | rfl <;> rfl
/-- v is a slice of its own, in a block from base on, of the faults L -/
def Fw (w : World) (base : Nat) (v : Value) (L : List Ft) : Prop := w.ownsRow base 52 4 v L.length (fls L)
section
variable {w w' : World} {base : Nat} {v : Value} {L : List Ft}
theorem Fw.lt' (h : Fw w base v L) {q : Nat} (hq : v.ownBlock = some q) : base ≤ q ∧ q < w.heap.size := by
  rcases h.2 with ⟨h1, _⟩ | ⟨g, cap, cur, h1, h2, h3, _⟩
  · rw [h1] at hq; simp [Value.ownBlock] at hq
  · rw [h1] at hq
    simp [Value.ownBlock] at hq
    subst hq
    exact ⟨h2, (Array.getElem?_eq_some_iff.1 h3).1⟩
theorem Fw.keep (h : Fw w base v L) (hk : ∀ q, v.ownBlock = some q → w'.heap[q]? = w.heap[q]?) : Fw w' base v L := by
  refine ⟨h.1, ?_⟩
  rcases h.2 with h0 | ⟨g, cap, cur, h1, h2, h3, h4⟩
  · exact .inl h0
  · exact .inr ⟨g, cap, cur, h1, h2, (hk g (by rw [h1]; simp [Value.ownBlock])).trans h3, h4⟩
theorem Fw.below (h : Fw w base v L) (hb : Below w.heap.size w w') : Fw w' base v L := h.keep fun q hq => hb.block q (h.lt' hq).2
theorem Fw.base_le (h : Fw w base v L) {base' : Nat} (hb : base' ≤ base) : Fw w base' v L := by
  refine ⟨h.1, ?_⟩
  rcases h.2 with h0 | ⟨g, cap, cur, h1, h2, h3, h4⟩
  · exact .inl h0
  · exact .inr ⟨g, cap, cur, h1, by omega, h3, h4⟩
theorem Fw.form (h : Fw w base v L) : ∃ A c, v = .slice A L.length c := by
  rcases h.2 with ⟨h1, h2⟩ | ⟨g, cap, cur, h1, _⟩
  · exact ⟨none, 0, by rw [h1, h2]⟩
  · exact ⟨_, _, h1⟩
theorem Fw.nil (w : World) (base : Nat) : Fw w base (.slice none 0 0) [] := World.ownsRow_nil _ _ _ _
/-- one of them -/
theorem Fw.at_ (h : Fw w base v L) {k : Nat} (hk : k < L.length) : ∃ g off cap, v = .slice (some ⟨g, off, none⟩) L.length cap ∧ base ≤ g ∧ g < w.heap.size ∧ w.cell? ⟨g, off + k * 4, none⟩ = some (.int .i64 L[k].1) ∧ w.cell? ⟨g, off + k * 4 + 1, none⟩ = some (.int .i64 L[k].2.1) ∧ w.cell? ⟨g, off + k * 4 + 2, none⟩ = some (.string L[k].2.2.1) ∧ w.cell? ⟨g, off + k * 4 + 3, none⟩ = some (.int .i64 L[k].2.2.2) := by
  rcases h.2 with ⟨h0, hn⟩ | ⟨g, cap, cur, he, _⟩
  · omega
  · subst he
    have hl := h.lt g rfl
    have key : ∀ j, j < 4 → w.cell? ⟨g, 0 + k * 4 + j, none⟩ = (fl L[k])[j]? := fun j hj => by
      rw [← fls_at L k _ (List.getElem?_eq_getElem hk) j hj, Nat.zero_add]
      exact h.cellAt _ (by omega)
    exact ⟨g, 0, cap, rfl, hl.1, hl.2, key 0 (by omega), key 1 (by omega), key 2 (by omega), key 3 (by omega)⟩
end
/-- append of one fault, just built, to an own row -/
theorem app_fault {w : World} {base : Nat} (ty : TypeId) {v : Value} {L : List Ft} (x : Ft) (hv : Fw w base v L) (h63 : L.length ≤ 1000000) (hbase : base ≤ w.heap.size) :
    ∃ v' w', (Builtin.append_ #[29, 29] ty #[v, .slice (some ⟨w.heap.size, 0, none⟩) 1 1]).run Tryz.prog (w.alloc (.cells #[.int .i64 x.1, .int .i64 x.2.1, .string x.2.2.1, .int .i64 x.2.2.2] 52)) = .ok v' w' ∧ Fw w' base v' (L ++ [x]) ∧
      (w.alloc (.cells #[.int .i64 x.1, .int .i64 x.2.1, .string x.2.2.1, .int .i64 x.2.2.2] 52)).grownBy w' v.ownBlock ∧ (v'.ownBlock = v.ownBlock ∨ v'.ownBlock = some (w.heap.size + 1)) := by
  obtain ⟨i0, hi0, hz0, hz1, hz2⟩ := info_parts info_fault
  have hb : Below w.heap.size w (w.alloc (.cells #[.int .i64 x.1, .int .i64 x.2.1, .string x.2.2.1, .int .i64 x.2.2.2] 52)) := (Below.refl _ _).alloc (Nat.le_refl _) _
  have hv1 := hv.below hb
  have hs : (w.alloc (.cells #[.int .i64 x.1, .int .i64 x.2.1, .string x.2.2.1, .int .i64 x.2.2.2] 52)).heap.size = w.heap.size + 1 := by simp
  obtain ⟨v', w', hr, h2, h3, _, h5⟩ := run_append_own_at (P := Tryz.prog) (w := w.alloc (.cells #[.int .i64 x.1, .int .i64 x.2.1, .string x.2.2.1, .int .i64 x.2.2.2] 52)) base 29 ty 52 i0 (.agg z4.toArray) 4 40 Tryz.underlying29 hi0 hz0 hz1 hz2 rfl (by omega) v L.length (fls L) hv1 ⟨w.heap.size, 0, none⟩ 1 1 (fl x) rfl
    (World.news_of_block (cs := (fl x).toArray) (t := 52) (fr := (0, 0)) (heap_alloc_new w _)) (fun u hu => fls_one [x] u (by simpa [fls] using hu)) (by unfold maxLen; omega) (by omega) (by omega)
  rw [hs] at h5
  refine ⟨v', w', hr, ?_, h3, h5⟩
  unfold Fw
  rw [List.length_append, fls_app]
  have e : fls [x] = fl x := by simp [fls]
  rw [e]
  exact h2
/-- faults are compared field by field -/
theorem hSFault : Tryz.prog.underlying 52 = some (.struct (Tryz.prog.fieldsOf 52)) := by kernel_rfl
theorem hPFault : Tryz.prog.stoodInHeld 52 = false := by kernel_rfl
def eqF (x y : Ft) : Bool := (x.1 == y.1) && (x.2.1 == y.2.1) && (x.2.2.1.toList == y.2.2.1.toList) && (x.2.2.2 == y.2.2.2)
theorem eqIn_fault (x y : Ft) (W : World) : (Op.equalIn 10000 52 (.agg #[.int .i64 x.1, .int .i64 x.2.1, .string x.2.2.1, .int .i64 x.2.2.2]) (.agg #[.int .i64 y.1, .int .i64 y.2.1, .string y.2.2.1, .int .i64 y.2.2.2])).run Tryz.prog W = .ok (eqF x y) W := by
  obtain ⟨a, b, c, d⟩ := x
  obtain ⟨a', b', c', d'⟩ := y
  rw [run_equalIn_agg W 9999 52 _ _ hSFault hPFault]
  simp only [Program.fieldsOf, Tryz.underlying52]
  unfold eqF
  simp only
  by_cases h1 : a = a' <;> by_cases h2 : b = b' <;> by_cases h3 : (c.toList == c'.toList) = true <;> by_cases h4 : d = d'
  all_goals go_simp
end Go.Proofs.YtbkffdfboloogaaGreatDoor
namespace Go.Proofs.YtbkffdfboloogaaGreatDoor
open Go.RowKit Go.Maps Go.Lib
set_option linter.unusedVariables false
set_option maxRecDepth 100000

/-- the map of the told and the row of the faults: their boxes tb and fb, the map mb -/
structure Fs (w : World) (base tb fb mb n : Nat) (v : Value) (G : Ft → Option Bool) (L : List Ft) : Prop where
  tbx : w.heap[tb]? = some (.cells #[.map (some mb)] 79 (0, 0))
  fbx : w.heap[fb]? = some (.cells #[v] 29 (0, 0))
  mp : Mp faultC yesE w mb n G
  row : Fw w base v L
  lo : tb < base ∧ fb < base ∧ mb < base ∧ tb ≠ fb ∧ base ≤ w.heap.size
  nil : L = [] → ∀ x, G x = none
/-- nothing has turned but the faults' box, the map, the row, and what is new -/
structure Fg (fb mb : Nat) (v v' : Value) (w w' : World) : Prop where
  os : w'.os = w.os
  tape : w'.tape = w.tape
  output : w'.output = w.output
  size : w.heap.size ≤ w'.heap.size
  block : ∀ q, q < w.heap.size → q ≠ fb → q ≠ mb → v.ownBlock ≠ some q → w'.heap[q]? = w.heap[q]?
  loc : v'.ownBlock = v.ownBlock ∨ ∃ q, v'.ownBlock = some q ∧ w.heap.size ≤ q
section
variable {w w' w2 : World} {base tb fb mb n : Nat} {v v' v2 : Value} {G : Ft → Option Bool} {L : List Ft}
theorem Fg.refl (fb mb : Nat) (v : Value) (w : World) : Fg fb mb v v w w := ⟨rfl, rfl, rfl, Nat.le_refl _, fun _ _ _ _ _ => rfl, .inl rfl⟩
theorem Fg.trans (h : Fg fb mb v v' w w') (k : Fg fb mb v' v2 w' w2) : Fg fb mb v v2 w w2 := by
  have h1 := h.size
  refine ⟨k.os.trans h.os, k.tape.trans h.tape, k.output.trans h.output, Nat.le_trans h.size k.size, fun q hq hn hm hv => (k.block q (by omega) hn hm ?_).trans (h.block q hq hn hm hv), ?_⟩
  · rcases h.loc with e | ⟨r, e, hr⟩
    · rw [e]; exact hv
    · rw [e]; intro e2; injection e2 with e2; omega
  · rcases k.loc with e | ⟨r, e, hr⟩
    · rw [e]; exact h.loc
    · exact .inr ⟨r, e, by omega⟩
theorem Fg.of_below (hb : Below w.heap.size w w') : Fg fb mb v v w w' := ⟨hb.os, hb.tape, hb.output, hb.size, fun q hq _ _ _ => hb.block q hq, .inl rfl⟩
theorem Fg.below (h : Fg fb mb v v' w w') {B : Nat} (hB : B ≤ w.heap.size) (hf : B ≤ fb) (hm : B ≤ mb) (hv : ∀ q, v.ownBlock = some q → B ≤ q) : Below B w w' :=
  ⟨h.os, h.tape, h.output, h.size, fun q hq => h.block q (by omega) (by omega) (by omega) (fun e => by have := hv q e; omega)⟩
/-- a block of its own stands -/
theorem Fg.cell (h : Fg fb mb v v' w w') {p : Addr} (hq : p.block < w.heap.size) (hf : p.block ≠ fb) (hm : p.block ≠ mb) (hv : v.ownBlock ≠ some p.block) : w'.cell? p = w.cell? p :=
  World.cell?_of_block (h.block p.block hq hf hm hv)
theorem Fs.tlt (h : Fs w base tb fb mb n v G L) : tb < w.heap.size := (Array.getElem?_eq_some_iff.1 h.tbx).1
theorem Fs.flt (h : Fs w base tb fb mb n v G L) : fb < w.heap.size := (Array.getElem?_eq_some_iff.1 h.fbx).1
theorem Fs.tm (h : Fs w base tb fb mb n v G L) : tb ≠ mb := h.mp.neCells h.tbx
theorem Fs.fm (h : Fs w base tb fb mb n v G L) : fb ≠ mb := h.mp.neCells h.fbx
theorem Fs.own (h : Fs w base tb fb mb n v G L) {q : Nat} (hq : v.ownBlock = some q) : base ≤ q ∧ q < w.heap.size := h.row.lt' hq
theorem Fs.below (h : Fs w base tb fb mb n v G L) (hb : Below w.heap.size w w') : Fs w' base tb fb mb n v G L := by
  obtain ⟨l1, l2, l3, l4, l5⟩ := h.lo
  exact ⟨(hb.block _ h.tlt).trans h.tbx, (hb.block _ h.flt).trans h.fbx, h.mp.below hb h.mp.lt, h.row.below hb, ⟨l1, l2, l3, l4, Nat.le_trans l5 hb.size⟩, h.nil⟩
theorem Fs.tcell (h : Fs w base tb fb mb n v G L) : w.cell? ⟨tb, 0, none⟩ = some (.map (some mb)) := by simp [World.cell?, h.tbx]
theorem Fs.fcell (h : Fs w base tb fb mb n v G L) : w.cell? ⟨fb, 0, none⟩ = some v := by simp [World.cell?, h.fbx]
theorem Fs.ffz (h : Fs w base tb fb mb n v G L) : w.frozen? ⟨fb, 0, none⟩ = false := by simp [World.frozen?, h.fbx]
end
abbrev fbox (w : World) (x : Ft) : World := w.alloc (.cells #[.int .i64 x.1, .int .i64 x.2.1, .string x.2.2.1, .int .i64 x.2.2.2] 52)
theorem look_fault {w : World} {base tb fb mb n : Nat} {v : Value} {G : Ft → Option Bool} {L : List Ft} (h : Fs w base tb fb mb n v G L) {x : Ft} (hx : FtOk x) :
    (Instr.lookup 79 (.map (some mb)) (.agg #[.int .i64 x.1, .int .i64 x.2.1, .string x.2.2.1, .int .i64 x.2.2.2]) false).run Tryz.prog w = .ok (.bool ((G x).getD false)) w :=
  h.mp.look Tryz.underlying79 (zeroBool _) trivial (x := x) hx
/-- a fault is put down as told -/
theorem store_fault {w : World} {base tb fb mb n : Nat} {v : Value} {G : Ft → Option Bool} {L : List Ft} (h : Fs w base tb fb mb n v G L) {x : Ft} (hx : FtOk x) (hn : n ≤ 1000000) :
    ∃ w', (Instr.mapUpdate 79 (.map (some mb)) (.agg #[.int .i64 x.1, .int .i64 x.2.1, .string x.2.2.1, .int .i64 x.2.2.2]) (.bool true)).run Tryz.prog w = .ok () w' ∧ Mp faultC yesE w' mb (n + 1) (putG G x true) ∧ w.grownBy w' (some mb) ∧ w'.heap.size = w.heap.size := by
  obtain ⟨w', h1, h2, h3⟩ := h.mp.store Tryz.underlying79 (by unfold maxLen; omega) (x := x) hx (v := true) trivial
  have hg := h3.grown
  obtain ⟨es, clock, es', clock', _, rfl⟩ := h3
  exact ⟨_, h1, h2, hg, by simp [ChangeMaps.setBlock]⟩
/-- a fault is told: what is left behind -/
def Told (base tb fb mb n : Nat) (v : Value) (L : List Ft) (w w' : World) : Prop :=
  ∃ n' v' G' L', Fs w' base tb fb mb n' v' G' L' ∧ L' ≠ [] ∧ L'.length ≤ L.length + 1 ∧ n' ≤ n + 1 ∧ Fg fb mb v v' w w'
theorem told_more {w w1 w2 w4 : World} {base tb fb mb n : Nat} {v v' : Value} {G : Ft → Option Bool} {L : List Ft} (x : Ft) (h1 : Fs w1 base tb fb mb n v G L) (hb1 : Below w.heap.size w w1) (hz : base ≤ w.heap.size)
    (hM : Mp faultC yesE w2 mb (n + 1) (putG G x true)) (hg2 : w1.grownBy w2 (some mb)) (hz2 : w2.heap.size = w1.heap.size) (h4 : Fw w4 base v' (L ++ [x])) (hg4 : (fbox w2 x).grownBy w4 v.ownBlock) (hloc : v'.ownBlock = v.ownBlock ∨ v'.ownBlock = some (w2.heap.size + 1)) (hfl : fb < w.heap.size) (hml : mb < w.heap.size) (htl : tb < w.heap.size) (hvl : ∀ q, v.ownBlock = some q → q < w.heap.size) :
    Told base tb fb mb n v L w (w4.setCell ⟨fb, 0, none⟩ v') := by
  obtain ⟨l1, l2, l3, l4, l5⟩ := h1.lo
  have hs3 : (fbox w2 x).heap.size = w2.heap.size + 1 := by simp
  have hz1 := hb1.size
  have hz4 := hg4.size
  have hown : ∀ q, v.ownBlock = some q → base ≤ q := fun q hq => (h1.own hq).1
  have hown' : ∀ q, v'.ownBlock = some q → base ≤ q := fun q hq => (h4.lt' hq).1
  have b23 : ∀ q, q < w2.heap.size → (fbox w2 x).heap[q]? = w2.heap[q]? := fun q hq => (by first | exact heap_alloc_old w2 _ hq | exact heap_alloc_old w2 _ _ hq)
  have b4 : ∀ q, q < w1.heap.size → q ≠ mb → v.ownBlock ≠ some q → w4.heap[q]? = w1.heap[q]? := fun q hq hm hv =>
    (hg4.block q (by omega) (fun e => hv e.symm)).trans ((b23 q (by omega)).trans (hg2.block q (by omega) (fun e => hm (by injection e))))
  have bm : w4.heap[mb]? = w2.heap[mb]? := (hg4.block mb (by omega) (fun e => by have := hown mb e.symm; omega)).trans (b23 mb (by omega))
  have b5 : ∀ q, q ≠ fb → (w4.setCell ⟨fb, 0, none⟩ v').heap[q]? = w4.heap[q]? := fun q hq => Below.heap_setCell _ _ _ q hq
  have hf4 : w4.heap[fb]? = some (.cells #[v] 29 (0, 0)) := (b4 fb (by omega) h1.fm (fun e => by have := hown fb e; omega)).trans h1.fbx
  refine ⟨n + 1, v', putG G x true, L ++ [x], ⟨?_, ?_, ?_, ?_, ⟨l1, l2, l3, l4, ?_⟩, fun h => by simp at h⟩, by simp, by simp, Nat.le_refl _, ⟨?_, ?_, ?_, ?_, ?_, ?_⟩⟩
  · exact (b5 tb l4).trans ((b4 tb (by omega) h1.tm (fun e => by have := hown tb e; omega)).trans h1.tbx)
  · exact heap_setCell_same _ fb 0 #[v] 29 _ hf4
  · obtain ⟨D, ⟨es, clock, h2, h3⟩, hR⟩ := hM
    exact ⟨D, ⟨es, clock, (b5 mb h1.fm.symm).trans (bm.trans h2), h3⟩, hR⟩
  · exact h4.keep fun q hq => b5 q (fun e => by have := hown' q hq; omega)
  · simp; omega
  · exact hg4.os.trans (hg2.os.trans hb1.os)
  · exact hg4.tape.trans (hg2.tape.trans hb1.tape)
  · exact hg4.output.trans (hg2.output.trans hb1.output)
  · simp; omega
  · exact fun q hq hn hm hv => (b5 q hn).trans ((b4 q (by omega) hm hv).trans (hb1.block q hq))
  · rcases hloc with e | e
    · exact .inl e
    · exact .inr ⟨_, e, by omega⟩

set_option maxHeartbeats 4000000 in
theorem tell_any (w : World) (base tb fb mb n : Nat) (v : Value) (G : Ft → Option Bool) (L : List Ft) (x : Ft) (hx : FtOk x) (hS : Fs w base tb fb mb n v G L) (hL : L.length ≤ 100000) (hn : n ≤ 100000) :
    Calls Tryz.prog 38 #[.agg #[.int .i64 x.1, .int .i64 x.2.1, .string x.2.2.1, .int .i64 x.2.2.2], .pointer (some ⟨tb, 0, none⟩), .pointer (some ⟨fb, 0, none⟩)] w fun e w' => e = .returned (.tuple #[]) ∧ Told base tb fb mb n v L w w' := by
  have hb1 : Below w.heap.size w (fbox w x) := (Below.refl _ _).alloc (Nat.le_refl _) _
  have hS1 := hS.below hb1
  have hlk := look_fault hS1 hx
  obtain ⟨w2, hst, hM, hg2, hz2⟩ := store_fault hS1 hx (by omega)
  have k0 : (fbox w x).cell? ⟨w.heap.size, 0, none⟩ = some (.int .i64 x.1) := by simp
  have k1 : (fbox w x).cell? ⟨w.heap.size, 1, none⟩ = some (.int .i64 x.2.1) := by simp
  have k2 : (fbox w x).cell? ⟨w.heap.size, 2, none⟩ = some (.string x.2.2.1) := by simp
  have k3 : (fbox w x).cell? ⟨w.heap.size, 3, none⟩ = some (.int .i64 x.2.2.2) := by simp
  have kt := hS1.tcell
  have hs1 : (fbox w x).heap.size = w.heap.size + 1 := by simp
  obtain ⟨l1, l2, l3, l4, l5⟩ := hS.lo
  cases hG : (G x).getD false with
  | true =>
    rw [hG] at hlk
    have HR : Hid (Told base tb fb mb n v L w (fbox w x)) := Lib.hid ⟨n, v, G, L, hS1, fun e => (by rw [hS.nil e x] at hG; cases hG), by omega, by omega, Fg.of_below hb1⟩
    clear hst hM hg2 hz2 hG hS hS1 hb1
    obtain ⟨a, b, c, d⟩ := x
    simp only [fbox] at *
    go_enter Tryz.func38, Tryz.ntmps38
    go_wp2
    refine bodyPost_end (results_none rfl _ _ _) rfl ?_
    exact ⟨rfl, HR.out⟩
  | false =>
    rw [hG] at hlk
    have hmb : mb < w.heap.size := hS.mp.lt
    have hown : ∀ q, v.ownBlock = some q → q < w.heap.size := fun q hq => (hS.own hq).2
    have hne : ∀ q, q < base → v.ownBlock ≠ some q := fun q hq e => by have := (hS.own e).1; omega
    have c2 : ∀ q j, q < (fbox w x).heap.size → q ≠ mb → w2.cell? ⟨q, j, none⟩ = (fbox w x).cell? ⟨q, j, none⟩ := fun q j hq hm => World.cell?_of_block (hg2.block q hq (fun e => hm (by injection e)))
    have m0 := (c2 w.heap.size 0 (by omega) (by omega)).trans k0
    have m1 := (c2 w.heap.size 1 (by omega) (by omega)).trans k1
    have m2 := (c2 w.heap.size 2 (by omega) (by omega)).trans k2
    have m3 := (c2 w.heap.size 3 (by omega) (by omega)).trans k3
    have mf := (c2 fb 0 (by have := hS.flt; omega) hS.fm).trans hS1.fcell
    have hrow2 : Fw w2 base v L := hS1.row.keep fun q hq => hg2.block q (hS1.own hq).2 (fun e => by injection e with e; have := (hS1.own hq).1; omega)
    obtain ⟨v', w4, hap, hF4, hg4, hloc⟩ := app_fault 29 x hrow2 (by omega) (by have e1 : w2.heap.size = w.heap.size + 1 := hz2.trans hs1; omega)
    have hs3 : (fbox w2 x).heap.size = w2.heap.size + 1 := by simp
    have hf4 : w4.heap[fb]? = some (.cells #[v] 29 (0, 0)) := (hg4.block fb (show fb < (fbox w2 x).heap.size by have := hS.flt; omega) (fun e => hne fb l2 e.symm)).trans ((show (fbox w2 x).heap[fb]? = w2.heap[fb]? from (by have hq : fb < w2.heap.size := (by have := hS.flt; omega); first | exact heap_alloc_old w2 _ hq | exact heap_alloc_old w2 _ _ hq)).trans ((hg2.block fb (by have := hS.flt; omega) (fun e => hS.fm (by injection e))).trans hS1.fbx))
    have k4 : w4.cell? ⟨fb, 0, none⟩ = some v := by simp [World.cell?, hf4]
    have e4 : w4.frozen? ⟨fb, 0, none⟩ = false := by simp [World.frozen?, hf4]
    have HR : Hid (Told base tb fb mb n v L w (w4.setCell ⟨fb, 0, none⟩ v')) := Lib.hid (told_more x hS1 hb1 l5 hM hg2 hz2 hF4 hg4 hloc hS.flt hmb hS.tlt hown)
    obtain ⟨A4, c4, hv4⟩ := hF4.form
    obtain ⟨A1, c1, hv1⟩ := hS.row.form
    clear hM hg2 hg4 hG hS hS1 hb1 c2 hrow2 hF4 hf4 hloc hown hne hx hz2 hs1 hs3 l1 l2 l3 l4 l5 hmb
    subst hv4 hv1
    obtain ⟨a, b, c, d⟩ := x
    simp only [fbox] at *
    generalize (L ++ [(a, b, c, d)]).length = n4 at *
    generalize L.length = nl at *
    go_enter Tryz.func38, Tryz.ntmps38
    go_wp2_with (first
      | (at_builtin; refine Lib.wpList_append_run _ rfl _ _ _ _ rfl _ _ rfl rfl _ _ hap ?_)
      | fail)
    refine bodyPost_end (results_none rfl _ _ _) rfl ?_
    exact ⟨rfl, HR.out⟩
end Go.Proofs.YtbkffdfboloogaaGreatDoor
