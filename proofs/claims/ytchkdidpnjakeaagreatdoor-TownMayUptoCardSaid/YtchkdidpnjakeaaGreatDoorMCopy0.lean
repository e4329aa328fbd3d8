/- What a setup's copy consists of. -/
import Derived.Test.YtchkdidpnjakeaaGreatDoorGMClone
import Derived.Test.YtchkdidpnjakeaaGreatDoorGBNew3
namespace Go.Proofs.YtchkdidpnjakeaaGreatDoor
open Go.RowKit Go.Maps Go.Lib Led
set_option linter.unusedVariables false
set_option maxRecDepth 100000

section
variable {α : Type} (f : α → List Value) (n : Nat) (hf : ∀ x, (f x).length = n)
include hf
theorem flat_len (L : List α) : (L.flatMap f).length = L.length * n := by
  induction L with
  | nil => simp
  | cons x L ih => rw [List.flatMap_cons, List.length_append, ih, hf, List.length_cons, Nat.succ_mul]; omega
theorem flat_at : ∀ (L : List α) (i : Nat) (x : α), L[i]? = some x → ∀ j v, (f x)[j]? = some v → (L.flatMap f)[i * n + j]? = some v
  | [], i, x, h, j, v, hv => by simp at h
  | y :: L, 0, x, h, j, v, hv => by
    simp at h
    subst h
    rw [List.flatMap_cons, Nat.zero_mul, Nat.zero_add, List.getElem?_append_left (List.getElem?_eq_some_iff.1 hv).1]
    exact hv
  | y :: L, i + 1, x, h, j, v, hv => by
    have := flat_at L i x (by simpa using h) j v hv
    rw [List.flatMap_cons, Nat.succ_mul, List.getElem?_append_right (by rw [hf]; omega), hf]
    have e : i * n + n + j - n = i * n + j := by omega
    rw [e]
    exact this
theorem flat_inv (hn : 0 < n) (L : List α) (m : Nat) (v : Value) (h : (L.flatMap f)[m]? = some v) : ∃ x, L[m / n]? = some x ∧ (f x)[m % n]? = some v := by
  have hl := (List.getElem?_eq_some_iff.1 h).1
  rw [flat_len f n hf] at hl
  have hi : m / n < L.length := Nat.div_lt_of_lt_mul (by rw [Nat.mul_comm]; exact hl)
  have hj : m % n < n := Nat.mod_lt _ hn
  have hjx : m % n < (f L[m / n]).length := by rw [hf]; exact hj
  have h1 := flat_at f n hf L (m / n) _ (List.getElem?_eq_getElem hi) (m % n) _ (List.getElem?_eq_getElem hjx)
  have e : m / n * n + m % n = m := by rw [Nat.mul_comm]; exact Nat.div_add_mod m n
  rw [e, h] at h1
  exact ⟨_, List.getElem?_eq_getElem hi, by rw [List.getElem?_eq_getElem hjx]; exact h1.symm⟩
theorem flat_set : ∀ (L : List α) (i : Nat) (x y : α) (j : Nat) (v : Value), L[i]? = some x → j < n → f y = (f x).set j v → (L.flatMap f).set (i * n + j) v = (L.set i y).flatMap f
  | [], i, x, y, j, v, h, _, _ => by simp at h
  | z :: L, 0, x, y, j, v, h, hj, hy => by
    simp at h
    subst h
    rw [List.flatMap_cons, Nat.zero_mul, Nat.zero_add, List.set_append_left _ _ (by rw [hf]; exact hj), List.set_cons_zero, List.flatMap_cons, hy]
  | z :: L, i + 1, x, y, j, v, h, hj, hy => by
    have := flat_set L i x y j v (by simpa using h) hj hy
    rw [List.flatMap_cons, Nat.succ_mul, List.set_append_right _ _ (by rw [hf]; omega), hf, List.set_cons_succ, List.flatMap_cons, ← this]
    congr 2
    omega
end
/-- blocks that copying a setup never turns once they are made -/
def TkT (t : TypeId) : Prop := t ≠ 29 ∧ t ≠ 72
instance (t : TypeId) : Decidable (TkT t) := by unfold TkT; infer_instance
def TkB (w : World) (q : Nat) : Prop := ∃ cs t fr, w.heap[q]? = some (.cells cs t fr) ∧ TkT t
def Tk (w w' : World) : Prop := ∀ (q : Nat) (cs : Array Value) (t : TypeId) (fr : Nat × Nat), w.heap[q]? = some (.cells cs t fr) → TkT t → w'.heap[q]? = some (.cells cs t fr)
section
variable {w w' w2 : World} {q : Nat} {A : Option Addr} {vs : List Value}
theorem Tk.of_below (h : Below w.heap.size w w') : Tk w w' := fun q cs t fr h1 _ => (h.block q (Array.getElem?_eq_some_iff.1 h1).1).trans h1
theorem Tk.refl (w : World) : Tk w w := fun _ _ _ _ h _ => h
theorem Tk.trans (h : Tk w w') (k : Tk w' w2) : Tk w w2 := fun q cs t fr h1 h2 => k q cs t fr (h q cs t fr h1 h2) h2
theorem Tk.setCell (h : Tk w w') {g : Nat} {cs : Array Value} {t : TypeId} {fr : Nat × Nat} (hg : w'.heap[g]? = some (.cells cs t fr)) (ht : ¬ TkT t) (j : Nat) (v : Value) : Tk w (w'.setCell ⟨g, j, none⟩ v) := fun q cs' t' fr' h1 h2 => by
  have h3 := h q cs' t' fr' h1 h2
  rw [heap_setCell_other _ _ _ _ (show q ≠ g from fun e => by
    rw [e, hg] at h3
    injection h3 with h3
    injection h3 with _ h3
    exact ht (h3 ▸ h2))]
  exact h3
theorem TkB.lt (h : TkB w q) : q < w.heap.size := by
  obtain ⟨cs, t, fr, h1, _⟩ := h
  exact (Array.getElem?_eq_some_iff.1 h1).1
theorem TkB.keep (h : TkB w q) (hi : Tk w w') : TkB w' q ∧ ∀ j, w'.cell? ⟨q, j, none⟩ = w.cell? ⟨q, j, none⟩ := by
  obtain ⟨cs, t, fr, h1, h2⟩ := h
  have h3 := hi q cs t fr h1 h2
  exact ⟨⟨cs, t, fr, h3, h2⟩, fun j => World.cell?_of_block (by rw [h1, h3])⟩
/-- cells that stand -/
def Rw (w : World) (A : Option Addr) (vs : List Value) : Prop := 0 < vs.length → ∃ g, A = some ⟨g, 0, none⟩ ∧ TkB w g ∧ ∀ j u, vs[j]? = some u → w.cell? ⟨g, j, none⟩ = some u
theorem Rw.keep (h : Rw w A vs) (hi : Tk w w') : Rw w' A vs := fun h0 => by
  obtain ⟨g, e, hg, hc⟩ := h h0
  obtain ⟨hg', hk⟩ := hg.keep hi
  exact ⟨g, e, hg', fun j u hu => (hk j).trans (hc j u hu)⟩
theorem Rw.of_row {base n c : Nat} {e : TypeId} {size : Nat} (h : w.ownsRow base e size (.slice A n c) n vs) (he : TkT e) : Rw w A vs := fun h0 => by
  have hl := h.1
  rcases h.2 with ⟨_, h1⟩ | ⟨g, cap, cur, h1, _, h3, _⟩
  · subst h1; simp at hl; simp [hl] at h0
  · injection h1 with h1 _ _
    subst h1
    refine ⟨g, rfl, ⟨cur, e, (0, 0), h3, he⟩, fun j u hu => ?_⟩
    rw [h.cellAt j (by rw [← hl]; exact (List.getElem?_eq_some_iff.1 hu).1)]
    exact hu
end
def pyC (y : Py) : List Value := [.string y.nm, .string y.bk, .int .i64 y.kd]
theorem pyC_len (y : Py) : (pyC y).length = 3 := rfl
theorem Rw.pys {w : World} {A : Option Addr} {L : List Py} (h : Rw w A (L.flatMap pyC)) : Pys w w.heap.size A L := fun h0 => by
  obtain ⟨g, e, hg, hc⟩ := h (by rw [flat_len pyC 3 pyC_len]; omega)
  refine ⟨g, 0, e, hg.lt, fun i x hx => ?_⟩
  have k := flat_at pyC 3 pyC_len L i x hx
  exact ⟨by rw [Nat.zero_add]; exact hc _ _ (k 0 _ rfl), by rw [Nat.zero_add]; exact hc _ _ (k 1 _ rfl), by rw [Nat.zero_add]; exact hc _ _ (k 2 _ rfl)⟩
def enC (y : Ent) : List Value := [.string y.acc, .string y.cur, .int .i64 y.n]
theorem enC_len (y : Ent) : (enC y).length = 3 := rfl
theorem Rw.ent {w : World} {A : Option Addr} {L : List Ent} (h : Rw w A (L.flatMap enC)) : Re w w.heap.size A L := fun h0 => by
  obtain ⟨g, e, hg, hc⟩ := h (by rw [flat_len enC 3 enC_len]; omega)
  refine ⟨g, 0, e, hg.lt, fun i x hx => ?_⟩
  have k := flat_at enC 3 enC_len L i x hx
  exact ⟨by rw [Nat.zero_add]; exact hc _ _ (k 0 _ rfl), by rw [Nat.zero_add]; exact hc _ _ (k 1 _ rfl), by rw [Nat.zero_add]; exact hc _ _ (k 2 _ rfl)⟩
def inC (y : Int) : Value := .int .i64 y
theorem Rw.it {w : World} {A : Option Addr} {L : List Int} (h : Rw w A (L.map inC)) : It w w.heap.size A L := fun h0 => by
  obtain ⟨g, e, hg, hc⟩ := h (by simpa using h0)
  exact ⟨g, 0, e, hg.lt, fun j x hx => by rw [Nat.zero_add]; exact hc j _ (by rw [List.getElem?_map, hx]; rfl)⟩
section
variable {w : World} {B : Nat} {A : Option Addr}
theorem copyPy {L : List Py} (h : Pys w B A L) (c : Nat) (hl : L.length ≤ 100000000) : Calls Tryz.prog 41 #[.slice A L.length c] w fun e w' => ∃ A' c', e = .returned (.slice A' L.length c') ∧ Rw w' A' (L.flatMap pyC) ∧ Below w.heap.size w w' := by
  refine (clonePy A L.length c (L.flatMap pyC) w (flat_len pyC 3 pyC_len L) (fun hn => ?_) (fun ad hA j u hj => ?_) (fun u hu => ?_) hl).mono ?_
  · by_cases h0 : 0 < L.length
    · obtain ⟨g, off, e, _⟩ := h h0
      rw [hn] at e
      cases e
    · omega
  · obtain ⟨x, hx, hv⟩ := flat_inv pyC 3 pyC_len (by omega) L j u hj
    obtain ⟨g, off, e, _, hc⟩ := h (by have := (List.getElem?_eq_some_iff.1 hx).1; omega)
    rw [hA] at e
    injection e with e
    subst e
    obtain ⟨c0, c1, c2⟩ := hc _ x hx
    rw [Addr.add_lit]
    have hd : j = j / 3 * 3 + j % 3 := by omega
    have hm : j % 3 < 3 := Nat.mod_lt _ (by omega)
    generalize j % 3 = m at *
    generalize j / 3 = i at *
    subst hd
    match m, hm, hv with
    | 0, _, hv => cases hv; exact c0
    | 1, _, hv => cases hv; rw [← Nat.add_assoc]; exact c1
    | 2, _, hv => cases hv; rw [← Nat.add_assoc]; exact c2
  · obtain ⟨x, _, hx⟩ := List.mem_flatMap.1 hu
    simp [pyC] at hx
    rcases hx with rfl | rfl | rfl <;> rfl
  · rintro e w' ⟨A', c', rfl, h1, h2⟩
    exact ⟨A', c', rfl, Rw.of_row h1 (by decide), h2⟩
theorem copyEn {L : List Ent} (h : Re w B A L) (c : Nat) (hl : L.length ≤ 100000000) : Calls Tryz.prog 42 #[.slice A L.length c] w fun e w' => ∃ A' c', e = .returned (.slice A' L.length c') ∧ Rw w' A' (L.flatMap enC) ∧ Below w.heap.size w w' := by
  refine (cloneEn A L.length c (L.flatMap enC) w (flat_len enC 3 enC_len L) (fun hn => ?_) (fun ad hA j u hj => ?_) (fun u hu => ?_) hl).mono ?_
  · by_cases h0 : 0 < L.length
    · obtain ⟨g, off, e, _⟩ := h h0
      rw [hn] at e
      cases e
    · omega
  · obtain ⟨x, hx, hv⟩ := flat_inv enC 3 enC_len (by omega) L j u hj
    obtain ⟨g, off, e, _, hc⟩ := h (by have := (List.getElem?_eq_some_iff.1 hx).1; omega)
    rw [hA] at e
    injection e with e
    subst e
    obtain ⟨c0, c1, c2⟩ := hc _ x hx
    rw [Addr.add_lit]
    have hd : j = j / 3 * 3 + j % 3 := by omega
    have hm : j % 3 < 3 := Nat.mod_lt _ (by omega)
    generalize j % 3 = m at *
    generalize j / 3 = i at *
    subst hd
    match m, hm, hv with
    | 0, _, hv => cases hv; exact c0
    | 1, _, hv => cases hv; rw [← Nat.add_assoc]; exact c1
    | 2, _, hv => cases hv; rw [← Nat.add_assoc]; exact c2
  · obtain ⟨x, _, hx⟩ := List.mem_flatMap.1 hu
    simp [enC] at hx
    rcases hx with rfl | rfl | rfl <;> rfl
  · rintro e w' ⟨A', c', rfl, h1, h2⟩
    exact ⟨A', c', rfl, Rw.of_row h1 (by decide), h2⟩
theorem copyIt {L : List Int} (h : It w B A L) (c : Nat) (hl : L.length ≤ 100000000) : Calls Tryz.prog 43 #[.slice A L.length c] w fun e w' => ∃ A' c', e = .returned (.slice A' L.length c') ∧ Rw w' A' (L.map inC) ∧ Below w.heap.size w w' := by
  refine (cloneInt A L.length c (L.map inC) w (by simp) (fun hn => ?_) (fun ad hA j u hj => ?_) (fun u hu => ?_) hl).mono ?_
  · by_cases h0 : 0 < L.length
    · obtain ⟨g, off, e, _⟩ := h h0
      rw [hn] at e
      cases e
    · omega
  · rw [List.getElem?_map] at hj
    cases hx : L[j]? with
    | none => rw [hx] at hj; cases hj
    | some x =>
      rw [hx] at hj
      injection hj with hj
      subst hj
      obtain ⟨g, off, e, _, hc⟩ := h (by have := (List.getElem?_eq_some_iff.1 hx).1; omega)
      rw [hA] at e
      injection e with e
      subst e
      rw [Addr.add_lit]
      exact hc j x hx
  · obtain ⟨x, _, rfl⟩ := List.mem_map.1 hu
    rfl
  · rintro e w' ⟨A', c', rfl, h1, h2⟩
    exact ⟨A', c', rfl, Rw.of_row h1 (by decide), h2⟩
end
/-- a deal, and where its boxes lie -/
structure Dpl where
  x : Dl
  A : Option Addr
  c : Nat
def Dpl.cells (y : Dpl) : List Value := (dlA y.x y.A y.c).toList
theorem Dpl.len (y : Dpl) : y.cells.length = 17 := rfl
/-- boxes in blocks that stand -/
def BxF (w : World) (A : Option Addr) (l : List Bx) : Prop := 0 < l.length → ∃ g L, A = some ⟨g, 0, none⟩ ∧ TkB w g ∧ L.map Bp.x = l ∧ (∀ j u, (cellsX L)[j]? = some u → w.cell? ⟨g, j, none⟩ = some u) ∧ ∀ y ∈ L, LtF w y.A y.x.l ∧ (y.A = none → y.c = 0)
theorem BxF.keep {w w' : World} {A : Option Addr} {l : List Bx} (h : BxF w A l) (hi : Tk w w') : BxF w' A l := fun h0 => by
  obtain ⟨g, L, e, hg, hl, hc, hy⟩ := h h0
  obtain ⟨hg', hk⟩ := hg.keep hi
  exact ⟨g, L, e, hg', hl, fun j u hu => (hk j).trans (hc j u hu), fun y hm => ⟨(hy y hm).1.blk fun g cs fr hq => hi g cs _ fr hq (by decide), (hy y hm).2⟩⟩
theorem BxF.bxs {w : World} {A : Option Addr} {l : List Bx} (h : BxF w A l) : Bxs w w.heap.size A l := fun h0 => by
  obtain ⟨g, L, e, hg, hl, hc, hy⟩ := h h0
  refine ⟨g, 0, e, hg.lt, fun i b hb => ?_⟩
  rw [← hl, List.getElem?_map] at hb
  cases hx : L[i]? with
  | none => rw [hx] at hb; cases hb
  | some y =>
    rw [hx] at hb
    injection hb with hb
    subst hb
    obtain ⟨k0, k1, k2⟩ := cellsX_at L i y hx
    obtain ⟨q1, q2⟩ := hy y (List.mem_of_getElem? hx)
    rw [Nat.zero_add]
    exact ⟨y.A, y.c, hc _ _ k0, hc _ _ k1, hc _ _ k2, fun h1 => by
      obtain ⟨g2, off, cs, fr, e2, hg2, hl2⟩ := q1 h1
      exact ⟨g2, off, e2, (Array.getElem?_eq_some_iff.1 hg2).1, hl2⟩, q2⟩
theorem Cb.bxf {w0 w : World} {g cap : Nat} {D : List Bx} {L : List Bp} (h : Cb w0 w g cap L.length D L) : BxF w (some ⟨g, 0, none⟩) D := fun h0 => by
  obtain ⟨cs, fr, hb⟩ := h.blk
  refine ⟨g, L, rfl, ⟨cs, _, fr, hb, by decide⟩, h.pts, fun j u hu => ?_, fun y hm => ?_⟩
  · rw [h.row.cellAt j (by rw [← cellsX_len]; exact (List.getElem?_eq_some_iff.1 hu).1)]
    exact hu
  · obtain ⟨i, hi⟩ := List.mem_iff_getElem?.1 hm
    exact h.new i y hi (List.getElem?_eq_some_iff.1 hi).1
/-- how far the copying of the deals has come -/
structure DyI (w0 w X : World) (DA : Option Addr) (c k : Nat) (D : List Dl) (L : List Dpl) : Prop where
  pts : L.map Dpl.x = D
  row : X.ownsRow w0.heap.size 72 17 (.slice DA L.length c) L.length (L.flatMap Dpl.cells)
  old : ∀ i y, L[i]? = some y → k ≤ i → Bxs X w.heap.size y.A y.x.box ∧ (y.A = none → y.x.box.length = 0)
  new : ∀ i y, L[i]? = some y → i < k → BxF X y.A y.x.box
  bel : Below w.heap.size w X
section
variable {w0 w X Y : World} {DA : Option Addr} {c k : Nat} {D : List Dl} {L : List Dpl}
theorem DyI.len (h : DyI w0 w X DA c k D L) : L.length = D.length := by have := congrArg List.length h.pts; simpa using this
theorem DyI.addr (h : DyI w0 w X DA c k D L) (h0 : 0 < D.length) : ∃ g, DA = some ⟨g, 0, none⟩ ∧ w0.heap.size ≤ g ∧ g < X.heap.size ∧ ∃ cs, X.heap[g]? = some (.cells cs 72 (0, 0)) := by
  rcases h.row.2 with ⟨h1, hn⟩ | ⟨g, cap, cur, he, h2, h3, _⟩
  · have := h.len; omega
  · injection he with e1 _ _
    exact ⟨g, e1, h2, (Array.getElem?_eq_some_iff.1 h3).1, cur, h3⟩
theorem DyI.at_ {g : Nat} (h : DyI w0 w X (some ⟨g, 0, none⟩) c k D L) {i : Nat} {y : Dpl} (hi : L[i]? = some y) : (∀ j v, y.cells[j]? = some v → X.cell? ⟨g, i * 17 + j, none⟩ = some v) ∧ ∀ j, X.frozen? ⟨g, j, none⟩ = false := by
  refine ⟨fun j v hv => ?_, fun j => h.row.frozenAt _⟩
  have hu := flat_at Dpl.cells 17 Dpl.len L i y hi j v hv
  rw [h.row.cellAt _ (by rw [← flat_len Dpl.cells 17 Dpl.len]; exact (List.getElem?_eq_some_iff.1 hu).1)]
  exact hu
theorem DyI.below (h : DyI w0 w X DA c k D L) (hb : Below X.heap.size X Y) : DyI w0 w Y DA c k D L :=
  ⟨h.pts, Led.ownsRow_kp h.row (Led.Kp.of_below (fun _ => False) hb) (fun _ _ e => e), fun i y hy hi => ⟨(h.old i y hy hi).1.kept (hb.mono h.bel.size), (h.old i y hy hi).2⟩, fun i y hy hi => (h.new i y hy hi).keep (Tk.of_below hb), h.bel.trans (hb.mono h.bel.size)⟩
theorem DyI.step {g : Nat} {A' : Option Addr} {c' : Nat} {y : Dpl} (h : DyI w0 w X (some ⟨g, 0, none⟩) c k D L) (hw : w.heap.size ≤ w0.heap.size) (hk : L[k]? = some y) (hb : Below X.heap.size X Y) (hN : BxF Y A' y.x.box) :
    DyI w0 w (Y.setCell ⟨g, k * 17 + 11, none⟩ (.slice A' y.x.box.length c')) (some ⟨g, 0, none⟩) c (k + 1) D (L.set k ⟨y.x, A', c'⟩) := by
  have h' := h.below hb
  have hg0 : w0.heap.size ≤ g := by
    rcases h.row.2 with ⟨h1, _⟩ | ⟨g', cap, cur, he, h2, _⟩
    · cases h1
    · injection he with e1 _ _
      injection e1 with e1
      injection e1 with e1
      omega
  obtain ⟨cs, hcs⟩ : ∃ cs, Y.heap[g]? = some (.cells cs 72 (0, 0)) := by
    rcases h'.row.2 with ⟨h1, _⟩ | ⟨g', cap, cur, he, h2, h3, _⟩
    · cases h1
    · injection he with e1 _ _
      injection e1 with e1
      injection e1 with e1
      subst e1
      exact ⟨cur, h3⟩
  have hT : Tk Y (Y.setCell ⟨g, k * 17 + 11, none⟩ (.slice A' y.x.box.length c')) := (Tk.refl Y).setCell hcs (by decide) _ _
  have hst := h'.row.stored (k * 17 + 11) (.slice A' y.x.box.length c')
  have hbw : Below w.heap.size Y (Y.setCell ⟨g, k * 17 + 11, none⟩ (.slice A' y.x.box.length c')) := (Below.refl _ _).setCell (show w.heap.size ≤ g by omega) _
  have hfs : (L.flatMap Dpl.cells).set (k * 17 + 11) (.slice A' y.x.box.length c') = (L.set k ⟨y.x, A', c'⟩).flatMap Dpl.cells := flat_set Dpl.cells 17 Dpl.len L k y ⟨y.x, A', c'⟩ 11 _ hk (by omega) rfl
  refine ⟨?_, ?_, ?_, ?_, ?_⟩
  · rw [← h.pts, List.map_set]
    apply List.ext_getElem?
    intro i
    rw [List.getElem?_set]
    split
    · rename_i e
      subst e
      obtain ⟨hk1, hx⟩ := List.getElem?_eq_some_iff.1 hk
      simp [hk1, hx]
    · rfl
  · have := hst.1
    rw [hfs] at this
    simpa using this
  · intro i z hz hi
    rw [List.getElem?_set_ne (by omega)] at hz
    exact ⟨(h'.old i z hz (by omega)).1.kept hbw, (h'.old i z hz (by omega)).2⟩
  · intro i z hz hi
    by_cases e : k = i
    · subst e
      rw [List.getElem?_set_self (List.getElem?_eq_some_iff.1 hk).1] at hz
      injection hz with hz
      subst hz
      exact hN.keep hT
    · rw [List.getElem?_set_ne e] at hz
      exact (h'.new i z hz (by omega)).keep hT
  · exact h'.bel.trans hbw
theorem DyI.dlw (h : DyI w0 w X DA c D.length D L) : Dlw X X.heap.size DA D := fun h0 => by
  obtain ⟨g, rfl, _, hg, _⟩ := h.addr h0
  refine ⟨g, 0, rfl, hg, fun i d hd => ?_⟩
  have hd2 := hd
  rw [← h.pts, List.getElem?_map] at hd2
  cases hx : L[i]? with
  | none => rw [hx] at hd2; cases hd2
  | some y =>
    rw [hx] at hd2
    injection hd2 with hd2
    subst hd2
    have hi : i < D.length := (List.getElem?_eq_some_iff.1 hd).1
    have hn := h.new i y hx hi
    refine ⟨y.A, y.c, fun j v hv => ?_, hn.bxs, fun hn0 => ?_⟩
    · rw [Nat.zero_add]
      exact (h.at_ hx).1 j v (by simpa [Dpl.cells] using hv)
    · by_cases h1 : 0 < y.x.box.length
      · obtain ⟨g2, _, e2, _⟩ := hn h1
        rw [hn0] at e2
        cases e2
      · omega
end
/-- deals that stand are cloned -/
theorem copyDl {w : World} {A : Option Addr} {D : List Dl} (h : Dlw w w.heap.size A D) (c : Nat) (hl : D.length ≤ 100000000) {Y : World} (hY : Below w.heap.size w Y) : Calls Tryz.prog 44 #[.slice A D.length c] Y fun e w' => ∃ A' c' L, e = .returned (.slice A' D.length c') ∧ DyI Y w w' A' c' 0 D L ∧ Below Y.heap.size Y w' := by
  obtain ⟨L, hL, hc0, ho⟩ : ∃ L : List Dpl, L.map Dpl.x = D ∧ (∀ g off, A = some ⟨g, off, none⟩ → g < w.heap.size → ∀ j u, (L.flatMap Dpl.cells)[j]? = some u → w.cell? ⟨g, off + j, none⟩ = some u) ∧ ∀ y ∈ L, Bxs w w.heap.size y.A y.x.box ∧ (y.A = none → y.x.box.length = 0) := by
    by_cases h0 : 0 < D.length
    · obtain ⟨g, off, e, hg, hc⟩ := h h0
      clear h h0 hl
      have key : ∀ (T : List Dl) (o : Nat), (∀ i d, T[i]? = some d → ∃ A' c', (∀ j v, (dlA d A' c')[j]? = some v → w.cell? ⟨g, o + i * 17 + j, none⟩ = some v) ∧ Bxs w w.heap.size A' d.box ∧ (A' = none → d.box.length = 0)) → ∃ L : List Dpl, L.map Dpl.x = T ∧ (∀ j u, (L.flatMap Dpl.cells)[j]? = some u → w.cell? ⟨g, o + j, none⟩ = some u) ∧ ∀ y ∈ L, Bxs w w.heap.size y.A y.x.box ∧ (y.A = none → y.x.box.length = 0) := by
        intro T
        induction T with
        | nil => exact fun o _ => ⟨[], rfl, fun j u hu => by simp at hu, fun y hy => by simp at hy⟩
        | cons d T ih =>
          intro o hT
          obtain ⟨A', c', k1, k2, k3⟩ := hT 0 d rfl
          obtain ⟨L, l1, l2, l3⟩ := ih (o + 17) (fun i x hx => by
            obtain ⟨A2, c2, m1, m2⟩ := hT (i + 1) x (by simpa using hx)
            refine ⟨A2, c2, fun j v hv => ?_, m2⟩
            have := m1 j v hv
            have e : o + (i + 1) * 17 + j = o + 17 + i * 17 + j := by omega
            rw [e] at this
            exact this)
          refine ⟨⟨d, A', c'⟩ :: L, by simp [l1], fun j u hu => ?_, fun y hy => ?_⟩
          · rw [List.flatMap_cons] at hu
            by_cases hj : j < 17
            · rw [List.getElem?_append_left (by rw [Dpl.len]; exact hj)] at hu
              have := k1 j u (by simpa [Dpl.cells] using hu)
              simpa using this
            · rw [List.getElem?_append_right (by rw [Dpl.len]; omega), Dpl.len] at hu
              have := l2 _ u hu
              have e : o + 17 + (j - 17) = o + j := by omega
              rw [e] at this
              exact this
          · rcases List.mem_cons.1 hy with rfl | hy
            · exact ⟨k2, k3⟩
            · exact l3 y hy
      obtain ⟨L, l1, l2, l3⟩ := key D off hc
      refine ⟨L, l1, fun g' off' e' _ => ?_, l3⟩
      rw [e] at e'
      injection e' with e'
      injection e' with e1 e2
      subst e1 e2
      exact l2
    · have : D = [] := List.eq_nil_of_length_eq_zero (by omega)
      subst this
      exact ⟨[], rfl, fun _ _ _ _ j u hu => by simp at hu, fun y hy => by simp at hy⟩
  have hlen : L.length = D.length := by have := congrArg List.length hL; simpa using this
  have hAn : A = none → D.length = 0 := fun hn => by
    by_cases h0 : 0 < D.length
    · obtain ⟨g, off, e, _⟩ := h h0
      rw [hn] at e
      cases e
    · omega
  refine (cloneDl A D.length c (L.flatMap Dpl.cells) Y (by rw [flat_len Dpl.cells 17 Dpl.len, hlen]) hAn (fun ad hA j u hj => ?_) (fun u hu => ?_) hl).mono ?_
  · have h0 : 0 < D.length := by
      have := (List.getElem?_eq_some_iff.1 hj).1
      rw [flat_len Dpl.cells 17 Dpl.len] at this
      omega
    obtain ⟨g, off, e, hg, _⟩ := h h0
    rw [hA] at e
    injection e with e
    subst e
    rw [Addr.add_lit]
    exact (hY.cell (p := ⟨g, off + j, none⟩) hg).trans (hc0 g off hA hg j u hj)
  · obtain ⟨y, _, hy⟩ := List.mem_flatMap.1 hu
    simp [Dpl.cells, dlA] at hy
    rcases hy with rfl | rfl | rfl | rfl | rfl | rfl | rfl | rfl | rfl | rfl | rfl | rfl | rfl | rfl | rfl | rfl | rfl <;> rfl
  · rintro e w' ⟨A', c', rfl, h1, h2⟩
    refine ⟨A', c', L, rfl, ⟨hL, by rw [hlen]; exact h1, fun i y hy _ => ?_, fun i y _ hi => absurd hi (by omega), hY.trans (h2.mono hY.size)⟩, h2⟩
    obtain ⟨q1, q2⟩ := ho y (List.mem_of_getElem? hy)
    exact ⟨q1.kept (hY.trans (h2.mono hY.size)), q2⟩
end Go.Proofs.YtchkdidpnjakeaaGreatDoor
