/- sense.Check: a round over the needs, its pieces. sense.Check. -/
import Derived.Test.YtbkffdfboloogaaGreatDoorMW
import Derived.Test.YtbkffdfboloogaaGreatDoorMP
import Derived.Test.YtbkffdfboloogaaGreatDoorMR
import Derived.Test.YtbkffdfboloogaaGreatDoorMO
import Derived.Laws.EntriesVeiled
namespace Go.Proofs.YtbkffdfboloogaaGreatDoor
open Go.RowKit Go.Maps Go.Lib
set_option linter.unusedVariables false
set_option maxRecDepth 100000

def tellV (N : Nat) : Value := .func (.func 38) #[] #[.pointer (some ⟨N + 1 + 1 + 1, 0, none⟩), .pointer (some ⟨N + 1, 0, none⟩)]
/-- the world in which the boxes have been made -/
def ckW (w : World) (c : Cr) (A : Option Addr) (cp : Nat) : World :=
  ((((w.alloc (.cells (crA c A cp) 26)).alloc (.cells #[.slice none 0 0] 29)).alloc (.map #[] 0)).alloc (.cells #[.map (some (w.heap.size + 1 + 1))] 79)).alloc (.cells #[tellV w.heap.size] 80)
section
variable (w : World) (c : Cr) (A : Option Addr) (cp : Nat)
theorem ckW_size : (ckW w c A cp).heap.size = w.heap.size + 1 + 1 + 1 + 1 + 1 := by simp [ckW]
theorem ckW_below : Below w.heap.size w (ckW w c A cp) :=
  (((((Below.refl _ w).alloc (Nat.le_refl _) _).alloc (by simp) _).alloc (by simp; omega) _).alloc (by simp; omega) _).alloc (by simp; omega) _
theorem alloc_at (W : World) (o : Obj) (q : Nat) (hq : q = W.heap.size) : (W.alloc o).heap[q]? = some o := by subst hq; exact heap_alloc_new _ _
theorem alloc_old (W : World) (o : Obj) (q : Nat) (hq : q < W.heap.size) {x : Option Obj} (h : W.heap[q]? = x) : (W.alloc o).heap[q]? = x := by
  first
    | exact (heap_alloc_old _ _ hq).trans h
    | exact (heap_alloc_old _ _ _ hq).trans h
theorem ckW_c : (ckW w c A cp).heap[w.heap.size]? = some (.cells (crA c A cp) 26 (0, 0)) :=
  alloc_old _ _ _ (by simp only [World.size_alloc] <;> omega) (alloc_old _ _ _ (by simp only [World.size_alloc] <;> omega) (alloc_old _ _ _ (by simp only [World.size_alloc] <;> omega) (alloc_old _ _ _ (by simp only [World.size_alloc] <;> omega) (heap_alloc_new _ _))))
theorem ckW_f : (ckW w c A cp).heap[w.heap.size + 1]? = some (.cells #[.slice none 0 0] 29 (0, 0)) :=
  alloc_old _ _ _ (by simp only [World.size_alloc] <;> omega) (alloc_old _ _ _ (by simp only [World.size_alloc] <;> omega) (alloc_old _ _ _ (by simp only [World.size_alloc] <;> omega) (alloc_at _ _ _ (by simp only [World.size_alloc] <;> omega))))
theorem ckW_m : Mp faultC yesE (ckW w c A cp) (w.heap.size + 1 + 1) 0 (fun _ => none) := by
  have h := Mp.made (C := faultC) (E := yesE) ((w.alloc (.cells (crA c A cp) 26)).alloc (.cells #[.slice none 0 0] 29))
  have e : ((w.alloc (.cells (crA c A cp) 26)).alloc (.cells #[.slice none 0 0] 29)).heap.size = w.heap.size + 1 + 1 := by simp
  rw [e] at h
  exact (h.alloc _).alloc _
theorem ckW_t : (ckW w c A cp).heap[w.heap.size + 1 + 1 + 1]? = some (.cells #[.map (some (w.heap.size + 1 + 1))] 79 (0, 0)) :=
  alloc_old _ _ _ (by simp only [World.size_alloc] <;> omega) (alloc_at _ _ _ (by simp only [World.size_alloc] <;> omega))
theorem ckW_u : (ckW w c A cp).heap[w.heap.size + 1 + 1 + 1 + 1]? = some (.cells #[tellV w.heap.size] 80 (0, 0)) := alloc_at _ _ _ (by simp only [World.size_alloc] <;> omega)
theorem ckW_fs : Fs (ckW w c A cp) (w.heap.size + 1 + 1 + 1 + 1 + 1) (w.heap.size + 1 + 1 + 1) (w.heap.size + 1) (w.heap.size + 1 + 1) 0 (.slice none 0 0) (fun _ => none) [] :=
  ⟨ckW_t w c A cp, ckW_f w c A cp, ckW_m w c A cp, Fw.nil _ _, ⟨by omega, by omega, by omega, by omega, by rw [ckW_size]; exact Nat.le_refl _⟩, fun _ _ => rfl⟩
end
/-- faults told so far -/
def MidN (w : World) (c : Cr) (A : Option Addr) (cp K : Nat) (P : Prop) (W : World) : Prop := Mid (w.heap.size + 1 + 1 + 1 + 1 + 1) (w.heap.size + 1 + 1 + 1) (w.heap.size + 1) (w.heap.size + 1 + 1) K P (ckW w c A cp) W
theorem MidN.begun (w : World) (c : Cr) (A : Option Addr) (cp : Nat) {P : Prop} (hP : ¬ P) : MidN w c A cp 0 P (ckW w c A cp) :=
  ⟨0, _, _, [], ckW_fs w c A cp, Fg.refl _ _ _ _, ⟨fun h => absurd rfl h, fun h => absurd h hP⟩, by simp, Nat.le_refl _⟩
section
variable {w : World} {c : Cr} {A : Option Addr} {cp K : Nat} {P : Prop} {W W' : World}
theorem MidN.below (h : MidN w c A cp K P W) : Below w.heap.size w W := (ckW_below w c A cp).trans (Mid.below h (by rw [ckW_size]; omega) (by omega) (by omega))
theorem MidN.size (h : MidN w c A cp K P W) : w.heap.size + 1 + 1 + 1 + 1 + 1 ≤ W.heap.size := by
  have := Mid.size h
  rw [ckW_size] at this
  exact this
theorem MidN.hc (h : MidN w c A cp K P W) : W.heap[w.heap.size]? = some (.cells (crA c A cp) 26 (0, 0)) := (Mid.blk h (by rw [ckW_size]; omega) (by omega) (by omega)).trans (ckW_c w c A cp)
theorem MidN.ht (h : MidN w c A cp K P W) : W.heap[w.heap.size + 1 + 1 + 1 + 1]? = some (.cells #[tellV w.heap.size] 80 (0, 0)) := (Mid.blk h (by rw [ckW_size]; omega) (by omega) (by omega)).trans (ckW_u w c A cp)
theorem MidN.old (h : MidN w c A cp K P W) (hb : Below W.heap.size W W') : MidN w c A cp K P W' := Mid.old h hb
theorem MidN.more (h : MidN w c A cp K P W) {K' : Nat} (hK : K ≤ K') : MidN w c A cp K' P W := Mid.more h hK
theorem MidN.iff (h : MidN w c A cp K P W) {P' : Prop} (e : P ↔ P') : MidN w c A cp K P' W := Mid.iff h e
/-- a block of a later date, no row of faults -/
def Later (w : World) (W : World) (q : Nat) (o : Obj) : Prop := W.heap[q]? = some o ∧ w.heap.size + 1 + 1 + 1 + 1 + 1 ≤ q ∧ ∀ cs fz, o ≠ .cells cs 52 fz
theorem Later.oks {q : Nat} {o : Obj} (h : Later w W q o) (k : Oks (w.heap.size + 1) (w.heap.size + 1 + 1) W W') : Later w W' q o := ⟨k q o h.1 (by have := h.2.1; omega) (by have := h.2.1; omega) h.2.2, h.2⟩
theorem Later.below {q : Nat} {o : Obj} (h : Later w W q o) (hb : Below W.heap.size W W') : Later w W' q o := ⟨(hb.block q (Array.getElem?_eq_some_iff.1 h.1).1).trans h.1, h.2⟩
/-- the kinds seen so far: their map at ab -/
def Ahead (w W : World) (ab k : Nat) (f : Int → Bool) : Prop := ∃ n G, Mp numC yesE W ab n G ∧ n ≤ k ∧ w.heap.size + 1 + 1 + 1 + 1 + 1 ≤ ab ∧ ∀ y, (Lit.int .i64 y).wf = true → (G y).getD false = f y
theorem Ahead.oks {ab k : Nat} {f : Int → Bool} (h : Ahead w W ab k f) (hk : Oks (w.heap.size + 1) (w.heap.size + 1 + 1) W W') : Ahead w W' ab k f := by
  obtain ⟨n, G, h1, h2, h3, h4⟩ := h
  exact ⟨n, G, hk.mp h1 (by omega) (by omega), h2, h3, h4⟩
theorem Ahead.below {ab k : Nat} {f : Int → Bool} (h : Ahead w W ab k f) (hb : Below W.heap.size W W') : Ahead w W' ab k f := by
  obtain ⟨n, G, h1, h2, h3, h4⟩ := h
  exact ⟨n, G, h1.below hb h1.lt, h2, h3, h4⟩
theorem Ahead.look {ab k : Nat} {f : Int → Bool} (h : Ahead w W ab k f) {y : Int} (hy : (Lit.int .i64 y).wf = true) : (Instr.lookup 81 (.map (some ab)) (.int .i64 y) false).run Tryz.prog W = .ok (.bool (f y)) W := by
  obtain ⟨n, G, h1, h2, h3, h4⟩ := h
  rw [← h4 y hy]
  exact h1.look Tryz.underlying81 (zeroBool _) trivial (x := y) hy
/-- what a round holds -/
structure Rnd (w : World) (c : Cr) (A : Option Addr) (cp K : Nat) (P : Prop) (x : Nd) (A' : Option Addr) (c' k ab bi bn m : Nat) (f : Int → Bool) (W : World) : Prop where
  mid : MidN w c A cp K P W
  bx : Later w W bi (.cells #[.int .i64 (k : Int)] 3 (0, 0))
  nd : Later w W bn (.cells (ndA x A' c') 35 (0, 0))
  ah : Ahead w W ab m f
variable {x : Nd} {A' : Option Addr} {c' k ab bi bn m : Nat} {f : Int → Bool}
theorem Rnd.old (h : Rnd w c A cp K P x A' c' k ab bi bn m f W) (hb : Below W.heap.size W W') : Rnd w c A cp K P x A' c' k ab bi bn m f W' := ⟨h.mid.old hb, h.bx.below hb, h.nd.below hb, h.ah.below hb⟩
theorem Rnd.more (h : Rnd w c A cp K P x A' c' k ab bi bn m f W) {K' : Nat} (hK : K ≤ K') : Rnd w c A cp K' P x A' c' k ab bi bn m f W := ⟨h.mid.more hK, h.bx, h.nd, h.ah⟩
theorem Rnd.iff (h : Rnd w c A cp K P x A' c' k ab bi bn m f W) {P' : Prop} (e : P ↔ P') : Rnd w c A cp K P' x A' c' k ab bi bn m f W := ⟨h.mid.iff e, h.bx, h.nd, h.ah⟩
theorem Rnd.cells (h : Rnd w c A cp K P x A' c' k ab bi bn m f W) : W.cell? ⟨w.heap.size + 1 + 1 + 1 + 1, 0, none⟩ = some (tellV w.heap.size) ∧ W.cell? ⟨bi, 0, none⟩ = some (.int .i64 (k : Int)) ∧
    W.cell? ⟨bn, 0, none⟩ = some (.int .i64 x.k) ∧ W.cell? ⟨bn, 1, none⟩ = some (.int .i64 x.c) ∧ W.cell? ⟨bn, 2, none⟩ = some (.int .i64 x.r.k) ∧ W.cell? ⟨bn, 3, none⟩ = some (.int .i64 x.r.p) ∧ W.cell? ⟨bn, 4, none⟩ = some (.string x.r.f) ∧ W.cell? ⟨bn, 5, none⟩ = some (.string x.r.t) ∧ W.cell? ⟨bn, 6, none⟩ = some (.int .i64 x.r.n) ∧ W.cell? ⟨bn, 7, none⟩ = some (.slice A' x.r.l.length c') := by
  have hn := h.nd.1
  refine ⟨one_cell h.mid.ht, one_cell h.bx.1, ?_, ?_, ?_, ?_, ?_, ?_, ?_, ?_⟩ <;> (rw [World.cell?, hn]; rfl)
theorem Rnd.tell (h : Rnd w c A cp K P x A' c' k ab bi bn m f W) (hK : K ≤ 100000) (y : Ft) (hy : FtOk y) :
    Calls Tryz.prog 38 #[.agg #[.int .i64 y.1, .int .i64 y.2.1, .string y.2.2.1, .int .i64 y.2.2.2], .pointer (some ⟨w.heap.size + 1 + 1 + 1, 0, none⟩), .pointer (some ⟨w.heap.size + 1, 0, none⟩)] W fun e w' => e = .returned (.tuple #[]) ∧ Rnd w c A cp (K + 1) True x A' c' k ab bi bn m f w' := by
  refine (Mid.tell h.mid hK y hy).mono ?_
  rintro e w' ⟨rfl, h1, h2⟩
  exact ⟨rfl, h1, h.bx.oks h2, h.nd.oks h2, h.ah.oks h2⟩
theorem Rnd.each (h : Rnd w c A cp K P x A' c' k ab bi bn m f W) (hK : K ≤ 90000) (hw : 8 ≤ w.heap.size) (hN : Ns w w.heap.size A c.needs) (hl : c.needs.length ≤ 1000000) (hNL : NL W w.heap.size A' x.r.l) (hS : Sm8 x) (hG : Gl w) (hx : -9223372036854775808 ≤ x.k ∧ x.k ≤ 9223372036854775807) (hk : k ≤ 1000000) :
    Calls Tryz.prog 39 #[.agg (rlA x.r A' c'), .func (.func 40) #[] #[.pointer (some ⟨w.heap.size, 0, none⟩), .pointer (some ⟨bn, 0, none⟩), .pointer (some ⟨w.heap.size + 1 + 1 + 1 + 1, 0, none⟩), .pointer (some ⟨bi, 0, none⟩)]] W fun e w' => e = .returned (.tuple #[]) ∧ Rnd w c A cp (K + 1000) (P ∨ WrongAt c x.k (atomsR x.r)) x A' c' k ab bi bn m f w' := by
  have hb := h.mid.below
  have hbi := h.bx.2.1
  have hbn := h.nd.2.1
  refine (Mid.each h.mid c x k A A' cp c' w.heap.size bn (w.heap.size + 1 + 1 + 1 + 1) bi w.heap.size hK h.mid.hc h.nd.1 h.mid.ht h.bx.1 ⟨by omega, by omega, by omega, by omega, by omega, by omega, by omega, by omega⟩ ⟨hw, by omega, by omega, by omega, by rw [ckW_size]; omega⟩ (hN.kept hb) hl hNL hS (hG.below hb) hx hk).mono ?_
  rintro e w' ⟨rfl, h1, h2, _⟩
  exact ⟨rfl, h1, h.bx.oks h2, h.nd.oks h2, h.ah.oks h2⟩
/-- a kind is put down as seen -/
theorem Rnd.put (h : Rnd w c A cp K P x A' c' k ab bi bn m f W) (hm : m ≤ 1000000) (hx : -9223372036854775808 ≤ x.k ∧ x.k ≤ 9223372036854775807) :
    ∃ w', (Instr.mapUpdate 81 (.map (some ab)) (.int .i64 x.k) (.bool true)).run Tryz.prog W = .ok () w' ∧ Rnd w c A cp K P x A' c' k ab bi bn (m + 1) (fun y => f y || decide (y = x.k)) w' := by
  obtain ⟨n, G, h1, h2, h3, h4⟩ := h.ah
  obtain ⟨w', g1, g2, g3⟩ := h1.store Tryz.underlying81 (by unfold maxLen; omega) (x := x.k) (wfK hx.1 hx.2) (v := true) trivial
  obtain ⟨es, clock, hmap⟩ := h1.map?
  have hg := g3.grown
  have ne : ∀ q (cs : Array Value) (t : TypeId) (fr : Nat × Nat), W.heap[q]? = some (Obj.cells cs t fr) → q ≠ ab := fun q cs t fr hq e => by rw [e, hmap] at hq; cases hq
  have bl : ∀ q (cs : Array Value) (t : TypeId) (fr : Nat × Nat), W.heap[q]? = some (Obj.cells cs t fr) → w'.heap[q]? = some (Obj.cells cs t fr) := fun q cs t fr hq => (hg.block q (Array.getElem?_eq_some_iff.1 hq).1 (fun e => ne q cs t fr hq (by injection e))).trans hq
  refine ⟨w', g1, Mid.grown h.mid hg (by rw [ckW_size]; exact h3) h1.lt (fun cs fz e => by rw [hmap] at e; cases e) (by rw [ckW_size]; exact Nat.le_refl _), ⟨bl _ _ _ _ h.bx.1, h.bx.2⟩, ⟨bl _ _ _ _ h.nd.1, h.nd.2⟩, n + 1, _, g2, by omega, h3, fun y hy => ?_⟩
  by_cases e : y = x.k
  · subst e
    rw [putG_same]
    simp
  · rw [putG_other _ _ e, h4 y hy]
    simp [e]
end
end Go.Proofs.YtbkffdfboloogaaGreatDoor
namespace Go.Proofs.YtbkffdfboloogaaGreatDoor
open Go.RowKit Go.Maps Go.Lib
set_option linter.unusedVariables false
set_option maxRecDepth 100000

/-- what both Checks leave: faults just where something is wrong -/
def CkP (c : Cr) (w : World) (e : Ending) (w' : World) : Prop := ∃ Av n cv, e = .returned (.slice Av n cv) ∧ (n = 0 ↔ ¬ Faulty c) ∧ Below w.heap.size w w'
/-- is a kind among the first k needs'? -/
def seen (c : Cr) (k : Nat) (y : Int) : Bool := (c.needs.take k).any fun x => decide (x.k = y)
/-- between two rounds -/
def Btw (w : World) (c : Cr) (A : Option Addr) (cp ab k : Nat) (W : World) : Prop := MidN w c A cp (1 + 1002 * k) (FaultyTo c k) W ∧ Ahead w W ab k (seen c k)
theorem btw_dup {c : Cr} {k : Nat} {x : Nd} (hx : c.needs[k]? = some x) : seen c k x.k = true ↔ DupAt c k := by
  unfold seen
  rw [dup_iff c k x hx, List.any_eq_true]
  constructor
  · rintro ⟨y, hy, e⟩; exact ⟨y, hy, of_decide_eq_true e⟩
  · rintro ⟨y, hy, e⟩; exact ⟨y, hy, decide_eq_true e⟩
/-- a round's beginning -/
theorem btw_begin {w : World} {c : Cr} {A : Option Addr} {cp ab k : Nat} {W : World} (h : Btw w c A cp ab k W) (x : Nd) (A' : Option Addr) (c' : Nat) :
    Rnd w c A cp (1 + 1002 * k) (FaultyTo c k) x A' c' k ab W.heap.size (W.heap.size + 1) k (seen c k) ((W.alloc (.cells #[.int .i64 (k : Int)] 3)).alloc (.cells (ndA x A' c') 35)) := by
  have hb : Below W.heap.size W ((W.alloc (.cells #[.int .i64 (k : Int)] 3)).alloc (.cells (ndA x A' c') 35)) := ((Below.refl _ _).alloc (Nat.le_refl _) _).alloc (by simp) _
  have hz := h.1.size
  exact ⟨h.1.old hb, ⟨alloc_old _ _ _ (by simp) (heap_alloc_new _ _), hz, fun cs fz e => by injection e with _ e _; exact absurd e (by decide)⟩, ⟨alloc_at _ _ _ (by simp), by omega, fun cs fz e => by injection e with _ e _; exact absurd e (by decide)⟩, h.2.below hb⟩
/-- a round's end -/
theorem btw_end {w : World} {c : Cr} {A : Option Addr} {cp ab k bi bn : Nat} {W : World} {x : Nd} {A' : Option Addr} {c' : Nat} {P : Prop} {K : Nat} (hx : c.needs[k]? = some x) (hP : P ↔ FaultyTo c (k + 1)) (hK : K ≤ 1 + 1002 * (k + 1))
    (h : Rnd w c A cp K P x A' c' k ab bi bn (k + 1) (fun y => seen c k y || decide (y = x.k)) W) : Btw w c A cp ab (k + 1) W := by
  refine ⟨(h.mid.iff hP).more hK, ?_⟩
  obtain ⟨n, G, h1, h2, h3, h4⟩ := h.ah
  refine ⟨n, G, h1, h2, h3, fun y hy => ?_⟩
  obtain ⟨hk, rfl⟩ := List.getElem?_eq_some_iff.1 hx
  rw [h4 y hy]
  show (seen c k y || _) = (c.needs.take (k + 1)).any _
  rw [← List.take_append_getElem hk, List.any_append]
  simp [seen, eq_comm]
theorem btw_yes {w : World} {c : Cr} {A : Option Addr} {cp ab k bi bn : Nat} {W : World} {x : Nd} {A' : Option Addr} {c' : Nat} {r : Bool} (hx : c.needs[k]? = some x) (hr : r = true ↔ ClashR x.r) (hy : r = true)
    (h : Rnd w c A cp (2 + 1002 * k + 1000 + 1) True x A' c' k ab bi bn (k + 1) (fun y => seen c k y || decide (y = x.k)) W) : Btw w c A cp ab (k + 1) W :=
  btw_end hx ⟨fun _ => (faulty_step c k x hx).2 (.inr (hr.1 hy)), fun _ => trivial⟩ (by omega) h
theorem btw_no {w : World} {c : Cr} {A : Option Addr} {cp ab k bi bn : Nat} {W : World} {x : Nd} {A' : Option Addr} {c' : Nat} {r : Bool} (hx : c.needs[k]? = some x) (hr : r = true ↔ ClashR x.r) (hy : r = false)
    (h : Rnd w c A cp (2 + 1002 * k + 1000) ((FaultyTo c k ∨ DupAt c k) ∨ WrongAt c x.k (atomsR x.r)) x A' c' k ab bi bn (k + 1) (fun y => seen c k y || decide (y = x.k)) W) : Btw w c A cp ab (k + 1) W :=
  btw_end hx ⟨fun h => (faulty_step c k x hx).2 (.inl h), fun h => ((faulty_step c k x hx).1 h).elim id fun h => absurd (hr.2 h) (by rw [hy]; simp)⟩ (by omega) h
set_option maxHeartbeats 16000000 in
theorem check_any (c : Cr) (hc : Fair c) (hk : ∀ x ∈ c.needs, -9223372036854775808 ≤ x.k ∧ x.k ≤ 9223372036854775807) (A : Option Addr) (cp B : Nat) (w : World) (hN : Ns w B A c.needs) (hB : B ≤ w.heap.size) (hl : c.needs.length ≤ 9) (hE : Ev w) :
    Calls Tryz.prog 16 #[.agg (crA c A cp)] w fun e w' => CkP c w e w' := by
  have hmm := @run_makeMap Tryz.prog
  have hN' := hN.more hB
  have hw8 := hE.lt
  -- what each callee does in a round
  have HTell : Hid (∀ (k K ab bi bn m c' : Nat) (P : Prop) (x : Nd) (A' : Option Addr) (f : Int → Bool) (W : World) (why : Int), (why = 5 ∨ why = 2) → k ≤ 9 → K ≤ 50000 → (-9223372036854775808 ≤ x.k ∧ x.k ≤ 9223372036854775807) → Rnd w c A cp K P x A' c' k ab bi bn m f W →
      Calls Tryz.prog 38 #[.agg #[.int .i64 (k : Int), .int .i64 x.k, .string ⟨#[]⟩, .int .i64 why], .pointer (some ⟨w.heap.size + 1 + 1 + 1, 0, none⟩), .pointer (some ⟨w.heap.size + 1, 0, none⟩)] W fun e w' => e = .returned (.tuple #[]) ∧ Rnd w c A cp (K + 1) True x A' c' k ab bi bn m f w') := Lib.hid (fun k K ab bi bn m c' P x A' f W why hy hk9 hK hx h =>
    h.tell (by omega) ((k : Int), x.k, ⟨#[]⟩, why) ⟨wfK (a := (k : Int)) (by omega) (by omega), wfK hx.1 hx.2, by show (0 : Nat) ≤ maxLen; omega, wfK (a := why) (by omega) (by omega)⟩)
  have HEach : Hid (∀ (k K ab bi bn m c' : Nat) (P : Prop) (x : Nd) (A' : Option Addr) (f : Int → Bool) (W : World), k ≤ 9 → K ≤ 50000 → x ∈ c.needs → NL W w.heap.size A' x.r.l → Rnd w c A cp K P x A' c' k ab bi bn m f W →
      Calls Tryz.prog 39 #[.agg (rlA x.r A' c'), .func (.func 40) #[] #[.pointer (some ⟨w.heap.size, 0, none⟩), .pointer (some ⟨bn, 0, none⟩), .pointer (some ⟨w.heap.size + 1 + 1 + 1 + 1, 0, none⟩), .pointer (some ⟨bi, 0, none⟩)]] W fun e w' => e = .returned (.tuple #[]) ∧ Rnd w c A cp (K + 1000) (P ∨ WrongAt c x.k (atomsR x.r)) x A' c' k ab bi bn m f w') := Lib.hid (fun k K ab bi bn m c' P x A' f W hk9 hK hx hNL h =>
    h.each (by omega) hw8 hN' (by omega) hNL (hc.need x hx) hE.gl (hk x hx) (by omega))
  have HClash : Hid (∀ (x : Nd) (A' : Option Addr) (c' : Nat) (W : World), x ∈ c.needs → Below w.heap.size w W → NL W w.heap.size A' x.r.l → Calls Tryz.prog 14 #[.agg (rlA x.r A' c')] W fun e w' => ∃ r : Bool, e = .returned (.bool r) ∧ (r = true ↔ ClashR x.r) ∧ Below W.heap.size W w') := Lib.hid (fun x A' c' W hx hb hNL =>
    clash_any x.r A' c' w.heap.size W hNL hb.size (hE.gl.below hb) (hc.need x hx).1 (fits_cases (hc.need x hx).2))
  have HLate : Hid (Calls Tryz.prog 38 #[.agg #[.int .i64 (-1), .int .i64 (-1), .string ⟨#[108, 97, 116, 101, 115, 116]⟩, .int .i64 4], .pointer (some ⟨w.heap.size + 1 + 1 + 1, 0, none⟩), .pointer (some ⟨w.heap.size + 1, 0, none⟩)] (ckW w c A cp) fun e w' => e = .returned (.tuple #[]) ∧ MidN w c A cp 1 True w') := Lib.hid (by
    refine (Mid.tell (MidN.begun w c A cp (P := False) (fun h => h)) (by omega) (-1, -1, ⟨#[108, 97, 116, 101, 115, 116]⟩, 4) ⟨by decide, by decide, by show (6 : Nat) ≤ maxLen; unfold maxLen; omega, by decide⟩).mono ?_
    rintro e w' ⟨rfl, h1, h2⟩
    exact ⟨rfl, h1⟩)
  have HBeg : Hid (¬ c.exp < c.lat → MidN w c A cp 1 (FaultyTo c 0) (ckW w c A cp)) := Lib.hid (fun h => (MidN.begun w c A cp (fun hf => h ((faulty_zero c).1 hf))).more (by omega))
  -- the start of the loop
  have HStart : Hid (∀ W, MidN w c A cp 1 (FaultyTo c 0) W → Btw w c A cp W.heap.size 0 (W.alloc (.map #[] 0))) := Lib.hid (fun W h => by
    refine ⟨h.old ((Below.refl _ _).alloc (Nat.le_refl _) _), 0, _, Mp.made W, Nat.le_refl _, h.size, fun y hy => ?_⟩
    unfold seen
    simp)
  have HEnd : Hid (∀ ab W, Btw w c A cp ab c.needs.length W → ∃ Av n cv, W.cell? ⟨w.heap.size + 1, 0, none⟩ = some (.slice Av n cv) ∧ (n = 0 ↔ ¬ Faulty c) ∧ Hid (Below w.heap.size w W)) := Lib.hid (fun ab W h => by
    have hb := h.1.below
    obtain ⟨⟨n, v, G, L, h1, h2, h3, _⟩, _⟩ := h
    obtain ⟨Av, cv, rfl⟩ := h1.row.form
    refine ⟨Av, L.length, cv, h1.fcell, ?_, Lib.hid hb⟩
    unfold Faulty
    rw [← h3, List.length_eq_zero_iff]
    simp)
  have HBw : Hid (∀ ab k W, Btw w c A cp ab k W → Below w.heap.size w W) := Lib.hid (fun ab k W h => h.1.below)
  have HN := Lib.hid hN'
  have HBegin : Hid (∀ ab k W x A' c', Btw w c A cp ab k W → Rnd w c A cp (1 + 1002 * k) (FaultyTo c k) x A' c' k ab W.heap.size (W.heap.size + 1) k (seen c k) ((W.alloc (.cells #[.int .i64 (k : Int)] 3)).alloc (.cells (ndA x A' c') 35))) := Lib.hid (fun ab k W x A' c' h => btw_begin h x A' c')
  have HK := Lib.hid hk
  have e11 : (ckW w c A cp).cell? ⟨w.heap.size, 11, none⟩ = some (.int .i64 c.lat) := by rw [World.cell?, ckW_c]; rfl
  have e12 : (ckW w c A cp).cell? ⟨w.heap.size, 12, none⟩ = some (.int .i64 c.exp) := by rw [World.cell?, ckW_c]; rfl
  have H17 : Hid (∀ W, Below w.heap.size w W → True) := Lib.hid (fun _ _ => trivial)
  have HM17 : Hid (∀ W, MidN w c A cp 1 (FaultyTo c 0) W → (W.alloc (.map #[] 0)).cell? ⟨w.heap.size, 17, none⟩ = some (.slice A c.needs.length cp)) := Lib.hid (fun W h => Lib.cell?_alloc_some _ (by rw [World.cell?, h.hc]; rfl))
  have e5 : (ckW w c A cp).cell? ⟨w.heap.size + 1 + 1 + 1 + 1, 0, none⟩ = some (tellV w.heap.size) := one_cell (ckW_u w c A cp)
  have hsz := ckW_size w c A cp
  unfold ckW tellV at e11 e12 e5 HLate HBeg
  by_cases hlate : c.exp < c.lat
  · have HF0 : Hid (∀ W, MidN w c A cp 1 True W → MidN w c A cp 1 (FaultyTo c 0) W) := Lib.hid (fun W h => h.iff ⟨fun _ => (faulty_zero c).2 hlate, fun _ => trivial⟩)
    clear HBeg hc hk hE hN hN' hsz
    go_enter Tryz.func16, Tryz.ntmps16
    go_wp2_with (first
      | (go_at_call 38; with_reducible refine HLate.out.mono ?_; rintro e w6 ⟨rfl, hm6⟩; have HM6 := Lib.hid (HF0.out _ hm6); have k17 := HM17.out _ HM6.out; clear hm6)
      | fail)
    have HS0 := Lib.hid (HStart.out _ HM6.out)
    clear HM17 HLate e11 e12 e5 hmm k17 HM6 HF0 HStart
    obtain ⟨ab, hab⟩ : ∃ ab, ab = w6.heap.size := ⟨_, rfl⟩
    rw [← hab] at HS0 ⊢
    clear hab hlate
    generalize w6.alloc (.map #[] 0) = W6 at *
    go_loopw [23] (fun i wr => ∃ k : Nat, k ≤ c.needs.length ∧ i = .int .i64 (k : Int) ∧ Hid (Btw w c A cp ab k wr)) (fun i _ => c.needs.length - (RowKit.intOf i).toNat)
    case atStart => exact ⟨0, Nat.zero_le _, rfl, HS0⟩
    case round =>
      obtain ⟨k, hkl, rfl, HBk⟩ := hrel
      have HBn := Lib.hid (HBw.out _ _ _ HBk.out)
      by_cases hlt : k < c.needs.length
      · have b1 : (k : Int) < (c.needs.length : Int) := by omega
        have hk9 : k ≤ 9 := by omega
        obtain ⟨g, off, A', c', rfl, hg, h8, hch⟩ := HN.out.at_ hlt
        have h8' := h8.keep (w' := wr) (fun p hp => HBn.out.cell (by rw [hp]; exact hg))
        obtain ⟨c0, c1, c2, c3, c4, c5, c6, c7⟩ := h8'
        have Hmem := Lib.hid (show c.needs[k] ∈ c.needs from List.getElem_mem hlt)
        have Hat := Lib.hid (List.getElem?_eq_getElem hlt)
        have hr1 := HBegin.out ab k wr c.needs[k] A' c' HBk.out
        have Hnl : Hid (∀ W : World, Hid (Below w.heap.size w W) → NL W w.heap.size A' c.needs[k].r.l) := Lib.hid (fun W hb => hch.kept hb.out)
        have hxk := HK.out _ Hmem.out
        clear h8 hch HBk
        generalize c.needs[k] = x at *
        have HCl : Hid (∀ W : World, Hid (Below w.heap.size w W) → Hid (Calls Tryz.prog 14 #[.agg #[.int .i64 x.r.k, .int .i64 x.r.p, .string x.r.f, .string x.r.t, .int .i64 x.r.n, .slice A' x.r.l.length c']] W fun e w' => ∃ r : Bool, e = .returned (.bool r) ∧ (r = true ↔ ClashR x.r) ∧ Below W.heap.size W w')) := Lib.hid (fun W hb => Lib.hid (HClash.out x A' c' W Hmem.out hb.out (Hnl.out W hb)))
        unfold ndA at hr1
        have hlk := hr1.ah.look (wfK hxk.1 hxk.2)
        obtain ⟨n0, ni, n1, n2, n3, n4, n5, n6, n7, n8⟩ := hr1.cells
        unfold tellV at n0
        cases hd0 : seen c k x.k with
        | true =>
          have hd := Lib.hid hd0
          rw [hd0] at hlk
          clear hd0
          have HT1 := Lib.hid (HTell.out k _ ab _ _ _ c' _ x A' _ _ 5 (.inl rfl) hk9 (by omega) hxk hr1)
          clear hr1
          go_wp2_with (first
            | (go_at_call 38; with_reducible refine HT1.out.mono ?_; rintro e w2 ⟨rfl, hr2⟩; have hr2' := (hr2.more (K' := 2 + 1002 * k) (by omega)).iff (P' := FaultyTo c k ∨ DupAt c k) ⟨fun _ => Or.inr ((btw_dup Hat.out).1 hd.out), fun _ => trivial⟩; obtain ⟨w3, hput, hr3⟩ := hr2'.put (by omega) hxk; clear hlk n0 ni n1 n2 n3 n4 n5 n6 n7 n8; obtain ⟨n0, ni, n1, n2, n3, n4, n5, n6, n7, n8⟩ := hr2.cells; unfold tellV at n0; have HR3 := Lib.hid hr3; have N3 := hr3.cells; have HE3 := Lib.hid (HEach.out k _ ab _ _ _ c' _ x A' _ w3 hk9 (by omega) Hmem.out (Hnl.out _ (Lib.hid hr3.mid.below)) hr3); unfold rlA at HE3; unfold tellV at N3; obtain ⟨m0, mi, m1, m2, m3, m4, m5, m6, m7, m8⟩ := N3; clear hr2 hr2' hr3 HT1)
            | (go_at_call 39; with_reducible refine HE3.out.mono ?_; rintro e w4 ⟨rfl, hr4⟩; clear n0 ni n1 n2 n3 n4 n5 n6 n7 n8 m0 mi m1 m2 m3 m4 m5 m6 m7 m8 hput; obtain ⟨n0, ni, n1, n2, n3, n4, n5, n6, n7, n8⟩ := hr4.cells; unfold tellV at n0; have HR4 := Lib.hid hr4; have HC4 := HCl.out w4 (Lib.hid hr4.mid.below); clear hr4 HE3)
            | (go_at_call 14; refine HC4.out.mono ?_; rintro e w5 ⟨r, rfl, hr, hb5⟩; have HR5 := Lib.hid (HR4.out.old hb5); have Hr := Lib.hid hr; clear hr hb5 HC4 HR4 n0 ni n1 n2 n3 n4 n5 n6 n7 n8; obtain ⟨n0, ni, n1, n2, n3, n4, n5, n6, n7, n8⟩ := HR5.out.cells; unfold tellV at n0; have HT5 := Lib.hid (HTell.out k _ ab _ _ _ c' _ x A' _ _ 2 (.inr rfl) hk9 (by omega) hxk HR5.out))
            | (go_at_call 38; with_reducible refine HT5.out.mono ?_; rintro e w6 ⟨rfl, hr6⟩; have HR6 := Lib.hid hr6; clear hr6 HT5)
            | fail)
          all_goals
            first
              | (rename (r = true) => hx; have HB6 := Lib.hid (btw_yes Hat.out Hr.out hx HR6.out); exact ⟨⟨k + 1, by omega, by go_num, HB6⟩, by simp [RowKit.intOf]; omega⟩)
              | (rename (r = false) => hx; have HB6 := Lib.hid (btw_no Hat.out Hr.out hx HR5.out); exact ⟨⟨k + 1, by omega, by go_num, HB6⟩, by simp [RowKit.intOf]; omega⟩)
        | false =>
          have hd := Lib.hid hd0
          rw [hd0] at hlk
          clear hd0
          have hr2' := (hr1.more (K' := 2 + 1002 * k) (by omega)).iff (P' := FaultyTo c k ∨ DupAt c k) ⟨Or.inl, fun h => h.elim id (fun h => by have h2 := hd.out; rw [(btw_dup Hat.out).2 h] at h2; cases h2)⟩
          obtain ⟨w3, hput, hr3⟩ := hr2'.put (by omega) hxk
          have HR3 := Lib.hid hr3
          have N3 := hr3.cells
          unfold tellV at N3
          obtain ⟨m0, mi, m1, m2, m3, m4, m5, m6, m7, m8⟩ := N3
          have HE3 := Lib.hid (HEach.out k _ ab _ _ _ c' _ x A' _ w3 hk9 (by omega) Hmem.out (Hnl.out _ (Lib.hid hr3.mid.below)) hr3)
          unfold rlA at HE3
          clear hr1 hr2' hr3
          go_wp2_with (first
            | (go_at_call 39; with_reducible refine HE3.out.mono ?_; rintro e w4 ⟨rfl, hr4⟩; clear n0 ni n1 n2 n3 n4 n5 n6 n7 n8 m0 mi m1 m2 m3 m4 m5 m6 m7 m8 hput; obtain ⟨n0, ni, n1, n2, n3, n4, n5, n6, n7, n8⟩ := hr4.cells; unfold tellV at n0; have HR4 := Lib.hid hr4; have HC4 := HCl.out w4 (Lib.hid hr4.mid.below); clear hr4 HE3)
            | (go_at_call 14; refine HC4.out.mono ?_; rintro e w5 ⟨r, rfl, hr, hb5⟩; have HR5 := Lib.hid (HR4.out.old hb5); have Hr := Lib.hid hr; clear hr hb5 HC4 HR4 n0 ni n1 n2 n3 n4 n5 n6 n7 n8; obtain ⟨n0, ni, n1, n2, n3, n4, n5, n6, n7, n8⟩ := HR5.out.cells; unfold tellV at n0; have HT5 := Lib.hid (HTell.out k _ ab _ _ _ c' _ x A' _ _ 2 (.inr rfl) hk9 (by omega) hxk HR5.out))
            | (go_at_call 38; with_reducible refine HT5.out.mono ?_; rintro e w6 ⟨rfl, hr6⟩; have HR6 := Lib.hid hr6; clear hr6 HT5)
            | fail)
          all_goals
            first
              | (rename (r = true) => hx; have HB6 := Lib.hid (btw_yes Hat.out Hr.out hx HR6.out); exact ⟨⟨k + 1, by omega, by go_num, HB6⟩, by simp [RowKit.intOf]; omega⟩)
              | (rename (r = false) => hx; have HB6 := Lib.hid (btw_no Hat.out Hr.out hx HR5.out); exact ⟨⟨k + 1, by omega, by go_num, HB6⟩, by simp [RowKit.intOf]; omega⟩)
      · have b1 : ¬ (k : Int) < (c.needs.length : Int) := by omega
        have hke : k = c.needs.length := by omega
        rw [hke] at HBk
        clear hke
        obtain ⟨Av, n, cv, kf, hn, HBe⟩ := HEnd.out ab wr HBk.out
        have Hn := Lib.hid hn
        clear hn
        go_wp2
        go_ret
        exact ⟨Av, n, cv, rfl, Hn.out, HBe.out⟩
  · have HM6 := Lib.hid (HBeg.out hlate)
    have k17 := HM17.out _ HM6.out
    clear HBeg hc hk hE hN hN' hsz HLate
    go_enter Tryz.func16, Tryz.ntmps16
    go_wp2_with fail
    have HS0 := Lib.hid (HStart.out _ HM6.out)
    have hab := congrArg id (ckW_size w c A cp)
    unfold ckW tellV at hab
    simp only [id] at hab
    rw [hab] at HS0
    clear HM17 e11 e12 e5 hmm k17 HM6 HStart
    clear hab hlate
    generalize w.heap.size + 1 + 1 + 1 + 1 + 1 = ab at HS0 ⊢
    generalize (World.alloc _ (Obj.map #[] 0)) = W6 at HS0 ⊢
    go_loopw [23] (fun i wr => ∃ k : Nat, k ≤ c.needs.length ∧ i = .int .i64 (k : Int) ∧ Hid (Btw w c A cp ab k wr)) (fun i _ => c.needs.length - (RowKit.intOf i).toNat)
    case atStart => exact ⟨0, Nat.zero_le _, rfl, HS0⟩
    case round =>
      obtain ⟨k, hkl, rfl, HBk⟩ := hrel
      have HBn := Lib.hid (HBw.out _ _ _ HBk.out)
      by_cases hlt : k < c.needs.length
      · have b1 : (k : Int) < (c.needs.length : Int) := by omega
        have hk9 : k ≤ 9 := by omega
        obtain ⟨g, off, A', c', rfl, hg, h8, hch⟩ := HN.out.at_ hlt
        have h8' := h8.keep (w' := wr) (fun p hp => HBn.out.cell (by rw [hp]; exact hg))
        obtain ⟨c0, c1, c2, c3, c4, c5, c6, c7⟩ := h8'
        have Hmem := Lib.hid (show c.needs[k] ∈ c.needs from List.getElem_mem hlt)
        have Hat := Lib.hid (List.getElem?_eq_getElem hlt)
        have hr1 := HBegin.out ab k wr c.needs[k] A' c' HBk.out
        have Hnl : Hid (∀ W : World, Hid (Below w.heap.size w W) → NL W w.heap.size A' c.needs[k].r.l) := Lib.hid (fun W hb => hch.kept hb.out)
        have hxk := HK.out _ Hmem.out
        clear h8 hch HBk
        generalize c.needs[k] = x at *
        have HCl : Hid (∀ W : World, Hid (Below w.heap.size w W) → Hid (Calls Tryz.prog 14 #[.agg #[.int .i64 x.r.k, .int .i64 x.r.p, .string x.r.f, .string x.r.t, .int .i64 x.r.n, .slice A' x.r.l.length c']] W fun e w' => ∃ r : Bool, e = .returned (.bool r) ∧ (r = true ↔ ClashR x.r) ∧ Below W.heap.size W w')) := Lib.hid (fun W hb => Lib.hid (HClash.out x A' c' W Hmem.out hb.out (Hnl.out W hb)))
        unfold ndA at hr1
        have hlk := hr1.ah.look (wfK hxk.1 hxk.2)
        obtain ⟨n0, ni, n1, n2, n3, n4, n5, n6, n7, n8⟩ := hr1.cells
        unfold tellV at n0
        cases hd0 : seen c k x.k with
        | true =>
          have hd := Lib.hid hd0
          rw [hd0] at hlk
          clear hd0
          have HT1 := Lib.hid (HTell.out k _ ab _ _ _ c' _ x A' _ _ 5 (.inl rfl) hk9 (by omega) hxk hr1)
          clear hr1
          go_wp2_with (first
            | (go_at_call 38; with_reducible refine HT1.out.mono ?_; rintro e w2 ⟨rfl, hr2⟩; have hr2' := (hr2.more (K' := 2 + 1002 * k) (by omega)).iff (P' := FaultyTo c k ∨ DupAt c k) ⟨fun _ => Or.inr ((btw_dup Hat.out).1 hd.out), fun _ => trivial⟩; obtain ⟨w3, hput, hr3⟩ := hr2'.put (by omega) hxk; clear hlk n0 ni n1 n2 n3 n4 n5 n6 n7 n8; obtain ⟨n0, ni, n1, n2, n3, n4, n5, n6, n7, n8⟩ := hr2.cells; unfold tellV at n0; have HR3 := Lib.hid hr3; have N3 := hr3.cells; have HE3 := Lib.hid (HEach.out k _ ab _ _ _ c' _ x A' _ w3 hk9 (by omega) Hmem.out (Hnl.out _ (Lib.hid hr3.mid.below)) hr3); unfold rlA at HE3; unfold tellV at N3; obtain ⟨m0, mi, m1, m2, m3, m4, m5, m6, m7, m8⟩ := N3; clear hr2 hr2' hr3 HT1)
            | (go_at_call 39; with_reducible refine HE3.out.mono ?_; rintro e w4 ⟨rfl, hr4⟩; clear n0 ni n1 n2 n3 n4 n5 n6 n7 n8 m0 mi m1 m2 m3 m4 m5 m6 m7 m8 hput; obtain ⟨n0, ni, n1, n2, n3, n4, n5, n6, n7, n8⟩ := hr4.cells; unfold tellV at n0; have HR4 := Lib.hid hr4; have HC4 := HCl.out w4 (Lib.hid hr4.mid.below); clear hr4 HE3)
            | (go_at_call 14; refine HC4.out.mono ?_; rintro e w5 ⟨r, rfl, hr, hb5⟩; have HR5 := Lib.hid (HR4.out.old hb5); have Hr := Lib.hid hr; clear hr hb5 HC4 HR4 n0 ni n1 n2 n3 n4 n5 n6 n7 n8; obtain ⟨n0, ni, n1, n2, n3, n4, n5, n6, n7, n8⟩ := HR5.out.cells; unfold tellV at n0; have HT5 := Lib.hid (HTell.out k _ ab _ _ _ c' _ x A' _ _ 2 (.inr rfl) hk9 (by omega) hxk HR5.out))
            | (go_at_call 38; with_reducible refine HT5.out.mono ?_; rintro e w6 ⟨rfl, hr6⟩; have HR6 := Lib.hid hr6; clear hr6 HT5)
            | fail)
          all_goals
            first
              | (rename (r = true) => hx; have HB6 := Lib.hid (btw_yes Hat.out Hr.out hx HR6.out); exact ⟨⟨k + 1, by omega, by go_num, HB6⟩, by simp [RowKit.intOf]; omega⟩)
              | (rename (r = false) => hx; have HB6 := Lib.hid (btw_no Hat.out Hr.out hx HR5.out); exact ⟨⟨k + 1, by omega, by go_num, HB6⟩, by simp [RowKit.intOf]; omega⟩)
        | false =>
          have hd := Lib.hid hd0
          rw [hd0] at hlk
          clear hd0
          have hr2' := (hr1.more (K' := 2 + 1002 * k) (by omega)).iff (P' := FaultyTo c k ∨ DupAt c k) ⟨Or.inl, fun h => h.elim id (fun h => by have h2 := hd.out; rw [(btw_dup Hat.out).2 h] at h2; cases h2)⟩
          obtain ⟨w3, hput, hr3⟩ := hr2'.put (by omega) hxk
          have HR3 := Lib.hid hr3
          have N3 := hr3.cells
          unfold tellV at N3
          obtain ⟨m0, mi, m1, m2, m3, m4, m5, m6, m7, m8⟩ := N3
          have HE3 := Lib.hid (HEach.out k _ ab _ _ _ c' _ x A' _ w3 hk9 (by omega) Hmem.out (Hnl.out _ (Lib.hid hr3.mid.below)) hr3)
          unfold rlA at HE3
          clear hr1 hr2' hr3
          go_wp2_with (first
            | (go_at_call 39; with_reducible refine HE3.out.mono ?_; rintro e w4 ⟨rfl, hr4⟩; clear n0 ni n1 n2 n3 n4 n5 n6 n7 n8 m0 mi m1 m2 m3 m4 m5 m6 m7 m8 hput; obtain ⟨n0, ni, n1, n2, n3, n4, n5, n6, n7, n8⟩ := hr4.cells; unfold tellV at n0; have HR4 := Lib.hid hr4; have HC4 := HCl.out w4 (Lib.hid hr4.mid.below); clear hr4 HE3)
            | (go_at_call 14; refine HC4.out.mono ?_; rintro e w5 ⟨r, rfl, hr, hb5⟩; have HR5 := Lib.hid (HR4.out.old hb5); have Hr := Lib.hid hr; clear hr hb5 HC4 HR4 n0 ni n1 n2 n3 n4 n5 n6 n7 n8; obtain ⟨n0, ni, n1, n2, n3, n4, n5, n6, n7, n8⟩ := HR5.out.cells; unfold tellV at n0; have HT5 := Lib.hid (HTell.out k _ ab _ _ _ c' _ x A' _ _ 2 (.inr rfl) hk9 (by omega) hxk HR5.out))
            | (go_at_call 38; with_reducible refine HT5.out.mono ?_; rintro e w6 ⟨rfl, hr6⟩; have HR6 := Lib.hid hr6; clear hr6 HT5)
            | fail)
          all_goals
            first
              | (rename (r = true) => hx; have HB6 := Lib.hid (btw_yes Hat.out Hr.out hx HR6.out); exact ⟨⟨k + 1, by omega, by go_num, HB6⟩, by simp [RowKit.intOf]; omega⟩)
              | (rename (r = false) => hx; have HB6 := Lib.hid (btw_no Hat.out Hr.out hx HR5.out); exact ⟨⟨k + 1, by omega, by go_num, HB6⟩, by simp [RowKit.intOf]; omega⟩)
      · have b1 : ¬ (k : Int) < (c.needs.length : Int) := by omega
        have hke : k = c.needs.length := by omega
        rw [hke] at HBk
        clear hke
        obtain ⟨Av, n, cv, kf, hn, HBe⟩ := HEnd.out ab wr HBk.out
        have Hn := Lib.hid hn
        clear hn
        go_wp2
        go_ret
        exact ⟨Av, n, cv, rfl, Hn.out, HBe.out⟩

end Go.Proofs.YtbkffdfboloogaaGreatDoor
