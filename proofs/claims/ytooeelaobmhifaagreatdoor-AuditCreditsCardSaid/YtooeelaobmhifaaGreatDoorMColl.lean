/- maps.Values$1 of the holds: an iterator that gives each hold once. slices.AppendSeq and slices.Collect of holds, over any iterator of holds. -/
import Derived.Test.YtooeelaobmhifaaGreatDoorCHolds
import Derived.Test.YtooeelaobmhifaaGreatDoorGMapIn
import Derived.Shelf.Abstract
import Derived.Shelf.RegionOpen
import Derived.RangeFuncLeaves
import Derived.WalkKit
import Derived.OwnWalkIn
import Derived.TacticsInMore
import Derived.LoopNIn
import Derived.LoopIn
import Derived.Maps.AppendAt
namespace Go.Proofs.YtooeelaobmhifaaGreatDoor
open Go.RowKit Go.Maps Go.Lib Go.Shelf
set_option linter.unusedVariables false
set_option maxRecDepth 100000

/-- the holds xs are those of the map Fm, each once -/
def ValsOf (Fm : ByteArray → Option Hd) (xs : List Hd) : Prop := ∃ ks : List ByteArray, ks.Nodup ∧ (∀ k ∈ ks, curC.ok k) ∧ (∀ k, curC.ok k → (k ∈ ks ↔ (Fm k).isSome = true)) ∧ ks.map Fm = xs.map some
/-- some of them have come: those that are not left -/
def ValsTo (Fm : ByteArray → Option Hd) (lf : ByteArray → Bool) (xs : List Hd) : Prop := ∃ ks : List ByteArray, ks.Nodup ∧ (∀ k ∈ ks, curC.ok k) ∧ (∀ k, curC.ok k → (k ∈ ks ↔ (Fm k).isSome = true ∧ lf k = false)) ∧ ks.map Fm = xs.map some
theorem ValsTo.start (Fm : ByteArray → Option Hd) : ValsTo Fm (fun x => (Fm x).isSome) [] := ⟨[], List.nodup_nil, by simp, fun k _ => by cases h : Fm k <;> simp [h], rfl⟩
theorem ValsTo.step {Fm : ByteArray → Option Hd} {lf : ByteArray → Bool} {xs : List Hd} (h : ValsTo Fm lf xs) {x : ByteArray} {v : Hd} (hx : curC.ok x) (hl : lf x = true) (hv : Fm x = some v) : ValsTo Fm (fun z => lf z && !decide (z = x)) (xs ++ [v]) := by
  obtain ⟨ks, h1, h2, h3, h4⟩ := h
  have hn : x ∉ ks := fun hm => by have := ((h3 x hx).1 hm).2; rw [hl] at this; cases this
  refine ⟨ks ++ [x], ?_, ?_, ?_, by simp [h4, hv]⟩
  · rw [List.nodup_append]
    exact ⟨h1, by simp, fun a ha b hb e => by simp at hb; subst hb; subst e; exact hn ha⟩
  · intro k hk
    rcases List.mem_append.1 hk with hk | hk
    · exact h2 k hk
    · simp at hk; subst hk; exact hx
  · intro k hk
    rw [List.mem_append, h3 k hk]
    by_cases e : k = x
    · subst e; simp [hv]
    · simp [e]
theorem ValsTo.all {Fm : ByteArray → Option Hd} {lf : ByteArray → Bool} {xs : List Hd} (h : ValsTo Fm lf xs) (h0 : ∀ x, curC.ok x → lf x = false) : ValsOf Fm xs := by
  obtain ⟨ks, h1, h2, h3, h4⟩ := h
  exact ⟨ks, h1, h2, fun k hk => by rw [h3 k hk]; simp [h0 k hk], h4⟩

set_option maxHeartbeats 1000000 in
theorem values1_in (F : Fence) (n : Nat) (hf : F.fn 51) (hro : F.round = none) (hn : 1 ≤ n) (l Bm b nn : Nat) (Fm : ByteArray → Option Hd) (J Jx : List Hd → World → Prop)
    (hY : ∀ pre x W, J pre W → pre.length < nn → YieldAt F (n - 1) Tryz.prog l #[.agg #[.string x.id, .string x.acc, .string x.cur, .int .i64 x.n]] W fun e W' => (e = .returned (.bool true) ∧ J (pre ++ [x]) W' ∧ KeepsWalks W W') ∨ (e = .returned (.bool false) ∧ Jx (pre ++ [x]) W'))
    (W : World) (hJ : AbidesFrom W.heap.size J) (hm : W.cell? ⟨Bm, 0, none⟩ = some (.map (some b))) (hown : Mp curC hdE W b nn Fm) (h0 : J [] W) :
    CallsIn F n Tryz.prog 51 #[.func (.yield l) #[] #[], .pointer (some ⟨Bm, 0, none⟩)] W fun e W' => (∃ v, e = .returned v) ∧ ((∃ xs, ValsOf Fm xs ∧ J xs W') ∨ (∃ pre, True ∧ Jx pre W')) := by
  refine callsIn_of_wp Tryz.func51 rfl hf ?_ hro
  simp only [Tryz.ntmps51, List.size_toArray, List.length_cons, List.length_nil, Nat.reduceAdd, Nat.reduceSub, Array.replicate_succ, Array.replicate_zero, List.push_toArray, List.append_toArray, List.nil_append, List.cons_append]
  gi_wp2_with (first
    | (gi_at_range; refine wpListIn_range_mp _ rfl _ 46 rfl 56 (by rfl) b nn Fm rfl hown ?_; intro w0 cnt0 hc0 hrg0 hg0 hs0)
    | gi_in)
  go_frame
  gi_loopw [4] (fun _ wr => ∃ (lf : ByteArray → Bool) (cnt : Nat) (xs : List Hd), Rn' curC hdE wr b W.heap.size nn Fm lf cnt ∧ xs.length + cnt ≤ nn ∧ ValsTo Fm lf xs ∧ J xs wr)
    (fun _ wr => wr.rangeLeft b W.heap.size)
  case atStart =>
    exact ⟨_, cnt0, [], hrg0, by simpa using hc0, ValsTo.start Fm, hJ [] W w0 none h0 hg0 (fun r e => by cases e)⟩
  case round =>
    obtain ⟨lf, cnt, xs, hrg, hcs, hC, hJs⟩ := hrel
    gi_wp2_with (first
      | (gi_at_next; refine wpListIn_next_mp _ rfl _ rfl b W.heap.size nn Fm lf cnt rfl hrg ?_ ?_)
      | gi_in)
    · intro hl0
      gi_wp2
      go_end0
      exact ⟨⟨_, rfl⟩, .inl ⟨xs, hC.all hl0, hJs⟩⟩
    · intro x v w2 cnt2 hxo hlx hG hvo hrg2 hlt hg2 hs2 hen
      have hJ2 : J xs w2 := hJ xs wr w2 (some W.heap.size) hJs hg2 (fun r e => by cases e; exact ⟨Nat.le_refl _, hrg.walk⟩)
      have hC2 := hC.step hxo hlx hG
      clear hs2
      obtain ⟨vi, va, vc, vn⟩ := v
      have e1 : hdE.mk ⟨vi, va, vc, vn⟩ = .agg #[.string vi, .string va, .string vc, .int .i64 vn] := rfl
      have e2 : curC.mk x = .string x := rfl
      rw [e1, e2] at hen ⊢
      have hJ3 : J xs (w2.alloc (.cells #[.string vi, .string va, .string vc, .int .i64 vn] 56)) := hJ xs w2 _ none hJ2 (World.grownBy_alloc _ _ none) (fun r e => by cases e)
      have hrg3 := hrg2.alloc (.cells #[.string vi, .string va, .string vc, .int .i64 vn] 56)
      have hle : w2.rangeLeft b W.heap.size = cnt2 := hrg2.left_eq
      have hle0 := hrg.left_eq
      obtain ⟨fn, tmps, assign, body, hy, hR⟩ := hY xs ⟨vi, va, vc, vn⟩ _ hJ3 (by omega)
      dsimp only at hy
      clear hle
      gi_wp2
      refine hR.mono ?_
      rintro e W3 (⟨rfl, hJ4, hk3⟩ | ⟨rfl, hJx3⟩)
      · gi_wp2
        have hrg4 := hrg3.of_walks hk3
        have hle4 := hrg4.left_eq
        go_roundw
        case rel => exact ⟨_, cnt2, xs ++ [⟨vi, va, vc, vn⟩], hrg4, by simp; omega, hC2, hJ4⟩
        case measure => omega
      · gi_wp2
        refine bodyPost_ret (results_none rfl _ _ _) rfl ?_
        exact ⟨⟨_, rfl⟩, .inr ⟨_, trivial, hJx3⟩⟩

theorem values1_stops (F : Fence) (n : Nat) (hf : F.fn 51) (hro : F.round = none) (hn : 1 ≤ n) (Bm b nn : Nat) (Fm : ByteArray → Option Hd) (w : World) (hBm : Bm < w.heap.size)
    (hm : w.cell? ⟨Bm, 0, none⟩ = some (.map (some b))) (hown : Mp curC hdE w b nn Fm) :
    SeqStopsK F n Tryz.prog 51 #[.pointer (some ⟨Bm, 0, none⟩)] (fun x : Hd => #[.agg #[.string x.id, .string x.acc, .string x.cur, .int .i64 x.n]]) KeepsWalks (ValsOf Fm) (fun _ => True) nn w := fun l J Jx W hW hJ _ hY h0 =>
  values1_in F n hf hro hn l Bm b nn Fm J Jx hY W hJ ((hW.cell (p := ⟨Bm, 0, none⟩) hBm).trans hm) (hown.below hW hown.lt) h0
end Go.Proofs.YtooeelaobmhifaaGreatDoor
namespace Go.Proofs.YtooeelaobmhifaaGreatDoor
open Go.RowKit Go.Maps Go.Lib Go.Shelf
set_option linter.unusedVariables false
set_option maxRecDepth 100000
attribute [local go_sem] Oper.semAt_some

def Hd.cells (h : Hd) : List Value := [.string h.id, .string h.acc, .string h.cur, .int .i64 h.n]
def hdCells (xs : List Hd) : List Value := xs.flatMap Hd.cells
theorem hdCells_snoc (xs : List Hd) (x : Hd) : hdCells (xs ++ [x]) = hdCells xs ++ x.cells := by simp [hdCells]
theorem info_hold : (Tryz.prog.info? 56).map (fun i => (i.zero, i.size, i.bytes)) = some (some (.agg #[.string ⟨#[]⟩, .string ⟨#[]⟩, .string ⟨#[]⟩, .int .i64 0]), 4, 56) := by kernel_rfl
theorem cell_four_new (W : World) (a b c d : Value) (t : TypeId) : ∀ (j : Nat) (u : Value), [a, b, c, d][j]? = some u → (W.alloc (.cells #[a, b, c, d] t)).cell? ((⟨W.heap.size, 0, none⟩ : Addr).add j) = some u := by
  intro j u h
  match j, h with
  | 0, h => simp at h; subst h; simp [Addr.add]
  | 1, h => simp at h; subst h; simp [Addr.add]
  | 2, h => simp at h; subst h; simp [Addr.add]
  | 3, h => simp at h; subst h; simp [Addr.add]
  | j + 4, h => simp at h
/-- a block that holds a hold -/
def Box4 (W : World) (B : Nat) (h : Hd) : Prop := W.heap[B]? = some (.cells #[.string h.id, .string h.acc, .string h.cur, .int .i64 h.n] 56 (0, 0))
theorem Box4.cell {W : World} {B : Nat} {h : Hd} (x : Box4 W B h) : W.cell? ⟨B, 0, none⟩ = some (.string h.id) ∧ W.cell? ⟨B, 1, none⟩ = some (.string h.acc) ∧ W.cell? ⟨B, 2, none⟩ = some (.string h.cur) ∧ W.cell? ⟨B, 3, none⟩ = some (.int .i64 h.n) := by
  refine ⟨?_, ?_, ?_, ?_⟩ <;> simp [World.cell?, show W.heap[B]? = _ from x]
theorem box4_own (B : Nat) (h : Hd) : Own (fun (_ : Unit) W => Box4 W B h) := fun s X Y row hs hg hrow => by
  refine (hg.block B (Array.getElem?_eq_some_iff.1 hs).1 ?_).trans hs
  intro e
  obtain ⟨o, ho, hc⟩ := hrow B e.symm
  rw [show X.heap[B]? = _ from hs] at ho; cases ho; cases hc

set_option maxHeartbeats 2000000 in
theorem appendSeq_in (F : Fence) (n : Nat) (hf : F.fn 61) (hro : F.round = none) (hn : 2 ≤ n) (g : Nat) (lb : Array Value) (hFg : F.fn g) (eg : ∀ args w, (callFunc g args).run Tryz.prog w = .ok (.enter g args) w)
    (S Sp : List Hd → Prop) (N : Nat) (hN : N ≤ maxLen) (hNb : N * 56 ≤ 140737488355328) (w : World) (hseq : SeqStopsK F (n - 1) Tryz.prog g lb (fun x : Hd => #[.agg #[.string x.id, .string x.acc, .string x.cur, .int .i64 x.n]]) KeepsWalks S Sp N w) :
    CallsIn F n Tryz.prog 61 #[.slice none 0 0, .func (.func g) #[] lb] w fun e w' => ∃ (v : Value) (xs : List Hd), e = .returned v ∧ S xs ∧ xs.length ≤ N ∧ w'.ownsRow w.heap.size 56 4 v xs.length (hdCells xs) ∧ Below w.heap.size w w' := by
  have h1 : 1 ≤ n := by omega
  obtain ⟨i0, hi, hz0, hz1, hz2⟩ := info_parts info_hold
  refine callsIn_of_wp_marks Tryz.func61 rfl hf ?_ hro
  simp only [Tryz.ntmps61, List.size_toArray, List.length_cons, List.length_nil, Nat.reduceAdd, Nat.reduceSub, Array.replicate_succ, Array.replicate_zero, List.push_toArray, List.append_toArray, List.nil_append, List.cons_append]
  gi_wp2
  have bO := Boxed.new w 39 (.slice none 0 0)
  have hB0 : Below w.heap.size w (w.alloc (.cells #[.slice none 0 0] 39)) := (Below.refl _ w).alloc (Nat.le_refl _) _
  refine wpIn_rangeFunc_ownH hro h1 (gf := g) (lb := lb) rfl hFg eg hseq walksK_t walksK_b hB0 (fun _ => rfl)
    (fun pre W => ((∃ v, Boxed W w.heap.size 39 v ∧ W.ownsRow w.heap.size 56 4 v pre.length (hdCells pre) ∧ True) ∧ Below w.heap.size w W) ∧ pre.length ≤ N)
    (fun _ _ _ => False)
    (OwnFrom.and (OwnFrom.and (Own.from (holdsRow_own w.heap.size w.heap.size 39 56 4 (fun pre => pre.length) (fun pre => hdCells pre) (fun pre v => True)) _) (ownFrom_below (Nat.le_refl _) (by simp))) (ownFrom_pure _ _))
    (fun _ _ _ _ _ hs _ _ => hs)
    ⟨⟨⟨_, bO, World.ownsRow_nil _ _ _ _, trivial⟩, hB0⟩, by simp⟩
    (fun x a' W => ∃ Bx, Box4 W Bx x ∧ a' = { tmps := #[.slice none 0 0, .func (.func g) #[] lb, .pointer (some ⟨w.heap.size, 0, none⟩), undef, .slice none 0 0, .pointer (some ⟨Bx, 0, none⟩), .func (.func g) #[] lb, .agg #[.string x.id, .string x.acc, .string x.cur, .int .i64 x.n], undef, undef, undef, undef, undef], defers := [] })
    (fun x a' _ X Y row hs hg hr => by obtain ⟨Bx, h2, h3⟩ := hs; exact ⟨Bx, box4_own Bx x () X Y row h2 hg (fun r e => (hr r e).2), h3⟩)
    ?assign ?body ?done ?stop
  case assign =>
    rintro l pre x W K ⟨⟨⟨v, hv, hrow, _⟩, hB1⟩, hpl⟩ hK
    gi_wp2
    exact hK _ _ ((KeepsOthers.alloc _ _).from _) (KeepsWalks.alloc _ _) ⟨⟨⟨v, hv.alloc _, hrow.alloc _, trivial⟩, hB1.alloc hB1.size _⟩, hpl⟩ ⟨W.heap.size, World.alloc_heap_new W _, rfl⟩
  case body =>
    rintro l pre x a' W hl ⟨r, hr⟩ ⟨⟨⟨v, hv, hrow, _⟩, hB⟩, hpl⟩ ⟨Bx, bX, rfl⟩ hlt
    have hc := hv.cell
    obtain ⟨x0, x1, x2, x3⟩ := bX.cell
    gi_wp2_with (gi_at_builtin; refine wpListIn_append_own _ rfl _ _ 39 rfl w.heap.size 56 i0 (.agg #[.string ⟨#[]⟩, .string ⟨#[]⟩, .string ⟨#[]⟩, .int .i64 0]) 4 56 Tryz.underlying39 hi hz0 hz1 hz2 rfl (by decide) _ _ _ rfl (hrow.alloc _) ⟨W.heap.size, 0, none⟩ 1 1 x.cells rfl rfl (cell_four_new _ _ _ _ _ _) (by simp [Hd.cells, Value.oneCell']) (by omega) (by omega) (by have := hB.size; simp; omega) ?_; intro v' w1 hown' hgrow _; obtain ⟨g', cap', rfl⟩ := ownsRow_succ hown'; obtain ⟨hv1, hv2, hr2, hk2, hb2⟩ := hv.appended (by decide) hrow hB.size (Nat.le_refl _) hown' hgrow; have hc1 := hv1.cell; have hf1 := hv1.frozen)
    exact ⟨hk2.from _, hk2.walks, ⟨⟨_, hv2, by rw [hdCells_snoc]; simpa using hr2, trivial⟩, hB.trans hb2⟩, by simp; omega⟩
  case done =>
    rintro D ys W hD hS ⟨⟨⟨v, hv, hrow, _⟩, hB⟩, hpl⟩ hK
    have hc := hv.cell
    gi_wp2
    refine ⟨by simp, .inl ⟨_, _, rfl, run_takeDeferred hK, ?_⟩⟩
    exact ⟨_, results_tmp rfl _ _ _, v, ys, rfl, hS, hpl, ownsRow_putObj hrow _ hK rfl, hB.trans (belowK_b (w := w) (Nat.le_refl _) W D _ _ (by simp at hD; omega) hK rfl rfl)⟩
  case stop =>
    rintro D c pre W _ _ h _
    exact h.elim
set_option maxHeartbeats 1000000 in
theorem collect_in (F : Fence) (n : Nat) (hf : F.fn 49) (hf2 : F.fn 61) (hro : F.round = none) (hn : 3 ≤ n) (g : Nat) (lb : Array Value) (hFg : F.fn g) (eg : ∀ args w, (callFunc g args).run Tryz.prog w = .ok (.enter g args) w)
    (S Sp : List Hd → Prop) (N : Nat) (hN : N ≤ maxLen) (hNb : N * 56 ≤ 140737488355328) (w : World) (hseq : SeqStopsK F (n - 1 - 1) Tryz.prog g lb (fun x : Hd => #[.agg #[.string x.id, .string x.acc, .string x.cur, .int .i64 x.n]]) KeepsWalks S Sp N w) :
    CallsIn F n Tryz.prog 49 #[.func (.func g) #[] lb] w fun e w' => ∃ (v : Value) (xs : List Hd), e = .returned v ∧ S xs ∧ xs.length ≤ N ∧ w'.ownsRow w.heap.size 56 4 v xs.length (hdCells xs) ∧ Below w.heap.size w w' := by
  have h1 : 1 ≤ n := by omega
  refine callsIn_of_wp Tryz.func49 rfl hf ?_ hro
  simp only [Tryz.ntmps49, List.size_toArray, List.length_cons, List.length_nil, Nat.reduceAdd, Nat.reduceSub, Array.replicate_succ, Array.replicate_zero, List.push_toArray, List.append_toArray, List.nil_append, List.cons_append]
  gi_wp2_with (gi_at_call 61; refine (appendSeq_in F (n - 1) hf2 hro (by omega) g lb hFg eg S Sp N hN hNb _ hseq).mono ?_; rintro e w' ⟨v, ss, rfl, hS, hl, hrow, hb⟩)
  go_ret
  exact ⟨v, ss, rfl, hS, hl, hrow, hb⟩
/-- slices.Collect(maps.Values(the holds)): the map's holds, each once -/
theorem collect_values (w : World) (Bm b nn : Nat) (Fm : ByteArray → Option Hd) (hBm : Bm < w.heap.size) (hm : w.cell? ⟨Bm, 0, none⟩ = some (.map (some b))) (hown : Mp curC hdE w b nn Fm) (hN : nn ≤ 1000000) :
    Calls Tryz.prog 49 #[.func (.func 51) #[] #[.pointer (some ⟨Bm, 0, none⟩)]] w fun e w' => ∃ (v : Value) (xs : List Hd), e = .returned v ∧ ValsOf Fm xs ∧ xs.length ≤ nn ∧ w'.ownsRow w.heap.size 56 4 v xs.length (hdCells xs) ∧ Below w.heap.size w w' :=
  callsIn_wide.1 (collect_in Fence.wide 4 trivial trivial rfl (by omega) 51 _ trivial (enters_of Tryz.func51 (by kernel_rfl) rfl) (ValsOf Fm) (fun _ => True) nn (by unfold maxLen; omega) (by omega) w (values1_stops Fence.wide _ trivial rfl (by omega) Bm b nn Fm w hBm hm hown))
end Go.Proofs.YtooeelaobmhifaaGreatDoor
