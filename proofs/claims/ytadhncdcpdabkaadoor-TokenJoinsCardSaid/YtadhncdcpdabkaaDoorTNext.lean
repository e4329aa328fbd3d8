/- The scanner's next token: a text between two signs, a sign, a run. -/
import Derived.Test.YtadhncdcpdabkaaDoorTRank
import Derived.RegionTactic
import Derived.BigRegion
import Derived.Deep.Cut
import Derived.Laws.ResultCell
import Derived.Laws.Tables
import Derived.Maps.Range
namespace Go.Proofs.YtadhncdcpdabkaaDoor
open Go.RowKit Go.Lib
set_option linter.unusedVariables false

theorem ext_run (p : UInt8 → Bool) (s : ByteArray) (i : Nat) : (s.extract i (runTo p s i)).data.toList = (s.data.toList.drop i).takeWhile p := by
  have h := tw_split p (s.data.toList.drop i)
  rw [ByteArray.data_extract, Array.toList_extract, List.extract_eq_take_drop]
  have e : runTo p s i - i = ((s.data.toList.drop i).takeWhile p).length := by unfold runTo; omega
  rw [e]
  generalize (s.data.toList.drop i).takeWhile p = x at *
  conv => lhs; rw [← h]
  simp
theorem ext_eq (p : UInt8 → Bool) (s : ByteArray) (i : Nat) : s.extract i (runTo p s i) = ⟨((s.data.toList.drop i).takeWhile p).toArray⟩ := by
  rw [ba_eq, ext_run]
/-- what the next token is: its value, the error, the place behind it -/
def NextIs (s : ByteArray) (i : Nat) (tv : Value) (code : Int) (j : Nat) : Prop :=
  (∃ k t m, one (s.data.toList.drop i) = .tok k t m ∧ tv = .agg #[.int .i64 (k : Nat), .int .i64 (i : Nat), .string ⟨t.toArray⟩] ∧ code = 0 ∧ j = i + m) ∨
  (∃ e, one (s.data.toList.drop i) = .bad e ∧ code = (e : Nat) ∧ e ≠ 0 ∧ ∃ (x y : Int) (z : ByteArray), tv = .agg #[.int .i64 x, .int .i64 y, .string z])
/-- a block that holds a token -/
structure Tb (w : World) (b : Nat) (x y : Int) (z : ByteArray) : Prop where
  blk : w.heap[b]? = some (.cells #[.int .i64 x, .int .i64 y, .string z] 31 (0, 0))
section
variable {w w' : World} {b : Nat} {x y : Int} {z : ByteArray}
theorem Tb.lt (h : Tb w b x y z) : b < w.heap.size := (Array.getElem?_eq_some_iff.1 h.blk).1
theorem Tb.new (w : World) (x y : Int) (z : ByteArray) : Tb (w.alloc (.cells #[.int .i64 x, .int .i64 y, .string z] 31)) w.heap.size x y z := ⟨heap_alloc_new w _⟩
theorem Tb.set (h : Tb w b x y z) (x' y' : Int) (z' : ByteArray) : Tb (w.setRow b #[.int .i64 x', .int .i64 y', .string z']) b x' y' z' := ⟨setRow_heap w b _ _ _ _ h.blk⟩
theorem Tb.set3 (h : Tb w b x y z) (x' y' : Int) (z' : ByteArray) : Tb (((w.setCell ⟨b, 0, none⟩ (.int .i64 x')).setCell ⟨b, 1, none⟩ (.int .i64 y')).setCell ⟨b, 2, none⟩ (.string z')) b x' y' z' := ⟨by
  rw [heap_setCell_same _ b 2 _ _ _ (heap_setCell_same _ b 1 _ _ _ (heap_setCell_same _ b 0 _ _ _ h.blk))]
  rfl⟩
theorem Tb.kept (h : Tb w b x y z) {row : Option Nat} (hg : w.grownBy w' row) (hr : some b ≠ row) : Tb w' b x y z := ⟨(hg.block b h.lt hr).trans h.blk⟩
theorem Tb.below (h : Tb w b x y z) {B : Nat} (hb : Below B w w') (hB : b < B) : Tb w' b x y z := ⟨(hb.block b hB).trans h.blk⟩
theorem Tb.drewN (h : Tb w b x y z) (n : Nat) : Tb (w.drewN n) b x y z := ⟨h.blk⟩
theorem Tb.c0 (h : Tb w b x y z) : w.cell? ⟨b, 0, none⟩ = some (.int .i64 x) := by simp [World.cell?, h.blk]
theorem Tb.c1 (h : Tb w b x y z) : w.cell? ⟨b, 1, none⟩ = some (.int .i64 y) := by simp [World.cell?, h.blk]
theorem Tb.c2 (h : Tb w b x y z) : w.cell? ⟨b, 2, none⟩ = some (.string z) := by simp [World.cell?, h.blk]
theorem Tb.f0 (h : Tb w b x y z) : w.frozen? ⟨b, 0, none⟩ = false := by simp [World.frozen?, h.blk]
theorem Tb.f1 (h : Tb w b x y z) : w.frozen? ⟨b, 1, none⟩ = false := by simp [World.frozen?, h.blk]
theorem Tb.f2 (h : Tb w b x y z) : w.frozen? ⟨b, 2, none⟩ = false := by simp [World.frozen?, h.blk]
end

theorem grown_setRow (w : World) (g : Nat) (cs : Array Value) : w.grownBy (w.setRow g cs) (some g) :=
  ⟨rfl, rfl, rfl, by simp, fun i hi hne => setRow_other w g i cs (fun e => hne (by rw [e]))⟩
theorem grown_newRow {a w : World} {b g : Nat} (h : a.grownBy w (some b)) (hg : a.heap.size ≤ g) (cs : Array Value) : a.grownBy (w.setRow g cs) (some b) :=
  h.andThen (grown_setRow w g cs) (fun j hj => by cases hj; exact .inl hg)
theorem Sc.setRow {w : World} {b i g : Nat} {s : ByteArray} (h : Sc w b s i) (hne : b ≠ g) (cs : Array Value) : Sc (w.setRow g cs) b s i := h.kept (grown_setRow w g cs) (by simp; omega)
theorem set3_grown (w : World) (g : Nat) (v0 v1 v2 : Value) : w.grownBy (((w.setCell ⟨g, 0, none⟩ v0).setCell ⟨g, 1, none⟩ v1).setCell ⟨g, 2, none⟩ v2) (some g) :=
  grownBy_setB (grownBy_setB (grownBy_setB (World.grownBy.refl w (some g)) 0 v0) 1 v1) 2 v2
theorem grown_new3 {a w : World} {b g : Nat} (h : a.grownBy w (some b)) (hg : a.heap.size ≤ g) (v0 v1 v2 : Value) : a.grownBy (((w.setCell ⟨g, 0, none⟩ v0).setCell ⟨g, 1, none⟩ v1).setCell ⟨g, 2, none⟩ v2) (some b) :=
  h.andThen (set3_grown w g v0 v1 v2) (fun j hj => by cases hj; exact .inl hg)
theorem Sc.set3 {w : World} {b i g : Nat} {s : ByteArray} (h : Sc w b s i) (hne : b ≠ g) (v0 v1 v2 : Value) : Sc (((w.setCell ⟨g, 0, none⟩ v0).setCell ⟨g, 1, none⟩ v1).setCell ⟨g, 2, none⟩ v2) b s i := h.kept (set3_grown w g v0 v1 v2) (by simp; omega)
theorem infoTok : (Tryd.prog.info? 31).map (·.size) = some 3 := by kernel_rfl
theorem tok_one (x y : Int) (z : ByteArray) : (#[.int .i64 x, .int .i64 y, .string z] : Array Value).all (·.oneCell') = true := by simp [Value.oneCell']
theorem ret_tok {fn : Func} {p u : Tmp} (hr : fn.results = #[.cell p 31, .tmp u]) {tmps : Array Value} {w : World} {b : Nat} {x y : Int} {z : ByteArray} {v : Value} (hp : tmps.getD p undef = .pointer (some ⟨b, 0, none⟩)) (hv : tmps.getD u undef = v) (hT : Tb w b x y z) :
    (results fn tmps).run Tryd.prog w = .ok (.tuple #[.agg #[.int .i64 x, .int .i64 y, .string z], v]) w := by
  rw [results_cell_tmp hr, hp, hv]
  simp [asAddr, run_loadVar_row w b 31 31 _ (0, 0) _ hT.blk Tryd.underlying31 rfl infoTok]

theorem size_setCell (w : World) (a : Addr) (v : Value) : (w.setCell a v).heap.size = w.heap.size := by simp
set_option maxHeartbeats 1000000 in
set_option maxRecDepth 100000 in
theorem quoted_yes (s : ByteArray) (b i : Nat) (w : World) (hs : s.size ≤ 1000000000) (hi : i < s.size) (hS : Sc w b s i) (he : runTo quotd s (i + 1) < s.size) (h34 : s[runTo quotd s (i + 1)].toNat = 34) :
    Calls Tryd.prog 36 #[.pointer (some ⟨b, 0, none⟩), .int .i64 (i : Int)] w fun e w' => e = .returned (.tuple #[.agg #[.int .i64 3, .int .i64 (i : Int), .string (s.extract (i + 1) (runTo quotd s (i + 1)))], .int .i64 0]) ∧ Sc w' b s (runTo quotd s (i + 1) + 1) ∧ w.grownBy w' (some b) := by
  have c1 := hS.c1
  have f1 := hS.f1
  have hb := hS.lt
  have H34 := Lib.hid h34
  clear h34
  go_enter Tryd.func36, Tryd.ntmps36
  go_wp2_with fail
  refine (run_any 51 quotd (enters_of Tryd.func51 (by kernel_rfl) rfl) isQuot_any s b (i + 1) _ hs (by omega) ((hS.setv _ (i + 1) (by omega)).alloc _)).mono ?_
  rintro e w1 ⟨rfl, hS1, hg1⟩
  have hT1 : Tb w1 w.heap.size 0 0 ⟨#[]⟩ := by
    have h := (Tb.new (w.setCell ⟨b, 1, none⟩ (.int .i64 ((i : Int) + 1))) 0 0 ⟨#[]⟩).kept hg1 (by simp; omega)
    rwa [size_setCell] at h
  have hG1 := ((grownBy_setB (World.grownBy.refl w (some b)) 1 (.int .i64 ((i : Int) + 1))).trans (World.grownBy_alloc _ _ _)).trans hg1
  clear hg1 c1 f1 hS
  generalize hr : runTo quotd s (i + 1) = r at *
  have HR := Lib.hid hr
  clear hr
  have c0 := hS1.c0
  have c1 := hS1.c1
  have hr0 : (0 : Int) ≤ (r : Int) := by omega
  have hr1 : (r : Int) < (s.size : Int) := by omega
  have hd : decide ((s.size : Int) ≤ (r : Int)) = false := by simp; omega
  have e34 : ((s[r].toNat : Int) != 34) = false := by have := H34.out; simp; omega
  go_wp2_with fail
  go_quiet (fail)
  have hS2 := hS1.drewN nq
  have hT2 := hT1.drewN nq
  have hG2 := grown_drewN hG1 nq
  clear hS1 hT1 hG1 c0 c1
  generalize w1.drewN nq = w2 at *
  have c1 := hS2.c1
  have f1 := hS2.f1
  go_upto_region 6 with (fail)
  have hT3 := hT2.kept (grownBy_setB (World.grownBy.refl w2 (some b)) 1 (.int .i64 ((r : Int) + 1))) (by simp; omega)
  have hS3 := hS2.setv ((r : Int) + 1) (r + 1) (by omega)
  have hG3 := grownBy_setB hG2 1 (.int .i64 ((r : Int) + 1))
  clear c1 f1 hT2 hS2 hG2
  generalize w2.setCell ⟨b, 1, none⟩ (.int .i64 ((r : Int) + 1)) = w3 at *
  have t0 := hT3.c0
  have t1 := hT3.c1
  have t2 := hT3.c2
  have g0 := hT3.f0
  have g1 := hT3.f1
  have g2 := hT3.f2
  go_wp2_with fail
  refine bodyPost_ret (ret_tok rfl rfl rfl (hT3.set3 _ _ _)) rfl ?_
  rw [HR.out]
  exact ⟨rfl, hS3.set3 (by omega) _ _ _, grown_new3 hG3 (Nat.le_refl _) _ _ _⟩

/-- no text between two signs -/
def badQ (s : ByteArray) (r : Nat) : Prop := s.size ≤ r ∨ ∃ h : r < s.size, s[r].toNat ≠ 34
set_option maxHeartbeats 1000000 in
set_option maxRecDepth 100000 in
theorem quoted_no (s : ByteArray) (b i : Nat) (w : World) (hs : s.size ≤ 1000000000) (hi : i < s.size) (hS : Sc w b s i) (hbad : badQ s (runTo quotd s (i + 1))) :
    Calls Tryd.prog 36 #[.pointer (some ⟨b, 0, none⟩), .int .i64 (i : Int)] w fun e w' => e = .returned (.tuple #[.agg #[.int .i64 0, .int .i64 0, .string ⟨#[]⟩], .int .i64 2]) ∧ Sc w' b s (runTo quotd s (i + 1)) ∧ w.grownBy w' (some b) := by
  have c1 := hS.c1
  have f1 := hS.f1
  have hb := hS.lt
  go_enter Tryd.func36, Tryd.ntmps36
  go_wp2_with fail
  refine (run_any 51 quotd (enters_of Tryd.func51 (by kernel_rfl) rfl) isQuot_any s b (i + 1) _ hs (by omega) ((hS.setv _ (i + 1) (by omega)).alloc _)).mono ?_
  rintro e w1 ⟨rfl, hS1, hg1⟩
  have hT1 : Tb w1 w.heap.size 0 0 ⟨#[]⟩ := by
    have h := (Tb.new (w.setCell ⟨b, 1, none⟩ (.int .i64 ((i : Int) + 1))) 0 0 ⟨#[]⟩).kept hg1 (by simp; omega)
    rwa [size_setCell] at h
  have hG1 := ((grownBy_setB (World.grownBy.refl w (some b)) 1 (.int .i64 ((i : Int) + 1))).trans (World.grownBy_alloc _ _ _)).trans hg1
  clear hg1 c1 f1 hS
  generalize hr : runTo quotd s (i + 1) = r at *
  have HR := Lib.hid hr
  clear hr
  have c0 := hS1.c0
  have c1 := hS1.c1
  have hr0 : (0 : Int) ≤ (r : Int) := by omega
  rcases hbad with hr1 | ⟨hlt, h34⟩
  · have hd : decide ((s.size : Int) ≤ (r : Int)) = true := by simp; omega
    go_wp2_with fail
    go_quiet (fail)
    have hS2 := hS1.drewN nq
    have hT2 := hT1.drewN nq
    have hG2 := grown_drewN hG1 nq
    clear hS1 hT1 hG1 c0 c1
    generalize w1.drewN nq = w2 at *
    have t0 := hT2.c0
    have t1 := hT2.c1
    have t2 := hT2.c2
    have g0 := hT2.f0
    have g1 := hT2.f1
    have g2 := hT2.f2
    go_wp2_with fail
    refine bodyPost_ret (ret_tok rfl rfl rfl (hT2.set3 _ _ _)) rfl ?_
    rw [HR.out]
    exact ⟨rfl, hS2.set3 (by omega) _ _ _, grown_new3 hG2 (Nat.le_refl _) _ _ _⟩
  · have hr1 : (r : Int) < (s.size : Int) := by omega
    have hd : decide ((s.size : Int) ≤ (r : Int)) = false := by simp; omega
    have e34 : ((s[r].toNat : Int) != 34) = true := by simp; omega
    clear h34
    go_wp2_with fail
    go_quiet (fail)
    have hS2 := hS1.drewN nq
    have hT2 := hT1.drewN nq
    have hG2 := grown_drewN hG1 nq
    clear hS1 hT1 hG1 c0 c1
    generalize w1.drewN nq = w2 at *
    have t0 := hT2.c0
    have t1 := hT2.c1
    have t2 := hT2.c2
    have g0 := hT2.f0
    have g1 := hT2.f1
    have g2 := hT2.f2
    go_wp2_with fail
    refine bodyPost_ret (ret_tok rfl rfl rfl (hT2.set3 _ _ _)) rfl ?_
    rw [HR.out]
    exact ⟨rfl, hS2.set3 (by omega) _ _ _, grown_new3 hG2 (Nat.le_refl _) _ _ _⟩
end Go.Proofs.YtadhncdcpdabkaaDoor
