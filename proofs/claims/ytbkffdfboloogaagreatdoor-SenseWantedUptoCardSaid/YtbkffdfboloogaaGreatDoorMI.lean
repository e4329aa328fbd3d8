/- The scanner's next token: a text between two signs, a sign, a run. The scanner's sign. The scanner's next token, whatever it is. The scanner's next token, whatever it is: the whole. -/
import Derived.Test.YtbkffdfboloogaaGreatDoorMH
import Derived.RegionTactic
import Derived.BigRegion
import Derived.Deep.Cut
import Derived.Laws.ResultCell
import Derived.Laws.Tables
import Derived.Maps.Range
namespace Go.Proofs.YtbkffdfboloogaaGreatDoor
open Go.RowKit Go.Lib
set_option linter.unusedVariables false

theorem ext_run (p : UInt8 → Bool) (s : ByteArray) (i : Nat) : (s.extract i (runTo p s i)).data.toList = (s.data.toList.drop i).takeWhile p := by
  have h := tw_split p (s.data.toList.drop i)
  rw [ByteArray.data_extract, Array.toList_extract, List.extract_eq_take_drop]
  have e : runTo p s i - i = ((s.data.toList.drop i).takeWhile p).length := by unfold runTo; omega
  rw [e]
  generalize (s.data.toList.drop i).takeWhile p = x at *
  conv => lhs; rw [← h]
  simp
theorem ext_eq (p : UInt8 → Bool) (s : ByteArray) (i : Nat) : s.extract i (runTo p s i) = ⟨((s.data.toList.drop i).takeWhile p).toArray⟩ := by
  rw [ba_eq, ext_run]
/-- what the next token is: its value, the error, the place behind it -/
def NextIs (s : ByteArray) (i : Nat) (tv : Value) (code : Int) (j : Nat) : Prop :=
  (∃ k t m, one (s.data.toList.drop i) = .tok k t m ∧ tv = .agg #[.int .i64 (k : Nat), .int .i64 (i : Nat), .string ⟨t.toArray⟩] ∧ code = 0 ∧ j = i + m) ∨
  (∃ e, one (s.data.toList.drop i) = .bad e ∧ code = (e : Nat) ∧ e ≠ 0 ∧ ∃ (x y : Int) (z : ByteArray), tv = .agg #[.int .i64 x, .int .i64 y, .string z])
/-- a block that holds a token -/
structure Tb (w : World) (b : Nat) (x y : Int) (z : ByteArray) : Prop where
  blk : w.heap[b]? = some (.cells #[.int .i64 x, .int .i64 y, .string z] 142 (0, 0))
section
variable {w w' : World} {b : Nat} {x y : Int} {z : ByteArray}
theorem Tb.lt (h : Tb w b x y z) : b < w.heap.size := (Array.getElem?_eq_some_iff.1 h.blk).1
theorem Tb.new (w : World) (x y : Int) (z : ByteArray) : Tb (w.alloc (.cells #[.int .i64 x, .int .i64 y, .string z] 142)) w.heap.size x y z := ⟨heap_alloc_new w _⟩
theorem Tb.set (h : Tb w b x y z) (x' y' : Int) (z' : ByteArray) : Tb (w.setRow b #[.int .i64 x', .int .i64 y', .string z']) b x' y' z' := ⟨setRow_heap w b _ _ _ _ h.blk⟩
theorem Tb.set3 (h : Tb w b x y z) (x' y' : Int) (z' : ByteArray) : Tb (((w.setCell ⟨b, 0, none⟩ (.int .i64 x')).setCell ⟨b, 1, none⟩ (.int .i64 y')).setCell ⟨b, 2, none⟩ (.string z')) b x' y' z' := ⟨by
  rw [heap_setCell_same _ b 2 _ _ _ (heap_setCell_same _ b 1 _ _ _ (heap_setCell_same _ b 0 _ _ _ h.blk))]
  rfl⟩
theorem Tb.kept (h : Tb w b x y z) {row : Option Nat} (hg : w.grownBy w' row) (hr : some b ≠ row) : Tb w' b x y z := ⟨(hg.block b h.lt hr).trans h.blk⟩
theorem Tb.below (h : Tb w b x y z) {B : Nat} (hb : Below B w w') (hB : b < B) : Tb w' b x y z := ⟨(hb.block b hB).trans h.blk⟩
theorem Tb.drewN (h : Tb w b x y z) (n : Nat) : Tb (w.drewN n) b x y z := ⟨h.blk⟩
theorem Tb.c0 (h : Tb w b x y z) : w.cell? ⟨b, 0, none⟩ = some (.int .i64 x) := by simp [World.cell?, h.blk]
theorem Tb.c1 (h : Tb w b x y z) : w.cell? ⟨b, 1, none⟩ = some (.int .i64 y) := by simp [World.cell?, h.blk]
theorem Tb.c2 (h : Tb w b x y z) : w.cell? ⟨b, 2, none⟩ = some (.string z) := by simp [World.cell?, h.blk]
theorem Tb.f0 (h : Tb w b x y z) : w.frozen? ⟨b, 0, none⟩ = false := by simp [World.frozen?, h.blk]
theorem Tb.f1 (h : Tb w b x y z) : w.frozen? ⟨b, 1, none⟩ = false := by simp [World.frozen?, h.blk]
theorem Tb.f2 (h : Tb w b x y z) : w.frozen? ⟨b, 2, none⟩ = false := by simp [World.frozen?, h.blk]
end

theorem grown_setRow (w : World) (g : Nat) (cs : Array Value) : w.grownBy (w.setRow g cs) (some g) :=
  ⟨rfl, rfl, rfl, by simp, fun i hi hne => setRow_other w g i cs (fun e => hne (by rw [e]))⟩
theorem grown_newRow {a w : World} {b g : Nat} (h : a.grownBy w (some b)) (hg : a.heap.size ≤ g) (cs : Array Value) : a.grownBy (w.setRow g cs) (some b) :=
  h.andThen (grown_setRow w g cs) (fun j hj => by cases hj; exact .inl hg)
theorem Sc.setRow {w : World} {b i g : Nat} {s : ByteArray} (h : Sc w b s i) (hne : b ≠ g) (cs : Array Value) : Sc (w.setRow g cs) b s i := h.kept (grown_setRow w g cs) (by simp; omega)
theorem set3_grown (w : World) (g : Nat) (v0 v1 v2 : Value) : w.grownBy (((w.setCell ⟨g, 0, none⟩ v0).setCell ⟨g, 1, none⟩ v1).setCell ⟨g, 2, none⟩ v2) (some g) :=
  grownBy_setB (grownBy_setB (grownBy_setB (World.grownBy.refl w (some g)) 0 v0) 1 v1) 2 v2
theorem grown_new3 {a w : World} {b g : Nat} (h : a.grownBy w (some b)) (hg : a.heap.size ≤ g) (v0 v1 v2 : Value) : a.grownBy (((w.setCell ⟨g, 0, none⟩ v0).setCell ⟨g, 1, none⟩ v1).setCell ⟨g, 2, none⟩ v2) (some b) :=
  h.andThen (set3_grown w g v0 v1 v2) (fun j hj => by cases hj; exact .inl hg)
theorem Sc.set3 {w : World} {b i g : Nat} {s : ByteArray} (h : Sc w b s i) (hne : b ≠ g) (v0 v1 v2 : Value) : Sc (((w.setCell ⟨g, 0, none⟩ v0).setCell ⟨g, 1, none⟩ v1).setCell ⟨g, 2, none⟩ v2) b s i := h.kept (set3_grown w g v0 v1 v2) (by simp; omega)
theorem infoTok : (Tryz.prog.info? 142).map (·.size) = some 3 := by kernel_rfl
theorem tok_one (x y : Int) (z : ByteArray) : (#[.int .i64 x, .int .i64 y, .string z] : Array Value).all (·.oneCell') = true := by simp [Value.oneCell']
theorem ret_tok {fn : Func} {p u : Tmp} (hr : fn.results = #[.cell p 142, .tmp u]) {tmps : Array Value} {w : World} {b : Nat} {x y : Int} {z : ByteArray} {v : Value} (hp : tmps.getD p undef = .pointer (some ⟨b, 0, none⟩)) (hv : tmps.getD u undef = v) (hT : Tb w b x y z) :
    (results fn tmps).run Tryz.prog w = .ok (.tuple #[.agg #[.int .i64 x, .int .i64 y, .string z], v]) w := by
  rw [results_cell_tmp hr, hp, hv]
  simp [asAddr, run_loadVar_row w b 142 142 _ (0, 0) _ hT.blk Tryz.underlying142 rfl infoTok]

theorem size_setCell (w : World) (a : Addr) (v : Value) : (w.setCell a v).heap.size = w.heap.size := by simp
set_option maxHeartbeats 1000000 in
set_option maxRecDepth 100000 in
theorem quoted_yes (s : ByteArray) (b i : Nat) (w : World) (hs : s.size ≤ 140737488351232) (hi : i < s.size) (hS : Sc w b s i) (he : runTo quotd s (i + 1) < s.size) (h34 : s[runTo quotd s (i + 1)].toNat = 34) :
    Calls Tryz.prog 172 #[.pointer (some ⟨b, 0, none⟩), .int .i64 (i : Int)] w fun e w' => e = .returned (.tuple #[.agg #[.int .i64 3, .int .i64 (i : Int), .string (s.extract (i + 1) (runTo quotd s (i + 1)))], .int .i64 0]) ∧ Sc w' b s (runTo quotd s (i + 1) + 1) ∧ w.grownBy w' (some b) := by
  have c1 := hS.c1
  have f1 := hS.f1
  have hb := hS.lt
  have H34 := Lib.hid h34
  clear h34
  go_enter Tryz.func172, Tryz.ntmps172
  go_wp2_with fail
  refine (run_any 189 quotd (enters_of Tryz.func189 (by kernel_rfl) rfl) isQuot_any s b (i + 1) _ hs (by omega) ((hS.setv _ (i + 1) (by omega)).alloc _)).mono ?_
  rintro e w1 ⟨rfl, hS1, hg1⟩
  have hT1 : Tb w1 w.heap.size 0 0 ⟨#[]⟩ := by
    have h := (Tb.new (w.setCell ⟨b, 1, none⟩ (.int .i64 ((i : Int) + 1))) 0 0 ⟨#[]⟩).kept hg1 (by simp; omega)
    rwa [size_setCell] at h
  have hG1 := ((grownBy_setB (World.grownBy.refl w (some b)) 1 (.int .i64 ((i : Int) + 1))).trans (World.grownBy_alloc _ _ _)).trans hg1
  clear hg1 c1 f1 hS
  generalize hr : runTo quotd s (i + 1) = r at *
  have HR := Lib.hid hr
  clear hr
  have c0 := hS1.c0
  have c1 := hS1.c1
  have hr0 : (0 : Int) ≤ (r : Int) := by omega
  have hr1 : (r : Int) < (s.size : Int) := by omega
  have hd : decide ((s.size : Int) ≤ (r : Int)) = false := by simp; omega
  have e34 : ((s[r].toNat : Int) != 34) = false := by have := H34.out; simp; omega
  go_wp2_with fail
  go_quiet (fail)
  have hS2 := hS1.drewN nq
  have hT2 := hT1.drewN nq
  have hG2 := grown_drewN hG1 nq
  clear hS1 hT1 hG1 c0 c1
  generalize w1.drewN nq = w2 at *
  have c1 := hS2.c1
  have f1 := hS2.f1
  go_upto_region 6 with (fail)
  have hT3 := hT2.kept (grownBy_setB (World.grownBy.refl w2 (some b)) 1 (.int .i64 ((r : Int) + 1))) (by simp; omega)
  have hS3 := hS2.setv ((r : Int) + 1) (r + 1) (by omega)
  have hG3 := grownBy_setB hG2 1 (.int .i64 ((r : Int) + 1))
  clear c1 f1 hT2 hS2 hG2
  generalize w2.setCell ⟨b, 1, none⟩ (.int .i64 ((r : Int) + 1)) = w3 at *
  have t0 := hT3.c0
  have t1 := hT3.c1
  have t2 := hT3.c2
  have g0 := hT3.f0
  have g1 := hT3.f1
  have g2 := hT3.f2
  go_wp2_with fail
  refine bodyPost_ret (ret_tok rfl rfl rfl (hT3.set3 _ _ _)) rfl ?_
  rw [HR.out]
  exact ⟨rfl, hS3.set3 (by omega) _ _ _, grown_new3 hG3 (Nat.le_refl _) _ _ _⟩

/-- no text between two signs -/
def badQ (s : ByteArray) (r : Nat) : Prop := s.size ≤ r ∨ ∃ h : r < s.size, s[r].toNat ≠ 34
set_option maxHeartbeats 1000000 in
set_option maxRecDepth 100000 in
theorem quoted_no (s : ByteArray) (b i : Nat) (w : World) (hs : s.size ≤ 140737488351232) (hi : i < s.size) (hS : Sc w b s i) (hbad : badQ s (runTo quotd s (i + 1))) :
    Calls Tryz.prog 172 #[.pointer (some ⟨b, 0, none⟩), .int .i64 (i : Int)] w fun e w' => e = .returned (.tuple #[.agg #[.int .i64 0, .int .i64 0, .string ⟨#[]⟩], .int .i64 2]) ∧ Sc w' b s (runTo quotd s (i + 1)) ∧ w.grownBy w' (some b) := by
  have c1 := hS.c1
  have f1 := hS.f1
  have hb := hS.lt
  go_enter Tryz.func172, Tryz.ntmps172
  go_wp2_with fail
  refine (run_any 189 quotd (enters_of Tryz.func189 (by kernel_rfl) rfl) isQuot_any s b (i + 1) _ hs (by omega) ((hS.setv _ (i + 1) (by omega)).alloc _)).mono ?_
  rintro e w1 ⟨rfl, hS1, hg1⟩
  have hT1 : Tb w1 w.heap.size 0 0 ⟨#[]⟩ := by
    have h := (Tb.new (w.setCell ⟨b, 1, none⟩ (.int .i64 ((i : Int) + 1))) 0 0 ⟨#[]⟩).kept hg1 (by simp; omega)
    rwa [size_setCell] at h
  have hG1 := ((grownBy_setB (World.grownBy.refl w (some b)) 1 (.int .i64 ((i : Int) + 1))).trans (World.grownBy_alloc _ _ _)).trans hg1
  clear hg1 c1 f1 hS
  generalize hr : runTo quotd s (i + 1) = r at *
  have HR := Lib.hid hr
  clear hr
  have c0 := hS1.c0
  have c1 := hS1.c1
  have hr0 : (0 : Int) ≤ (r : Int) := by omega
  rcases hbad with hr1 | ⟨hlt, h34⟩
  · have hd : decide ((s.size : Int) ≤ (r : Int)) = true := by simp; omega
    go_wp2_with fail
    go_quiet (fail)
    have hS2 := hS1.drewN nq
    have hT2 := hT1.drewN nq
    have hG2 := grown_drewN hG1 nq
    clear hS1 hT1 hG1 c0 c1
    generalize w1.drewN nq = w2 at *
    have t0 := hT2.c0
    have t1 := hT2.c1
    have t2 := hT2.c2
    have g0 := hT2.f0
    have g1 := hT2.f1
    have g2 := hT2.f2
    go_wp2_with fail
    refine bodyPost_ret (ret_tok rfl rfl rfl (hT2.set3 _ _ _)) rfl ?_
    rw [HR.out]
    exact ⟨rfl, hS2.set3 (by omega) _ _ _, grown_new3 hG2 (Nat.le_refl _) _ _ _⟩
  · have hr1 : (r : Int) < (s.size : Int) := by omega
    have hd : decide ((s.size : Int) ≤ (r : Int)) = false := by simp; omega
    have e34 : ((s[r].toNat : Int) != 34) = true := by simp; omega
    clear h34
    go_wp2_with fail
    go_quiet (fail)
    have hS2 := hS1.drewN nq
    have hT2 := hT1.drewN nq
    have hG2 := grown_drewN hG1 nq
    clear hS1 hT1 hG1 c0 c1
    generalize w1.drewN nq = w2 at *
    have t0 := hT2.c0
    have t1 := hT2.c1
    have t2 := hT2.c2
    have g0 := hT2.f0
    have g1 := hT2.f1
    have g2 := hT2.f2
    go_wp2_with fail
    refine bodyPost_ret (ret_tok rfl rfl rfl (hT2.set3 _ _ _)) rfl ?_
    rw [HR.out]
    exact ⟨rfl, hS2.set3 (by omega) _ _ _, grown_new3 hG2 (Nat.le_refl _) _ _ _⟩
end Go.Proofs.YtbkffdfboloogaaGreatDoor
namespace Go.Proofs.YtbkffdfboloogaaGreatDoor
open Go.RowKit Go.Lib
set_option linter.unusedVariables false
theorem Tb.drew {w : World} {b : Nat} {x y : Int} {z : ByteArray} (h : Tb w b x y z) : Tb w.drew b x y z := ⟨h.blk⟩
theorem grown_drew {a w : World} {row : Option Nat} (h : a.grownBy w row) : a.grownBy w.drew row := ⟨h.os, h.tape, h.output, h.size, h.block⟩
set_option maxHeartbeats 2000000 in
set_option maxRecDepth 100000 in
theorem sign_one (s : ByteArray) (b i : Nat) (w : World) (hs : s.size ≤ 140737488351232) (hi : i < s.size) (hS : Sc w b s i) (hc : s[i].toNat = 40 ∨ s[i].toNat = 41 ∨ s[i].toNat = 44 ∨ s[i].toNat = 59 ∨ s[i].toNat = 58 ∨ s[i].toNat = 46 ∨ s[i].toNat = 61 ∨ s[i].toNat = 126) :
    Calls Tryz.prog 173 #[.pointer (some ⟨b, 0, none⟩), .int .i64 (i : Int)] w fun e w' => e = .returned (.tuple #[.agg #[.int .i64 5, .int .i64 (i : Int), .string (s.extract i (i + 1))], .int .i64 0]) ∧ Sc w' b s (i + 1) ∧ w.grownBy w' (some b) := by
  have c0 := hS.c0
  have c1 := hS.c1
  have f1 := hS.f1
  have hb := hS.lt
  have hi0 : (0 : Int) ≤ (i : Int) := by omega
  have hi1 : (i : Int) < (s.size : Int) := by omega
  rcases hc with h | h | h | h | h | h | h | h
  all_goals
    first | have e40 : ((s[i].toNat : Int) == 40) = true := by simp; omega
          | have e40 : ((s[i].toNat : Int) == 40) = false := by simp; omega
    first | have e41 : ((s[i].toNat : Int) == 41) = true := by simp; omega
          | have e41 : ((s[i].toNat : Int) == 41) = false := by simp; omega
    first | have e44 : ((s[i].toNat : Int) == 44) = true := by simp; omega
          | have e44 : ((s[i].toNat : Int) == 44) = false := by simp; omega
    first | have e59 : ((s[i].toNat : Int) == 59) = true := by simp; omega
          | have e59 : ((s[i].toNat : Int) == 59) = false := by simp; omega
    first | have e58 : ((s[i].toNat : Int) == 58) = true := by simp; omega
          | have e58 : ((s[i].toNat : Int) == 58) = false := by simp; omega
    first | have e46 : ((s[i].toNat : Int) == 46) = true := by simp; omega
          | have e46 : ((s[i].toNat : Int) == 46) = false := by simp; omega
    first | have e61 : ((s[i].toNat : Int) == 61) = true := by simp; omega
          | have e61 : ((s[i].toNat : Int) == 61) = false := by simp; omega
    first | have e126 : ((s[i].toNat : Int) == 126) = true := by simp; omega
          | have e126 : ((s[i].toNat : Int) == 126) = false := by simp; omega
    first | have e60 : ((s[i].toNat : Int) == 60) = true := by simp; omega
          | have e60 : ((s[i].toNat : Int) == 60) = false := by simp; omega
    first | have e62 : ((s[i].toNat : Int) == 62) = true := by simp; omega
          | have e62 : ((s[i].toNat : Int) == 62) = false := by simp; omega
    clear h
    go_enter Tryz.func173, Tryz.ntmps173
    go_upto_region 17 with (fail)
    have hT1 : Tb ((w.setCell ⟨b, 1, none⟩ (.int .i64 ((i : Int) + 1))).alloc (.cells #[.int .i64 0, .int .i64 0, .string ⟨#[]⟩] 142)) w.heap.size 0 0 ⟨#[]⟩ := by
      have h := Tb.new (w.setCell ⟨b, 1, none⟩ (.int .i64 ((i : Int) + 1))) 0 0 ⟨#[]⟩
      rwa [size_setCell] at h
    have hS1 := (hS.setv ((i : Int) + 1) (i + 1) (by omega)).alloc (.cells #[.int .i64 0, .int .i64 0, .string ⟨#[]⟩] 142)
    have hG1 := (grownBy_setB (World.grownBy.refl w (some b)) 1 (.int .i64 ((i : Int) + 1))).trans (World.grownBy_alloc _ (.cells #[.int .i64 0, .int .i64 0, .string ⟨#[]⟩] 142) _)
    clear c0 c1 f1 hS
    generalize (w.setCell ⟨b, 1, none⟩ (.int .i64 ((i : Int) + 1))).alloc (.cells #[.int .i64 0, .int .i64 0, .string ⟨#[]⟩] 142) = w1 at *
    have c0 := hS1.c0
    have c1 := hS1.c1
    have t0 := hT1.c0
    have t1 := hT1.c1
    have t2 := hT1.c2
    have g0 := hT1.f0
    have g1 := hT1.f1
    have g2 := hT1.f2
    go_wp2_with fail
    go_region
    go_wp2_with fail
    refine bodyPost_ret (ret_tok rfl rfl rfl (hT1.drew.set3 _ _ _)) rfl ?_
    exact ⟨rfl, hS1.drew.set3 (by omega) _ _ _, grown_new3 (grown_drew hG1) (Nat.le_refl _) _ _ _⟩
set_option maxHeartbeats 2000000 in
set_option maxRecDepth 100000 in
theorem sign_two (s : ByteArray) (b i : Nat) (w : World) (hs : s.size ≤ 140737488351232) (hi : i < s.size) (hS : Sc w b s i) (hc : s[i].toNat = 60 ∨ s[i].toNat = 62) (h1 : i + 1 < s.size) (h61 : s[i + 1].toNat = 61) :
    Calls Tryz.prog 173 #[.pointer (some ⟨b, 0, none⟩), .int .i64 (i : Int)] w fun e w' => e = .returned (.tuple #[.agg #[.int .i64 5, .int .i64 (i : Int), .string (s.extract i (i + 2))], .int .i64 0]) ∧ Sc w' b s (i + 2) ∧ w.grownBy w' (some b) := by
  have c0 := hS.c0
  have c1 := hS.c1
  have f1 := hS.f1
  have hb := hS.lt
  have hi0 : (0 : Int) ≤ (i : Int) := by omega
  have hi1 : (i : Int) < (s.size : Int) := by omega
  have h2 : (i : Int) + 1 < (s.size : Int) := by omega
  have hd : decide ((s.size : Int) ≤ (i : Int) + 1) = false := by simp; omega
  have e61' : ((s[i + 1].toNat : Int) != 61) = false := by simp; omega
  clear h61
  rcases hc with h | h
  all_goals
    first | have e40 : ((s[i].toNat : Int) == 40) = true := by simp; omega
          | have e40 : ((s[i].toNat : Int) == 40) = false := by simp; omega
    first | have e41 : ((s[i].toNat : Int) == 41) = true := by simp; omega
          | have e41 : ((s[i].toNat : Int) == 41) = false := by simp; omega
    first | have e44 : ((s[i].toNat : Int) == 44) = true := by simp; omega
          | have e44 : ((s[i].toNat : Int) == 44) = false := by simp; omega
    first | have e59 : ((s[i].toNat : Int) == 59) = true := by simp; omega
          | have e59 : ((s[i].toNat : Int) == 59) = false := by simp; omega
    first | have e58 : ((s[i].toNat : Int) == 58) = true := by simp; omega
          | have e58 : ((s[i].toNat : Int) == 58) = false := by simp; omega
    first | have e46 : ((s[i].toNat : Int) == 46) = true := by simp; omega
          | have e46 : ((s[i].toNat : Int) == 46) = false := by simp; omega
    first | have e61 : ((s[i].toNat : Int) == 61) = true := by simp; omega
          | have e61 : ((s[i].toNat : Int) == 61) = false := by simp; omega
    first | have e126 : ((s[i].toNat : Int) == 126) = true := by simp; omega
          | have e126 : ((s[i].toNat : Int) == 126) = false := by simp; omega
    first | have e60 : ((s[i].toNat : Int) == 60) = true := by simp; omega
          | have e60 : ((s[i].toNat : Int) == 60) = false := by simp; omega
    first | have e62 : ((s[i].toNat : Int) == 62) = true := by simp; omega
          | have e62 : ((s[i].toNat : Int) == 62) = false := by simp; omega
    clear h
    go_enter Tryz.func173, Tryz.ntmps173
    go_upto_region 17 with (fail)
    have hT1 : Tb ((w.setCell ⟨b, 1, none⟩ (.int .i64 ((i : Int) + 2))).alloc (.cells #[.int .i64 0, .int .i64 0, .string ⟨#[]⟩] 142)) w.heap.size 0 0 ⟨#[]⟩ := by
      have h := Tb.new (w.setCell ⟨b, 1, none⟩ (.int .i64 ((i : Int) + 2))) 0 0 ⟨#[]⟩
      rwa [size_setCell] at h
    have hS1 := (hS.setv ((i : Int) + 2) (i + 2) (by omega)).alloc (.cells #[.int .i64 0, .int .i64 0, .string ⟨#[]⟩] 142)
    have hG1 := (grownBy_setB (World.grownBy.refl w (some b)) 1 (.int .i64 ((i : Int) + 2))).trans (World.grownBy_alloc _ (.cells #[.int .i64 0, .int .i64 0, .string ⟨#[]⟩] 142) _)
    clear c0 c1 f1 hS
    generalize (w.setCell ⟨b, 1, none⟩ (.int .i64 ((i : Int) + 2))).alloc (.cells #[.int .i64 0, .int .i64 0, .string ⟨#[]⟩] 142) = w1 at *
    have c0 := hS1.c0
    have c1 := hS1.c1
    have t0 := hT1.c0
    have t1 := hT1.c1
    have t2 := hT1.c2
    have g0 := hT1.f0
    have g1 := hT1.f1
    have g2 := hT1.f2
    go_wp2_with fail
    go_region
    go_wp2_with fail
    refine bodyPost_ret (ret_tok rfl rfl rfl (hT1.drew.set3 _ _ _)) rfl ?_
    exact ⟨rfl, hS1.drew.set3 (by omega) _ _ _, grown_new3 (grown_drew hG1) (Nat.le_refl _) _ _ _⟩
set_option maxHeartbeats 2000000 in
set_option maxRecDepth 100000 in
theorem sign_half (s : ByteArray) (b i : Nat) (w : World) (hs : s.size ≤ 140737488351232) (hi : i < s.size) (hS : Sc w b s i) (hc : s[i].toNat = 60 ∨ s[i].toNat = 62) (hbad : s.size ≤ i + 1 ∨ ∃ h : i + 1 < s.size, s[i + 1].toNat ≠ 61) :
    Calls Tryz.prog 173 #[.pointer (some ⟨b, 0, none⟩), .int .i64 (i : Int)] w fun e w' => e = .returned (.tuple #[.agg #[.int .i64 0, .int .i64 0, .string ⟨#[]⟩], .int .i64 2]) ∧ Sc w' b s i ∧ w.grownBy w' (some b) := by
  have c0 := hS.c0
  have c1 := hS.c1
  have f1 := hS.f1
  have hb := hS.lt
  have hi0 : (0 : Int) ≤ (i : Int) := by omega
  have hi1 : (i : Int) < (s.size : Int) := by omega
  rcases hbad with hx | ⟨h1, h61⟩
  · have hd : decide ((s.size : Int) ≤ (i : Int) + 1) = true := by simp; omega
    rcases hc with h | h
    all_goals
      first | have e40 : ((s[i].toNat : Int) == 40) = true := by simp; omega
            | have e40 : ((s[i].toNat : Int) == 40) = false := by simp; omega
      first | have e41 : ((s[i].toNat : Int) == 41) = true := by simp; omega
            | have e41 : ((s[i].toNat : Int) == 41) = false := by simp; omega
      first | have e44 : ((s[i].toNat : Int) == 44) = true := by simp; omega
            | have e44 : ((s[i].toNat : Int) == 44) = false := by simp; omega
      first | have e59 : ((s[i].toNat : Int) == 59) = true := by simp; omega
            | have e59 : ((s[i].toNat : Int) == 59) = false := by simp; omega
      first | have e58 : ((s[i].toNat : Int) == 58) = true := by simp; omega
            | have e58 : ((s[i].toNat : Int) == 58) = false := by simp; omega
      first | have e46 : ((s[i].toNat : Int) == 46) = true := by simp; omega
            | have e46 : ((s[i].toNat : Int) == 46) = false := by simp; omega
      first | have e61 : ((s[i].toNat : Int) == 61) = true := by simp; omega
            | have e61 : ((s[i].toNat : Int) == 61) = false := by simp; omega
      first | have e126 : ((s[i].toNat : Int) == 126) = true := by simp; omega
            | have e126 : ((s[i].toNat : Int) == 126) = false := by simp; omega
      first | have e60 : ((s[i].toNat : Int) == 60) = true := by simp; omega
            | have e60 : ((s[i].toNat : Int) == 60) = false := by simp; omega
      first | have e62 : ((s[i].toNat : Int) == 62) = true := by simp; omega
            | have e62 : ((s[i].toNat : Int) == 62) = false := by simp; omega
      clear h
      go_enter Tryz.func173, Tryz.ntmps173
      go_wp2_with fail
      refine bodyPost_ret (ret_tok rfl rfl rfl (Tb.new w 0 0 ⟨#[]⟩)) rfl ?_
      exact ⟨rfl, hS.alloc _, World.grownBy_alloc _ _ _⟩
  · have h2 : (i : Int) + 1 < (s.size : Int) := by omega
    have hd : decide ((s.size : Int) ≤ (i : Int) + 1) = false := by simp; omega
    have e61' : ((s[i + 1].toNat : Int) != 61) = true := by simp; omega
    clear h61
    rcases hc with h | h
    all_goals
      first | have e40 : ((s[i].toNat : Int) == 40) = true := by simp; omega
            | have e40 : ((s[i].toNat : Int) == 40) = false := by simp; omega
      first | have e41 : ((s[i].toNat : Int) == 41) = true := by simp; omega
            | have e41 : ((s[i].toNat : Int) == 41) = false := by simp; omega
      first | have e44 : ((s[i].toNat : Int) == 44) = true := by simp; omega
            | have e44 : ((s[i].toNat : Int) == 44) = false := by simp; omega
      first | have e59 : ((s[i].toNat : Int) == 59) = true := by simp; omega
            | have e59 : ((s[i].toNat : Int) == 59) = false := by simp; omega
      first | have e58 : ((s[i].toNat : Int) == 58) = true := by simp; omega
            | have e58 : ((s[i].toNat : Int) == 58) = false := by simp; omega
      first | have e46 : ((s[i].toNat : Int) == 46) = true := by simp; omega
            | have e46 : ((s[i].toNat : Int) == 46) = false := by simp; omega
      first | have e61 : ((s[i].toNat : Int) == 61) = true := by simp; omega
            | have e61 : ((s[i].toNat : Int) == 61) = false := by simp; omega
      first | have e126 : ((s[i].toNat : Int) == 126) = true := by simp; omega
            | have e126 : ((s[i].toNat : Int) == 126) = false := by simp; omega
      first | have e60 : ((s[i].toNat : Int) == 60) = true := by simp; omega
            | have e60 : ((s[i].toNat : Int) == 60) = false := by simp; omega
      first | have e62 : ((s[i].toNat : Int) == 62) = true := by simp; omega
            | have e62 : ((s[i].toNat : Int) == 62) = false := by simp; omega
      clear h
      go_enter Tryz.func173, Tryz.ntmps173
      go_wp2_with fail
      refine bodyPost_ret (ret_tok rfl rfl rfl (Tb.new w 0 0 ⟨#[]⟩)) rfl ?_
      exact ⟨rfl, hS.alloc _, World.grownBy_alloc _ _ _⟩
set_option maxHeartbeats 2000000 in
set_option maxRecDepth 100000 in
theorem sign_bad (s : ByteArray) (b i : Nat) (w : World) (hs : s.size ≤ 140737488351232) (hi : i < s.size) (hS : Sc w b s i) (h : s[i].toNat ≠ 40 ∧ s[i].toNat ≠ 41 ∧ s[i].toNat ≠ 44 ∧ s[i].toNat ≠ 59 ∧ s[i].toNat ≠ 58 ∧ s[i].toNat ≠ 46 ∧ s[i].toNat ≠ 61 ∧ s[i].toNat ≠ 126 ∧ s[i].toNat ≠ 60 ∧ s[i].toNat ≠ 62) :
    Calls Tryz.prog 173 #[.pointer (some ⟨b, 0, none⟩), .int .i64 (i : Int)] w fun e w' => e = .returned (.tuple #[.agg #[.int .i64 0, .int .i64 0, .string ⟨#[]⟩], .int .i64 2]) ∧ Sc w' b s i ∧ w.grownBy w' (some b) := by
  have c0 := hS.c0
  have c1 := hS.c1
  have f1 := hS.f1
  have hb := hS.lt
  have hi0 : (0 : Int) ≤ (i : Int) := by omega
  have hi1 : (i : Int) < (s.size : Int) := by omega
  first | have e40 : ((s[i].toNat : Int) == 40) = true := by simp; omega
        | have e40 : ((s[i].toNat : Int) == 40) = false := by simp; omega
  first | have e41 : ((s[i].toNat : Int) == 41) = true := by simp; omega
        | have e41 : ((s[i].toNat : Int) == 41) = false := by simp; omega
  first | have e44 : ((s[i].toNat : Int) == 44) = true := by simp; omega
        | have e44 : ((s[i].toNat : Int) == 44) = false := by simp; omega
  first | have e59 : ((s[i].toNat : Int) == 59) = true := by simp; omega
        | have e59 : ((s[i].toNat : Int) == 59) = false := by simp; omega
  first | have e58 : ((s[i].toNat : Int) == 58) = true := by simp; omega
        | have e58 : ((s[i].toNat : Int) == 58) = false := by simp; omega
  first | have e46 : ((s[i].toNat : Int) == 46) = true := by simp; omega
        | have e46 : ((s[i].toNat : Int) == 46) = false := by simp; omega
  first | have e61 : ((s[i].toNat : Int) == 61) = true := by simp; omega
        | have e61 : ((s[i].toNat : Int) == 61) = false := by simp; omega
  first | have e126 : ((s[i].toNat : Int) == 126) = true := by simp; omega
        | have e126 : ((s[i].toNat : Int) == 126) = false := by simp; omega
  first | have e60 : ((s[i].toNat : Int) == 60) = true := by simp; omega
        | have e60 : ((s[i].toNat : Int) == 60) = false := by simp; omega
  first | have e62 : ((s[i].toNat : Int) == 62) = true := by simp; omega
        | have e62 : ((s[i].toNat : Int) == 62) = false := by simp; omega
  clear h
  go_enter Tryz.func173, Tryz.ntmps173
  go_wp2_with fail
  refine bodyPost_ret (ret_tok rfl rfl rfl (Tb.new w 0 0 ⟨#[]⟩)) rfl ?_
  exact ⟨rfl, hS.alloc _, World.grownBy_alloc _ _ _⟩
end Go.Proofs.YtbkffdfboloogaaGreatDoor
namespace Go.Proofs.YtbkffdfboloogaaGreatDoor
open Go.RowKit Go.Lib
set_option linter.unusedVariables false

def NextPost (s : ByteArray) (b i : Nat) (w : World) (e : Ending) (w' : World) : Prop :=
  ∃ (tv : Value) (code : Int) (j : Nat), e = .returned (.tuple #[tv, .int .i64 code]) ∧ NextIs s i tv code j ∧ Sc w' b s j ∧ w.grownBy w' (some b)
theorem one_at (s : ByteArray) (i : Nat) (hi : i < s.size) : one (s.data.toList.drop i) = one (s[i] :: s.data.toList.drop (i + 1)) := by rw [drop_at s i hi]
theorem run_ne (p : UInt8 → Bool) (s : ByteArray) (i : Nat) (hi : i < s.size) (hp : p s[i] = true) : (s.data.toList.drop i).takeWhile p ≠ [] := by
  rw [drop_at s i hi, List.takeWhile_cons, if_pos hp]; simp
theorem run_len (p : UInt8 → Bool) (s : ByteArray) (i : Nat) : runTo p s i = i + ((s.data.toList.drop i).takeWhile p).length := rfl
theorem ext_size (s : ByteArray) (i j : Nat) (h : j ≤ s.size) : (s.extract i j).size = j - i := by
  rw [ByteArray.size_extract]; omega
theorem next_small_is (s : ByteArray) (i : Nat) (hi : i < s.size) (hp : small s[i] = true) :
    NextIs s i (.agg #[.int .i64 (rankK ((s.data.toList.drop i).takeWhile small) : Nat), .int .i64 (i : Nat), .string (s.extract i (runTo small s i))]) (rankE ((s.data.toList.drop i).takeWhile small) : Nat) (runTo small s i) := by
  have h1 : one (s.data.toList.drop i) = ranked ((s.data.toList.drop i).takeWhile small) := by
    rw [one_at s i hi, one_cons, if_pos hp, ← drop_at s i hi]
  rw [ranked_eq] at h1
  by_cases h0 : rankE ((s.data.toList.drop i).takeWhile small) = 0
  · rw [if_pos h0] at h1
    exact .inl ⟨_, _, _, h1, by rw [ext_eq], by rw [h0]; rfl, rfl⟩
  · rw [if_neg h0] at h1
    exact .inr ⟨_, h1, rfl, h0, _, _, _, rfl⟩

set_option maxHeartbeats 1000000 in
set_option maxRecDepth 100000 in
theorem next_small (s : ByteArray) (b i : Nat) (w : World) (hW : Wd w) (hb0 : 7 < b) (hs : s.size ≤ 140737488351232) (hi : i < s.size) (hS : Sc w b s i) (hp : small s[i] = true) :
    Calls Tryz.prog 144 #[.pointer (some ⟨b, 0, none⟩)] w (NextPost s b i w) := by
  have c0 := hS.c0
  have c1 := hS.c1
  have hb := hS.lt
  have hi0 : (0 : Int) ≤ (i : Int) := by omega
  have hi1 : (i : Int) < (s.size : Int) := by omega
  have Hp := Lib.hid hp
  have HN := Lib.hid (next_small_is s i hi hp)
  have Hne := Lib.hid (run_ne small s i hi hp)
  have Hex := Lib.hid (ext_run small s i)
  have hge := runTo_ge small s i
  have hle := runTo_le small (Nat.le_of_lt hi)
  have hz := ext_size s i _ hle
  have hz1 : 1 ≤ (s.extract i (runTo small s i)).size := by
    rw [hz, run_len]; have := List.length_pos_iff.2 Hne.out; omega
  have hz2 : (s.extract i (runTo small s i)).size ≤ 140737488351232 := by rw [hz]; omega
  clear hp hz
  go_enter Tryz.func144, Tryz.ntmps144
  go_wp2_with fail
  refine (isSmall_any s[i] _).mono ?_
  rintro e w' ⟨rfl, rfl⟩
  rw [Hp.out]
  go_wp2_with fail
  refine (run_any 169 small (enters_of Tryz.func169 (by kernel_rfl) rfl) isSmall_any s b i _ hs (by omega) (hS.alloc _)).mono ?_
  rintro e w1 ⟨rfl, hS1, hg1⟩
  have hT1 := (Tb.new w 0 0 ⟨#[]⟩).kept hg1 (by simp; omega)
  have hG1 := (World.grownBy_alloc w (.cells #[.int .i64 0, .int .i64 0, .string ⟨#[]⟩] 142) (some b)).trans hg1
  have hW1 := hW.kept hG1 (by simp; omega)
  clear hg1 c0 c1 hS hW
  generalize runTo small s i = r at *
  generalize hx : s.extract i r = x at *
  have HX := Lib.hid hx
  clear hx
  go_wp2_with fail
  refine (ranked_any x _ hW1 hz2 hz1 (fun c hc => tw_all (l := s.data.toList.drop i) (by rw [← Hex.out]; exact hc))).mono ?_
  rintro e w2 ⟨rfl, hb2⟩
  have hS2 := hS1.below hb2 hS1.lt
  have hT2 := hT1.below hb2 hT1.lt
  have hG2 := grownBy_below hG1 hb2
  clear hb2 hS1 hT1 hG1 hW1
  have c0 := hS2.c0
  have c1 := hS2.c1
  have t0 := hT2.c0
  have t1 := hT2.c1
  have t2 := hT2.c2
  have g0 := hT2.f0
  have g1 := hT2.f1
  have g2 := hT2.f2
  go_wp2_with fail
  go_region
  go_wp2_with fail
  refine bodyPost_ret (ret_tok rfl rfl rfl (hT2.drew.set3 _ _ _)) rfl ?_
  have hN := HN.out
  rw [← Hex.out] at hN
  rw [HX.out]
  exact ⟨_, _, _, rfl, hN, hS2.drew.set3 (by omega) _ _ _, grown_new3 (grown_drew hG2) (Nat.le_refl _) _ _ _⟩

theorem next_large_is (s : ByteArray) (i : Nat) (hi : i < s.size) (h1 : small s[i] = false) (h2 : large s[i] = true) :
    (runTo large s i = i + 3 → NextIs s i (.agg #[.int .i64 4, .int .i64 (i : Nat), .string (s.extract i (runTo large s i))]) 0 (runTo large s i)) ∧
    (runTo large s i ≠ i + 3 → NextIs s i (.agg #[.int .i64 0, .int .i64 0, .string ⟨#[]⟩]) 2 (runTo large s i)) := by
  have e : one (s.data.toList.drop i) = if ((s.data.toList.drop i).takeWhile large).length = 3 then .tok 4 ((s.data.toList.drop i).takeWhile large) 3 else .bad 2 := by
    rw [one_at s i hi, one_cons, if_neg (by simp [h1]), if_pos h2, ← drop_at s i hi]
  constructor
  · intro h
    rw [run_len] at h
    rw [if_pos (by omega)] at e
    exact .inl ⟨_, _, _, e, by rw [ext_eq]; rfl, rfl, by rw [run_len]; omega⟩
  · intro h
    rw [run_len] at h
    rw [if_neg (by omega)] at e
    exact .inr ⟨_, e, rfl, by decide, _, _, _, rfl⟩

set_option maxHeartbeats 1000000 in
set_option maxRecDepth 100000 in
theorem next_large (s : ByteArray) (b i : Nat) (w : World) (hs : s.size ≤ 140737488351232) (hi : i < s.size) (hS : Sc w b s i) (hp : small s[i] = false) (hq : large s[i] = true) :
    Calls Tryz.prog 144 #[.pointer (some ⟨b, 0, none⟩)] w (NextPost s b i w) := by
  have c0 := hS.c0
  have c1 := hS.c1
  have hb := hS.lt
  have hi0 : (0 : Int) ≤ (i : Int) := by omega
  have hi1 : (i : Int) < (s.size : Int) := by omega
  have Hp := Lib.hid hp
  have Hq := Lib.hid hq
  have HN := Lib.hid (next_large_is s i hi hp hq)
  have hge := runTo_ge large s i
  have hle := runTo_le large (Nat.le_of_lt hi)
  have Hz := Lib.hid (ext_size s i _ hle)
  clear hp hq
  go_enter Tryz.func144, Tryz.ntmps144
  go_wp2_with fail
  refine (isSmall_any s[i] _).mono ?_
  rintro e w' ⟨rfl, rfl⟩
  rw [Hp.out]
  go_wp2_with fail
  refine (isLarge_any s[i] _).mono ?_
  rintro e w' ⟨rfl, rfl⟩
  rw [Hq.out]
  go_wp2_with fail
  refine (run_any 171 large (enters_of Tryz.func171 (by kernel_rfl) rfl) isLarge_any s b i _ hs (by omega) (hS.alloc _)).mono ?_
  rintro e w1 ⟨rfl, hS1, hg1⟩
  have hT1 := (Tb.new w 0 0 ⟨#[]⟩).kept hg1 (by simp; omega)
  have hG1 := (World.grownBy_alloc w (.cells #[.int .i64 0, .int .i64 0, .string ⟨#[]⟩] 142) (some b)).trans hg1
  clear hg1 c0 c1 hS
  generalize runTo large s i = r at *
  have c0 := hS1.c0
  have c1 := hS1.c1
  have t0 := hT1.c0
  have t1 := hT1.c1
  have t2 := hT1.c2
  have g0 := hT1.f0
  have g1 := hT1.f1
  have g2 := hT1.f2
  by_cases h3 : r = i + 3
  · have d3 : (((s.extract i r).size : Int) != 3) = false := by rw [Hz.out]; simp; omega
    have HN1 := Lib.hid (HN.out.1 h3)
    clear h3
    generalize s.extract i r = x at *
    go_wp2_with fail
    refine bodyPost_ret (ret_tok rfl rfl rfl (hT1.set3 _ _ _)) rfl ?_
    exact ⟨_, _, _, rfl, HN1.out, hS1.set3 (by omega) _ _ _, grown_new3 hG1 (Nat.le_refl _) _ _ _⟩
  · have d3 : (((s.extract i r).size : Int) != 3) = true := by rw [Hz.out]; simp; omega
    have HN1 := Lib.hid (HN.out.2 h3)
    clear h3
    generalize s.extract i r = x at *
    go_wp2_with fail
    refine bodyPost_ret (ret_tok rfl rfl rfl (hT1.set3 _ _ _)) rfl ?_
    exact ⟨_, _, _, rfl, HN1.out, hS1.set3 (by omega) _ _ _, grown_new3 hG1 (Nat.le_refl _) _ _ _⟩

theorem next_quote_is (s : ByteArray) (i : Nat) (hi : i < s.size) (h1 : small s[i] = false) (h2 : large s[i] = false) (h3 : s[i].toNat = 34) :
    (∀ he : runTo quotd s (i + 1) < s.size, s[runTo quotd s (i + 1)].toNat = 34 → NextIs s i (.agg #[.int .i64 3, .int .i64 (i : Nat), .string (s.extract (i + 1) (runTo quotd s (i + 1)))]) 0 (runTo quotd s (i + 1) + 1)) ∧
    (badQ s (runTo quotd s (i + 1)) → NextIs s i (.agg #[.int .i64 0, .int .i64 0, .string ⟨#[]⟩]) 2 (runTo quotd s (i + 1))) := by
  have h34 : (s[i] == 34) = true := by rw [beq_iff_eq, ← UInt8.toNat_inj]; exact h3
  have e : one (s.data.toList.drop i) = if ((s.data.toList.drop (i + 1)).drop ((s.data.toList.drop (i + 1)).takeWhile quotd).length).head? = some 34 then .tok 3 ((s.data.toList.drop (i + 1)).takeWhile quotd) (((s.data.toList.drop (i + 1)).takeWhile quotd).length + 2) else .bad 2 := by
    rw [one_at s i hi, one_cons, if_neg (by simp [h1]), if_neg (by simp [h2]), if_pos h34]
  rw [List.drop_drop, ← run_len] at e
  constructor
  · intro he h
    rw [drop_at s _ he, if_pos (by rw [List.head?_cons, Option.some.injEq, ← UInt8.toNat_inj]; exact h)] at e
    exact .inl ⟨_, _, _, e, by rw [ext_eq]; rfl, rfl, by rw [run_len]; omega⟩
  · intro hbad
    have : ¬ ((s.data.toList.drop (runTo quotd s (i + 1))).head? = some 34) := by
      rcases hbad with h | ⟨h, hn⟩
      · rw [List.drop_eq_nil_of_le (by simpa using h)]; simp
      · rw [drop_at s _ h, List.head?_cons, Option.some.injEq, ← UInt8.toNat_inj]; exact hn
    rw [if_neg this] at e
    exact .inr ⟨_, e, rfl, by decide, _, _, _, rfl⟩
end Go.Proofs.YtbkffdfboloogaaGreatDoor
namespace Go.Proofs.YtbkffdfboloogaaGreatDoor
open Go.RowKit Go.Lib
set_option linter.unusedVariables false

theorem signy_nat (c : UInt8) : signy c = true ↔ (c.toNat = 40 ∨ c.toNat = 41 ∨ c.toNat = 44 ∨ c.toNat = 59 ∨ c.toNat = 58 ∨ c.toNat = 46 ∨ c.toNat = 61 ∨ c.toNat = 126) := by
  simp [signy, ← UInt8.toNat_inj]
theorem two_nat (c : UInt8) : (c == 60 || c == 62) = true ↔ (c.toNat = 60 ∨ c.toNat = 62) := by
  simp [← UInt8.toNat_inj]
theorem next_sign_is (s : ByteArray) (i : Nat) (hi : i < s.size) (h1 : small s[i] = false) (h2 : large s[i] = false) (h3 : s[i].toNat ≠ 34) :
    (signy s[i] = true → NextIs s i (.agg #[.int .i64 5, .int .i64 (i : Nat), .string (s.extract i (i + 1))]) 0 (i + 1)) ∧
    ((s[i].toNat = 60 ∨ s[i].toNat = 62) → ∀ h : i + 1 < s.size, s[i + 1].toNat = 61 → NextIs s i (.agg #[.int .i64 5, .int .i64 (i : Nat), .string (s.extract i (i + 2))]) 0 (i + 2)) ∧
    ((s[i].toNat = 60 ∨ s[i].toNat = 62) → (s.size ≤ i + 1 ∨ ∃ h : i + 1 < s.size, s[i + 1].toNat ≠ 61) → NextIs s i (.agg #[.int .i64 0, .int .i64 0, .string ⟨#[]⟩]) 2 i) ∧
    (signy s[i] = false → ¬ (s[i].toNat = 60 ∨ s[i].toNat = 62) → NextIs s i (.agg #[.int .i64 0, .int .i64 0, .string ⟨#[]⟩]) 2 i) := by
  have h34 : ¬ (s[i] == 34) = true := by rw [beq_iff_eq, ← UInt8.toNat_inj]; exact h3
  have e : one (s.data.toList.drop i) = if signy s[i] then .tok 5 [s[i]] 1 else if (s[i] == 60 || s[i] == 62) ∧ (s.data.toList.drop (i + 1)).head? = some 61 then .tok 5 [s[i], 61] 2 else .bad 2 := by
    rw [one_at s i hi, one_cons, if_neg (by simp [h1]), if_neg (by simp [h2]), if_neg h34]
  have x1 : s.extract i (i + 1) = ⟨[s[i]].toArray⟩ := by
    rw [ba_eq, ByteArray.data_extract, Array.toList_extract, List.extract_eq_take_drop, drop_at s i hi]
    simp
  have hno : (s[i].toNat = 60 ∨ s[i].toNat = 62) → signy s[i] = false := by
    intro h
    cases hs : signy s[i]
    · rfl
    · have := (signy_nat _).1 hs; omega
  refine ⟨fun h => ?_, fun h hl h61 => ?_, fun h hb => ?_, fun h hn => ?_⟩
  · rw [if_pos h] at e
    exact .inl ⟨_, _, _, e, by rw [x1]; rfl, rfl, rfl⟩
  · have hh : (s.data.toList.drop (i + 1)).head? = some 61 := by
      rw [drop_at s _ hl, List.head?_cons, Option.some.injEq, ← UInt8.toNat_inj]; exact h61
    rw [if_neg (by rw [hno h]; simp), if_pos ⟨(two_nat _).2 h, hh⟩] at e
    have x2 : s.extract i (i + 2) = ⟨[s[i], 61].toArray⟩ := by
      have h' : s[i + 1] = 61 := by rw [← UInt8.toNat_inj]; exact h61
      rw [ba_eq, ByteArray.data_extract, Array.toList_extract, List.extract_eq_take_drop, drop_at s i hi, drop_at s _ hl, h']
      have : i + 2 - i = 2 := by omega
      rw [this]
      rfl
    exact .inl ⟨_, _, _, e, by rw [x2]; rfl, rfl, rfl⟩
  · have hh : ¬ (s.data.toList.drop (i + 1)).head? = some 61 := by
      rcases hb with hb | ⟨hl, hb⟩
      · rw [List.drop_eq_nil_of_le (by simpa using hb)]; simp
      · rw [drop_at s _ hl, List.head?_cons, Option.some.injEq, ← UInt8.toNat_inj]; exact hb
    rw [if_neg (by rw [hno h]; simp), if_neg (fun h => hh h.2)] at e
    exact .inr ⟨_, e, rfl, by decide, _, _, _, rfl⟩
  · rw [if_neg (by rw [h]; simp), if_neg (fun h => hn ((two_nat _).1 h.1))] at e
    exact .inr ⟨_, e, rfl, by decide, _, _, _, rfl⟩
set_option maxHeartbeats 1000000 in
set_option maxRecDepth 100000 in
theorem next_quote_yes (s : ByteArray) (b i : Nat) (w : World) (hs : s.size ≤ 140737488351232) (hi : i < s.size) (hS : Sc w b s i) (hp : small s[i] = false) (hq : large s[i] = false) (h3 : s[i].toNat = 34) (he : runTo quotd s (i + 1) < s.size) (h34 : s[runTo quotd s (i + 1)].toNat = 34) :
    Calls Tryz.prog 144 #[.pointer (some ⟨b, 0, none⟩)] w (NextPost s b i w) := by
  have HN := Lib.hid ((next_quote_is s i hi hp hq h3).1 he h34)
  have e3 : ((s[i].toNat : Int) == 34) = true := by simp; omega
  have H34 := Lib.hid h34
  clear h3 h34
  have c0 := hS.c0
  have c1 := hS.c1
  have hb := hS.lt
  have hi0 : (0 : Int) ≤ (i : Int) := by omega
  have hi1 : (i : Int) < (s.size : Int) := by omega
  have Hp := Lib.hid hp
  have Hq := Lib.hid hq
  clear hp hq
  go_enter Tryz.func144, Tryz.ntmps144
  go_wp2_with fail
  refine (isSmall_any s[i] _).mono ?_
  rintro e w' ⟨rfl, rfl⟩
  rw [Hp.out]
  go_wp2_with fail
  refine (isLarge_any s[i] _).mono ?_
  rintro e w' ⟨rfl, rfl⟩
  rw [Hq.out]
  go_wp2_with fail
  refine (quoted_yes s b i _ hs hi (hS.alloc _) he H34.out).mono ?_
  rintro e w1 ⟨rfl, hS1, hg1⟩
  have hT1 := (Tb.new w 0 0 ⟨#[]⟩).kept hg1 (by simp; omega)
  have hG1 := (World.grownBy_alloc w (.cells #[.int .i64 0, .int .i64 0, .string ⟨#[]⟩] 142) (some b)).trans hg1
  clear hg1 c0 c1 hS
  have t0 := hT1.c0
  have t1 := hT1.c1
  have t2 := hT1.c2
  have g0 := hT1.f0
  have g1 := hT1.f1
  have g2 := hT1.f2
  go_wp2_with fail
  refine bodyPost_ret (ret_tok rfl rfl rfl (hT1.set3 _ _ _)) rfl ?_
  exact ⟨_, _, _, rfl, HN.out, hS1.set3 (by omega) _ _ _, grown_new3 hG1 (Nat.le_refl _) _ _ _⟩
set_option maxHeartbeats 1000000 in
set_option maxRecDepth 100000 in
theorem next_quote_no (s : ByteArray) (b i : Nat) (w : World) (hs : s.size ≤ 140737488351232) (hi : i < s.size) (hS : Sc w b s i) (hp : small s[i] = false) (hq : large s[i] = false) (h3 : s[i].toNat = 34) (hbad : badQ s (runTo quotd s (i + 1))) :
    Calls Tryz.prog 144 #[.pointer (some ⟨b, 0, none⟩)] w (NextPost s b i w) := by
  have HN := Lib.hid ((next_quote_is s i hi hp hq h3).2 hbad)
  have e3 : ((s[i].toNat : Int) == 34) = true := by simp; omega
  clear h3
  have c0 := hS.c0
  have c1 := hS.c1
  have hb := hS.lt
  have hi0 : (0 : Int) ≤ (i : Int) := by omega
  have hi1 : (i : Int) < (s.size : Int) := by omega
  have Hp := Lib.hid hp
  have Hq := Lib.hid hq
  clear hp hq
  go_enter Tryz.func144, Tryz.ntmps144
  go_wp2_with fail
  refine (isSmall_any s[i] _).mono ?_
  rintro e w' ⟨rfl, rfl⟩
  rw [Hp.out]
  go_wp2_with fail
  refine (isLarge_any s[i] _).mono ?_
  rintro e w' ⟨rfl, rfl⟩
  rw [Hq.out]
  go_wp2_with fail
  refine (quoted_no s b i _ hs hi (hS.alloc _) hbad).mono ?_
  rintro e w1 ⟨rfl, hS1, hg1⟩
  have hT1 := (Tb.new w 0 0 ⟨#[]⟩).kept hg1 (by simp; omega)
  have hG1 := (World.grownBy_alloc w (.cells #[.int .i64 0, .int .i64 0, .string ⟨#[]⟩] 142) (some b)).trans hg1
  clear hg1 c0 c1 hS
  have t0 := hT1.c0
  have t1 := hT1.c1
  have t2 := hT1.c2
  have g0 := hT1.f0
  have g1 := hT1.f1
  have g2 := hT1.f2
  go_wp2_with fail
  refine bodyPost_ret (ret_tok rfl rfl rfl (hT1.set3 _ _ _)) rfl ?_
  exact ⟨_, _, _, rfl, HN.out, hS1.set3 (by omega) _ _ _, grown_new3 hG1 (Nat.le_refl _) _ _ _⟩
set_option maxHeartbeats 1000000 in
set_option maxRecDepth 100000 in
theorem next_sign_one (s : ByteArray) (b i : Nat) (w : World) (hs : s.size ≤ 140737488351232) (hi : i < s.size) (hS : Sc w b s i) (hp : small s[i] = false) (hq : large s[i] = false) (h3 : s[i].toNat ≠ 34) (h4 : signy s[i] = true) :
    Calls Tryz.prog 144 #[.pointer (some ⟨b, 0, none⟩)] w (NextPost s b i w) := by
  have HN := Lib.hid ((next_sign_is s i hi hp hq h3).1 h4)
  have e3 : ((s[i].toNat : Int) == 34) = false := by simp; omega
  have Hh4 := Lib.hid h4
  clear h4
  have c0 := hS.c0
  have c1 := hS.c1
  have hb := hS.lt
  have hi0 : (0 : Int) ≤ (i : Int) := by omega
  have hi1 : (i : Int) < (s.size : Int) := by omega
  have Hp := Lib.hid hp
  have Hq := Lib.hid hq
  clear hp hq
  go_enter Tryz.func144, Tryz.ntmps144
  go_wp2_with fail
  refine (isSmall_any s[i] _).mono ?_
  rintro e w' ⟨rfl, rfl⟩
  rw [Hp.out]
  go_wp2_with fail
  refine (isLarge_any s[i] _).mono ?_
  rintro e w' ⟨rfl, rfl⟩
  rw [Hq.out]
  go_wp2_with fail
  refine (sign_one s b i _ hs hi (hS.alloc _) ((signy_nat _).1 Hh4.out)).mono ?_
  rintro e w1 ⟨rfl, hS1, hg1⟩
  have hT1 := (Tb.new w 0 0 ⟨#[]⟩).kept hg1 (by simp; omega)
  have hG1 := (World.grownBy_alloc w (.cells #[.int .i64 0, .int .i64 0, .string ⟨#[]⟩] 142) (some b)).trans hg1
  clear hg1 c0 c1 hS
  have t0 := hT1.c0
  have t1 := hT1.c1
  have t2 := hT1.c2
  have g0 := hT1.f0
  have g1 := hT1.f1
  have g2 := hT1.f2
  go_wp2_with fail
  refine bodyPost_ret (ret_tok rfl rfl rfl (hT1.set3 _ _ _)) rfl ?_
  exact ⟨_, _, _, rfl, HN.out, hS1.set3 (by omega) _ _ _, grown_new3 hG1 (Nat.le_refl _) _ _ _⟩
set_option maxHeartbeats 1000000 in
set_option maxRecDepth 100000 in
theorem next_sign_two (s : ByteArray) (b i : Nat) (w : World) (hs : s.size ≤ 140737488351232) (hi : i < s.size) (hS : Sc w b s i) (hp : small s[i] = false) (hq : large s[i] = false) (h3 : s[i].toNat ≠ 34) (h4 : s[i].toNat = 60 ∨ s[i].toNat = 62) (h5 : i + 1 < s.size) (h6 : s[i + 1].toNat = 61) :
    Calls Tryz.prog 144 #[.pointer (some ⟨b, 0, none⟩)] w (NextPost s b i w) := by
  have HN := Lib.hid ((next_sign_is s i hi hp hq h3).2.1 h4 h5 h6)
  have e3 : ((s[i].toNat : Int) == 34) = false := by simp; omega
  have Hh4 := Lib.hid h4
  have Hh5 := Lib.hid h5
  have Hh6 := Lib.hid h6
  clear h6 h4
  have c0 := hS.c0
  have c1 := hS.c1
  have hb := hS.lt
  have hi0 : (0 : Int) ≤ (i : Int) := by omega
  have hi1 : (i : Int) < (s.size : Int) := by omega
  have Hp := Lib.hid hp
  have Hq := Lib.hid hq
  clear hp hq
  go_enter Tryz.func144, Tryz.ntmps144
  go_wp2_with fail
  refine (isSmall_any s[i] _).mono ?_
  rintro e w' ⟨rfl, rfl⟩
  rw [Hp.out]
  go_wp2_with fail
  refine (isLarge_any s[i] _).mono ?_
  rintro e w' ⟨rfl, rfl⟩
  rw [Hq.out]
  go_wp2_with fail
  refine (sign_two s b i _ hs hi (hS.alloc _) Hh4.out Hh5.out Hh6.out).mono ?_
  rintro e w1 ⟨rfl, hS1, hg1⟩
  have hT1 := (Tb.new w 0 0 ⟨#[]⟩).kept hg1 (by simp; omega)
  have hG1 := (World.grownBy_alloc w (.cells #[.int .i64 0, .int .i64 0, .string ⟨#[]⟩] 142) (some b)).trans hg1
  clear hg1 c0 c1 hS
  have t0 := hT1.c0
  have t1 := hT1.c1
  have t2 := hT1.c2
  have g0 := hT1.f0
  have g1 := hT1.f1
  have g2 := hT1.f2
  go_wp2_with fail
  refine bodyPost_ret (ret_tok rfl rfl rfl (hT1.set3 _ _ _)) rfl ?_
  exact ⟨_, _, _, rfl, HN.out, hS1.set3 (by omega) _ _ _, grown_new3 hG1 (Nat.le_refl _) _ _ _⟩
set_option maxHeartbeats 1000000 in
set_option maxRecDepth 100000 in
theorem next_sign_half (s : ByteArray) (b i : Nat) (w : World) (hs : s.size ≤ 140737488351232) (hi : i < s.size) (hS : Sc w b s i) (hp : small s[i] = false) (hq : large s[i] = false) (h3 : s[i].toNat ≠ 34) (h4 : s[i].toNat = 60 ∨ s[i].toNat = 62) (h5 : s.size ≤ i + 1 ∨ ∃ h : i + 1 < s.size, s[i + 1].toNat ≠ 61) :
    Calls Tryz.prog 144 #[.pointer (some ⟨b, 0, none⟩)] w (NextPost s b i w) := by
  have HN := Lib.hid ((next_sign_is s i hi hp hq h3).2.2.1 h4 h5)
  have e3 : ((s[i].toNat : Int) == 34) = false := by simp; omega
  have Hh4 := Lib.hid h4
  have Hh5 := Lib.hid h5
  clear h5 h4
  have c0 := hS.c0
  have c1 := hS.c1
  have hb := hS.lt
  have hi0 : (0 : Int) ≤ (i : Int) := by omega
  have hi1 : (i : Int) < (s.size : Int) := by omega
  have Hp := Lib.hid hp
  have Hq := Lib.hid hq
  clear hp hq
  go_enter Tryz.func144, Tryz.ntmps144
  go_wp2_with fail
  refine (isSmall_any s[i] _).mono ?_
  rintro e w' ⟨rfl, rfl⟩
  rw [Hp.out]
  go_wp2_with fail
  refine (isLarge_any s[i] _).mono ?_
  rintro e w' ⟨rfl, rfl⟩
  rw [Hq.out]
  go_wp2_with fail
  refine (sign_half s b i _ hs hi (hS.alloc _) Hh4.out Hh5.out).mono ?_
  rintro e w1 ⟨rfl, hS1, hg1⟩
  have hT1 := (Tb.new w 0 0 ⟨#[]⟩).kept hg1 (by simp; omega)
  have hG1 := (World.grownBy_alloc w (.cells #[.int .i64 0, .int .i64 0, .string ⟨#[]⟩] 142) (some b)).trans hg1
  clear hg1 c0 c1 hS
  have t0 := hT1.c0
  have t1 := hT1.c1
  have t2 := hT1.c2
  have g0 := hT1.f0
  have g1 := hT1.f1
  have g2 := hT1.f2
  go_wp2_with fail
  refine bodyPost_ret (ret_tok rfl rfl rfl (hT1.set3 _ _ _)) rfl ?_
  exact ⟨_, _, _, rfl, HN.out, hS1.set3 (by omega) _ _ _, grown_new3 hG1 (Nat.le_refl _) _ _ _⟩
set_option maxHeartbeats 1000000 in
set_option maxRecDepth 100000 in
theorem next_sign_bad (s : ByteArray) (b i : Nat) (w : World) (hs : s.size ≤ 140737488351232) (hi : i < s.size) (hS : Sc w b s i) (hp : small s[i] = false) (hq : large s[i] = false) (h3 : s[i].toNat ≠ 34) (h4 : signy s[i] = false) (h5 : ¬ (s[i].toNat = 60 ∨ s[i].toNat = 62)) :
    Calls Tryz.prog 144 #[.pointer (some ⟨b, 0, none⟩)] w (NextPost s b i w) := by
  have HN := Lib.hid ((next_sign_is s i hi hp hq h3).2.2.2 h4 h5)
  have e3 : ((s[i].toNat : Int) == 34) = false := by simp; omega
  have HB := Lib.hid (show s[i].toNat ≠ 40 ∧ s[i].toNat ≠ 41 ∧ s[i].toNat ≠ 44 ∧ s[i].toNat ≠ 59 ∧ s[i].toNat ≠ 58 ∧ s[i].toNat ≠ 46 ∧ s[i].toNat ≠ 61 ∧ s[i].toNat ≠ 126 ∧ s[i].toNat ≠ 60 ∧ s[i].toNat ≠ 62 by
    have : ¬ signy s[i] = true := by simp [h4]
    rw [signy_nat] at this
    omega)
  have Hh4 := Lib.hid h4
  have Hh5 := Lib.hid h5
  clear h5 h4
  have c0 := hS.c0
  have c1 := hS.c1
  have hb := hS.lt
  have hi0 : (0 : Int) ≤ (i : Int) := by omega
  have hi1 : (i : Int) < (s.size : Int) := by omega
  have Hp := Lib.hid hp
  have Hq := Lib.hid hq
  clear hp hq
  go_enter Tryz.func144, Tryz.ntmps144
  go_wp2_with fail
  refine (isSmall_any s[i] _).mono ?_
  rintro e w' ⟨rfl, rfl⟩
  rw [Hp.out]
  go_wp2_with fail
  refine (isLarge_any s[i] _).mono ?_
  rintro e w' ⟨rfl, rfl⟩
  rw [Hq.out]
  go_wp2_with fail
  refine (sign_bad s b i _ hs hi (hS.alloc _) HB.out).mono ?_
  rintro e w1 ⟨rfl, hS1, hg1⟩
  have hT1 := (Tb.new w 0 0 ⟨#[]⟩).kept hg1 (by simp; omega)
  have hG1 := (World.grownBy_alloc w (.cells #[.int .i64 0, .int .i64 0, .string ⟨#[]⟩] 142) (some b)).trans hg1
  clear hg1 c0 c1 hS
  have t0 := hT1.c0
  have t1 := hT1.c1
  have t2 := hT1.c2
  have g0 := hT1.f0
  have g1 := hT1.f1
  have g2 := hT1.f2
  go_wp2_with fail
  refine bodyPost_ret (ret_tok rfl rfl rfl (hT1.set3 _ _ _)) rfl ?_
  exact ⟨_, _, _, rfl, HN.out, hS1.set3 (by omega) _ _ _, grown_new3 hG1 (Nat.le_refl _) _ _ _⟩

theorem next_any (s : ByteArray) (b i : Nat) (w : World) (hW : Wd w) (hb0 : 7 < b) (hs : s.size ≤ 140737488351232) (hi : i < s.size) (hS : Sc w b s i) :
    Calls Tryz.prog 144 #[.pointer (some ⟨b, 0, none⟩)] w (NextPost s b i w) := by
  cases hp : small s[i]
  · cases hq : large s[i]
    · by_cases h3 : s[i].toNat = 34
      · by_cases he : ∃ he : runTo quotd s (i + 1) < s.size, s[runTo quotd s (i + 1)].toNat = 34
        · obtain ⟨he, h34⟩ := he
          exact next_quote_yes s b i w hs hi hS hp hq h3 he h34
        · refine next_quote_no s b i w hs hi hS hp hq h3 ?_
          by_cases hl : runTo quotd s (i + 1) < s.size
          · exact .inr ⟨hl, fun h => he ⟨hl, h⟩⟩
          · exact .inl (by omega)
      · cases h4 : signy s[i]
        · by_cases h5 : s[i].toNat = 60 ∨ s[i].toNat = 62
          · by_cases h6 : ∃ h : i + 1 < s.size, s[i + 1].toNat = 61
            · obtain ⟨h6, h7⟩ := h6
              exact next_sign_two s b i w hs hi hS hp hq h3 h5 h6 h7
            · refine next_sign_half s b i w hs hi hS hp hq h3 h5 ?_
              by_cases hl : i + 1 < s.size
              · exact .inr ⟨hl, fun h => h6 ⟨hl, h⟩⟩
              · exact .inl (by omega)
          · exact next_sign_bad s b i w hs hi hS hp hq h3 h4 h5
        · exact next_sign_one s b i w hs hi hS hp hq h3 h4
    · exact next_large s b i w hs hi hS hp hq
  · exact next_small s b i w hW hb0 hs hi hS hp
end Go.Proofs.YtbkffdfboloogaaGreatDoor
