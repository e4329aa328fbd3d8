/- The small functions on bytes. The scanner goes along a text: run. The reserved words: the package's own table; a number's digits. -/
import Derived.Test.YtbkffdfboloogaaGreatDoorMA
import Derived.Test.YtbkffdfboloogaaGreatDoorRows
import Derived.WalkKit
import Derived.WalkSpells
import Derived.WalkLawsBesides
import Derived.Lib.Hide
import Derived.Deep.QuietTactic
import Derived.BigQuiet
import Derived.Deep.LoopGhost
import Derived.Lib.BufferOwn
import Derived.Maps.AppendAt
import Derived.Outline
import Derived.Shelf.Abstract
import Derived.Lib.LaidTab
import Derived.Laws.Rows
namespace Go.Proofs.YtbkffdfboloogaaGreatDoor
open Go.RowKit
set_option linter.unusedVariables false

theorem u8le (a b : UInt8) : (a ≤ b) ↔ a.toNat ≤ b.toNat := UInt8.le_iff_toNat_le
theorem blank_nat (c : UInt8) : blank c = (decide (c.toNat = 32) || decide (c.toNat = 10)) := by
  rw [Bool.eq_iff_iff]; simp [blank, ← UInt8.toNat_inj]
theorem digit_nat (c : UInt8) : digit c = (decide (48 ≤ c.toNat) && decide (c.toNat ≤ 57)) := by
  rw [Bool.eq_iff_iff]; simp [digit, u8le]
theorem large_nat (c : UInt8) : large c = (decide (65 ≤ c.toNat) && decide (c.toNat ≤ 90)) := by
  rw [Bool.eq_iff_iff]; simp [large, u8le]
theorem small_nat (c : UInt8) : small c = ((decide (97 ≤ c.toNat) && decide (c.toNat ≤ 122)) || (decide (48 ≤ c.toNat) && decide (c.toNat ≤ 57)) || decide (c.toNat = 45)) := by
  rw [Bool.eq_iff_iff]; simp [small, digit_nat, u8le, ← UInt8.toNat_inj]
theorem quotd_nat (c : UInt8) : quotd c = (decide (c.toNat ≠ 34) && decide (32 ≤ c.toNat) && decide (c.toNat ≤ 126)) := by
  rw [Bool.eq_iff_iff]; simp [quotd, u8le, ← UInt8.toNat_inj]
set_option maxHeartbeats 800000 in
theorem isBlank_any (c : UInt8) (w : World) : Calls Tryz.prog 143 #[.int .u8 (c.toNat : Int)] w fun e w' => e = .returned (.bool (blank c)) ∧ w = w' := by
  rw [blank_nat]
  have hn := UInt8.toNat_lt c
  generalize c.toNat = n at *
  rcases (show n < 10 ∨ n = 10 ∨ (10 < n ∧ n < 32) ∨ n = 32 ∨ 32 < n by omega) with h | h | h | h | h
  all_goals
    first | have d0 : ((n : Int) == 32) = true := by simp; omega
          | have d0 : ((n : Int) == 32) = false := by simp; omega
    first | have d1 : ((n : Int) == 10) = true := by simp; omega
          | have d1 : ((n : Int) == 10) = false := by simp; omega
    go_enter Tryz.func143, Tryz.ntmps143
    go_wp2
    go_ret
    exact ⟨by simp; omega, rfl⟩
set_option maxHeartbeats 800000 in
theorem isDigit_any (c : UInt8) (w : World) : Calls Tryz.prog 184 #[.int .u8 (c.toNat : Int)] w fun e w' => e = .returned (.bool (digit c)) ∧ w = w' := by
  rw [digit_nat]
  have hn := UInt8.toNat_lt c
  generalize c.toNat = n at *
  rcases (show n < 48 ∨ n = 48 ∨ (48 < n ∧ n < 57) ∨ n = 57 ∨ 57 < n by omega) with h | h | h | h | h
  all_goals
    first | have d0 : (decide (48 ≤ (n : Int))) = true := by simp; omega
          | have d0 : (decide (48 ≤ (n : Int))) = false := by simp; omega
    first | have d1 : (decide ((n : Int) ≤ 57)) = true := by simp; omega
          | have d1 : (decide ((n : Int) ≤ 57)) = false := by simp; omega
    go_enter Tryz.func184, Tryz.ntmps184
    go_wp2
    go_ret
    exact ⟨by simp; omega, rfl⟩
set_option maxHeartbeats 800000 in
theorem isLarge_any (c : UInt8) (w : World) : Calls Tryz.prog 171 #[.int .u8 (c.toNat : Int)] w fun e w' => e = .returned (.bool (large c)) ∧ w = w' := by
  rw [large_nat]
  have hn := UInt8.toNat_lt c
  generalize c.toNat = n at *
  rcases (show n < 65 ∨ n = 65 ∨ (65 < n ∧ n < 90) ∨ n = 90 ∨ 90 < n by omega) with h | h | h | h | h
  all_goals
    first | have d0 : (decide (65 ≤ (n : Int))) = true := by simp; omega
          | have d0 : (decide (65 ≤ (n : Int))) = false := by simp; omega
    first | have d1 : (decide ((n : Int) ≤ 90)) = true := by simp; omega
          | have d1 : (decide ((n : Int) ≤ 90)) = false := by simp; omega
    go_enter Tryz.func171, Tryz.ntmps171
    go_wp2
    go_ret
    exact ⟨by simp; omega, rfl⟩
set_option maxHeartbeats 800000 in
theorem isSmall_any (c : UInt8) (w : World) : Calls Tryz.prog 169 #[.int .u8 (c.toNat : Int)] w fun e w' => e = .returned (.bool (small c)) ∧ w = w' := by
  rw [small_nat]
  have hn := UInt8.toNat_lt c
  generalize c.toNat = n at *
  rcases (show n < 45 ∨ n = 45 ∨ (45 < n ∧ n < 48) ∨ n = 48 ∨ (48 < n ∧ n < 57) ∨ n = 57 ∨ (57 < n ∧ n < 97) ∨ n = 97 ∨ (97 < n ∧ n < 122) ∨ n = 122 ∨ 122 < n by omega) with h | h | h | h | h | h | h | h | h | h | h
  all_goals
    first | have d0 : (decide (48 ≤ (n : Int))) = true := by simp; omega
          | have d0 : (decide (48 ≤ (n : Int))) = false := by simp; omega
    first | have d1 : (decide ((n : Int) ≤ 57)) = true := by simp; omega
          | have d1 : (decide ((n : Int) ≤ 57)) = false := by simp; omega
    first | have d2 : (decide (97 ≤ (n : Int))) = true := by simp; omega
          | have d2 : (decide (97 ≤ (n : Int))) = false := by simp; omega
    first | have d3 : (decide ((n : Int) ≤ 122)) = true := by simp; omega
          | have d3 : (decide ((n : Int) ≤ 122)) = false := by simp; omega
    first | have d4 : ((n : Int) == 45) = true := by simp; omega
          | have d4 : ((n : Int) == 45) = false := by simp; omega
    go_enter Tryz.func169, Tryz.ntmps169
    go_wp2
    go_ret
    exact ⟨by simp; omega, rfl⟩
set_option maxHeartbeats 800000 in
theorem isQuot_any (c : UInt8) (w : World) : Calls Tryz.prog 189 #[.int .u8 (c.toNat : Int)] w fun e w' => e = .returned (.bool (quotd c)) ∧ w = w' := by
  rw [quotd_nat]
  have hn := UInt8.toNat_lt c
  generalize c.toNat = n at *
  rcases (show n < 32 ∨ n = 32 ∨ (32 < n ∧ n < 34) ∨ n = 34 ∨ (34 < n ∧ n < 126) ∨ n = 126 ∨ 126 < n by omega) with h | h | h | h | h | h | h
  all_goals
    first | have d0 : ((n : Int) != 34) = true := by simp; omega
          | have d0 : ((n : Int) != 34) = false := by simp; omega
    first | have d1 : (decide (32 ≤ (n : Int))) = true := by simp; omega
          | have d1 : (decide (32 ≤ (n : Int))) = false := by simp; omega
    first | have d2 : (decide ((n : Int) ≤ 126)) = true := by simp; omega
          | have d2 : (decide ((n : Int) ≤ 126)) = false := by simp; omega
    go_enter Tryz.func189, Tryz.ntmps189
    go_wp2
    go_ret
    exact ⟨by simp; omega, rfl⟩
set_option maxHeartbeats 800000 in
theorem refRun_any (c : UInt8) (w : World) : Calls Tryz.prog 161 #[.int .u8 (c.toNat : Int)] w fun e w' => e = .returned (.bool (small c)) ∧ w = w' := by
  rw [small_nat]
  have hn := UInt8.toNat_lt c
  generalize c.toNat = n at *
  rcases (show n < 45 ∨ n = 45 ∨ (45 < n ∧ n < 48) ∨ n = 48 ∨ (48 < n ∧ n < 57) ∨ n = 57 ∨ (57 < n ∧ n < 97) ∨ n = 97 ∨ (97 < n ∧ n < 122) ∨ n = 122 ∨ 122 < n by omega) with h | h | h | h | h | h | h | h | h | h | h
  all_goals
    first | have d0 : (decide (48 ≤ (n : Int))) = true := by simp; omega
          | have d0 : (decide (48 ≤ (n : Int))) = false := by simp; omega
    first | have d1 : (decide ((n : Int) ≤ 57)) = true := by simp; omega
          | have d1 : (decide ((n : Int) ≤ 57)) = false := by simp; omega
    first | have d2 : (decide (97 ≤ (n : Int))) = true := by simp; omega
          | have d2 : (decide (97 ≤ (n : Int))) = false := by simp; omega
    first | have d3 : (decide ((n : Int) ≤ 122)) = true := by simp; omega
          | have d3 : (decide ((n : Int) ≤ 122)) = false := by simp; omega
    first | have d4 : ((n : Int) == 45) = true := by simp; omega
          | have d4 : ((n : Int) == 45) = false := by simp; omega
    go_enter Tryz.func161, Tryz.ntmps161
    go_wp2
    go_ret
    exact ⟨by simp; omega, rfl⟩
set_option maxHeartbeats 800000 in
theorem refDigit_any (c : UInt8) (w : World) : Calls Tryz.prog 135 #[.int .u8 (c.toNat : Int)] w fun e w' => e = .returned (.bool (digit c)) ∧ w = w' := by
  rw [digit_nat]
  have hn := UInt8.toNat_lt c
  generalize c.toNat = n at *
  rcases (show n < 48 ∨ n = 48 ∨ (48 < n ∧ n < 57) ∨ n = 57 ∨ 57 < n by omega) with h | h | h | h | h
  all_goals
    first | have d0 : (decide (48 ≤ (n : Int))) = true := by simp; omega
          | have d0 : (decide (48 ≤ (n : Int))) = false := by simp; omega
    first | have d1 : (decide ((n : Int) ≤ 57)) = true := by simp; omega
          | have d1 : (decide ((n : Int) ≤ 57)) = false := by simp; omega
    go_enter Tryz.func135, Tryz.ntmps135
    go_wp2
    go_ret
    exact ⟨by simp; omega, rfl⟩
end Go.Proofs.YtbkffdfboloogaaGreatDoor
namespace Go.Proofs.YtbkffdfboloogaaGreatDoor
open Go.RowKit Go.Lib
set_option linter.unusedVariables false

theorem quiet_same {P : Program} {f : FuncId} {args : Array Value} {w : World} {n : Nat} {v : Value}
    (h : Calls P f args (w.drewN n) fun e w' => e = .returned v ∧ w.drewN n = w') : Calls P f args (w.drewN n) fun e w'' => e = .returned v ∧ ∃ m, w'' = w.drewN m :=
  h.mono fun _ _ ⟨he, hm⟩ => ⟨he, n, hm.symm⟩
/-- where a run that begins at a place ends -/
def runTo (p : UInt8 → Bool) (s : ByteArray) (i : Nat) : Nat := i + ((s.data.toList.drop i).takeWhile p).length
theorem drop_at (s : ByteArray) (k : Nat) (h : k < s.size) : s.data.toList.drop k = s[k] :: s.data.toList.drop (k + 1) := by
  rw [List.drop_eq_getElem_cons (by simpa using h)]; rfl
theorem runTo_step {p : UInt8 → Bool} {s : ByteArray} {k : Nat} (h : k < s.size) (hp : p s[k] = true) : runTo p s (k + 1) = runTo p s k := by
  unfold runTo
  rw [drop_at s k h, List.takeWhile_cons, if_pos hp, List.length_cons]
  omega
theorem runTo_stop {p : UInt8 → Bool} {s : ByteArray} {k : Nat} (h : k < s.size) (hp : p s[k] = false) : runTo p s k = k := by
  unfold runTo
  rw [drop_at s k h, List.takeWhile_cons, hp]
  simp
theorem runTo_end {p : UInt8 → Bool} {s : ByteArray} {k : Nat} (h : s.size ≤ k) : runTo p s k = k := by
  unfold runTo
  rw [List.drop_eq_nil_of_le (by simpa using h)]
  simp
theorem runTo_ge (p : UInt8 → Bool) (s : ByteArray) (i : Nat) : i ≤ runTo p s i := by unfold runTo; omega
theorem runTo_le (p : UInt8 → Bool) {s : ByteArray} {i : Nat} (h : i ≤ s.size) : runTo p s i ≤ s.size := by
  unfold runTo
  have := tw_len p (s.data.toList.drop i)
  simp at this
  omega

/-- block b is a scanner of the text s, at the place i -/
structure Sc (w : World) (b : Nat) (s : ByteArray) (i : Nat) : Prop where
  blk : w.heap[b]? = some (.cells #[.string s, .int .i64 (i : Int)] 176 (0, 0))
section
variable {w w' : World} {b i : Nat} {s : ByteArray}
theorem Sc.lt (h : Sc w b s i) : b < w.heap.size := (Array.getElem?_eq_some_iff.1 h.blk).1
theorem Sc.c0 (h : Sc w b s i) : w.cell? ⟨b, 0, none⟩ = some (.string s) := by simp [World.cell?, h.blk]
theorem Sc.c1 (h : Sc w b s i) : w.cell? ⟨b, 1, none⟩ = some (.int .i64 (i : Int)) := by simp [World.cell?, h.blk]
theorem Sc.f1 (h : Sc w b s i) : w.frozen? ⟨b, 1, none⟩ = false := by simp [World.frozen?, h.blk]
theorem Sc.drewN (h : Sc w b s i) (n : Nat) : Sc (w.drewN n) b s i := ⟨h.blk⟩
theorem Sc.drew (h : Sc w b s i) : Sc w.drew b s i := ⟨h.blk⟩
theorem Sc.alloc (h : Sc w b s i) (o : Obj) : Sc (w.alloc o) b s i := ⟨by
  have := h.lt
  show (w.heap.push o)[b]? = _
  rw [Array.getElem?_push_lt this, ← Array.getElem?_eq_getElem this]
  exact h.blk⟩
theorem Sc.set (h : Sc w b s i) (j : Nat) : Sc (w.setCell ⟨b, 1, none⟩ (.int .i64 (j : Int))) b s j := ⟨by
  have hlt := h.lt
  have h' : w.heap[b] = .cells #[.string s, .int .i64 (i : Int)] 176 (0, 0) := by have := h.blk; simpa [Array.getElem?_eq_getElem hlt] using this
  show (w.heap.modify b _)[b]? = _
  rw [Array.getElem?_eq_getElem (by simpa using hlt), Array.getElem_modify_self, h']
  rfl⟩
theorem Sc.setv (h : Sc w b s i) (v : Int) (j : Nat) (hv : v = (j : Int)) : Sc (w.setCell ⟨b, 1, none⟩ (.int .i64 v)) b s j := by subst hv; exact h.set j
theorem Sc.kept (h : Sc w b s i) {row : Option Nat} (hg : w.grownBy w' row) (hr : some b ≠ row) : Sc w' b s i := ⟨(hg.block b h.lt hr).trans h.blk⟩
theorem Sc.below (h : Sc w b s i) {B : Nat} (hb : Below B w w') (hB : b < B) : Sc w' b s i := ⟨(hb.block b hB).trans h.blk⟩
end
theorem grown_drewN {a w : World} {row : Option Nat} (h : a.grownBy w row) (n : Nat) : a.grownBy (w.drewN n) row := ⟨h.os, h.tape, h.output, h.size, h.block⟩
theorem grown_set {a w : World} {b : Nat} (h : a.grownBy w (some b)) (i : Nat) (v : Value) : a.grownBy (w.setCell ⟨b, i, none⟩ v) (some b) := grownBy_setB h i v

set_option maxHeartbeats 1000000 in
set_option maxRecDepth 100000 in
theorem run_any (g : Nat) (p : UInt8 → Bool) (eg : ∀ args w, (callFunc g args).run Tryz.prog w = .ok (.enter g args) w) (hg : ∀ (c : UInt8) (w : World), Calls Tryz.prog g #[.int .u8 (c.toNat : Int)] w fun e w' => e = .returned (.bool (p c)) ∧ w = w')
    (s : ByteArray) (b i : Nat) (w : World) (hs : s.size ≤ 140737488351232) (hi : i ≤ s.size) (hS : Sc w b s i) :
    Calls Tryz.prog 142 #[.pointer (some ⟨b, 0, none⟩), .func (.func g) #[] #[]] w fun e w' => e = .returned (.string (s.extract i (runTo p s i))) ∧ Sc w' b s (runTo p s i) ∧ w.grownBy w' (some b) := by
  have c1 := hS.c1
  have Hg := Lib.hid hg
  have hlo := runTo_ge p s i
  have hhi := runTo_le p hi
  clear hg
  go_enter Tryz.func142, Tryz.ntmps142
  go_wp2_with fail
  go_loopg [] (s.size - i) (fun n wr => ∃ k, n = s.size - k ∧ i ≤ k ∧ k ≤ s.size ∧ Sc wr b s k ∧ Hid (runTo p s k = runTo p s i) ∧ w.grownBy wr (some b))
  case atStart => exact ⟨i, rfl, Nat.le_refl _, hi, hS, Lib.hid rfl, World.grownBy.refl _ _⟩
  case round =>
    clear c1 hS
    obtain ⟨k, rfl, hik, hk, hS, HR, hG⟩ := hrel
    have c0 := hS.c0
    have c1 := hS.c1
    have f1 := hS.f1
    by_cases hlt : k < s.size
    · have hk0 : (0 : Int) ≤ (k : Int) := by omega
      have hk1 : (k : Int) < (s.size : Int) := by omega
      cases hp : p s[k]
      · have HX := fun W => Hg.out s[k] W
        have HE := Lib.hid (runTo_stop hlt hp)
        rw [hp] at HX
        have Hc := Lib.hid HX
        clear hp HX
        go_wp2_with fail
        go_quiet ((go_at_fn g; exact quiet_same (Hc.out _)))
        have hS2 := hS.drewN nq
        have hG2 := grown_drewN hG nq
        clear c0 c1 f1 hS hG
        generalize wr.drewN nq = w2 at *
        have c0 := hS2.c0
        have c1 := hS2.c1
        go_wp2_with fail
        go_quiet (fail)
        go_wp2_with fail
        go_ret
        have e : runTo p s i = k := HR.out.symm.trans HE.out
        exact ⟨by rw [e]; rfl, by rw [e]; exact hS2.drewN _, grown_drewN hG2 _⟩
      · have HX := fun W => Hg.out s[k] W
        have HE := Lib.hid (runTo_step hlt hp)
        rw [hp] at HX
        have Hc := Lib.hid HX
        clear hp HX
        go_wp2_with fail
        go_quiet ((go_at_fn g; exact quiet_same (Hc.out _)))
        have hS2 := hS.drewN nq
        have hG2 := grown_drewN hG nq
        clear c0 c1 f1 hS hG
        generalize wr.drewN nq = w2 at *
        have c0 := hS2.c0
        have c1 := hS2.c1
        have f1 := hS2.f1
        go_wp2_with fail
        go_roundg (s.size - (k + 1))
        case measure => omega
        case rel => exact ⟨k + 1, rfl, by omega, by omega, hS2.setv _ (k + 1) (by omega), Lib.hid (HE.out.trans HR.out), grown_set hG2 _ _⟩
    · have HE := Lib.hid (runTo_end (p := p) (s := s) (k := k) (by omega))
      have hk0 : (0 : Int) ≤ (k : Int) := by omega
      have hd : decide ((k : Int) < (s.size : Int)) = false := by simp; omega
      go_wp2_with fail
      go_quiet (fail)
      have hS2 := hS.drewN nq
      have hG2 := grown_drewN hG nq
      clear c0 c1 f1 hS hG
      generalize wr.drewN nq = w2 at *
      have c0 := hS2.c0
      have c1 := hS2.c1
      go_wp2_with fail
      go_quiet (fail)
      go_wp2_with fail
      go_ret
      have e : runTo p s i = k := HR.out.symm.trans HE.out
      exact ⟨by rw [e]; rfl, by rw [e]; exact hS2.drewN _, grown_drewN hG2 _⟩
end Go.Proofs.YtbkffdfboloogaaGreatDoor
namespace Go.Proofs.YtbkffdfboloogaaGreatDoor
open Go.RowKit Go.Lib
set_option linter.unusedVariables false

def wordB (k : Nat) : ByteArray := ⟨(words.getD k []).toArray⟩
def wordCells : Array Value := (words.map fun l => Value.string ⟨l.toArray⟩).toArray
theorem words_len : words.length = 35 := rfl
theorem wordCells_at (k : Nat) (h : k < 35) : wordCells[k]? = some (.string (wordB k)) := by
  have h2 : k < words.length := by rw [words_len]; exact h
  simp [wordCells, wordB, h2]
theorem index_word (w : World) (k : Nat) (h : k < 35) : (Instr.index 222 (.agg wordCells) (.int .i64 (k : Int))).run Tryz.prog w = .ok (.string (wordB k)) w := by
  have h1 : (k : Int) < 35 := by omega
  have h0 : (0 : Int) ≤ (k : Int) := by omega
  simp [Instr.index, run_underlying Tryz.underlying222, asIntOf, go_sem]
  rw [if_pos h, wordCells_at k h]
  rfl
theorem infoWords : (Tryz.prog.info? 222).map (·.size) = some wordCells.size := by kernel_rfl

/-- the table of words stands -/
structure Wd (w : World) : Prop where
  blk : ∃ t fr, w.heap[7]? = some (.cells wordCells t fr)
section
variable {w w' : World}
theorem Wd.lt (h : Wd w) : 7 < w.heap.size := by obtain ⟨t, fr, h⟩ := h.blk; exact (Array.getElem?_eq_some_iff.1 h).1
theorem Wd.below (h : Wd w) {B : Nat} (hb : Below B w w') (hB : 7 < B) : Wd w' := by obtain ⟨t, fr, h⟩ := h.blk; exact ⟨t, fr, (hb.block 7 hB).trans h⟩
theorem Wd.all (h : Wd w) (hb : Below w.heap.size w w') : Wd w' := h.below hb h.lt
theorem Wd.kept (h : Wd w) {row : Option Nat} (hg : w.grownBy w' row) (hr : some 7 ≠ row) : Wd w' := by have := h.lt; obtain ⟨t, fr, h⟩ := h.blk; exact ⟨t, fr, (hg.block 7 this hr).trans h⟩
theorem Wd.drewN (h : Wd w) (n : Nat) : Wd (w.drewN n) := ⟨h.blk⟩
theorem Wd.alloc (h : Wd w) (o : Obj) : Wd (w.alloc o) := h.kept (World.grownBy_alloc w o none) (by simp)
end

/-- two texts, compared as the program does -/
def eqB (x y : ByteArray) : Bool := x.toList == y.toList
theorem eqB_iff (x y : ByteArray) : eqB x y = true ↔ x = y := by
  unfold eqB
  rw [ByteArray.toList_eq, ByteArray.toList_eq, beq_iff_eq]
  exact ⟨fun h => ByteArray.ext (by simpa using h), fun h => by rw [h]⟩
theorem eqB_self (x : ByteArray) : eqB x x = true := (eqB_iff x x).2 rfl
theorem eqB_false (x y : ByteArray) : eqB x y = false ↔ x ≠ y := by rw [Ne, ← eqB_iff]; simp
theorem ba_eq (x y : ByteArray) : x = y ↔ x.data.toList = y.data.toList := ⟨fun h => by rw [h], fun h => ByteArray.ext (by simpa using h)⟩
theorem words_snoc (s : ByteArray) (k : Nat) (h : k < 35) (h0 : (words.take k).contains s.data.toList = false) : (words.take (k + 1)).contains s.data.toList = eqB (wordB k) s := by
  have h2 : k < words.length := by rw [words_len]; exact h
  rw [List.take_succ_eq_append_getElem h2, Bool.eq_iff_iff, eqB_iff, ba_eq]
  have e : (wordB k).data.toList = words[k] := by simp [wordB, h2]
  rw [e]
  generalize words.take k = L at *
  generalize words[k] = x at *
  simp at h0 ⊢
  constructor
  · rintro (h | h)
    · exact absurd h h0
    · exact h.symm
  · intro h; exact .inr h.symm
/-- is a text one of the words? -/
def isWord (l : Bs) : Bool := words.contains l
theorem words_yes (s : ByteArray) (k : Nat) (h : (words.take k).contains s.data.toList = true) : isWord s.data.toList = true := by
  unfold isWord
  generalize words = L at *
  simp at h ⊢
  exact List.mem_of_mem_take h

set_option maxHeartbeats 800000 in
set_option maxRecDepth 100000 in
theorem reserved_any (s : ByteArray) (w : World) (hW : Wd w) :
    Calls Tryz.prog 188 #[.string s] w fun e w' => e = .returned (.bool (isWord s.data.toList)) ∧ w = w' := by
  obtain ⟨t, fr, hblk⟩ := hW.blk
  have Hb := Lib.hid hblk
  clear hblk
  go_enter Tryz.func188, Tryz.ntmps188
  go_wp2_with (refine wpList_load_row rfl 222 (.global 7) rfl 7 rfl t wordCells fr _ Hb.out Tryz.underlying222 rfl infoWords ?_)
  go_loop [6] (fun i => ∃ k : Nat, k ≤ 35 ∧ i = .int .i64 k ∧ Hid ((words.take k).contains s.data.toList = false)) (fun i => 35 - (intOf i).toNat)
  case atStart => exact ⟨0, Nat.zero_le _, rfl, Lib.hid (by simp)⟩
  case round =>
    obtain ⟨k, hk, rfl, Hk⟩ := hrel
    by_cases hlt : k < 35
    · have hi := index_word w k hlt
      have HS := Lib.hid (words_snoc s k hlt Hk.out)
      have hlt2 : (k : Int) < 35 := by omega
      cases he : eqB (wordB k) s
      all_goals
        have he' := he
        unfold eqB at he'
        have HS2 := HS.out
        rw [he] at HS2
        have H3 := Lib.hid HS2
        clear he HS2
        go_wp2
      · go_round
        case rel => exact ⟨k + 1, by omega, by go_num, H3⟩
        case measure => simp [intOf]; omega
      · go_ret
        exact ⟨by rw [words_yes s _ H3.out]; rfl, rfl⟩
    · obtain rfl : k = 35 := by omega
      have Hn := Lib.hid (show isWord s.data.toList = false from Hk.out)
      clear Hk
      go_wp2
      go_ret
      exact ⟨by rw [Hn.out]; rfl, rfl⟩
end Go.Proofs.YtbkffdfboloogaaGreatDoor
