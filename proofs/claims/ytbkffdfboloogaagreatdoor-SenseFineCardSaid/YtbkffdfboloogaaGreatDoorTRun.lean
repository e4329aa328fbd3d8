/- The scanner goes along a text: run. -/
import Derived.Test.YtbkffdfboloogaaGreatDoorTLeaf
import Derived.Deep.LoopGhost
import Derived.Lib.BufferOwn
import Derived.Maps.AppendAt
import Derived.Outline
import Derived.Shelf.Abstract
namespace Go.Proofs.YtbkffdfboloogaaGreatDoor
open Go.RowKit Go.Lib
set_option linter.unusedVariables false

theorem quiet_same {P : Program} {f : FuncId} {args : Array Value} {w : World} {n : Nat} {v : Value}
    (h : Calls P f args (w.drewN n) fun e w' => e = .returned v ∧ w.drewN n = w') : Calls P f args (w.drewN n) fun e w'' => e = .returned v ∧ ∃ m, w'' = w.drewN m :=
  h.mono fun _ _ ⟨he, hm⟩ => ⟨he, n, hm.symm⟩
/-- where a run that begins at a place ends -/
def runTo (p : UInt8 → Bool) (s : ByteArray) (i : Nat) : Nat := i + ((s.data.toList.drop i).takeWhile p).length
theorem drop_at (s : ByteArray) (k : Nat) (h : k < s.size) : s.data.toList.drop k = s[k] :: s.data.toList.drop (k + 1) := by
  rw [List.drop_eq_getElem_cons (by simpa using h)]; rfl
theorem runTo_step {p : UInt8 → Bool} {s : ByteArray} {k : Nat} (h : k < s.size) (hp : p s[k] = true) : runTo p s (k + 1) = runTo p s k := by
  unfold runTo
  rw [drop_at s k h, List.takeWhile_cons, if_pos hp, List.length_cons]
  omega
theorem runTo_stop {p : UInt8 → Bool} {s : ByteArray} {k : Nat} (h : k < s.size) (hp : p s[k] = false) : runTo p s k = k := by
  unfold runTo
  rw [drop_at s k h, List.takeWhile_cons, hp]
  simp
theorem runTo_end {p : UInt8 → Bool} {s : ByteArray} {k : Nat} (h : s.size ≤ k) : runTo p s k = k := by
  unfold runTo
  rw [List.drop_eq_nil_of_le (by simpa using h)]
  simp
theorem runTo_ge (p : UInt8 → Bool) (s : ByteArray) (i : Nat) : i ≤ runTo p s i := by unfold runTo; omega
theorem runTo_le (p : UInt8 → Bool) {s : ByteArray} {i : Nat} (h : i ≤ s.size) : runTo p s i ≤ s.size := by
  unfold runTo
  have := tw_len p (s.data.toList.drop i)
  simp at this
  omega

/-- block b is a scanner of the text s, at the place i -/
structure Sc (w : World) (b : Nat) (s : ByteArray) (i : Nat) : Prop where
  blk : w.heap[b]? = some (.cells #[.string s, .int .i64 (i : Int)] 176 (0, 0))
section
variable {w w' : World} {b i : Nat} {s : ByteArray}
theorem Sc.lt (h : Sc w b s i) : b < w.heap.size := (Array.getElem?_eq_some_iff.1 h.blk).1
theorem Sc.c0 (h : Sc w b s i) : w.cell? ⟨b, 0, none⟩ = some (.string s) := by simp [World.cell?, h.blk]
theorem Sc.c1 (h : Sc w b s i) : w.cell? ⟨b, 1, none⟩ = some (.int .i64 (i : Int)) := by simp [World.cell?, h.blk]
theorem Sc.f1 (h : Sc w b s i) : w.frozen? ⟨b, 1, none⟩ = false := by simp [World.frozen?, h.blk]
theorem Sc.drewN (h : Sc w b s i) (n : Nat) : Sc (w.drewN n) b s i := ⟨h.blk⟩
theorem Sc.drew (h : Sc w b s i) : Sc w.drew b s i := ⟨h.blk⟩
theorem Sc.alloc (h : Sc w b s i) (o : Obj) : Sc (w.alloc o) b s i := ⟨by
  have := h.lt
  show (w.heap.push o)[b]? = _
  rw [Array.getElem?_push_lt this, ← Array.getElem?_eq_getElem this]
  exact h.blk⟩
theorem Sc.set (h : Sc w b s i) (j : Nat) : Sc (w.setCell ⟨b, 1, none⟩ (.int .i64 (j : Int))) b s j := ⟨by
  have hlt := h.lt
  have h' : w.heap[b] = .cells #[.string s, .int .i64 (i : Int)] 176 (0, 0) := by have := h.blk; simpa [Array.getElem?_eq_getElem hlt] using this
  show (w.heap.modify b _)[b]? = _
  rw [Array.getElem?_eq_getElem (by simpa using hlt), Array.getElem_modify_self, h']
  rfl⟩
theorem Sc.setv (h : Sc w b s i) (v : Int) (j : Nat) (hv : v = (j : Int)) : Sc (w.setCell ⟨b, 1, none⟩ (.int .i64 v)) b s j := by subst hv; exact h.set j
theorem Sc.kept (h : Sc w b s i) {row : Option Nat} (hg : w.grownBy w' row) (hr : some b ≠ row) : Sc w' b s i := ⟨(hg.block b h.lt hr).trans h.blk⟩
theorem Sc.below (h : Sc w b s i) {B : Nat} (hb : Below B w w') (hB : b < B) : Sc w' b s i := ⟨(hb.block b hB).trans h.blk⟩
end
theorem grown_drewN {a w : World} {row : Option Nat} (h : a.grownBy w row) (n : Nat) : a.grownBy (w.drewN n) row := ⟨h.os, h.tape, h.output, h.size, h.block⟩
theorem grown_set {a w : World} {b : Nat} (h : a.grownBy w (some b)) (i : Nat) (v : Value) : a.grownBy (w.setCell ⟨b, i, none⟩ v) (some b) := grownBy_setB h i v

set_option maxHeartbeats 1000000 in
set_option maxRecDepth 100000 in
theorem run_any (g : Nat) (p : UInt8 → Bool) (eg : ∀ args w, (callFunc g args).run Tryz.prog w = .ok (.enter g args) w) (hg : ∀ (c : UInt8) (w : World), Calls Tryz.prog g #[.int .u8 (c.toNat : Int)] w fun e w' => e = .returned (.bool (p c)) ∧ w = w')
    (s : ByteArray) (b i : Nat) (w : World) (hs : s.size ≤ 140737488351232) (hi : i ≤ s.size) (hS : Sc w b s i) :
    Calls Tryz.prog 142 #[.pointer (some ⟨b, 0, none⟩), .func (.func g) #[] #[]] w fun e w' => e = .returned (.string (s.extract i (runTo p s i))) ∧ Sc w' b s (runTo p s i) ∧ w.grownBy w' (some b) := by
  have c1 := hS.c1
  have Hg := Lib.hid hg
  have hlo := runTo_ge p s i
  have hhi := runTo_le p hi
  clear hg
  go_enter Tryz.func142, Tryz.ntmps142
  go_wp2_with fail
  go_loopg [] (s.size - i) (fun n wr => ∃ k, n = s.size - k ∧ i ≤ k ∧ k ≤ s.size ∧ Sc wr b s k ∧ Hid (runTo p s k = runTo p s i) ∧ w.grownBy wr (some b))
  case atStart => exact ⟨i, rfl, Nat.le_refl _, hi, hS, Lib.hid rfl, World.grownBy.refl _ _⟩
  case round =>
    clear c1 hS
    obtain ⟨k, rfl, hik, hk, hS, HR, hG⟩ := hrel
    have c0 := hS.c0
    have c1 := hS.c1
    have f1 := hS.f1
    by_cases hlt : k < s.size
    · have hk0 : (0 : Int) ≤ (k : Int) := by omega
      have hk1 : (k : Int) < (s.size : Int) := by omega
      cases hp : p s[k]
      · have HX := fun W => Hg.out s[k] W
        have HE := Lib.hid (runTo_stop hlt hp)
        rw [hp] at HX
        have Hc := Lib.hid HX
        clear hp HX
        go_wp2_with fail
        go_quiet ((go_at_fn g; exact quiet_same (Hc.out _)))
        have hS2 := hS.drewN nq
        have hG2 := grown_drewN hG nq
        clear c0 c1 f1 hS hG
        generalize wr.drewN nq = w2 at *
        have c0 := hS2.c0
        have c1 := hS2.c1
        go_wp2_with fail
        go_quiet (fail)
        go_wp2_with fail
        go_ret
        have e : runTo p s i = k := HR.out.symm.trans HE.out
        exact ⟨by rw [e]; rfl, by rw [e]; exact hS2.drewN _, grown_drewN hG2 _⟩
      · have HX := fun W => Hg.out s[k] W
        have HE := Lib.hid (runTo_step hlt hp)
        rw [hp] at HX
        have Hc := Lib.hid HX
        clear hp HX
        go_wp2_with fail
        go_quiet ((go_at_fn g; exact quiet_same (Hc.out _)))
        have hS2 := hS.drewN nq
        have hG2 := grown_drewN hG nq
        clear c0 c1 f1 hS hG
        generalize wr.drewN nq = w2 at *
        have c0 := hS2.c0
        have c1 := hS2.c1
        have f1 := hS2.f1
        go_wp2_with fail
        go_roundg (s.size - (k + 1))
        case measure => omega
        case rel => exact ⟨k + 1, rfl, by omega, by omega, hS2.setv _ (k + 1) (by omega), Lib.hid (HE.out.trans HR.out), grown_set hG2 _ _⟩
    · have HE := Lib.hid (runTo_end (p := p) (s := s) (k := k) (by omega))
      have hk0 : (0 : Int) ≤ (k : Int) := by omega
      have hd : decide ((k : Int) < (s.size : Int)) = false := by simp; omega
      go_wp2_with fail
      go_quiet (fail)
      have hS2 := hS.drewN nq
      have hG2 := grown_drewN hG nq
      clear c0 c1 f1 hS hG
      generalize wr.drewN nq = w2 at *
      have c0 := hS2.c0
      have c1 := hS2.c1
      go_wp2_with fail
      go_quiet (fail)
      go_wp2_with fail
      go_ret
      have e : runTo p s i = k := HR.out.symm.trans HE.out
      exact ⟨by rw [e]; rfl, by rw [e]; exact hS2.drewN _, grown_drewN hG2 _⟩
end Go.Proofs.YtbkffdfboloogaaGreatDoor
