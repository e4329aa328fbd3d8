/- The reserved words: the package's own table; a number's digits. -/
import Derived.Test.YtbkffdfboloogaaGreatDoorTRun
import Derived.Lib.LaidTab
import Derived.Laws.Rows
namespace Go.Proofs.YtbkffdfboloogaaGreatDoor
open Go.RowKit Go.Lib
set_option linter.unusedVariables false

def wordB (k : Nat) : ByteArray := ⟨(words.getD k []).toArray⟩
def wordCells : Array Value := (words.map fun l => Value.string ⟨l.toArray⟩).toArray
theorem words_len : words.length = 35 := rfl
theorem wordCells_at (k : Nat) (h : k < 35) : wordCells[k]? = some (.string (wordB k)) := by
  have h2 : k < words.length := by rw [words_len]; exact h
  simp [wordCells, wordB, h2]
theorem index_word (w : World) (k : Nat) (h : k < 35) : (Instr.index 222 (.agg wordCells) (.int .i64 (k : Int))).run Tryz.prog w = .ok (.string (wordB k)) w := by
  have h1 : (k : Int) < 35 := by omega
  have h0 : (0 : Int) ≤ (k : Int) := by omega
  simp [Instr.index, run_underlying Tryz.underlying222, asIntOf, go_sem]
  rw [if_pos h, wordCells_at k h]
  rfl
theorem infoWords : (Tryz.prog.info? 222).map (·.size) = some wordCells.size := by kernel_rfl

/-- the table of words stands -/
structure Wd (w : World) : Prop where
  blk : ∃ t fr, w.heap[7]? = some (.cells wordCells t fr)
section
variable {w w' : World}
theorem Wd.lt (h : Wd w) : 7 < w.heap.size := by obtain ⟨t, fr, h⟩ := h.blk; exact (Array.getElem?_eq_some_iff.1 h).1
theorem Wd.below (h : Wd w) {B : Nat} (hb : Below B w w') (hB : 7 < B) : Wd w' := by obtain ⟨t, fr, h⟩ := h.blk; exact ⟨t, fr, (hb.block 7 hB).trans h⟩
theorem Wd.all (h : Wd w) (hb : Below w.heap.size w w') : Wd w' := h.below hb h.lt
theorem Wd.kept (h : Wd w) {row : Option Nat} (hg : w.grownBy w' row) (hr : some 7 ≠ row) : Wd w' := by have := h.lt; obtain ⟨t, fr, h⟩ := h.blk; exact ⟨t, fr, (hg.block 7 this hr).trans h⟩
theorem Wd.drewN (h : Wd w) (n : Nat) : Wd (w.drewN n) := ⟨h.blk⟩
theorem Wd.alloc (h : Wd w) (o : Obj) : Wd (w.alloc o) := h.kept (World.grownBy_alloc w o none) (by simp)
end

/-- two texts, compared as the program does -/
def eqB (x y : ByteArray) : Bool := x.toList == y.toList
theorem eqB_iff (x y : ByteArray) : eqB x y = true ↔ x = y := by
  unfold eqB
  rw [ByteArray.toList_eq, ByteArray.toList_eq, beq_iff_eq]
  exact ⟨fun h => ByteArray.ext (by simpa using h), fun h => by rw [h]⟩
theorem eqB_self (x : ByteArray) : eqB x x = true := (eqB_iff x x).2 rfl
theorem eqB_false (x y : ByteArray) : eqB x y = false ↔ x ≠ y := by rw [Ne, ← eqB_iff]; simp
theorem ba_eq (x y : ByteArray) : x = y ↔ x.data.toList = y.data.toList := ⟨fun h => by rw [h], fun h => ByteArray.ext (by simpa using h)⟩
theorem words_snoc (s : ByteArray) (k : Nat) (h : k < 35) (h0 : (words.take k).contains s.data.toList = false) : (words.take (k + 1)).contains s.data.toList = eqB (wordB k) s := by
  have h2 : k < words.length := by rw [words_len]; exact h
  rw [List.take_succ_eq_append_getElem h2, Bool.eq_iff_iff, eqB_iff, ba_eq]
  have e : (wordB k).data.toList = words[k] := by simp [wordB, h2]
  rw [e]
  generalize words.take k = L at *
  generalize words[k] = x at *
  simp at h0 ⊢
  constructor
  · rintro (h | h)
    · exact absurd h h0
    · exact h.symm
  · intro h; exact .inr h.symm
/-- is a text one of the words? -/
def isWord (l : Bs) : Bool := words.contains l
theorem words_yes (s : ByteArray) (k : Nat) (h : (words.take k).contains s.data.toList = true) : isWord s.data.toList = true := by
  unfold isWord
  generalize words = L at *
  simp at h ⊢
  exact List.mem_of_mem_take h

set_option maxHeartbeats 800000 in
set_option maxRecDepth 100000 in
theorem reserved_any (s : ByteArray) (w : World) (hW : Wd w) :
    Calls Tryz.prog 188 #[.string s] w fun e w' => e = .returned (.bool (isWord s.data.toList)) ∧ w = w' := by
  obtain ⟨t, fr, hblk⟩ := hW.blk
  have Hb := Lib.hid hblk
  clear hblk
  go_enter Tryz.func188, Tryz.ntmps188
  go_wp2_with (refine wpList_load_row rfl 222 (.global 7) rfl 7 rfl t wordCells fr _ Hb.out Tryz.underlying222 rfl infoWords ?_)
  go_loop [6] (fun i => ∃ k : Nat, k ≤ 35 ∧ i = .int .i64 k ∧ Hid ((words.take k).contains s.data.toList = false)) (fun i => 35 - (intOf i).toNat)
  case atStart => exact ⟨0, Nat.zero_le _, rfl, Lib.hid (by simp)⟩
  case round =>
    obtain ⟨k, hk, rfl, Hk⟩ := hrel
    by_cases hlt : k < 35
    · have hi := index_word w k hlt
      have HS := Lib.hid (words_snoc s k hlt Hk.out)
      have hlt2 : (k : Int) < 35 := by omega
      cases he : eqB (wordB k) s
      all_goals
        have he' := he
        unfold eqB at he'
        have HS2 := HS.out
        rw [he] at HS2
        have H3 := Lib.hid HS2
        clear he HS2
        go_wp2
      · go_round
        case rel => exact ⟨k + 1, by omega, by go_num, H3⟩
        case measure => simp [intOf]; omega
      · go_ret
        exact ⟨by rw [words_yes s _ H3.out]; rfl, rfl⟩
    · obtain rfl : k = 35 := by omega
      have Hn := Lib.hid (show isWord s.data.toList = false from Hk.out)
      clear Hk
      go_wp2
      go_ret
      exact ⟨by rw [Hn.out]; rfl, rfl⟩
end Go.Proofs.YtbkffdfboloogaaGreatDoor
