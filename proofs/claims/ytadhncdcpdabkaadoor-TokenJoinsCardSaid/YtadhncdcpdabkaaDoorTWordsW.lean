/- The words: the program's list, the document's, and what is scanned of each. -/
import Derived.Test.YtadhncdcpdabkaaDoorTJoin
namespace Go.Proofs.YtadhncdcpdabkaaDoor
open Go.RowKit Go.Lib
set_option linter.unusedVariables false

/-- block g holds the words -/
structure Wl (w : World) (g : Nat) : Prop where
  lt : g < w.heap.size
  at_ : ∀ k, k < 35 → w.cell? ⟨g, k, none⟩ = some (.string (wordB k))
theorem Wl.all {w w' : World} {g : Nat} (h : Wl w g) (hb : Below w.heap.size w w') : Wl w' g := ⟨Nat.lt_of_lt_of_le h.lt hb.size, fun k hk => (hb.cell (p := ⟨g, k, none⟩) h.lt).trans (h.at_ k hk)⟩
def wordsV (k : Nat) : List Value := (List.range k).map fun j => Value.string (wordB j)
theorem wordsV_snoc (k : Nat) : wordsV (k + 1) = wordsV k ++ [.string (wordB k)] := by simp [wordsV, List.range_succ]

set_option maxHeartbeats 1000000 in
set_option maxRecDepth 100000 in
theorem tokWords_any (w : World) (hW : Wd w) : Calls Tryd.prog 15 #[] w fun e w' => ∃ g c, e = .returned (.slice (some ⟨g, 0, none⟩) 35 c) ∧ Wl w' g ∧ Below w.heap.size w w' := by
  obtain ⟨i0, hi0, hz0, hz1, hz2⟩ := info_parts str_info
  obtain ⟨t, fr, hblk⟩ := hW.blk
  have hw0 := hW.lt
  have Hb := Lib.hid hblk
  clear hblk
  go_enter Tryd.func15, Tryd.ntmps15
  go_wp2_with (first
    | (at_make; refine wpList_make_own _ rfl _ _ 33 rfl w.heap.size 9 i0 (.string ByteArray.empty) 1 Tryd.underlying33 hi0 hz0 hz1 .i64 .i64 _ 35 rfl rfl rfl (by rw [hz2]; omega) (by unfold maxLen; omega) (Nat.le_refl _) ?_; intro w0 hown0 hg0; have hb0 := (Below.refl w.heap.size w).grown hg0 (Nat.le_refl _) (fun k hk => by cases hk); have Hb0 := Lib.hid hb0; have Hw := Lib.hid ((hb0.block 0 hw0).trans Hb.out); clear hg0 hb0)
    | (refine wpList_load_row rfl 49 (.global 0) rfl 0 rfl t wordCells fr _ Hw.out Tryd.underlying49 rfl infoWords ?_))
  go_loopw [1, 6] (fun v i wr => ∃ k g3 c3 : Nat, k ≤ 35 ∧ i = .int .i64 k ∧ v = .slice (some ⟨g3, 0, none⟩) k c3 ∧ wr.ownsRow w.heap.size 9 1 (.slice (some ⟨g3, 0, none⟩) k c3) k (wordsV k) ∧ Hid (Below w.heap.size w wr)) (fun _ i _ => 35 - (intOf i).toNat)
  case atStart => exact ⟨0, w.heap.size, 35, Nat.zero_le _, rfl, rfl, hown0, Hb0⟩
  case round =>
    clear hown0 Hb0
    obtain ⟨k, g3, c3, hk, rfl, rfl, hown, Hbr⟩ := hrel
    have hzr : w.heap.size ≤ wr.heap.size := Hbr.out.size
    by_cases hlt : k < 35
    · have hi := index_word wr k hlt
      have hlt2 : (k : Int) < 35 := by omega
      go_wp2_with (first
        | (at_builtin; refine wpList_append_own _ rfl _ _ 33 rfl w.heap.size 9 i0 _ 1 16 Tryd.underlying33 hi0 hz0 hz1 hz2 rfl (by decide) _ _ _ rfl (hown.alloc _) ⟨wr.heap.size, 0, none⟩ 1 1 [.string (wordB k)] rfl rfl (World.news_of_block (cs := #[.string (wordB k)]) (t := 9) (fr := (0, 0)) (heap_alloc_new wr _)) (by simp [Value.oneCell']) (by unfold maxLen; omega) (by omega) (by simp; omega) ?_; intro v4 w4 hown4 hg4 hnil4))
      obtain ⟨g4, c4, rfl⟩ : ∃ g4 c4, v4 = .slice (some ⟨g4, 0, none⟩) (k + 1) c4 := by
        rcases hown4.2 with ⟨h0, hn⟩ | ⟨g, cap, cur, he, _⟩
        · omega
        · exact ⟨_, _, he⟩
      go_roundw
      case rel =>
        refine ⟨k + 1, g4, c4, by omega, by go_num, rfl, ?_, Lib.hid ((Hbr.out.alloc hzr _).grown hg4 (by simp; omega) (fun q hq => by have := (hown.lt q hq).1; omega))⟩
        rw [wordsV_snoc]; exact hown4
      case measure => simp [intOf]; omega
    · obtain rfl : k = 35 := by omega
      have hcell := hown.cells (g := g3) rfl
      have HL := Lib.hid (show Wl wr g3 from ⟨(hown.lt g3 rfl).2, fun j hj => by
        have h := hcell j (.string (wordB j)) (by unfold wordsV; rw [List.getElem?_map, List.getElem?_range hj]; rfl)
        have ha : (⟨g3, 0, none⟩ : Addr).add j = ⟨g3, j, none⟩ := by
          by_cases e : j = 0
          · subst e; simp [Addr.add]
          · simp [Addr.add, e]
        rwa [ha] at h⟩)
      clear hcell hown
      go_wp2_with fail
      go_ret
      exact ⟨g3, c3, rfl, HL.out, Hbr.out⟩

set_option maxHeartbeats 1000000 in
set_option maxRecDepth 100000 in
theorem refWords_any (w : World) : Calls Tryd.prog 16 #[] w fun e w' => e = .returned (.slice (some ⟨w.heap.size, 0, none⟩) 35 35) ∧ Wl w' w.heap.size ∧ Below w.heap.size w w' := by
  go_enter Tryd.func16, Tryd.ntmps16
  go_wp2_with fail
  go_ret
  refine ⟨rfl, ⟨by simp, fun k hk => ?_⟩, (Below.refl _ _).alloc (Nat.le_refl _) _⟩
  have h := wordCells_at k hk
  rw [← h]
  simp only [World.cell?, heap_alloc_new]
  rfl
/-- each word is scanned as a word -/
theorem word_scans (k : Nat) (h : k < 35) : scan 0 0 (wordB k).data.toList = .ok [⟨0, 0, (wordB k).data.toList⟩] := by
  have hall : ∀ k, k < 35 → (match scan 0 0 (words.getD k []) with | .ok [t] => t == ⟨0, 0, words.getD k []⟩ | _ => false) = true := by decide +kernel
  have := hall k h
  show scan 0 0 (words.getD k []) = .ok [⟨0, 0, words.getD k []⟩]
  split at this
  · rename_i t ht
    rw [ht]
    rw [beq_iff_eq] at this
    rw [this]
  · cases this
theorem words_rise (k : Nat) (h : k < 34) : Op.bytesLess (wordB k).toList (wordB (k + 1)).toList = true := by
  have hall : ∀ k, k < 34 → Op.bytesLess (words.getD k []) (words.getD (k + 1) []) = true := by decide +kernel
  rw [ByteArray.toList_eq, ByteArray.toList_eq]
  exact hall k h
theorem word_small (k : Nat) (h : k < 35) : (wordB k).size ≤ 16 := by
  have hall : ∀ k, k < 35 → (words.getD k []).length ≤ 16 := by decide +kernel
  have := hall k h
  simpa [wordB, ByteArray.size] using this
end Go.Proofs.YtadhncdcpdabkaaDoor
