/- paper.is, paper.alike: rules that fields are as a paper has them. -/
import Derived.Test.YtbkffdfboloogaaGreatDoorNA
import Derived.Laws.Rows
import Derived.Test.YtbkffdfboloogaaGreatDoorMO
namespace Go.Proofs.YtbkffdfboloogaaGreatDoor
open Go.RowKit Go.Maps Go.Lib
set_option linter.unusedVariables false
set_option maxRecDepth 100000

/-- the rule that a field is a text -/
def isR (f t : ByteArray) : Rl := ⟨3, 0, f, t, 0, []⟩
def alikeL (l : List Fp) (names : List ByteArray) : List Rl := names.map fun nm => isR nm (getF l nm).1
theorem infoNodeW : (Tryz.prog.info? 33).map (·.size) = some 6 := by kernel_rfl
theorem is_any (f t : ByteArray) (w : World) : Calls Tryz.prog 26 #[.string f, .string t] w fun e w' => e = .returned (.agg #[.int .i64 3, .int .i64 0, .string f, .string t, .int .i64 0, .slice none 0 0]) ∧ Below w.heap.size w w' := by
  have hb : Below w.heap.size w (w.alloc (.cells #[.int .i64 3, .int .i64 0, .string f, .string t, .int .i64 0, .slice none 0 0] 33)) := (Below.refl _ _).alloc (Nat.le_refl _) _
  have HB := Lib.hid hb
  clear hb
  go_enter Tryz.func26, Tryz.ntmps26
  go_wp2_with fail
  refine bodyPost_ret (results_cell_row rfl _ _ w.heap.size 33 #[.int .i64 3, .int .i64 0, .string f, .string t, .int .i64 0, .slice none 0 0] (0, 0) _ rfl (heap_alloc_new _ _) Tryz.underlying33 rfl infoNodeW) rfl ?_
  exact ⟨rfl, HB.out⟩
theorem alikeL_take (F : List Fp) (S : List ByteArray) (k : Nat) (h : k < S.length) : alikeL F (S.take (k + 1)) = alikeL F (S.take k) ++ [isR S[k] (getF F S[k]).1] := by
  unfold alikeL
  rw [← List.take_append_getElem h, List.map_append]
  rfl
set_option maxHeartbeats 4000000 in
theorem alike_any (kd : Int) (num iss : ByteArray) (F : List Fp) (A : Option Addr) (c B : Nat) (S : List ByteArray) (g off cp : Nat) (w : World) (hF : Fps w B A F) (hB : B ≤ w.heap.size) (hl : F.length ≤ 1000) (hS : StrAt w g off S) (hg : g < w.heap.size) (hSl : S.length ≤ 1000) :
    Calls Tryz.prog 23 #[.agg #[.int .i64 kd, .string num, .string iss, .slice A F.length c], .slice (some ⟨g, off, none⟩) S.length cp] w fun e w' => ∃ A' n' c' cs, e = .returned (.slice A' n' c') ∧ n' = (alikeL F S).length ∧ Ar w' w.heap.size (.slice A' n' c') (alikeL F S) cs ∧ Below w.heap.size w w' := by
  have hb1 : Below w.heap.size w (w.alloc (.cells #[.int .i64 kd, .string num, .string iss, .slice A F.length c] 60)) := (Below.refl _ _).alloc (Nat.le_refl _) _
  have hz1 : (w.alloc (.cells #[.int .i64 kd, .string num, .string iss, .slice A F.length c] 60)).heap.size = w.heap.size + 1 := by simp
  have k3 : (w.alloc (.cells #[.int .i64 kd, .string num, .string iss, .slice A F.length c] 60)).cell? ⟨w.heap.size, 3, none⟩ = some (.slice A F.length c) := by simp
  have HF := Lib.hid (hF.more hB)
  have HS := Lib.hid hS
  have HB1 := Lib.hid hb1
  have HAr0 : Hid (Ar (w.alloc (.cells #[.int .i64 kd, .string num, .string iss, .slice A F.length c] 60)) (w.heap.size + 1) (.slice none 0 0) [] []) := Lib.hid ⟨World.ownsRow_nil _ _ _ _, fun i x h => by simp at h⟩
  clear hF hS hb1
  go_enter Tryz.func23, Tryz.ntmps23
  go_wp2_with fail
  go_loopw [5, 12] (fun v i wr => ∃ (k : Nat) (A' : Option Addr) (c' : Nat) (cs : List Value), k ≤ S.length ∧ i = .int .i64 (k : Int) ∧ v = .slice A' k c' ∧ Hid (Ar wr (w.heap.size + 1) (.slice A' k c') (alikeL F (S.take k)) cs) ∧ Hid (Below (w.heap.size + 1) (w.alloc (.cells #[.int .i64 kd, .string num, .string iss, .slice A F.length c] 60)) wr)) (fun _ i _ => S.length - (RowKit.intOf i).toNat)
  case atStart => exact ⟨0, none, 0, [], Nat.zero_le _, rfl, rfl, HAr0, Lib.hid (Below.refl _ _)⟩
  case round =>
    clear HAr0
    obtain ⟨k, A', c', cs, hk, rfl, rfl, HA, HB⟩ := hrel
    have hsz := HB.out.size
    rw [hz1] at hsz
    have HBw := Lib.hid (HB1.out.trans (HB.out.mono (by omega)))
    have e3 : wr.cell? ⟨w.heap.size, 3, none⟩ = some (.slice A F.length c) := (HB.out.cell (p := ⟨w.heap.size, 3, none⟩) (by show w.heap.size < _; omega)).trans k3
    by_cases hlt : k < S.length
    · have b1 : (k : Int) < (S.length : Int) := by omega
      have b0 : (0 : Int) ≤ (k : Int) := by omega
      have c0 := (HBw.out.cell (p := ⟨g, off + k, none⟩) hg).trans (HS.out k _ (List.getElem?_eq_getElem hlt))
      have HG := Lib.hid (get_any w.heap.size c A F S[k] wr (HF.out.kept HBw.out) HBw.out.size (by omega))
      have HIs : Hid (∀ W t, Calls Tryz.prog 26 #[.string S[k], .string t] W fun e w' => e = .returned (.agg #[.int .i64 3, .int .i64 0, .string S[k], .string t, .int .i64 0, .slice none 0 0]) ∧ Below W.heap.size W w') := Lib.hid (fun W t => is_any S[k] t W)
      have htk := alikeL_take F S k hlt
      have hkl : (alikeL F (S.take k)).length = k := by unfold alikeL; rw [List.length_map, List.length_take]; omega
      have hkl1 : (alikeL F (S.take (k + 1))).length = k + 1 := by unfold alikeL; rw [List.length_map, List.length_take]; omega
      have HAp : Hid (∀ w3, Below wr.heap.size wr w3 → ∃ A4 c4 cs4 w4, (Builtin.append_ #[31, 31] 31 #[.slice A' k c', .slice (some ⟨w3.heap.size, 0, none⟩) 1 1]).run Tryz.prog (w3.alloc (.cells #[.int .i64 3, .int .i64 0, .string S[k], .string (getF F S[k]).1, .int .i64 0, .slice none 0 0] 33)) = .ok (.slice A4 (k + 1) c4) w4 ∧ Hid (Ar w4 (w.heap.size + 1) (.slice A4 (k + 1) c4) (alikeL F (S.take (k + 1))) cs4) ∧ Hid (Below (w.heap.size + 1) wr w4)) := Lib.hid (by
        intro w3 hb3
        have hz3 := hb3.size
        have hb4 := hb3.alloc hz3 (.cells #[.int .i64 3, .int .i64 0, .string S[k], .string (getF F S[k]).1, .int .i64 0, .slice none 0 0] 33)
        obtain ⟨v', w4, h1, h2, h3, h4⟩ := app_nodes 31 (HA.out.below hb4) (one_node w3 (isR S[k] (getF F S[k]).1) none 0) (by rw [hkl]; simp; omega) (by have := hb4.size; omega)
        rw [← htk] at h2
        obtain ⟨A4, c4, rfl⟩ := h2.form
        rw [hkl1] at h1 h2
        exact ⟨A4, c4, _, w4, h1, Lib.hid h2, Lib.hid ((hb4.mono (by omega)).grown h3 (by have := hb4.size; omega) (fun j hj => (HA.out.lt hj).1))⟩)
      clear htk hkl hkl1 HA HF HS
      generalize (getF F S[k]).1 = t at *
      generalize (getF F S[k]).2 = ok at *
      generalize S[k] = s at *
      go_wp2_with (first
        | (go_at_call 54; (with_reducible refine HG.out.mono ?_); rintro e w2 ⟨rfl, hb2⟩; have HB2 := Lib.hid hb2; clear hb2 HG)
        | (go_at_call 26; (with_reducible refine (HIs.out _ _).mono ?_); rintro e w3 ⟨rfl, hb3⟩; obtain ⟨A4, c4, cs4, w4, hrn, HA4, HB4⟩ := HAp.out w3 (HB2.out.trans (hb3.mono HB2.out.size)); clear hb3 HIs HAp)
        | (at_builtin; refine Lib.wpList_append_run _ rfl _ _ _ _ rfl _ _ rfl rfl _ _ hrn ?_)
        | fail)
      have HB5 := Lib.hid (HB.out.trans HB4.out)
      go_roundw
      case rel => exact ⟨k + 1, A4, c4, cs4, by omega, by go_num, rfl, HA4, HB5⟩
      case measure => simp [RowKit.intOf]; omega
    · have b1 : ¬ (k : Int) < (S.length : Int) := by omega
      have hkl : k = S.length := by omega
      subst hkl
      have HAf : Hid (Ar wr w.heap.size (.slice A' S.length c') (alikeL F S) cs) := Lib.hid (by
        have := HA.out
        rw [List.take_length] at this
        exact this.base_le (by omega))
      clear HA
      go_wp2_with fail
      go_ret
      first
      | exact ⟨A', S.length, c', rfl, rfl, ⟨cs, HAf.out⟩, HBw.out⟩
      | exact ⟨A', S.length, c', rfl, by unfold alikeL; rw [List.length_map], ⟨cs, HAf.out⟩, HBw.out⟩
end Go.Proofs.YtbkffdfboloogaaGreatDoor
