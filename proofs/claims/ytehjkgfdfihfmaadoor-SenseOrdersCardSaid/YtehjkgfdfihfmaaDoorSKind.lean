/- sense.Kind: which kind a name is. -/
import Derived.Test.YtehjkgfdfihfmaaDoorSBase
namespace Go.Proofs.YtehjkgfdfihfmaaDoor
open Go.RowKit Go.Maps Go.Lib
set_option linter.unusedVariables false
set_option maxRecDepth 100000

def kindL : List (List UInt8) := [[105, 110, 118, 111, 105, 99, 101], [112, 97, 99, 107, 105, 110, 103], [108, 97, 100, 105, 110, 103], [105, 110, 115, 117, 114, 97, 110, 99, 101], [111, 114, 105, 103, 105, 110], [100, 114, 97, 102, 116]]
def kindB (k : Nat) : ByteArray := ⟨(kindL.getD k []).toArray⟩
/-- the names of the kinds, in their variable -/
structure Kd (w : World) : Prop where
  lt : 0 < w.heap.size
  at_ : ∀ k, k < 6 → w.cell? ⟨0, k, none⟩ = some (.string (kindB k))
theorem Kd.all {w w' : World} (h : Kd w) (hb : Below w.heap.size w w') : Kd w' := ⟨Nat.lt_of_lt_of_le h.lt hb.size, fun k hk => (hb.cell (p := ⟨0, k, none⟩) h.lt).trans (h.at_ k hk)⟩
/-- the first kind of the name, from a kind on -/
def findK (s : ByteArray) : Nat → Nat → Int × Bool
  | 0, _ => (0, false)
  | n + 1, k => if ((kindB k).toList == s.toList) = true then ((k : Int), true) else findK s n (k + 1)
def kindOf (s : ByteArray) : Int × Bool := findK s 6 0

theorem idx_0 (a0 a1 a2 a3 a4 a5 : ByteArray) (W : World) : (Instr.index 45 (.agg #[.string a0, .string a1, .string a2, .string a3, .string a4, .string a5]) (.int .i64 0)).run Tryd.prog W = .ok (.string a0) W := by kernel_rfl
theorem idx_1 (a0 a1 a2 a3 a4 a5 : ByteArray) (W : World) : (Instr.index 45 (.agg #[.string a0, .string a1, .string a2, .string a3, .string a4, .string a5]) (.int .i64 1)).run Tryd.prog W = .ok (.string a1) W := by kernel_rfl
theorem idx_2 (a0 a1 a2 a3 a4 a5 : ByteArray) (W : World) : (Instr.index 45 (.agg #[.string a0, .string a1, .string a2, .string a3, .string a4, .string a5]) (.int .i64 2)).run Tryd.prog W = .ok (.string a2) W := by kernel_rfl
theorem idx_3 (a0 a1 a2 a3 a4 a5 : ByteArray) (W : World) : (Instr.index 45 (.agg #[.string a0, .string a1, .string a2, .string a3, .string a4, .string a5]) (.int .i64 3)).run Tryd.prog W = .ok (.string a3) W := by kernel_rfl
theorem idx_4 (a0 a1 a2 a3 a4 a5 : ByteArray) (W : World) : (Instr.index 45 (.agg #[.string a0, .string a1, .string a2, .string a3, .string a4, .string a5]) (.int .i64 4)).run Tryd.prog W = .ok (.string a4) W := by kernel_rfl
theorem idx_5 (a0 a1 a2 a3 a4 a5 : ByteArray) (W : World) : (Instr.index 45 (.agg #[.string a0, .string a1, .string a2, .string a3, .string a4, .string a5]) (.int .i64 5)).run Tryd.prog W = .ok (.string a5) W := by kernel_rfl
theorem idx_of (f : Nat → ByteArray) (W : World) (k : Nat) (hk : k < 6) :
    (Instr.index 45 (.agg #[.string (f 0), .string (f 1), .string (f 2), .string (f 3), .string (f 4), .string (f 5)]) (.int .i64 (k : Int))).run Tryd.prog W = .ok (.string (f k)) W := by
  match k, hk with
  | 0, _ => exact idx_0 _ _ _ _ _ _ W
  | 1, _ => exact idx_1 _ _ _ _ _ _ W
  | 2, _ => exact idx_2 _ _ _ _ _ _ W
  | 3, _ => exact idx_3 _ _ _ _ _ _ W
  | 4, _ => exact idx_4 _ _ _ _ _ _ W
  | 5, _ => exact idx_5 _ _ _ _ _ _ W
theorem findK_yes {s : ByteArray} {k : Nat} (hk : k < 6) (h : ((kindB k).toList == s.toList) = true) : findK s (6 - k) k = ((k : Int), true) := by
  rw [show 6 - k = (6 - (k + 1)) + 1 by omega, findK, if_pos h]
theorem findK_no {s : ByteArray} {k : Nat} (hk : k < 6) (h : ((kindB k).toList == s.toList) = false) : findK s (6 - k) k = findK s (6 - (k + 1)) (k + 1) := by
  rw [show 6 - k = (6 - (k + 1)) + 1 by omega, findK, if_neg (by rw [h]; simp)]
set_option maxHeartbeats 1000000 in
theorem kind_any (s : ByteArray) (w : World) (hK : Kd w) : Calls Tryd.prog 9 #[.string s] w fun e w' => e = .returned (.tuple #[.int .i64 (kindOf s).1, .bool (kindOf s).2]) ∧ w' = w := by
  have c0 := hK.at_ 0 (by omega)
  have c1 := hK.at_ 1 (by omega)
  have c2 := hK.at_ 2 (by omega)
  have c3 := hK.at_ 3 (by omega)
  have c4 := hK.at_ 4 (by omega)
  have c5 := hK.at_ 5 (by omega)
  clear hK
  have hx := fun (k : Nat) (hk : k < 6) W => idx_of kindB W k hk
  have HX := Lib.hid hx
  clear hx
  generalize hn0 : kindB 0 = n0 at *
  generalize hn1 : kindB 1 = n1 at *
  generalize hn2 : kindB 2 = n2 at *
  generalize hn3 : kindB 3 = n3 at *
  generalize hn4 : kindB 4 = n4 at *
  generalize hn5 : kindB 5 = n5 at *
  clear hn0 hn1 hn2 hn3 hn4 hn5
  go_enter Tryd.func9, Tryd.ntmps9
  go_wp2
  clear c0 c1 c2 c3 c4 c5
  go_loopw [7] (fun i wr => ∃ k : Nat, k ≤ 6 ∧ i = .int .i64 (k : Int) ∧ wr = w ∧ Hid (kindOf s = findK s (6 - k) k)) (fun i _ => 6 - (intOf i).toNat)
  case atStart => exact ⟨0, by omega, rfl, rfl, Lib.hid rfl⟩
  case round =>
    obtain ⟨k, hk, rfl, rfl, HE⟩ := hrel
    by_cases hlt : k < 6
    · have hlt' : (k : Int) < 6 := by omega
      have hx := HX.out k hlt
      clear HX
      cases hq : ((kindB k).toList == s.toList)
      · have HE2 := Lib.hid (HE.out.trans (findK_no hlt hq))
        generalize kindB k = nk at *
        go_wp2
        go_roundw
        case rel => exact ⟨k + 1, by omega, by go_num, trivial, HE2⟩
        case measure => simp [intOf]; omega
      · have HE2 := Lib.hid (HE.out.trans (findK_yes hlt hq))
        generalize kindB k = nk at *
        go_wp2
        go_ret2
        exact ⟨by rw [HE2.out]; rfl, rfl⟩
    · have hlt' : ¬ (k : Int) < 6 := by omega
      have HE2 : Hid (kindOf s = (0, false)) := Lib.hid (by rw [HE.out, show 6 - k = 0 by omega, findK])
      clear HX
      go_wp2
      go_ret2
      exact ⟨by rw [HE2.out]; rfl, rfl⟩
end Go.Proofs.YtehjkgfdfihfmaaDoor
