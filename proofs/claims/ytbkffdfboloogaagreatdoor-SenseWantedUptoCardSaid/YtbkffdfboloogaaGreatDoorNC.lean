/- cmp.Compare of texts; the order of lots. slices.SortFunc of lots at this program: the shelf's contract, laid by the kit's own tools (shelf_lay_g, lay-plain). -/
import Derived.Test.YtbkffdfboloogaaGreatDoorMC
import Derived.Test.YtbkffdfboloogaaGreatDoorFKey
import Derived.Sort.Walk0
import Derived.Shelf.SlSortCmp.WholeK
import Derived.Shelf.SlGeneric
import Derived.Test.YtbkffdfboloogaaGreatDoorProg
namespace Go.Proofs.YtbkffdfboloogaaGreatDoor
open Go.RowKit Go.Maps Go.Lib Go.Sort
set_option linter.unusedVariables false
set_option maxRecDepth 100000

def ltS (x y : ByteArray) : Bool := Op.bytesLess x.toList y.toList
theorem ltS_iff (x y : ByteArray) : ltS x y = true ↔ x.toList < y.toList := by
  unfold ltS
  rw [bytesLess_eq, decide_eq_true_iff]
theorem ltS_irrefl (x : ByteArray) : ltS x x = false := by
  rw [Bool.eq_false_iff, Ne, ltS_iff]
  exact List.lt_irrefl _
theorem ltS_trans {x y z : ByteArray} (h : ltS x y = true) (k : ltS y z = true) : ltS x z = true := by
  rw [ltS_iff] at *
  exact List.lt_trans h k
theorem ltS_asymm {x y : ByteArray} (h : ltS x y = true) (k : ltS y x = true) : False := by
  have := ltS_trans h k
  rw [ltS_irrefl] at this
  cases this
theorem tl_inj {x y : ByteArray} (h : x.toList = y.toList) : x = y := by
  rw [ByteArray.toList_eq, ByteArray.toList_eq] at h
  exact ByteArray.ext (Array.ext' h)
theorem ltS_total {x y : ByteArray} (h : ltS x y = false) (hne : x ≠ y) : ltS y x = true := by
  rw [ltS_iff]
  have h1 : ¬ x.toList < y.toList := by rw [← ltS_iff, h]; simp
  have h2 : y.toList ≤ x.toList := List.not_lt.1 h1
  by_cases h4 : y.toList < x.toList
  · exact h4
  · have h3 : x.toList ≤ y.toList := List.not_lt.1 h4
    exact absurd (tl_inj (List.le_antisymm h3 h2)) hne
def cmpS (x y : ByteArray) : Int := if ltS x y then -1 else if ltS y x then 1 else 0
set_option maxHeartbeats 400000 in
theorem isNaN_any (x : ByteArray) (w : World) : Calls Tryz.prog 183 #[.string x] w fun e w' => e = .returned (.bool false) ∧ w' = w := by
  have q : (x.toList == x.toList) = true := by simp
  go_enter Tryz.func183, Tryz.ntmps183
  go_wp2
  go_ret
  exact ⟨rfl, rfl⟩
set_option maxHeartbeats 1000000 in
theorem compare_any (x y : ByteArray) (w : World) : Calls Tryz.prog 168 #[.string x, .string y] w fun e w' => e = .returned (.int .i64 (cmpS x y)) ∧ w' = w := by
  unfold cmpS
  cases h1 : ltS x y with
  | true =>
    have q1 : Op.bytesLess x.toList y.toList = true := h1
    go_enter Tryz.func168, Tryz.ntmps168
    go_wp2_with (first
      | (go_at_call 183; refine (isNaN_any _ _).mono ?_; rintro e w' ⟨rfl, rfl⟩)
      | go_in)
    go_ret
    exact ⟨rfl, rfl⟩
  | false =>
    have q1 : Op.bytesLess x.toList y.toList = false := h1
    cases h2 : ltS y x with
    | true =>
      have q2 : Op.bytesLess y.toList x.toList = true := h2
      have q3 : (x.toList == y.toList) = false := by
        rw [beq_eq_false_iff_ne]
        intro e
        unfold ltS at h1 h2
        rw [e] at h1 h2
        rw [h1] at h2
        cases h2
      go_enter Tryz.func168, Tryz.ntmps168
      go_wp2_with (first
        | (go_at_call 183; refine (isNaN_any _ _).mono ?_; rintro e w' ⟨rfl, rfl⟩)
        | go_in)
      go_ret
      exact ⟨rfl, rfl⟩
    | false =>
      have q2 : Op.bytesLess y.toList x.toList = false := h2
      have q3 : (x.toList == y.toList) = true := by
        by_cases e : x = y
        · rw [e]; simp
        · rw [ltS_total h1 e] at h2; cases h2
      go_enter Tryz.func168, Tryz.ntmps168
      go_wp2_with (first
        | (go_at_call 183; refine (isNaN_any _ _).mono ?_; rintro e w' ⟨rfl, rfl⟩)
        | go_in)
      go_ret
      exact ⟨rfl, rfl⟩

/-- two lots, by their goods -/
def cmpLt (x y : Lt) : Int := cmpS x.g y.g
theorem cmpS_lt (x y : ByteArray) : cmpS x y < 0 ↔ ltS x y = true := by
  unfold cmpS
  cases h1 : ltS x y with
  | true => simp
  | false => cases h2 : ltS y x <;> simp
theorem ltOf_lt (x y : Lt) : ltOf cmpLt x y = ltS x.g y.g := by
  unfold ltOf cmpLt
  rw [Bool.eq_iff_iff, decide_eq_true_iff, cmpS_lt]
theorem swoLt : SWO (ltOf cmpLt) where
  irrefl x := by rw [ltOf_lt]; exact ltS_irrefl _
  trans x y z h1 h2 := by rw [ltOf_lt] at *; exact ltS_trans h1 h2
  ntrans x y z h1 h2 := by
    rw [ltOf_lt] at *
    rw [Bool.eq_false_iff, Ne, ltS_iff] at *
    have a1 : y.g.toList ≤ x.g.toList := List.not_lt.1 h1
    have a2 : z.g.toList ≤ y.g.toList := List.not_lt.1 h2
    exact fun h => absurd h (List.not_lt.2 (List.le_trans a2 a1))
def encLt (x : Lt) : List Value := [.string x.g, .int .i64 x.c]
set_option maxHeartbeats 1000000 in
/-- goods.rising$1, in whatever world: two blocks are laid -/
theorem lotCmp_any (x y : Lt) (W : World) : Calls Tryz.prog 167 #[.agg #[.string x.g, .int .i64 x.c], .agg #[.string y.g, .int .i64 y.c]] W fun e w' => e = .returned (.int .i64 (cmpLt x y)) ∧ ∃ q os', w' = grow (W.drewN q) os' := by
  have hcon := fun W' => compare_any x.g y.g W'
  unfold cmpLt
  generalize cmpS x.g y.g = r at hcon ⊢
  generalize x.g = xg at *
  generalize y.g = yg at *
  generalize x.c = xc at *
  generalize y.c = yc at *
  go_enter Tryz.func167, Tryz.ntmps167
  go_wp2_with (first
    | (go_at_call 168; refine (hcon _).mono ?_; rintro e w' ⟨rfl, rfl⟩)
    | fail)
  go_ret
  exact ⟨rfl, 0, _, by rw [alloc_eq_grow, alloc_eq_grow, grow_grow]; rfl⟩
instance ltInhabited : Inhabited Lt := ⟨⟨⟨#[]⟩, 0⟩⟩
theorem cmpLays_lt (blk off size : Nat) (w : World) : CmpLays Tryz.prog 167 #[] encLt 2 cmpLt blk off size w :=
  fun _ _ _ _ x y => lotCmp_any x y _
end Go.Proofs.YtbkffdfboloogaaGreatDoor
namespace Go.Proofs
open Go.Shelf
def Tryz.sortLots_ren : Go.Shelf.Ren := ⟨fun | 6 => 166 | 15 => 182 | 14 => 181 | 28 => 200 | 29 => 156 | 20 => 192 | 21 => 193 | 22 => 194 | 23 => 195 | 24 => 196 | 25 => 197 | 26 => 198 | 27 => 199 | 46 => 202 | 47 => 203 | 48 => 204 | 49 => 205 | 50 => 206 | 57 => 207 | n => n, fun | 22 => 40 | 24 => 123 | 25 => 196 | 3 => 3 | 39 => 154 | 0 => 0 | 53 => 191 | 55 => 151 | 4 => 4 | 46 => 216 | 45 => 215 | 50 => 71 | 5 => 5 | 9 => 9 | 66 => 223 | 70 => 227 | 76 => 229 | 77 => 230 | n => n, fun | n => n⟩
theorem Tryz.sortLots : Go.Proofs.SlLaysF0.n6 Tryz.prog Tryz.sortLots_ren := {
  mixed := by kernel_rfl
  f6 := ⟨Tryz.f166.name, by decide, Tryz.func166.trans (congrArg some (by kernel_rfl))⟩
  f14 := ⟨Tryz.f181.name, by decide, Tryz.func181.trans (congrArg some (by kernel_rfl))⟩
  f15 := Tryz.func182.trans (congrArg some (by kernel_rfl))
  f20 := ⟨Tryz.f192.name, by decide, Tryz.func192.trans (congrArg some (by kernel_rfl))⟩
  f21 := ⟨Tryz.f193.name, by decide, Tryz.func193.trans (congrArg some (by kernel_rfl))⟩
  f22 := ⟨Tryz.f194.name, by decide, Tryz.func194.trans (congrArg some (by kernel_rfl))⟩
  f23 := ⟨Tryz.f195.name, by decide, Tryz.func195.trans (congrArg some (by kernel_rfl))⟩
  f24 := ⟨Tryz.f196.name, by decide, Tryz.func196.trans (congrArg some (by kernel_rfl))⟩
  f25 := ⟨Tryz.f197.name, by decide, Tryz.func197.trans (congrArg some (by kernel_rfl))⟩
  f26 := ⟨Tryz.f198.name, by decide, Tryz.func198.trans (congrArg some (by kernel_rfl))⟩
  f27 := ⟨Tryz.f199.name, by decide, Tryz.func199.trans (congrArg some (by kernel_rfl))⟩
  f28 := Tryz.func200.trans (congrArg some (by kernel_rfl))
  f29 := Tryz.func156.trans (congrArg some (by kernel_rfl))
  f46 := ⟨Tryz.f202.name, by decide, Tryz.func202.trans (congrArg some (by kernel_rfl))⟩
  f47 := Tryz.func203.trans (congrArg some (by kernel_rfl))
  f48 := Tryz.func204.trans (congrArg some (by kernel_rfl))
  f49 := ⟨Tryz.f205.name, by decide, Tryz.func205.trans (congrArg some (by kernel_rfl))⟩
  f50 := ⟨Tryz.f206.name, by decide, Tryz.func206.trans (congrArg some (by kernel_rfl))⟩
  f57 := ⟨Tryz.f207.name, by decide, Tryz.func207.trans (congrArg some (by kernel_rfl))⟩
  t0 := Tryz.underlying0
  a0 := Tryz.isAgg0
  z0 := Tryz.sizeOf0
  v0 := Tryz.zeroValue0
  t3 := Tryz.underlying3
  a3 := Tryz.isAgg3
  z3 := Tryz.sizeOf3
  v3 := Tryz.zeroValue3
  t4 := Tryz.underlying4
  a4 := Tryz.isAgg4
  z4 := Tryz.sizeOf4
  v4 := Tryz.zeroValue4
  t5 := Tryz.underlying5
  a5 := Tryz.isAgg5
  z5 := Tryz.sizeOf5
  v5 := Tryz.zeroValue5
  t9 := Tryz.underlying9
  a9 := Tryz.isAgg9
  z9 := Tryz.sizeOf9
  v9 := Tryz.zeroValue9
  t22 := Tryz.underlying40
  a22 := Tryz.isAgg40
  z22 := Tryz.sizeOf40
  v22 := Tryz.zeroValue40
  t25 := Tryz.underlying196
  a25 := Tryz.isAgg196
  z25 := Tryz.sizeOf196
  v25 := Tryz.zeroValue196
  t39 := Tryz.underlying154
  a39 := Tryz.isAgg154
  z39 := Tryz.sizeOf154
  v39 := Tryz.zeroValue154
  t45 := Tryz.underlying215
  a45 := Tryz.isAgg215
  z45 := Tryz.sizeOf215
  v45 := Tryz.zeroValue215
  t46 := Tryz.underlying216
  a46 := Tryz.isAgg216
  z46 := Tryz.sizeOf216
  v46 := Tryz.zeroValue216
  t50 := Tryz.underlying71
  a50 := Tryz.isAgg71
  z50 := Tryz.sizeOf71
  v50 := Tryz.zeroValue71
  t53 := Tryz.underlying191
  a53 := Tryz.isAgg191
  z53 := Tryz.sizeOf191
  v53 := Tryz.zeroValue191
  t55 := Tryz.underlying151
  a55 := Tryz.isAgg151
  z55 := Tryz.sizeOf151
  v55 := Tryz.zeroValue151
  t66 := Tryz.underlying223
  a66 := Tryz.isAgg223
  z66 := Tryz.sizeOf223
  v66 := Tryz.zeroValue223
  t70 := Tryz.underlying227
  a70 := Tryz.isAgg227
  z70 := Tryz.sizeOf227
  v70 := Tryz.zeroValue227
  t76 := Tryz.underlying229
  a76 := Tryz.isAgg229
  z76 := Tryz.sizeOf229
  v76 := Tryz.zeroValue229
  t77 := Tryz.underlying230
  a77 := Tryz.isAgg230
  z77 := Tryz.sizeOf230
  v77 := Tryz.zeroValue230 }
end Go.Proofs
