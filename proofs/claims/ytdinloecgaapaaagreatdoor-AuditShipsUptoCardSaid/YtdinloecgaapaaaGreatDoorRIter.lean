/- slices.Sorted(maps.Keys(m)) and slices.Sort of texts at this program: the shelf's contracts, laid by the kit's own tools (lay-iter, lay-plain). -/
import Derived.Shelf.SlIter.Nil
import Derived.Shelf.SortM.Plain
import Derived.Shelf.SortM.SortNone
import Derived.Test.YtdinloecgaapaaaGreatDoorProg
namespace Go.Proofs
open Go.Shelf
def Tryz.keys31_ren : Go.Shelf.Ren := ⟨fun | 7 => 31 | 10 => 64 | n => n, fun | 23 => 71 | 26 => 9 | 3 => 22 | 28 => 77 | 0 => 0 | 27 => 76 | 33 => 139 | 4 => 4 | n => n, fun | n => n⟩
theorem Tryz.keys31 : Go.Proofs.SlLaysZ.n7 Tryz.prog Tryz.keys31_ren := {
  mixed := by kernel_rfl
  f7 := ⟨Tryz.f31.name, by decide, Tryz.func31.trans (congrArg some (by kernel_rfl))⟩
  f10 := ⟨Tryz.f64.name, by decide, Tryz.func64.trans (congrArg some (by kernel_rfl))⟩
  t0 := Tryz.underlying0
  a0 := Tryz.isAgg0
  z0 := Tryz.sizeOf0
  v0 := Tryz.zeroValue0
  t4 := Tryz.underlying4
  a4 := Tryz.isAgg4
  z4 := Tryz.sizeOf4
  v4 := Tryz.zeroValue4
  t23 := Tryz.underlying71
  a23 := Tryz.isAgg71
  z23 := Tryz.sizeOf71
  v23 := Tryz.zeroValue71
  t26 := Tryz.underlying9
  a26 := Tryz.isAgg9
  z26 := Tryz.sizeOf9
  v26 := Tryz.zeroValue9
  t27 := Tryz.underlying76
  a27 := Tryz.isAgg76
  z27 := Tryz.sizeOf76
  v27 := Tryz.zeroValue76
  t28 := Tryz.underlying77
  a28 := Tryz.isAgg77
  z28 := Tryz.sizeOf77
  v28 := Tryz.zeroValue77
  t33 := Tryz.underlying139
  a33 := Tryz.isAgg139
  z33 := Tryz.sizeOf139
  v33 := Tryz.zeroValue139 }
def Tryz.sorted30_ren : Go.Shelf.Ren := ⟨fun | 6 => 30 | 8 => 62 | 9 => 63 | 11 => 93 | 13 => 95 | 12 => 94 | 23 => 131 | 24 => 132 | 14 => 122 | 15 => 123 | 16 => 124 | 17 => 125 | 18 => 126 | 19 => 127 | 20 => 128 | 21 => 129 | 22 => 130 | 25 => 143 | 26 => 144 | 27 => 145 | 28 => 146 | 29 => 147 | 30 => 148 | 31 => 156 | n => n, fun | 26 => 9 | 28 => 77 | 24 => 22 | 0 => 0 | 3 => 3 | 37 => 183 | 48 => 212 | 50 => 214 | 4 => 4 | 40 => 204 | 39 => 203 | 45 => 209 | 5 => 5 | 9 => 9 | 51 => 224 | 55 => 228 | 57 => 236 | 58 => 237 | 33 => 139 | n => n, fun | n => n⟩
theorem Tryz.sorted30 : Go.Proofs.SlLaysZ.n6 Tryz.prog Tryz.sorted30_ren := {
  mixed := by kernel_rfl
  f6 := ⟨Tryz.f30.name, by decide, Tryz.func30.trans (congrArg some (by kernel_rfl))⟩
  f8 := ⟨Tryz.f62.name, by decide, Tryz.func62.trans (congrArg some (by kernel_rfl))⟩
  f11 := ⟨Tryz.f93.name, by decide, Tryz.func93.trans (congrArg some (by kernel_rfl))⟩
  t0 := Tryz.underlying0
  a0 := Tryz.isAgg0
  z0 := Tryz.sizeOf0
  v0 := Tryz.zeroValue0
  t24 := Tryz.underlying22
  a24 := Tryz.isAgg22
  z24 := Tryz.sizeOf22
  v24 := Tryz.zeroValue22
  t26 := Tryz.underlying9
  a26 := Tryz.isAgg9
  z26 := Tryz.sizeOf9
  v26 := Tryz.zeroValue9
  t28 := Tryz.underlying77
  a28 := Tryz.isAgg77
  z28 := Tryz.sizeOf77
  v28 := Tryz.zeroValue77
  i26 := by kernel_rfl }
def Tryz.sort63_ren : Go.Shelf.Ren := ⟨fun | 6 => 63 | 8 => 95 | 9 => 94 | 19 => 131 | 20 => 132 | 21 => 122 | 22 => 123 | 23 => 124 | 24 => 125 | 25 => 126 | 26 => 127 | 27 => 128 | 28 => 129 | 29 => 130 | 36 => 143 | 31 => 144 | 32 => 145 | 37 => 146 | 38 => 147 | 39 => 148 | 41 => 156 | n => n, fun | 27 => 22 | 29 => 9 | 3 => 3 | 32 => 183 | 26 => 22 | 0 => 0 | 44 => 212 | 46 => 214 | 4 => 4 | 36 => 204 | 35 => 203 | 41 => 209 | 5 => 5 | 9 => 9 | 53 => 224 | 57 => 228 | 63 => 236 | 64 => 237 | n => n, fun | n => n⟩
theorem Tryz.sort63 : Go.Proofs.SlLaysM.n6 Tryz.prog Tryz.sort63_ren := {
  mixed := by kernel_rfl
  f6 := ⟨Tryz.f63.name, by decide, Tryz.func63.trans (congrArg some (by kernel_rfl))⟩
  f8 := Tryz.func95.trans (congrArg some (by kernel_rfl))
  f9 := ⟨Tryz.f94.name, by decide, Tryz.func94.trans (congrArg some (by kernel_rfl))⟩
  f19 := Tryz.func131.trans (congrArg some (by kernel_rfl))
  f20 := Tryz.func132.trans (congrArg some (by kernel_rfl))
  f21 := ⟨Tryz.f122.name, by decide, Tryz.func122.trans (congrArg some (by kernel_rfl))⟩
  f22 := ⟨Tryz.f123.name, by decide, Tryz.func123.trans (congrArg some (by kernel_rfl))⟩
  f23 := ⟨Tryz.f124.name, by decide, Tryz.func124.trans (congrArg some (by kernel_rfl))⟩
  f24 := ⟨Tryz.f125.name, by decide, Tryz.func125.trans (congrArg some (by kernel_rfl))⟩
  f25 := ⟨Tryz.f126.name, by decide, Tryz.func126.trans (congrArg some (by kernel_rfl))⟩
  f26 := ⟨Tryz.f127.name, by decide, Tryz.func127.trans (congrArg some (by kernel_rfl))⟩
  f27 := ⟨Tryz.f128.name, by decide, Tryz.func128.trans (congrArg some (by kernel_rfl))⟩
  f28 := ⟨Tryz.f129.name, by decide, Tryz.func129.trans (congrArg some (by kernel_rfl))⟩
  f29 := ⟨Tryz.f130.name, by decide, Tryz.func130.trans (congrArg some (by kernel_rfl))⟩
  f31 := Tryz.func144.trans (congrArg some (by kernel_rfl))
  f32 := Tryz.func145.trans (congrArg some (by kernel_rfl))
  f36 := ⟨Tryz.f143.name, by decide, Tryz.func143.trans (congrArg some (by kernel_rfl))⟩
  f37 := ⟨Tryz.f146.name, by decide, Tryz.func146.trans (congrArg some (by kernel_rfl))⟩
  f38 := ⟨Tryz.f147.name, by decide, Tryz.func147.trans (congrArg some (by kernel_rfl))⟩
  f39 := ⟨Tryz.f148.name, by decide, Tryz.func148.trans (congrArg some (by kernel_rfl))⟩
  f41 := ⟨Tryz.f156.name, by decide, Tryz.func156.trans (congrArg some (by kernel_rfl))⟩
  t0 := Tryz.underlying0
  a0 := Tryz.isAgg0
  z0 := Tryz.sizeOf0
  v0 := Tryz.zeroValue0
  t3 := Tryz.underlying3
  a3 := Tryz.isAgg3
  z3 := Tryz.sizeOf3
  v3 := Tryz.zeroValue3
  t4 := Tryz.underlying4
  a4 := Tryz.isAgg4
  z4 := Tryz.sizeOf4
  v4 := Tryz.zeroValue4
  t5 := Tryz.underlying5
  a5 := Tryz.isAgg5
  z5 := Tryz.sizeOf5
  v5 := Tryz.zeroValue5
  t9 := Tryz.underlying9
  a9 := Tryz.isAgg9
  z9 := Tryz.sizeOf9
  v9 := Tryz.zeroValue9
  t26 := Tryz.underlying22
  a26 := Tryz.isAgg22
  z26 := Tryz.sizeOf22
  v26 := Tryz.zeroValue22
  t27 := Tryz.underlying22
  a27 := Tryz.isAgg22
  z27 := Tryz.sizeOf22
  v27 := Tryz.zeroValue22
  t29 := Tryz.underlying9
  a29 := Tryz.isAgg9
  z29 := Tryz.sizeOf9
  v29 := Tryz.zeroValue9
  t32 := Tryz.underlying183
  a32 := Tryz.isAgg183
  z32 := Tryz.sizeOf183
  v32 := Tryz.zeroValue183
  t35 := Tryz.underlying203
  a35 := Tryz.isAgg203
  z35 := Tryz.sizeOf203
  v35 := Tryz.zeroValue203
  t36 := Tryz.underlying204
  a36 := Tryz.isAgg204
  z36 := Tryz.sizeOf204
  v36 := Tryz.zeroValue204
  t41 := Tryz.underlying209
  a41 := Tryz.isAgg209
  z41 := Tryz.sizeOf209
  v41 := Tryz.zeroValue209
  t44 := Tryz.underlying212
  a44 := Tryz.isAgg212
  z44 := Tryz.sizeOf212
  v44 := Tryz.zeroValue212
  t46 := Tryz.underlying214
  a46 := Tryz.isAgg214
  z46 := Tryz.sizeOf214
  v46 := Tryz.zeroValue214
  t53 := Tryz.underlying224
  a53 := Tryz.isAgg224
  z53 := Tryz.sizeOf224
  v53 := Tryz.zeroValue224
  t57 := Tryz.underlying228
  a57 := Tryz.isAgg228
  z57 := Tryz.sizeOf228
  v57 := Tryz.zeroValue228
  t63 := Tryz.underlying236
  a63 := Tryz.isAgg236
  z63 := Tryz.sizeOf236
  v63 := Tryz.zeroValue236
  t64 := Tryz.underlying237
  a64 := Tryz.isAgg237
  z64 := Tryz.sizeOf237
  v64 := Tryz.zeroValue237 }
open Go.RowKit Go.Maps Go.Sort in
theorem Tryz.sorts30 (m : Nat) : AnyZ.SortsIn Tryz.prog Tryz.sorted30_ren Fence.wide m :=
  ⟨fun blk off cap ss W hH hblk hsz => callsIn_wide.2 (AnyM.slices_Sort_string Tryz.sort63 blk off cap ss W hH hblk hsz),
   fun p cap W => callsIn_wide.2 (AnyM.slices_Sort_string_none Tryz.sort63 p cap W)⟩
open Go.RowKit Go.Maps Go.Sort in
theorem Tryz.maps_Keys_31 (mb : Option Nat) (W : World) : CallsIn Fence.wide 5 Tryz.prog 31 #[.map mb] W fun e w' => e = .returned (.func (.func 64) #[] #[.pointer (some ⟨W.heap.size, 0, none⟩)]) ∧ w' = W.alloc (.cells #[.map mb] 71) :=
  AnyZ.keys_in Tryz.keys31 Fence.wide 5 trivial rfl mb W
open Go.RowKit Go.Maps Go.Sort in
theorem Tryz.slices_Sorted_keys_30_31 {H : Type} (b nn : Nat) (D0 : DataW H) (R : Value → Option (DataW H × List MemPlace)) (w : World) (hown : w.ownsMap Tryz.prog 9 R b nn D0) (hmax : Maps.size D0 ≤ maxLen) (hbytes : Maps.size D0 * 16 ≤ 140737488355328) :
    CallsIn Fence.wide 5 Tryz.prog 30 #[.func (.func 64) #[] #[.pointer (some ⟨w.heap.size, 0, none⟩)]] (w.alloc (.cells #[.map (some b)] 71)) fun e w' => ∃ (v : Value) (ss : List (List UInt8)), e = .returned v ∧ ss.Perm (strKeys D0) ∧
      w'.ownsRow (w.alloc (.cells #[.map (some b)] 71)).heap.size 9 1 v ss.length ((ss.mergeSort (fun x y => decide (x ≤ y))).map encStr) ∧ (v = .slice none 0 0 ↔ ss = []) ∧ Below (w.alloc (.cells #[.map (some b)] 71)).heap.size (w.alloc (.cells #[.map (some b)] 71)) w' := by
  have hbl := hown.lt
  have hseq : SeqGives Fence.wide 2 Tryz.prog 64 #[.pointer (some ⟨w.heap.size, 0, none⟩)] encStr (fun ss => ss.Perm (strKeys D0)) (Maps.size D0) (w.alloc (.cells #[.map (some b)] 71)) :=
    AnyZ.keys_gives (ρ := Tryz.keys31_ren) { Tryz.keys31 with } Fence.wide _ trivial rfl (by omega) w.heap.size b nn D0 _ (by simp) (by simp) (by
      obtain ⟨es, clock, hb, Ft, hs, hD⟩ := hown
      exact ⟨es, clock, (Below.heap_alloc _ _ b hbl).trans hb, Ft, hs, hD⟩)
  exact AnyZ.sorted_in Tryz.sorted30 Fence.wide 5 trivial trivial trivial trivial rfl (by omega) (Tryz.sorts30 _) (enters_of Tryz.func63 (by kernel_rfl) rfl) 64 #[.pointer (some ⟨w.heap.size, 0, none⟩)] trivial (enters_of Tryz.func64 (by kernel_rfl) rfl) _ _ hmax hbytes _ hseq
def Tryz.keys36_ren : Go.Shelf.Ren := ⟨fun | 7 => 36 | 10 => 67 | n => n, fun | 23 => 82 | 26 => 9 | 3 => 37 | 28 => 77 | 0 => 0 | 27 => 76 | 33 => 139 | 4 => 4 | n => n, fun | n => n⟩
theorem Tryz.keys36 : Go.Proofs.SlLaysZ.n7 Tryz.prog Tryz.keys36_ren := {
  mixed := by kernel_rfl
  f7 := ⟨Tryz.f36.name, by decide, Tryz.func36.trans (congrArg some (by kernel_rfl))⟩
  f10 := ⟨Tryz.f67.name, by decide, Tryz.func67.trans (congrArg some (by kernel_rfl))⟩
  t0 := Tryz.underlying0
  a0 := Tryz.isAgg0
  z0 := Tryz.sizeOf0
  v0 := Tryz.zeroValue0
  t4 := Tryz.underlying4
  a4 := Tryz.isAgg4
  z4 := Tryz.sizeOf4
  v4 := Tryz.zeroValue4
  t23 := Tryz.underlying82
  a23 := Tryz.isAgg82
  z23 := Tryz.sizeOf82
  v23 := Tryz.zeroValue82
  t26 := Tryz.underlying9
  a26 := Tryz.isAgg9
  z26 := Tryz.sizeOf9
  v26 := Tryz.zeroValue9
  t27 := Tryz.underlying76
  a27 := Tryz.isAgg76
  z27 := Tryz.sizeOf76
  v27 := Tryz.zeroValue76
  t28 := Tryz.underlying77
  a28 := Tryz.isAgg77
  z28 := Tryz.sizeOf77
  v28 := Tryz.zeroValue77
  t33 := Tryz.underlying139
  a33 := Tryz.isAgg139
  z33 := Tryz.sizeOf139
  v33 := Tryz.zeroValue139 }
open Go.RowKit Go.Maps Go.Sort in
theorem Tryz.maps_Keys_36 (mb : Option Nat) (W : World) : CallsIn Fence.wide 5 Tryz.prog 36 #[.map mb] W fun e w' => e = .returned (.func (.func 67) #[] #[.pointer (some ⟨W.heap.size, 0, none⟩)]) ∧ w' = W.alloc (.cells #[.map mb] 82) :=
  AnyZ.keys_in Tryz.keys36 Fence.wide 5 trivial rfl mb W
open Go.RowKit Go.Maps Go.Sort in
theorem Tryz.slices_Sorted_keys_30_36 {H : Type} (b nn : Nat) (D0 : DataW H) (R : Value → Option (DataW H × List MemPlace)) (w : World) (hown : w.ownsMap Tryz.prog 9 R b nn D0) (hmax : Maps.size D0 ≤ maxLen) (hbytes : Maps.size D0 * 16 ≤ 140737488355328) :
    CallsIn Fence.wide 5 Tryz.prog 30 #[.func (.func 67) #[] #[.pointer (some ⟨w.heap.size, 0, none⟩)]] (w.alloc (.cells #[.map (some b)] 82)) fun e w' => ∃ (v : Value) (ss : List (List UInt8)), e = .returned v ∧ ss.Perm (strKeys D0) ∧
      w'.ownsRow (w.alloc (.cells #[.map (some b)] 82)).heap.size 9 1 v ss.length ((ss.mergeSort (fun x y => decide (x ≤ y))).map encStr) ∧ (v = .slice none 0 0 ↔ ss = []) ∧ Below (w.alloc (.cells #[.map (some b)] 82)).heap.size (w.alloc (.cells #[.map (some b)] 82)) w' := by
  have hbl := hown.lt
  have hseq : SeqGives Fence.wide 2 Tryz.prog 67 #[.pointer (some ⟨w.heap.size, 0, none⟩)] encStr (fun ss => ss.Perm (strKeys D0)) (Maps.size D0) (w.alloc (.cells #[.map (some b)] 82)) :=
    AnyZ.keys_gives (ρ := Tryz.keys36_ren) { Tryz.keys36 with } Fence.wide _ trivial rfl (by omega) w.heap.size b nn D0 _ (by simp) (by simp) (by
      obtain ⟨es, clock, hb, Ft, hs, hD⟩ := hown
      exact ⟨es, clock, (Below.heap_alloc _ _ b hbl).trans hb, Ft, hs, hD⟩)
  exact AnyZ.sorted_in Tryz.sorted30 Fence.wide 5 trivial trivial trivial trivial rfl (by omega) (Tryz.sorts30 _) (enters_of Tryz.func63 (by kernel_rfl) rfl) 67 #[.pointer (some ⟨w.heap.size, 0, none⟩)] trivial (enters_of Tryz.func67 (by kernel_rfl) rfl) _ _ hmax hbytes _ hseq
def Tryz.keys59_ren : Go.Shelf.Ren := ⟨fun | 7 => 59 | 10 => 89 | n => n, fun | 23 => 135 | 26 => 9 | 3 => 4 | 28 => 77 | 0 => 0 | 27 => 76 | 33 => 139 | 4 => 4 | n => n, fun | n => n⟩
theorem Tryz.keys59 : Go.Proofs.SlLaysZ.n7 Tryz.prog Tryz.keys59_ren := {
  mixed := by kernel_rfl
  f7 := ⟨Tryz.f59.name, by decide, Tryz.func59.trans (congrArg some (by kernel_rfl))⟩
  f10 := ⟨Tryz.f89.name, by decide, Tryz.func89.trans (congrArg some (by kernel_rfl))⟩
  t0 := Tryz.underlying0
  a0 := Tryz.isAgg0
  z0 := Tryz.sizeOf0
  v0 := Tryz.zeroValue0
  t4 := Tryz.underlying4
  a4 := Tryz.isAgg4
  z4 := Tryz.sizeOf4
  v4 := Tryz.zeroValue4
  t23 := Tryz.underlying135
  a23 := Tryz.isAgg135
  z23 := Tryz.sizeOf135
  v23 := Tryz.zeroValue135
  t26 := Tryz.underlying9
  a26 := Tryz.isAgg9
  z26 := Tryz.sizeOf9
  v26 := Tryz.zeroValue9
  t27 := Tryz.underlying76
  a27 := Tryz.isAgg76
  z27 := Tryz.sizeOf76
  v27 := Tryz.zeroValue76
  t28 := Tryz.underlying77
  a28 := Tryz.isAgg77
  z28 := Tryz.sizeOf77
  v28 := Tryz.zeroValue77
  t33 := Tryz.underlying139
  a33 := Tryz.isAgg139
  z33 := Tryz.sizeOf139
  v33 := Tryz.zeroValue139 }
open Go.RowKit Go.Maps Go.Sort in
theorem Tryz.maps_Keys_59 (mb : Option Nat) (W : World) : CallsIn Fence.wide 5 Tryz.prog 59 #[.map mb] W fun e w' => e = .returned (.func (.func 89) #[] #[.pointer (some ⟨W.heap.size, 0, none⟩)]) ∧ w' = W.alloc (.cells #[.map mb] 135) :=
  AnyZ.keys_in Tryz.keys59 Fence.wide 5 trivial rfl mb W
open Go.RowKit Go.Maps Go.Sort in
theorem Tryz.slices_Sorted_keys_30_59 {H : Type} (b nn : Nat) (D0 : DataW H) (R : Value → Option (DataW H × List MemPlace)) (w : World) (hown : w.ownsMap Tryz.prog 9 R b nn D0) (hmax : Maps.size D0 ≤ maxLen) (hbytes : Maps.size D0 * 16 ≤ 140737488355328) :
    CallsIn Fence.wide 5 Tryz.prog 30 #[.func (.func 89) #[] #[.pointer (some ⟨w.heap.size, 0, none⟩)]] (w.alloc (.cells #[.map (some b)] 135)) fun e w' => ∃ (v : Value) (ss : List (List UInt8)), e = .returned v ∧ ss.Perm (strKeys D0) ∧
      w'.ownsRow (w.alloc (.cells #[.map (some b)] 135)).heap.size 9 1 v ss.length ((ss.mergeSort (fun x y => decide (x ≤ y))).map encStr) ∧ (v = .slice none 0 0 ↔ ss = []) ∧ Below (w.alloc (.cells #[.map (some b)] 135)).heap.size (w.alloc (.cells #[.map (some b)] 135)) w' := by
  have hbl := hown.lt
  have hseq : SeqGives Fence.wide 2 Tryz.prog 89 #[.pointer (some ⟨w.heap.size, 0, none⟩)] encStr (fun ss => ss.Perm (strKeys D0)) (Maps.size D0) (w.alloc (.cells #[.map (some b)] 135)) :=
    AnyZ.keys_gives (ρ := Tryz.keys59_ren) { Tryz.keys59 with } Fence.wide _ trivial rfl (by omega) w.heap.size b nn D0 _ (by simp) (by simp) (by
      obtain ⟨es, clock, hb, Ft, hs, hD⟩ := hown
      exact ⟨es, clock, (Below.heap_alloc _ _ b hbl).trans hb, Ft, hs, hD⟩)
  exact AnyZ.sorted_in Tryz.sorted30 Fence.wide 5 trivial trivial trivial trivial rfl (by omega) (Tryz.sorts30 _) (enters_of Tryz.func63 (by kernel_rfl) rfl) 89 #[.pointer (some ⟨w.heap.size, 0, none⟩)] trivial (enters_of Tryz.func89 (by kernel_rfl) rfl) _ _ hmax hbytes _ hseq
open Go.RowKit Go.Sort in
theorem Tryz.slices_Sort_string (blk off cap : Nat) (ss : List (List UInt8)) (w : World) (hH : Holds encStr w blk off ss.toArray) (hblk : blk < w.heap.size) (hsz : ss.length < 4611686018427387904) :
    Calls Tryz.prog 63 #[.slice (some ⟨blk, off, none⟩) ss.length cap] w fun e w' =>
      e = .returned (.tuple #[]) ∧ ∃ n os, w' = grow (putRow encStr (Sort.ahead w n) blk off (ss.mergeSort fun x y => decide (x ≤ y)).toArray) os := AnyM.slices_Sort_string Tryz.sort63 blk off cap ss w hH hblk hsz
open Go.RowKit Go.Sort in
theorem Tryz.slices_Sort_string_none (p : Option Addr) (cap : Nat) (w : World) :
    Calls Tryz.prog 63 #[.slice p 0 cap] w fun e w' => e = .returned (.tuple #[]) ∧ w' = w := AnyM.slices_Sort_string_none Tryz.sort63 p cap w
end Go.Proofs
