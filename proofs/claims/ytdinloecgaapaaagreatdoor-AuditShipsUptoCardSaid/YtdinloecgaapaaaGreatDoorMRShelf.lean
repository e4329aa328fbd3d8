/- strings.Join, strconv.Itoa, slices.Contains and slices.Clone of texts at this program: the shelf's contracts, laid by the kit's own tools (lay-shelf, lay-plain). audit.gather's closure: a line is laid behind what there is (which is nothing). -/
import Derived.Shelf.Strings.Builder1
import Derived.Shelf.Strings.Builder2
import Derived.Shelf.Strings.OnBuilder
import Derived.Shelf.Small.Bits
import Derived.Shelf.Strings.BuilderF
import Derived.Shelf.Strings.BuilderK
import Derived.Shelf.Strings.Builder2Cap
import Derived.Shelf.Strconv.Itoa0
import Derived.Shelf.Strconv.Itoa1
import Derived.Shelf.LaysM
import Derived.Shelf.Strconv.Itoa2
import Derived.Shelf.Strconv.Itoa3
import Derived.Shelf.Slices.Turned
import Derived.Ground.Names2Prog
import Derived.Shelf.Slices.Clone
import Derived.Ground.SlgnProg
import Derived.Shelf.SlicesE.Clone
import Derived.Ground.SlgmProg
import Derived.Shelf.SortM.Plain
import Derived.Shelf.SortM.SortNone
import Derived.Test.YtdinloecgaapaaaGreatDoorProg
import Derived.Test.YtdinloecgaapaaaGreatDoorMACopies
import Derived.Test.YtdinloecgaapaaaGreatDoorMASame
import Derived.Deep.RegionLaw
import Derived.Deep.AppendLies
import Derived.OneCell
namespace Go.Proofs
open Go.Shelf
def Tryz.lays156_ren : Go.Shelf.Ren := ⟨fun | 156 => 61 | 165 => 90 | 166 => 91 | 169 => 92 | 240 => 120 | 241 => 121 | 276 => 141 | 277 => 142 | n => n, fun | 31 => 22 | 9 => 9 | 3 => 3 | 4 => 4 | 0 => 0 | 20 => 20 | 72 => 174 | 76 => 177 | 70 => 171 | 37 => 172 | 75 => 176 | 127 => 201 | 164 => 221 | 5 => 5 | 80 => 179 | n => n, fun | n => n⟩
theorem Tryz.lays156 : Go.Proofs.Lays.n156 Tryz.prog Tryz.lays156_ren := {
  mixed := by kernel_rfl
  f156 := Tryz.func61.trans (congrArg some (by kernel_rfl))
  f165 := Tryz.func90.trans (congrArg some (by kernel_rfl))
  f166 := Tryz.func91.trans (congrArg some (by kernel_rfl))
  f169 := Tryz.func92.trans (congrArg some (by kernel_rfl))
  f240 := Tryz.func120.trans (congrArg some (by kernel_rfl))
  f241 := Tryz.func121.trans (congrArg some (by kernel_rfl))
  f276 := Tryz.func141.trans (congrArg some (by kernel_rfl))
  f277 := Tryz.func142.trans (congrArg some (by kernel_rfl))
  t0 := Tryz.underlying0
  a0 := Tryz.isAgg0
  z0 := Tryz.sizeOf0
  v0 := Tryz.zeroValue0
  t3 := Tryz.underlying3
  a3 := Tryz.isAgg3
  z3 := Tryz.sizeOf3
  v3 := Tryz.zeroValue3
  t4 := Tryz.underlying4
  a4 := Tryz.isAgg4
  z4 := Tryz.sizeOf4
  v4 := Tryz.zeroValue4
  t9 := Tryz.underlying9
  a9 := Tryz.isAgg9
  z9 := Tryz.sizeOf9
  v9 := Tryz.zeroValue9
  t20 := Tryz.underlying20
  a20 := Tryz.isAgg20
  z20 := Tryz.sizeOf20
  v20 := Tryz.zeroValue20
  t31 := Tryz.underlying22
  a31 := Tryz.isAgg22
  z31 := Tryz.sizeOf22
  v31 := Tryz.zeroValue22
  t37 := Tryz.underlying172
  a37 := Tryz.isAgg172
  z37 := Tryz.sizeOf172
  v37 := Tryz.zeroValue172
  t70 := Tryz.underlying171
  a70 := Tryz.isAgg171
  z70 := Tryz.sizeOf171
  v70 := Tryz.zeroValue171
  t72 := Tryz.underlying174
  a72 := Tryz.isAgg174
  z72 := Tryz.sizeOf174
  v72 := Tryz.zeroValue174
  t75 := Tryz.underlying176
  a75 := Tryz.isAgg176
  z75 := Tryz.sizeOf176
  v75 := Tryz.zeroValue176
  t76 := Tryz.underlying177
  a76 := Tryz.isAgg177
  z76 := Tryz.sizeOf177
  v76 := Tryz.zeroValue177
  t127 := Tryz.underlying201
  a127 := Tryz.isAgg201
  z127 := Tryz.sizeOf201
  v127 := Tryz.zeroValue201
  t164 := Tryz.underlying221
  a164 := Tryz.isAgg221
  z164 := Tryz.sizeOf221
  v164 := Tryz.zeroValue221 }
theorem Tryz.Builder_Extra_156 : Builder.Extra Tryz.prog Tryz.lays156_ren := {
  sizeBuilder := by kernel_rfl
  liesBuilder := by kernel_rfl
  t5 := Tryz.underlying5
  a5 := Tryz.isAgg5
  z5 := Tryz.sizeOf5
  v5 := Tryz.zeroValue5
  infoByte := by kernel_rfl
  cellsByte := by kernel_rfl
  sizeByte := by kernel_rfl
  neB5 := by decide }
open Go.RowKit in
theorem Tryz.strings_Join_none (a : Option Addr) (c : Nat) (sep : ByteArray) (w : World) :
    Calls Tryz.prog 61 #[.slice a 0 c, .string sep] w fun e w' => e = .returned (.string ⟨#[]⟩) ∧ w' = w := Any.strings_Join_none Tryz.lays156 Tryz.Builder_Extra_156 a c sep w
open Go.RowKit in
theorem Tryz.strings_Join (bk o c : Nat) (xs : List ByteArray) (sep : ByteArray) (w : World) (hcells : ∀ (j : Nat) x, xs[j]? = some x → w.cell? ⟨bk, o + j, none⟩ = some (.string x)) (hbk : bk < w.heap.size) (hN : xs.length ≤ 140737488355328) (hcap : xs.length ≤ c) (hlen : (Lib.join (xs.map (·.data.toList)) sep.data.toList).length ≤ 140737488355328) :
    Calls Tryz.prog 61 #[.slice (some ⟨bk, o, none⟩) xs.length c, .string sep] w fun e w' => e = .returned (.string ⟨(Lib.join (xs.map (·.data.toList)) sep.data.toList).toArray⟩) ∧ Below w.heap.size w w' := Any.strings_Join Tryz.lays156 Tryz.Builder_Extra_156 bk o c xs sep w hcells hbk hN hcap hlen
def Tryz.lays171_ren : Go.Shelf.Ren := ⟨fun | 171 => 49 | 243 => 75 | 246 => 101 | 283 => 134 | 284 => 135 | 285 => 136 | 286 => 137 | 129 => 132 | 317 => 149 | 318 => 150 | 319 => 151 | 320 => 152 | 337 => 157 | 338 => 158 | n => n, fun | 3 => 3 | 9 => 9 | 2 => 2 | 4 => 4 | 171 => 215 | 0 => 0 | 53 => 214 | 37 => 172 | 5 => 5 | 173 => 217 | 212 => 231 | 51 => 212 | 20 => 20 | 213 => 232 | 46 => 183 | 232 => 239 | 233 => 240 | n => n, fun | 17 => 0 | 18 => 2 | 19 => 3 | n => n⟩
theorem Tryz.lays171 : Go.Proofs.Lays.n171 Tryz.prog Tryz.lays171_ren := {
  mixed := by kernel_rfl
  f129 := Tryz.func132.trans (congrArg some (by kernel_rfl))
  f171 := Tryz.func49.trans (congrArg some (by kernel_rfl))
  f243 := Tryz.func75.trans (congrArg some (by kernel_rfl))
  f246 := Tryz.func101.trans (congrArg some (by kernel_rfl))
  f283 := Tryz.func134.trans (congrArg some (by kernel_rfl))
  f284 := Tryz.func135.trans (congrArg some (by kernel_rfl))
  f285 := Tryz.func136.trans (congrArg some (by kernel_rfl))
  f286 := Tryz.func137.trans (congrArg some (by kernel_rfl))
  f317 := Tryz.func149.trans (congrArg some (by kernel_rfl))
  f318 := Tryz.func150.trans (congrArg some (by kernel_rfl))
  f319 := Tryz.func151.trans (congrArg some (by kernel_rfl))
  f320 := Tryz.func152.trans (congrArg some (by kernel_rfl))
  f337 := Tryz.func157.trans (congrArg some (by kernel_rfl))
  f338 := Tryz.func158.trans (congrArg some (by kernel_rfl))
  t0 := Tryz.underlying0
  a0 := Tryz.isAgg0
  z0 := Tryz.sizeOf0
  v0 := Tryz.zeroValue0
  t2 := Tryz.underlying2
  a2 := Tryz.isAgg2
  z2 := Tryz.sizeOf2
  v2 := Tryz.zeroValue2
  t3 := Tryz.underlying3
  a3 := Tryz.isAgg3
  z3 := Tryz.sizeOf3
  v3 := Tryz.zeroValue3
  t4 := Tryz.underlying4
  a4 := Tryz.isAgg4
  z4 := Tryz.sizeOf4
  v4 := Tryz.zeroValue4
  t5 := Tryz.underlying5
  a5 := Tryz.isAgg5
  z5 := Tryz.sizeOf5
  v5 := Tryz.zeroValue5
  t9 := Tryz.underlying9
  a9 := Tryz.isAgg9
  z9 := Tryz.sizeOf9
  v9 := Tryz.zeroValue9
  t20 := Tryz.underlying20
  a20 := Tryz.isAgg20
  z20 := Tryz.sizeOf20
  v20 := Tryz.zeroValue20
  t37 := Tryz.underlying172
  a37 := Tryz.isAgg172
  z37 := Tryz.sizeOf172
  v37 := Tryz.zeroValue172
  t46 := Tryz.underlying183
  a46 := Tryz.isAgg183
  z46 := Tryz.sizeOf183
  v46 := Tryz.zeroValue183
  t51 := Tryz.underlying212
  a51 := Tryz.isAgg212
  z51 := Tryz.sizeOf212
  v51 := Tryz.zeroValue212
  t53 := Tryz.underlying214
  a53 := Tryz.isAgg214
  z53 := Tryz.sizeOf214
  v53 := Tryz.zeroValue214
  t171 := Tryz.underlying215
  a171 := Tryz.isAgg215
  z171 := Tryz.sizeOf215
  v171 := Tryz.zeroValue215
  t173 := Tryz.underlying217
  a173 := Tryz.isAgg217
  z173 := Tryz.sizeOf217
  v173 := Tryz.zeroValue217
  t212 := Tryz.underlying231
  a212 := Tryz.isAgg231
  z212 := Tryz.sizeOf231
  v212 := Tryz.zeroValue231
  t213 := Tryz.underlying232
  a213 := Tryz.isAgg232
  z213 := Tryz.sizeOf232
  t232 := Tryz.underlying239
  a232 := Tryz.isAgg239
  z232 := Tryz.sizeOf239
  v232 := Tryz.zeroValue239
  t233 := Tryz.underlying240
  a233 := Tryz.isAgg240
  z233 := Tryz.sizeOf240
  v233 := Tryz.zeroValue240
  g17 := by kernel_rfl
  g18 := by kernel_rfl
  g19 := by kernel_rfl }
open Go.RowKit Go.Sort Go.Lib in
theorem Tryz.strconv_Itoa_small (i : Nat) (hi : i < 100) (w : World) :
    Calls Tryz.prog 49 #[.int .i64 i] w fun e w' => e = .returned (.string ⟨(Lib.decDigits i).toArray⟩) ∧ w' = w := Any.strconv_Itoa_small Tryz.lays171 i hi w
def Tryz.lays110_ren : Go.Shelf.Ren := ⟨fun | 110 => 69 | 109 => 96 | n => n, fun | 31 => 22 | 9 => 9 | 4 => 4 | 3 => 3 | 0 => 0 | n => n, fun | n => n⟩
theorem Tryz.lays110 : Go.Proofs.Lays.n110 Tryz.prog Tryz.lays110_ren := {
  mixed := by kernel_rfl
  f109 := Tryz.func96.trans (congrArg some (by kernel_rfl))
  f110 := Tryz.func69.trans (congrArg some (by kernel_rfl))
  t0 := Tryz.underlying0
  a0 := Tryz.isAgg0
  z0 := Tryz.sizeOf0
  v0 := Tryz.zeroValue0
  t3 := Tryz.underlying3
  a3 := Tryz.isAgg3
  z3 := Tryz.sizeOf3
  v3 := Tryz.zeroValue3
  t4 := Tryz.underlying4
  a4 := Tryz.isAgg4
  z4 := Tryz.sizeOf4
  v4 := Tryz.zeroValue4
  t9 := Tryz.underlying9
  a9 := Tryz.isAgg9
  z9 := Tryz.sizeOf9
  v9 := Tryz.zeroValue9
  t31 := Tryz.underlying22
  a31 := Tryz.isAgg22
  z31 := Tryz.sizeOf22
  v31 := Tryz.zeroValue22 }
open Go.Lib in
theorem Tryz.slices_Contains_string (b off n c : Nat) (zs : List ByteArray) (x : ByteArray) (w : World) (hz : n ≤ zs.length) (hbig : n ≤ 9223372036854775807) (hc : ∀ j, j < zs.length → w.cell? ⟨b, off + j, none⟩ = some (.string (zs.getD j ByteArray.empty))) :
    Calls Tryz.prog 69 #[.slice (some ⟨b, off, none⟩) n c, .string x] w fun e w' => e = .returned (.bool (Lib.containsS (zs.take n) x)) ∧ w' = w := Any.slices_Contains_string Tryz.lays110 b off n c zs x w hz hbig hc
open Go.Lib in
theorem Tryz.slices_Contains_string_empty (a : Option Addr) (c : Nat) (x : ByteArray) (w : World) :
    Calls Tryz.prog 69 #[.slice a 0 c, .string x] w fun e w' => e = .returned (.bool false) ∧ w' = w := Any.slices_Contains_string_empty Tryz.lays110 a c x w
def Tryz.laysNm216_ren : Go.Shelf.Ren := ⟨fun | 16 => 88 | n => n, fun | 24 => 22 | 9 => 9 | 4 => 4 | n => n, fun | n => n⟩
theorem Tryz.laysNm216 : Go.Proofs.Lays2.n16 Tryz.prog Tryz.laysNm216_ren := {
  mixed := by kernel_rfl
  f16 := Tryz.func88.trans (congrArg some (by kernel_rfl))
  t4 := Tryz.underlying4
  a4 := Tryz.isAgg4
  z4 := Tryz.sizeOf4
  v4 := Tryz.zeroValue4
  t9 := Tryz.underlying9
  a9 := Tryz.isAgg9
  z9 := Tryz.sizeOf9
  v9 := Tryz.zeroValue9
  t24 := Tryz.underlying22
  a24 := Tryz.isAgg22
  z24 := Tryz.sizeOf22
  v24 := Tryz.zeroValue22
  i9 := by kernel_rfl }
open Go.RowKit Go.Lib in
theorem Tryz.slices_Clone_string (b off n c : Nat) (zs : List ByteArray) (w : World) (hz : n ≤ zs.length) (hbig : n * 16 ≤ 140737488355328) (hc : ∀ j, j < zs.length → w.cell? ⟨b, off + j, none⟩ = some (.string (zs.getD j ByteArray.empty))) :
    Calls Tryz.prog 88 #[.slice (some ⟨b, off, none⟩) n c] w fun e w' => ∃ v', e = .returned v' ∧ w'.ownsRow w.heap.size 9 1 v' n ((zs.take n).map (Value.string)) ∧ v' ≠ .slice none 0 0 ∧ Below w.heap.size w w' := Any.slices_Clone_string Tryz.laysNm216 b off n c zs w hz hbig hc
open Go.RowKit Go.Lib in
theorem Tryz.slices_Clone_string_nil (n c : Nat) (w : World) :
    Calls Tryz.prog 88 #[.slice none n c] w fun e w' => e = .returned (.slice none 0 0) ∧ w' = w := Any.slices_Clone_string_nil Tryz.laysNm216 n c w
open Go.RowKit Go.Lib in
theorem Tryz.slices_Clone_string_zero (a : Addr) (c : Nat) (w : World) :
    Calls Tryz.prog 88 #[.slice (some a) 0 c] w fun e w' => ∃ v', e = .returned v' ∧ w'.ownsRow w.heap.size 9 1 v' 0 [] ∧ v' ≠ .slice none 0 0 ∧ Below w.heap.size w w' := Any.slices_Clone_string_zero Tryz.laysNm216 a c w
end Go.Proofs
namespace Go.Proofs.YtdinloecgaapaaaGreatDoor
open Go.RowKit Go.Maps Go.Lib
set_option linter.unusedVariables false
set_option maxRecDepth 100000

theorem str_info : (Tryz.prog.info? 9).map (fun i => (i.zero, i.size, i.bytes)) = some (some (.string ⟨#[]⟩), 1, 16) := by kernel_rfl
theorem Rs.of_row {w : World} {base g cap : Nat} {e : TypeId} {L : List ByteArray} (h : w.ownsRow base e 1 (.slice (some ⟨g, 0, none⟩) L.length cap) L.length (L.map Value.string)) : Rs w w.heap.size (some ⟨g, 0, none⟩) L := fun hl => by
  refine ⟨g, 0, rfl, (h.lt g rfl).2, fun i x hx => ?_⟩
  rw [Nat.zero_add, h.cellAt i (by have := (List.getElem?_eq_some_iff.1 hx).1; omega)]
  simp [hx]

set_option maxHeartbeats 2000000 in
theorem line_nil (po bk o c : Nat) (xs : List ByteArray) (J : ByteArray) (w : World) (hc : w.heap[po]? = some (.cells #[.slice none 0 0] 22 (0, 0))) (hcells : ∀ (j : Nat) x, xs[j]? = some x → w.cell? ⟨bk, o + j, none⟩ = some (.string x)) (hbk : bk < w.heap.size) (hN : xs.length ≤ 100) (hcap : xs.length ≤ c) (hJ : J = ⟨(Lib.join (xs.map (·.data.toList)) [32]).toArray⟩) (hlen : J.size ≤ 1000000) :
    Calls Tryz.prog 60 #[.slice (some ⟨bk, o, none⟩) xs.length c, .pointer (some ⟨po, 0, none⟩)] w fun e w' =>
      e = .returned (.tuple #[]) ∧ ∃ g cap, w'.cell? ⟨po, 0, none⟩ = some (.slice (some ⟨g, 0, none⟩) 1 cap) ∧ Rs w' w'.heap.size (some ⟨g, 0, none⟩) [J] ∧ Kp (fun k => k = po) w w' := by
  obtain ⟨i0, hi0, hy0, hy1, hy2⟩ := info_parts str_info
  have hpo : po < w.heap.size := (Array.getElem?_eq_some_iff.1 hc).1
  have c1 : w.cell? ⟨po, 0, none⟩ = some (.slice none 0 0) := by simp [World.cell?, hc]
  have f1 : w.frozen? ⟨po, 0, none⟩ = false := by simp [World.frozen?, hc]
  have hC : Calls Tryz.prog 61 #[.slice (some ⟨bk, o, none⟩) xs.length c, .string ⟨#[32]⟩] w.drew fun e w' => e = .returned (.string J) ∧ Below w.heap.size w.drew w' := by
    have hl : (Lib.join (xs.map (·.data.toList)) [32]).length ≤ 140737488355328 := by
      rw [hJ] at hlen
      have : (Lib.join (xs.map (·.data.toList)) [32]).length ≤ 1000000 := by
        change (Lib.join (xs.map (·.data.toList)) [32]).toArray.size ≤ 1000000 at hlen
        simpa using hlen
      omega
    rw [hJ]
    exact Tryz.strings_Join bk o c xs ⟨#[32]⟩ w.drew hcells hbk (by omega) hcap hl
  have HC := Lib.hid hC
  have Hc := Lib.hid hc
  clear hC hcells hJ hc
  go_enter Tryz.func60, Tryz.ntmps60
  go_wp2_with fail
  go_region_law (first
    | (go_simp; go_at_call 61; refine HC.out.mono ?_; rintro e w5 ⟨rfl, hb5⟩; have c5 : w5.cell? ⟨po, 0, none⟩ = some (.slice none 0 0) := (hb5.cell (p := ⟨po, 0, none⟩) hpo).trans c1; have f5 : w5.frozen? ⟨po, 0, none⟩ = false := (hb5.frozen (p := ⟨po, 0, none⟩) hpo).trans f1; have c5' : (w5.alloc (.cells #[.string J] 9)).cell? ⟨po, 0, none⟩ = some (.slice none 0 0) := Lib.cell?_alloc_some _ c5; have hs5 : w.heap.size ≤ w5.heap.size := hb5.size; have HB5 := Lib.hid (show Below w.heap.size w w5 from ⟨hb5.os, hb5.tape, hb5.output, hb5.size, hb5.block⟩); clear hb5)
    | ((try simp only [Act.put, List.setIfInBounds_toArray, List.set_cons_zero, List.set_cons_succ]); rw [if_pos (by rfl)]; refine wp_append_lies _ (.tmp 3) (.tmp 6) 22 (by rfl) w.heap.size 9 i0 _ 1 16 Tryz.underlying22 hi0 hy0 hy1 hy2 rfl (by decide) (.slice none 0 0) 0 [] (by rfl) (World.ownsRow_nil _ _ _ _) ⟨w5.heap.size, 0, none⟩ 1 1 [.string J] (by rfl) rfl (World.news_of_block (cs := #[.string J]) (t := 9) (fr := (0, 0)) (heap_alloc_new w5 _)) (by simp [Value.oneCell']) (by decide) (by unfold maxLen; omega) (by omega) (by simp; omega) (w5.heap.size + 1) (by simp) ?_; intro g cap w6 hown6 hg6 hloc6 hlt6; have c6 : w6.cell? ⟨po, 0, none⟩ = some (.slice none 0 0) := (hg6.cell_far ⟨po, 0, none⟩ (by simp; omega) (by simp [Value.ownBlock])).trans (Lib.cell?_alloc_some _ c5); have f6 : w6.frozen? ⟨po, 0, none⟩ = false := (hg6.frozen_far ⟨po, 0, none⟩ (by simp; omega) (by simp [Value.ownBlock])).trans ((World.frozen?_of_block (w := w5) (a := ⟨po, 0, none⟩) (Below.heap_alloc w5 _ po (by omega))).trans f5)))
  all_goals
    clear c1 c5 c5' c6 f1 f5 f6 HC
    have hpg : po ≠ g := by
      rcases hloc6 with e | e
      · simp [Value.ownBlock] at e
      · omega
    have hs6 := hg6.size
    rw [show (w5.alloc (.cells #[.string J] 9)).heap.size = w5.heap.size + 1 from by simp] at hs6
    have hown6' : w6.ownsRow w.heap.size 9 1 (.slice (some ⟨g, 0, none⟩) [J].length cap) [J].length ([J].map Value.string) := by simpa using hown6
    have HR6 := Lib.hid (Rs.of_row (ownsRow_setCell_other hown6' (a := ⟨po, 0, none⟩) (by simp [Value.ownBlock]; exact fun e => hpg e.symm) (.slice (some ⟨g, 0, none⟩) 1 cap)))
    have HK := Lib.hid (show Kp (fun k => k = po) w (w6.setCell ⟨po, 0, none⟩ (.slice (some ⟨g, 0, none⟩) 1 cap)) from by
      have k1 : Kp (fun k => k = po) w w6 := by
        have h1 := (Kp.of_below (fun k => k = po) HB5.out)
        have h2 : Kp (fun k => k = po) w5 (w5.alloc (.cells #[.string J] 9)) := Kp.of_below _ ((Below.refl _ _).alloc (Nat.le_refl _) _)
        have h3 : Kp (fun k => k = po) (w5.alloc (.cells #[.string J] 9)) w6 := (Kp.of_grown hg6).mono (fun k _ e => by simp [Value.ownBlock] at e)
        exact (h1.trans h2).trans h3
      exact k1.trans ⟨rfl, rfl, rfl, by simp, fun k _ hn => heap_setCell_other w6 ⟨po, 0, none⟩ k _ hn⟩)
    have hcp : w6.heap[po]? = some (.cells #[.slice none 0 0] 22 (0, 0)) := (hg6.block po (by simp; omega) (by simp [Value.ownBlock])).trans ((Below.heap_alloc w5 _ po (by omega)).trans ((HB5.out.block po hpo).trans Hc.out))
    have Hcell := Lib.hid (show (w6.setCell ⟨po, 0, none⟩ (.slice (some ⟨g, 0, none⟩) 1 cap)).cell? ⟨po, 0, none⟩ = some (.slice (some ⟨g, 0, none⟩) 1 cap) from by
      have := heap_setCell_same w6 po 0 #[.slice none 0 0] 22 (.slice (some ⟨g, 0, none⟩) 1 cap) hcp
      simp [World.cell?, this])
    clear hown6 hown6' hg6 hloc6 hcp
    go_wp2
    go_end0
    exact ⟨rfl, g, cap, Hcell.out, HR6.out, HK.out⟩
end Go.Proofs.YtdinloecgaapaaaGreatDoor
