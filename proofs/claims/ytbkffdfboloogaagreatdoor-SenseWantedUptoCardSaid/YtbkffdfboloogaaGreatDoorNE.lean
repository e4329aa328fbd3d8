/- (*strings.Builder).WriteByte at this program: the shelf's contract. pack.List$1: lots are told. -/
import Derived.Test.YtbkffdfboloogaaGreatDoorFShelf
import Derived.Test.YtbkffdfboloogaaGreatDoorMC
import Derived.Test.YtbkffdfboloogaaGreatDoorMS
import Derived.Test.YtbkffdfboloogaaGreatDoorMU
import Derived.Test.YtbkffdfboloogaaGreatDoorMP
namespace Go.Proofs
open Go.Shelf Go.RowKit Go.Lib
set_option maxRecDepth 100000

def Tryz.lays167_ren : Go.Shelf.Ren := ⟨fun | 167 => 83 | 240 => 112 | 276 => 136 | n => n, fun | 9 => 9 | 4 => 4 | 0 => 0 | 20 => 20 | 72 => 121 | 70 => 119 | 37 => 114 | 75 => 100 | 164 => 168 | 5 => 5 | 80 => 129 | n => n, fun | n => n⟩
theorem Tryz.lays167 : Go.Proofs.Lays.n167 Tryz.prog Tryz.lays167_ren := {
  mixed := by kernel_rfl
  f167 := Tryz.func83.trans (congrArg some (by kernel_rfl))
  f240 := Tryz.func112.trans (congrArg some (by kernel_rfl))
  f276 := Tryz.func136.trans (congrArg some (by kernel_rfl))
  t0 := Tryz.underlying0
  a0 := Tryz.isAgg0
  z0 := Tryz.sizeOf0
  v0 := Tryz.zeroValue0
  t4 := Tryz.underlying4
  a4 := Tryz.isAgg4
  z4 := Tryz.sizeOf4
  v4 := Tryz.zeroValue4
  t5 := Tryz.underlying5
  a5 := Tryz.isAgg5
  z5 := Tryz.sizeOf5
  v5 := Tryz.zeroValue5
  t9 := Tryz.underlying9
  a9 := Tryz.isAgg9
  z9 := Tryz.sizeOf9
  v9 := Tryz.zeroValue9
  t20 := Tryz.underlying20
  a20 := Tryz.isAgg20
  z20 := Tryz.sizeOf20
  v20 := Tryz.zeroValue20
  t37 := Tryz.underlying114
  a37 := Tryz.isAgg114
  z37 := Tryz.sizeOf114
  v37 := Tryz.zeroValue114
  t70 := Tryz.underlying119
  a70 := Tryz.isAgg119
  z70 := Tryz.sizeOf119
  v70 := Tryz.zeroValue119
  t72 := Tryz.underlying121
  a72 := Tryz.isAgg121
  z72 := Tryz.sizeOf121
  v72 := Tryz.zeroValue121
  t75 := Tryz.underlying100
  a75 := Tryz.isAgg100
  z75 := Tryz.sizeOf100
  v75 := Tryz.zeroValue100
  t164 := Tryz.underlying168
  a164 := Tryz.isAgg168
  z164 := Tryz.sizeOf168
  v164 := Tryz.zeroValue168 }
theorem Tryz.Builder_Extra_167 : Builder.Extra Tryz.prog Tryz.lays167_ren := {
  sizeBuilder := by kernel_rfl
  liesBuilder := by kernel_rfl
  t5 := Tryz.underlying5
  a5 := Tryz.isAgg5
  z5 := Tryz.sizeOf5
  v5 := Tryz.zeroValue5
  infoByte := by kernel_rfl
  cellsByte := by kernel_rfl
  sizeByte := by kernel_rfl
  neB5 := by decide }
theorem Tryz.Builder_WriteByte_k (B b : Nat) (bs : List Value) (c : Int) (w : World) (h : Lib.IsBuilderF 121 5 B b bs w) (hlen : bs.length + 1 ≤ 140737488355328) (hBw : B ≤ w.heap.size) :
    Calls Tryz.prog 83 #[.pointer (some ⟨b, 0, none⟩), .int .u8 c] w fun e w' => e = .returned .nilIface ∧ (Lib.BuilderAtF 121 5 B b (.pointer (some ⟨b, 0, none⟩)) (bs ++ [.int .u8 c]) w' ∧ Below B w w' ∧ Lib.OthersKept 5 (some b) w w') := Any.Builder_WriteByte_k Tryz.lays167 Tryz.Builder_Extra_167 B b bs c w h hlen hBw
end Go.Proofs
namespace Go.Proofs.YtbkffdfboloogaaGreatDoor
open Go.RowKit Go.Lib
set_option linter.unusedVariables false
set_option maxRecDepth 100000

/-- what is told of a lot, of lots -/
def lotL (x : Lt) : Bs := [32] ++ x.g.data.toList ++ [58] ++ itL x.c
def lotsL (l : List Lt) : Bs := l.flatMap lotL
theorem lot_len {x : Lt} (h : LtOk x) : (lotL x).length ≤ 1048600 := by
  have h1 := h.1
  have h2 := it_len h.2.1 h.2.2
  have h3 : x.g.data.toList.length = x.g.size := Array.length_toList
  unfold lotL
  simp only [List.length_append, List.length_cons, List.length_nil, h3]
  omega
theorem lots_len (l : List Lt) : (∀ x ∈ l, LtOk x) → (lotsL l).length ≤ l.length * 1048600 := by
  induction l with
  | nil => intro _; simp [lotsL]
  | cons x l ih =>
    intro h
    have h1 := lot_len (h x (by simp))
    have h2 := ih fun y hy => h y (by simp [hy])
    unfold lotsL at *
    rw [List.flatMap_cons, List.length_append, List.length_cons, Nat.add_mul]
    omega
theorem lotsL_take (l : List Lt) (k : Nat) (h : k < l.length) : lotsL (l.take (k + 1)) = lotsL (l.take k) ++ lotL l[k] := by
  unfold lotsL
  rw [← List.take_append_getElem h, List.flatMap_append]
  simp
/-- a byte more -/
theorem byte_bld (B b : Nat) (l : Bs) (c : UInt8) (w : World) (h : Bw w B b l) (hlen : l.length + 1 ≤ 140737488355328) (hB : B ≤ w.heap.size) :
    Calls Tryz.prog 83 #[.pointer (some ⟨b, 0, none⟩), .int .u8 (c.toNat : Int)] w fun e w' => e = .returned .nilIface ∧ Bw w' B b (l ++ [c]) ∧ Fr B b w w' := by
  refine (Tryz.Builder_WriteByte_k B b (Lib.byteCells l) (c.toNat : Int) w h (by rw [Lib.byteCells_length]; omega) hB).mono ?_
  rintro e w' ⟨rfl, h1, h2, h3⟩
  refine ⟨rfl, ?_, ⟨h2, h3⟩⟩
  unfold Bw
  rw [Lib.byteCells_append]
  exact .inr h1
/-- a text more, however long -/
theorem write_big (B b : Nat) (l : Bs) (s : ByteArray) (w : World) (h : Bw w B b l) (hlen : l.length + s.size ≤ 140737488355328) (hB : B ≤ w.heap.size) :
    Calls Tryz.prog 82 #[.pointer (some ⟨b, 0, none⟩), .string s] w fun e w' => e = .returned (.tuple #[.int .i64 s.size, .nilIface]) ∧ Bw w' B b (l ++ s.data.toList) ∧ Fr B b w w' := by
  refine (Tryz.Builder_WriteString_k B b (Lib.byteCells l) s w h (by rw [Lib.byteCells_length]; omega) hB).mono ?_
  rintro e w' ⟨rfl, h1, h2, h3⟩
  refine ⟨rfl, ?_, ⟨h2, h3⟩⟩
  unfold Bw
  rw [Lib.byteCells_append]
  exact .inr h1
def tellE (l0 : Bs) (L : List Lt) : Bs := l0 ++ lotsL L ++ [10]
set_option maxHeartbeats 4000000 in
theorem tellW_any (L : List Lt) (A : Option Addr) (c B b : Nat) (l0 : Bs) (w : World) (hW : Bw w B b l0) (hB : B ≤ w.heap.size) (h8 : 8 ≤ B) (hG : Gl w) (hK : ∀ W, Fr B b w W → Lts W W.heap.size A L) (hl : L.length ≤ 1048576) (hok : ∀ x ∈ L, LtOk x) (hlen : l0.length ≤ 10000000000000) :
    Calls Tryz.prog 81 #[.slice A L.length c, .pointer (some ⟨b, 0, none⟩)] w fun e w' => e = .returned (.tuple #[]) ∧ Bw w' B b (tellE l0 L) ∧ Fr B b w w' := by
  have HK := Lib.hid hK
  have HOk := Lib.hid hok
  have HG : Hid (∀ W, Fr B b w W → Gl W) := Lib.hid (fun W h => hG.low h.below h8)
  have HLen : Hid (∀ k, k ≤ L.length → (l0 ++ lotsL (L.take k)).length ≤ 12000000000000) := Lib.hid (fun k hk => by
    have h1 := lots_len (L.take k) fun x hx => hok x (List.mem_of_mem_take hx)
    have h2 : (L.take k).length ≤ 1048576 := by rw [List.length_take]; omega
    have h3 : (L.take k).length * 1048600 ≤ 1048576 * 1048600 := Nat.mul_le_mul_right _ h2
    rw [List.length_append]
    omega)
  have HW0 := Lib.hid hW
  have HEnd : Hid (∀ W, Fr B b w W → Bw W B b (l0 ++ lotsL L) → Calls Tryz.prog 83 #[.pointer (some ⟨b, 0, none⟩), .int .u8 10] W fun e w' => e = .returned .nilIface ∧ Bw w' B b (tellE l0 L) ∧ Fr B b w w') := Lib.hid (fun W hF hb => by
    refine (byte_bld B b _ 10 W hb (by have := HLen.out L.length (Nat.le_refl _); rw [List.take_length] at this; omega) (Nat.le_trans hB hF.size)).mono ?_
    rintro e w' ⟨rfl, h1, h2⟩
    exact ⟨rfl, h1, hF.trans h2⟩)
  clear hW hG hK hok
  unfold tellE at HEnd ⊢
  generalize hE : l0 ++ lotsL L ++ [10] = fin at *
  clear hE
  go_enter Tryz.func81, Tryz.ntmps81
  go_wp2_with fail
  go_loopw [7] (fun i wr => ∃ k : Nat, k ≤ L.length ∧ i = .int .i64 (k : Int) ∧ Hid (Bw wr B b (l0 ++ lotsL (L.take k))) ∧ Hid (Fr B b w wr)) (fun i _ => L.length - (RowKit.intOf i).toNat)
  case atStart => exact ⟨0, Nat.zero_le _, rfl, Lib.hid (by simpa [lotsL] using HW0.out), Lib.hid (Fr.refl _ _ _)⟩
  case round =>
    clear HW0
    obtain ⟨k, hk, rfl, HBw, HF⟩ := hrel
    have hsz := HF.out.size
    by_cases hlt : k < L.length
    · have b1 : (k : Int) < (L.length : Int) := by omega
      have b0 : (0 : Int) ≤ (k : Int) := by omega
      obtain ⟨g, off, rfl, hgb, c0, c1⟩ := (HK.out wr HF.out).at_ hlt
      have hx := HOk.out _ (List.getElem_mem hlt)
      have HTk := Lib.hid (lotsL_take L k hlt)
      have hle := HLen.out k hk
      obtain ⟨x, hxe⟩ : ∃ x, L[k] = x := ⟨_, rfl⟩
      rw [hxe] at c0 c1 hx HTk
      clear hxe
      have hgs := hx.1
      have hds : (itL x.c).length ≤ 20 := it_len hx.2.1 hx.2.2
      have HF1 : Hid (Fr B b w (wr.alloc (.cells #[.string x.g, .int .i64 x.c] 123))) := Lib.hid (HF.out.alloc (by omega) _)
      have HB1 := Lib.hid (HBw.out.alloc (.cells #[.string x.g, .int .i64 x.c] 123))
      have k0 : (wr.alloc (.cells #[.string x.g, .int .i64 x.c] 123)).cell? ⟨wr.heap.size, 0, none⟩ = some (.string x.g) := by simp
      have k1 : (wr.alloc (.cells #[.string x.g, .int .i64 x.c] 123)).cell? ⟨wr.heap.size, 1, none⟩ = some (.int .i64 x.c) := by simp
      have hz1 : (wr.alloc (.cells #[.string x.g, .int .i64 x.c] 123)).heap.size = wr.heap.size + 1 := by simp
      have HIt : Hid (∀ W, Fr B b w W → Calls Tryz.prog 80 #[.int .i64 x.c] W fun e w' => e = .returned (.string ⟨(itL x.c).toArray⟩) ∧ Below W.heap.size W w') := Lib.hid (fun W h => itoa_any x.c W (HG.out W h) hx.2.1 hx.2.2)
      have hS : (⟨#[32]⟩ ++ x.g ++ ⟨#[58]⟩ ++ ⟨(itL x.c).toArray⟩ : ByteArray).data.toList = lotL x := by rw [tl_app, tl_app, tl_app]; rfl
      have hSz : (⟨#[32]⟩ ++ x.g ++ ⟨#[58]⟩ ++ ⟨(itL x.c).toArray⟩ : ByteArray).size ≤ 1048600 := by
        have : (⟨#[32]⟩ ++ x.g ++ ⟨#[58]⟩ ++ ⟨(itL x.c).toArray⟩ : ByteArray).data.toList.length = (⟨#[32]⟩ ++ x.g ++ ⟨#[58]⟩ ++ ⟨(itL x.c).toArray⟩ : ByteArray).size := Array.length_toList
        rw [← this, hS]
        exact lot_len hx
      have HWr : Hid (∀ W, Bw W B b (l0 ++ lotsL (L.take k)) → Fr B b w W → Calls Tryz.prog 82 #[.pointer (some ⟨b, 0, none⟩), .string (⟨#[32]⟩ ++ x.g ++ ⟨#[58]⟩ ++ ⟨(itL x.c).toArray⟩)] W fun e w' => (∃ v, e = .returned v) ∧ Bw w' B b (l0 ++ lotsL (L.take (k + 1))) ∧ Fr B b w w') := Lib.hid (fun W hb hF => by
        refine (write_big B b _ _ W hb (by omega) (Nat.le_trans hB hF.size)).mono ?_
        rintro e w' ⟨rfl, h1, h2⟩
        rw [hS, List.append_assoc, ← HTk.out] at h1
        exact ⟨⟨_, rfl⟩, h1, hF.trans h2⟩)
      have hdn : (⟨(itL x.c).toArray⟩ : ByteArray).size ≤ 20 := hds
      have HOn : Hid (∀ W, Below (wr.heap.size + 1) (wr.alloc (.cells #[.string x.g, .int .i64 x.c] 123)) W → Bw W B b (l0 ++ lotsL (L.take k)) ∧ Fr B b w W ∧ W.cell? ⟨wr.heap.size, 0, none⟩ = some (.string x.g) ∧ W.cell? ⟨wr.heap.size, 1, none⟩ = some (.int .i64 x.c)) := Lib.hid (fun W hb => by
        have hb' : Below (wr.alloc (.cells #[.string x.g, .int .i64 x.c] 123)).heap.size (wr.alloc (.cells #[.string x.g, .int .i64 x.c] 123)) W := by rw [hz1]; exact hb
        exact ⟨HB1.out.below hb', HF1.out.trans (Fr.of_below hb' (by omega)), (hb.cell (p := ⟨wr.heap.size, 0, none⟩) (by show wr.heap.size < _; omega)).trans k0, (hb.cell (p := ⟨wr.heap.size, 1, none⟩) (by show wr.heap.size < _; omega)).trans k1⟩)
      clear hS hSz hx hle HBw HTk hds
      generalize (⟨(itL x.c).toArray⟩ : ByteArray) = dn at *
      generalize x.g = xg at *
      generalize x.c = xc at *
      have u0 : (⟨#[32]⟩ : ByteArray).size = 1 := rfl
      have u0' : (⟨#[58]⟩ : ByteArray).size = 1 := rfl
      have u1 : ¬ (9223372036854775807 < 1 + xg.size) := by omega
      have u2 : 1 + xg.size ≤ 9223372036854775807 := by omega
      have u3 : (⟨#[32]⟩ ++ xg : ByteArray).size = 1 + xg.size := by rw [ByteArray.size_append]; rfl
      have u4 : (⟨#[32]⟩ ++ xg ++ ⟨#[58]⟩ : ByteArray).size = 1 + xg.size + 1 := by rw [ByteArray.size_append, u3]; rfl
      have u5 : ¬ (9223372036854775807 < 1 + xg.size + 1) := by omega
      have u6 : 1 + xg.size + 1 ≤ 9223372036854775807 := by omega
      have u7 : ¬ (9223372036854775807 < 1 + xg.size + 1 + dn.size) := by omega
      have u8 : 1 + xg.size + 1 + dn.size ≤ 9223372036854775807 := by omega
      go_wp2_with fail
      obtain ⟨W1, hW1⟩ : ∃ W1, W1 = wr.alloc (.cells #[.string xg, .int .i64 xc] 123) := ⟨_, rfl⟩
      rw [← hW1] at HOn HF1 HB1 k0 k1 hz1 ⊢
      clear hW1
      go_region_with (first
        | (go_at_call 80; refine (HIt.out _ (by first | exact HF1.out | exact HF1.out.drew)).mono ?_; rintro e w2 ⟨rfl, hb2⟩; have hb2' : Below (wr.heap.size + 1) W1 w2 := (by rw [← hz1]; first | exact hb2 | exact drewB hb2); obtain ⟨HB2', HF2', j0, j1⟩ := HOn.out w2 hb2'; have HB2 := Lib.hid HB2'; have HF2 := Lib.hid HF2'; clear hb2 hb2' HB2' HF2')
        | (go_at_call 82; refine (HWr.out _ (by first | exact HB2.out | exact HB2.out.drew) (by first | exact HF2.out | exact HF2.out.drew)).mono ?_; rintro e w3 ⟨⟨v, rfl⟩, hb3, hf3⟩; have HB3 := Lib.hid hb3; have HF3 := Lib.hid hf3; clear hb3 hf3)
        | fail)
      all_goals
        go_wp2_with fail
        go_roundw
        case rel => exact ⟨k + 1, by omega, by go_num, HB3, HF3⟩
        case measure => simp [RowKit.intOf]; omega
    · have b1 : ¬ (k : Int) < (L.length : Int) := by omega
      have HBf : Hid (Bw wr B b (l0 ++ lotsL L)) := Lib.hid (by
        have := HBw.out
        rwa [List.take_of_length_le (by omega)] at this)
      have HE2 := Lib.hid (HEnd.out wr HF.out HBf.out)
      go_wp2_with (first
        | (go_at_call 83; (with_reducible refine HE2.out.mono ?_); rintro e w3 ⟨rfl, hb3, hf3⟩; have HB3 := Lib.hid hb3; have HF3 := Lib.hid hf3; clear hb3 hf3)
        | fail)
      refine bodyPost_end (results_none rfl _ _ _) rfl ?_
      exact ⟨rfl, HB3.out, HF3.out⟩
end Go.Proofs.YtbkffdfboloogaaGreatDoor
