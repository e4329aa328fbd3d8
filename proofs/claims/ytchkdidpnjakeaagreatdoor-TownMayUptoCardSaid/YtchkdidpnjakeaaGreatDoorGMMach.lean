/- (*town.Town).machine: a machine comes back. Plain mathematics for the seal's statements: digests, names. No program in sight. seal.Digest: some text comes back. Stores and books without writes. -/
import Derived.Test.YtchkdidpnjakeaaGreatDoorMNewO
import Derived.Test.YtchkdidpnjakeaaGreatDoorMNewC
import Derived.Test.YtchkdidpnjakeaaGreatDoorBNew
import Derived.Test.YtchkdidpnjakeaaGreatDoorMCopy
import Derived.WalkKit
import Derived.WalkSpells
import Derived.WalkLawsBesides
import Derived.Test.YtchkdidpnjakeaaGreatDoorProg
import Derived.Lib.Hide
import Derived.Test.YtchkdidpnjakeaaGreatDoorGBNew3
import Derived.Test.YtchkdidpnjakeaaGreatDoorGBLz
namespace Go.Proofs.YtchkdidpnjakeaaGreatDoor
open Go.RowKit Go.Maps Go.Lib Led
set_option linter.unusedVariables false
set_option maxRecDepth 100000

/-- a town in block t, nothing done -/
def TwB (w : World) (t : Nat) (u : Su) (a : Sa) (NV SV DV : Value) : Prop := w.heap[t]? = some (.cells #[.slice a.PA u.par.length a.pc, .slice a.DA u.dl.length a.dc, .slice a.FA u.fd.length a.fc, .slice a.RA u.rest.length a.rc, .slice a.HA u.hol.length a.hc, NV, SV, DV, .int .i64 0, .slice none 0 0, .slice none 0 0] 58 (0, 0))
section
variable {w w' : World} {t : Nat} {u : Su} {a : Sa} {NV SV DV : Value}
theorem TwB.lt (h : TwB w t u a NV SV DV) : t < w.heap.size := (Array.getElem?_eq_some_iff.1 h).1
theorem TwB.below (h : TwB w t u a NV SV DV) {B : Nat} (hb : Below B w w') (ht : t < B) : TwB w' t u a NV SV DV := (hb.block t ht).trans h
theorem TwB.cells (h : TwB w t u a NV SV DV) : w.cell? ⟨t, 0, none⟩ = some (.slice a.PA u.par.length a.pc) ∧ w.cell? ⟨t, 5, none⟩ = some NV ∧ w.cell? ⟨t, 6, none⟩ = some SV ∧ w.cell? ⟨t, 7, none⟩ = some DV ∧ w.cell? ⟨t, 8, none⟩ = some (.int .i64 0) ∧ w.cell? ⟨t, 9, none⟩ = some (.slice none 0 0) := by
  unfold TwB at h
  exact ⟨by simp [World.cell?, h], by simp [World.cell?, h], by simp [World.cell?, h], by simp [World.cell?, h], by simp [World.cell?, h], by simp [World.cell?, h]⟩
theorem TwB.range (h : TwB w t u a NV SV DV) : w.rangeAt t 0 [.slice a.PA u.par.length a.pc, .slice a.DA u.dl.length a.dc, .slice a.FA u.fd.length a.fc, .slice a.RA u.rest.length a.rc, .slice a.HA u.hol.length a.hc] := fun j v hv => by
  unfold TwB at h
  show w.cell? ⟨t, 0 + j, none⟩ = some v
  rw [Nat.zero_add, World.cell?, h]
  match j, hv with
  | 0, hv => exact hv
  | 1, hv => exact hv
  | 2, hv => exact hv
  | 3, hv => exact hv
  | 4, hv => exact hv
end
def MiQ (w : World) (e : Ending) (w' : World) : Prop := ∃ ty p, e = .returned (.iface ty (.pointer (some ⟨p, 0, none⟩))) ∧ Below w.heap.size w w'
set_option maxHeartbeats 16000000 in
theorem machine_w {w : World} {t : Nat} {nm : ByteArray} {u : Su} {a : Sa} {NV SV DV : Value} (hT : TwB w t u a NV SV DV) (hA : SuAt w w.heap.size u a) (hz : SuSz u) (ho : SuOk u) (h8 : ∀ d ∈ u.dl, d.box.length ≤ 8) (h12 : 12 ≤ w.heap.size) (hnm : nm.size ≤ 1048576) :
    Calls Tryz.prog 50 #[.pointer (some ⟨t, 0, none⟩), .string nm] w fun e w' => MiQ w e w' := by
  have HT : Hid (∀ X, Below w.heap.size w X → TwB X t u a NV SV DV ∧ t < X.heap.size ∧ SuAt X w.heap.size u a) := Lib.hid fun X hX => ⟨hT.below hX hT.lt, Nat.lt_of_lt_of_le hT.lt hX.size, hA.below hX⟩
  have HZ := Lib.hid hz
  have hp16 := hz.few.par
  have HF : Hid (∀ ty p X, Below w.heap.size w X → MiQ w (.returned (.iface ty (.pointer (some ⟨p, 0, none⟩)))) X) := Lib.hid fun ty p X h => ⟨ty, p, rfl, h⟩
  have HIb : Hid ((Tryz.prog.info? 29).map (·.size) = some ([.slice a.PA u.par.length a.pc, .slice a.DA u.dl.length a.dc, .slice a.FA u.fd.length a.fc, .slice a.RA u.rest.length a.rc, .slice a.HA u.hol.length a.hc] : List Value).length) := Lib.hid infoSu5
  have HTr : Hid (∀ X, Below w.heap.size w X → Calls Tryz.prog 105 #[.string nm, .agg #[.slice a.PA u.par.length a.pc, .slice a.DA u.dl.length a.dc, .slice a.FA u.fd.length a.fc, .slice a.RA u.rest.length a.rc, .slice a.HA u.hol.length a.hc]] X fun e w' => ∃ p, e = .returned (.pointer (some ⟨p, 0, none⟩)) ∧ Below w.heap.size w w') := Lib.hid fun X hX => (newT_w ((hA.below hX).more hX.size) hz).mono fun e w' ⟨p, h1, h2⟩ => ⟨p, h1, hX.trans (h2.mono hX.size)⟩
  have HCa : Hid (∀ X, Below w.heap.size w X → Calls Tryz.prog 106 #[.string nm, .agg #[.slice a.PA u.par.length a.pc, .slice a.DA u.dl.length a.dc, .slice a.FA u.fd.length a.fc, .slice a.RA u.rest.length a.rc, .slice a.HA u.hol.length a.hc]] X fun e w' => ∃ p, e = .returned (.pointer (some ⟨p, 0, none⟩)) ∧ Below w.heap.size w w') := Lib.hid fun X hX => (newC_w ((hA.below hX).more hX.size) hz h8).mono fun e w' ⟨p, h1, h2⟩ => ⟨p, h1, hX.trans (h2.mono hX.size)⟩
  have HBa : Hid (∀ X, Below w.heap.size w X → Calls Tryz.prog 107 #[.string nm, .agg #[.slice a.PA u.par.length a.pc, .slice a.DA u.dl.length a.dc, .slice a.FA u.fd.length a.fc, .slice a.RA u.rest.length a.rc, .slice a.HA u.hol.length a.hc]] X fun e w' => ∃ p, e = .returned (.pointer (some ⟨p, 0, none⟩)) ∧ Below w.heap.size w w') := Lib.hid fun X hX => (new_any ho ((hA.below hX).more hX.size) ⟨trivial⟩ (Nat.le_trans h12 hX.size) hnm).mono fun e w' ⟨K, cs, h1, _, _, _, _, _, _, _, _, _, _, _, _, hb⟩ => ⟨K.bb, h1, hX.trans (hb.mono hX.size)⟩
  have HOf : Hid (∀ X, Below w.heap.size w X → Calls Tryz.prog 108 #[.string nm, .agg #[.slice a.PA u.par.length a.pc, .slice a.DA u.dl.length a.dc, .slice a.FA u.fd.length a.fc, .slice a.RA u.rest.length a.rc, .slice a.HA u.hol.length a.hc]] X fun e w' => ∃ p, e = .returned (.pointer (some ⟨p, 0, none⟩)) ∧ Below w.heap.size w w') := Lib.hid fun X hX => (newO_w ((hA.below hX).more hX.size) hz).mono fun e w' ⟨p, h1, h2⟩ => ⟨p, h1, hX.trans (h2.mono hX.size)⟩
  clear hT hA hz ho h8 h12 hnm
  generalize MiQ w = CP at *
  obtain ⟨k0, _⟩ := (HT.out w (Below.refl _ _)).1.cells
  have kl := (HT.out w (Below.refl _ _)).2.1
  go_enter Tryz.func50, Tryz.ntmps50
  go_wp2_with fail
  clear k0 kl
  go_loopw [13, 6, 4] (fun i _ _ wr => ∃ k : Nat, k ≤ u.par.length ∧ i = .int .i64 (k : Int) ∧ Hid (Below w.heap.size w wr)) (fun i _ _ _ => u.par.length - (RowKit.intOf i).toNat)
  case atStart => exact ⟨0, Nat.zero_le _, rfl, Lib.hid (Below.refl _ _)⟩
  case round =>
    obtain ⟨k, hk, rfl, HI⟩ := hrel
    have kl := (HT.out wr HI.out).2.1
    by_cases hlt : k < u.par.length
    · have b1 : (k : Int) < (u.par.length : Int) := by omega
      obtain ⟨y, hy⟩ : ∃ y, u.par[k]? = some y := ⟨u.par[k], List.getElem?_eq_getElem hlt⟩
      have heq : u.par[k] = y := (List.getElem?_eq_some_iff.1 hy).2
      obtain ⟨g, off, hPA, hg, c0, c1, c2⟩ := (HT.out wr HI.out).2.2.par.at_ hlt
      rw [heq] at c0 c1 c2
      have hgw : g < wr.heap.size := by have := HI.out.size; omega
      obtain ⟨PA, hPA2⟩ : ∃ PA, a.PA = PA := ⟨_, rfl⟩
      have HPA := Lib.hid hPA2
      rw [hPA2] at hPA ⊢
      subst hPA
      obtain ⟨wy, hwy⟩ : ∃ wy, wy = wr.alloc (.cells #[.string y.nm, .string y.bk, .int .i64 y.kd] 38) := ⟨_, rfl⟩
      have hby : Below wr.heap.size wr wy := by rw [hwy]; exact (Below.refl _ _).alloc (Nat.le_refl _) _
      have hyb : wy.heap[wr.heap.size]? = some (.cells #[.string y.nm, .string y.bk, .int .i64 y.kd] 38 (0, 0)) := by rw [hwy]; exact heap_alloc_new _ _
      have e0 : wy.cell? ⟨wr.heap.size, 0, none⟩ = some (.string y.nm) := by simp [World.cell?, hyb]
      have e2 : wy.cell? ⟨wr.heap.size, 2, none⟩ = some (.int .i64 y.kd) := by simp [World.cell?, hyb]
      have hzs : wr.heap.size < wy.heap.size := (Array.getElem?_eq_some_iff.1 hyb).1
      have HI2 := Lib.hid (HI.out.trans (hby.mono HI.out.size))
      have kl2 := (HT.out wy HI2.out).2.1
      have HRg := Lib.hid (HT.out wy HI2.out).1.range
      have HWy := Lib.hid hwy
      clear heq hy hwy hby hyb HI hPA2
      go_upto_region 4 with fail
      rw [← HWy.out]
      clear HWy c0 c1 c2 hgw hg kl
      by_cases hs : y.nm = nm
      · have b2 : (y.nm.toList == nm.toList) = true := by rw [ba_beq]; simp [hs]
        have b3 : (y.nm.toList != nm.toList) = false := by rw [bne, b2]; rfl
        clear hs
        have HK : Hid (((y.kd == 0) = true ∨ (y.kd == 0) = false ∧ (y.kd == 1) = true) ∨ ((y.kd == 0) = false ∧ (y.kd == 1) = false ∧ (y.kd == 2) = true) ∨ ((y.kd == 0) = false ∧ (y.kd == 1) = false ∧ (y.kd == 2) = false)) := Lib.hid (by
          cases (y.kd == 0) <;> cases (y.kd == 1) <;> cases (y.kd == 2) <;> simp)
        clear HT HOf
        rcases HK.out with (t0 | ⟨t0, t1⟩) | ⟨t0, t1, t2⟩ | ⟨t0, t1, t2⟩
        · clear HK HCa HBa
          go_wp2_with (first
            | (refine wpList_load_mid rfl 29 (.tmp 28) rfl t 0 rfl [.slice a.PA u.par.length a.pc, .slice a.DA u.dl.length a.dc, .slice a.FA u.fd.length a.fc, .slice a.RA u.rest.length a.rc, .slice a.HA u.hol.length a.hc] _ HRg.out Tryz.underlying29 rfl HIb.out ?_)
            | (go_at_call 105; refine (HTr.out _ HI2.out).mono ?_; rintro e w5 ⟨p, rfl, hb5⟩)
            | fail)
          have HX := Lib.hid (fun ty => HF.out ty p w5 hb5)
          first
            | exact HX.out _
            | (go_ret; exact HX.out _)
        · clear HK HTr HBa
          go_wp2_with (first
            | (refine wpList_load_mid rfl 29 (.tmp 37) rfl t 0 rfl [.slice a.PA u.par.length a.pc, .slice a.DA u.dl.length a.dc, .slice a.FA u.fd.length a.fc, .slice a.RA u.rest.length a.rc, .slice a.HA u.hol.length a.hc] _ HRg.out Tryz.underlying29 rfl HIb.out ?_)
            | (go_at_call 106; refine (HCa.out _ HI2.out).mono ?_; rintro e w5 ⟨p, rfl, hb5⟩)
            | fail)
          have HX := Lib.hid (fun ty => HF.out ty p w5 hb5)
          first
            | exact HX.out _
            | (go_ret; exact HX.out _)
        · clear HK HTr HCa
          go_wp2_with (first
            | (refine wpList_load_mid rfl 29 (.tmp 46) rfl t 0 rfl [.slice a.PA u.par.length a.pc, .slice a.DA u.dl.length a.dc, .slice a.FA u.fd.length a.fc, .slice a.RA u.rest.length a.rc, .slice a.HA u.hol.length a.hc] _ HRg.out Tryz.underlying29 rfl HIb.out ?_)
            | (go_at_call 107; refine (HBa.out _ HI2.out).mono ?_; rintro e w5 ⟨p, rfl, hb5⟩)
            | fail)
          have HX := Lib.hid (fun ty => HF.out ty p w5 hb5)
          first
            | exact HX.out _
            | (go_ret; exact HX.out _)
        · clear HK HTr HCa HBa HRg
          go_wp2_with fail
          go_roundw
          case rel => exact ⟨k + 1, by omega, by go_num, HI2⟩
          case measure => simp [RowKit.intOf] <;> omega
      · have b2 : (y.nm.toList == nm.toList) = false := by rw [ba_beq]; simp [hs]
        have b3 : (y.nm.toList != nm.toList) = true := by rw [bne, b2]; rfl
        have b4 : ¬ y.nm.toList = nm.toList := by simpa using b2
        clear hs HRg
        go_wp2_with fail
        go_roundw
        case rel => exact ⟨k + 1, by omega, by go_num, HI2⟩
        case measure => simp [RowKit.intOf] <;> omega
    · have b1 : ¬ (k : Int) < (u.par.length : Int) := by omega
      have HRg := Lib.hid (HT.out wr HI.out).1.range
      have HC := Lib.hid (HOf.out wr HI.out)
      clear HTr HCa HBa HOf HT
      go_wp2_with (first
        | (refine wpList_load_mid rfl 29 (.tmp 54) rfl t 0 rfl [.slice a.PA u.par.length a.pc, .slice a.DA u.dl.length a.dc, .slice a.FA u.fd.length a.fc, .slice a.RA u.rest.length a.rc, .slice a.HA u.hol.length a.hc] _ HRg.out Tryz.underlying29 rfl HIb.out ?_)
        | (go_at_call 108; refine HC.out.mono ?_; rintro e w5 ⟨p, rfl, hb5⟩)
        | fail)
      have HX := Lib.hid (fun ty => HF.out ty p w5 hb5)
      first
        | exact HX.out _
        | (go_ret; exact HX.out _)

end Go.Proofs.YtchkdidpnjakeaaGreatDoor
namespace Go.Proofs.YtchkdidpnjakeaaGreatDoor.Sl
open Go.RowKit

def rotI (x : Int) : Int := bits BinOp.or IntKind.u64 (IntKind.u64.wrap (x * 32)) (x / 576460752303423488)
def hstep (h : Int) (c : UInt8) : Int := IntKind.u64.wrap (rotI (bits BinOp.xor IntKind.u64 h (IntKind.u64.wrap (c.toNat : Int))) * 13787848793156543929)
def hfold (l : List UInt8) : Int := l.foldl hstep 7809847782465536322
def hmix (h : Int) : Int := IntKind.u64.wrap (bits BinOp.xor IntKind.u64 h (h / 536870912) * 13787848793156543929)
def hfin (h : Int) : Int := bits BinOp.xor IntKind.u64 (hmix h) (hmix h / 4294967296)
def hash (l : List UInt8) : Int := hfin (hfold l)

/-- the digit's number, counted from the highest -/
def nib (h : Int) (j : Nat) : Nat := (h / 2 ^ (60 - 4 * j) % 16).toNat
def hexc (n : Nat) : UInt8 := if n < 10 then UInt8.ofNat (48 + n) else UInt8.ofNat (87 + n)
def digL (h : Int) : List UInt8 := (List.range 16).map fun i => hexc (nib h i)
def digB (l : List UInt8) : ByteArray := ⟨(digL (hash l)).toArray⟩

theorem take_snoc (s : ByteArray) (k : Nat) (h : k < s.size) : s.data.toList.take (k + 1) = s.data.toList.take k ++ [s[k]] := by
  rw [List.take_succ_eq_append_getElem (by simpa using h)]; rfl

theorem hfold_snoc (s : ByteArray) (k : Nat) (h : k < s.size) : hfold (s.data.toList.take (k + 1)) = hstep (hfold (s.data.toList.take k)) s[k] := by
  rw [take_snoc s k h]; simp [hfold]

theorem hfold_nil : hfold [] = 7809847782465536322 := rfl

theorem hash_eq (l : List UInt8) : bits BinOp.xor IntKind.u64 (IntKind.u64.wrap (bits BinOp.xor IntKind.u64 (hfold l) (hfold l / 536870912) * 13787848793156543929)) (IntKind.u64.wrap (bits BinOp.xor IntKind.u64 (hfold l) (hfold l / 536870912) * 13787848793156543929) / 4294967296) = hash l := by
  unfold hash hfin hmix
  with_reducible rfl

theorem hash_bd (l : List UInt8) : 0 ≤ hash l ∧ hash l < 18446744073709551616 := by
  unfold hash hfin bits
  simp only
  rw [IntKind.wrap_u64]
  omega

theorem nib_lt (h : Int) (j : Nat) : nib h j < 16 := by unfold nib; omega

theorem and15 (x : Int) (h0 : 0 ≤ x) (h1 : x < 18446744073709551616) : bits BinOp.and IntKind.u64 x 15 = x % 16 := by
  obtain ⟨n, rfl⟩ := Int.eq_ofNat_of_zero_le h0
  have hn : n < 18446744073709551616 := by omega
  have h1 : (BitVec.ofInt 64 (n : Int)).toNat = n := by
    rw [BitVec.ofInt_natCast, BitVec.toNat_ofNat]; exact Nat.mod_eq_of_lt (by omega)
  have h2 : (BitVec.ofInt 64 (15 : Int)).toNat = 15 := by decide
  show IntKind.u64.wrap ((BitVec.ofInt 64 (n : Int) &&& BitVec.ofInt 64 (15 : Int)).toNat : Int) = _
  rw [BitVec.toNat_and, h1, h2, IntKind.wrap_u64, nat_mask4]
  omega

theorem nib_and (h : Int) (j : Nat) (h0 : 0 ≤ h) (h1 : h < 18446744073709551616) : bits BinOp.and IntKind.u64 (h / 2 ^ (60 - 4 * j)) 15 = ((nib h j : Nat) : Int) := by
  have hp : (0 : Int) < 2 ^ (60 - 4 * j) := Int.pow_pos (by decide)
  have a0 : 0 ≤ h / 2 ^ (60 - 4 * j) := Int.ediv_nonneg h0 (by omega)
  have a1 : h / 2 ^ (60 - 4 * j) ≤ h := Int.ediv_le_self _ h0
  rw [and15 _ a0 (by omega)]
  unfold nib
  omega

/-- the cells of the program's digits behind j rounds -/
def rowL (h : Int) (j : Nat) : List Value := (List.range 16).map fun i => if i < j then Value.int .i32 ((hexc (nib h i)).toNat : Int) else Value.int .i32 0
def rowD (h : Int) (j : Nat) : Array Value := (rowL h j).toArray

theorem rowD_zero (h : Int) : rowD h 0 = #[Value.int .i32 0, .int .i32 0, .int .i32 0, .int .i32 0, .int .i32 0, .int .i32 0, .int .i32 0, .int .i32 0, .int .i32 0, .int .i32 0, .int .i32 0, .int .i32 0, .int .i32 0, .int .i32 0, .int .i32 0, .int .i32 0] := by
  rfl
theorem rowD_at (h : Int) (j : Nat) (hj : j < 16) : (rowD h j)[j]? = some (Value.int .i32 0) := by
  simp [rowD, rowL, hj]
theorem rowD_size (h : Int) (j : Nat) : (rowD h j).size = 16 := by simp [rowD, rowL]
theorem rowD_set (h : Int) (j : Nat) (_hj : j < 16) : (rowD h j).setIfInBounds j (Value.int .i32 ((hexc (nib h j)).toNat : Int)) = rowD h (j + 1) := by
  apply Array.ext
  · simp [rowD, rowL]
  · intro i h1 h2
    have hi : i < 16 := by simpa [rowD, rowL] using h2
    simp only [rowD, rowL, List.setIfInBounds_toArray, List.getElem_toArray, List.getElem_set, List.getElem_map, List.getElem_range]
    by_cases e : j = i
    · subst e; simp
    · simp only [e, if_false]
      by_cases g : i < j
      · rw [if_pos g, if_pos (by omega)]
      · rw [if_neg g, if_neg (by omega)]
theorem rowL_end (h : Int) : rowL h 16 = ((digL h).map fun c => (c.toNat : Int)).map (Value.int .i32) := by
  unfold rowL digL
  rw [List.map_map, List.map_map]
  apply List.map_congr_left
  intro i hi
  rw [if_pos (List.mem_range.1 hi)]
  rfl

theorem hexc_lt (n : Nat) (h : n < 16) : (hexc n).toNat < 128 := by
  have : ∀ m : Fin 16, (hexc m.val).toNat < 128 := by decide
  exact this ⟨n, h⟩
theorem hexc_at (n : Nat) (h : n < 16) : (#[48, 49, 50, 51, 52, 53, 54, 55, 56, 57, 97, 98, 99, 100, 101, 102] : Array UInt8)[n]? = some (hexc n) := by
  have : ∀ m : Fin 16, (#[48, 49, 50, 51, 52, 53, 54, 55, 56, 57, 97, 98, 99, 100, 101, 102] : Array UInt8)[m.val]? = some (hexc m.val) := by decide
  exact this ⟨n, h⟩

theorem hexc_cell (n : Nat) (h : n < (ByteArray.mk #[48, 49, 50, 51, 52, 53, 54, 55, 56, 57, 97, 98, 99, 100, 101, 102]).size) : wrap32 (((ByteArray.mk #[48, 49, 50, 51, 52, 53, 54, 55, 56, 57, 97, 98, 99, 100, 101, 102])[n]'h).toNat : Int) = ((hexc n).toNat : Int) := by
  have : ∀ m : Fin 16, wrap32 (((ByteArray.mk #[48, 49, 50, 51, 52, 53, 54, 55, 56, 57, 97, 98, 99, 100, 101, 102])[m.val]'(m.isLt)).toNat : Int) = ((hexc m.val).toNat : Int) := by decide +kernel
  exact this ⟨n, h⟩

theorem hexc_ind (h : Int) (j : Nat) (hn : bits BinOp.and IntKind.u64 (h / 2 ^ (60 - 4 * j)) 15 = ((nib h j : Nat) : Int)) (hb : (bits BinOp.and IntKind.u64 (h / 2 ^ (60 - 4 * j)) 15).toNat < (ByteArray.mk #[48, 49, 50, 51, 52, 53, 54, 55, 56, 57, 97, 98, 99, 100, 101, 102]).size) :
    wrap32 (((ByteArray.mk #[48, 49, 50, 51, 52, 53, 54, 55, 56, 57, 97, 98, 99, 100, 101, 102])[(bits BinOp.and IntKind.u64 (h / 2 ^ (60 - 4 * j)) 15).toNat]'hb).toNat : Int) = ((hexc (nib h j)).toNat : Int) := by
  rw [hexc_cell]
  generalize bits BinOp.and IntKind.u64 (h / 2 ^ (60 - 4 * j)) 15 = d at *
  subst hn
  rfl

theorem encode_small (c : UInt8) (h : c.toNat < 128) : Utf8.encode (c.toNat : Int) = ⟨#[c]⟩ := by
  unfold Utf8.encode
  have hv : Utf8.valid (c.toNat : Int) = true := by simp [Utf8.valid]; omega
  simp [hv, h]

theorem runes_fold (l : List UInt8) (hl : ∀ c ∈ l, c.toNat < 128) : ∀ s : ByteArray, ((l.map fun c => (c.toNat : Int)).foldl (fun r n => r ++ Utf8.encode n) s) = ⟨s.data ++ l.toArray⟩ := by
  induction l with
  | nil => intro s; simp
  | cons c r ih =>
    intro s
    rw [List.map_cons, List.foldl_cons, ih (fun x hx => hl x (by simp [hx])), encode_small c (hl c (by simp))]
    apply ByteArray.ext
    simp [ByteArray.data_append]

theorem runes_digits (l : List UInt8) : runesBytes ((digL (hash l)).map fun c => (c.toNat : Int)) = digB l := by
  unfold runesBytes
  rw [runes_fold]
  · simp [digB]
  · intro c hc
    obtain ⟨i, _, rfl⟩ := List.mem_map.1 hc
    exact hexc_lt _ (nib_lt _ _)

theorem digL_step (h : Int) (j : Nat) (hj : j < 16) : (digL h).drop (16 - (j + 1)) = hexc (h / 16 ^ j % 16).toNat :: (digL h).drop (16 - j) := by
  have hl : (digL h).length = 16 := by simp [digL]
  rw [List.drop_eq_getElem_cons (by omega)]
  have e1 : 16 - (j + 1) + 1 = 16 - j := by omega
  rw [e1]
  congr 1
  simp only [digL, List.getElem_map, List.getElem_range, nib]
  have e2 : 60 - 4 * (16 - (j + 1)) = 4 * j := by omega
  have e3 : (2 : Int) ^ (4 * j) = 16 ^ j := by rw [Int.pow_mul]; rfl
  rw [e2, e3]
theorem div_step (h : Int) (j : Nat) : h / 16 ^ j / 16 = h / 16 ^ (j + 1) := by
  rw [Int.pow_succ, Int.ediv_ediv_of_nonneg (Int.pow_nonneg (by decide))]
theorem hexc_lo (a : Int) (h1 : ¬ 9 < a % 16) : 48 + a % 16 = ((hexc (a % 16).toNat).toNat : Int) := by
  have h0 : 0 ≤ a % 16 := by omega
  generalize a % 16 = b at *
  obtain ⟨n, rfl⟩ := Int.eq_ofNat_of_zero_le h0
  have hn : n < 10 := by omega
  simp only [Int.toNat_natCast, hexc, if_pos hn, UInt8.toNat_ofNat']
  omega
theorem hexc_hi (a : Int) (h1 : 9 < a % 16) : 87 + a % 16 = ((hexc (a % 16).toNat).toNat : Int) := by
  have h2 : a % 16 < 16 := by omega
  generalize a % 16 = b at *
  obtain ⟨n, rfl⟩ := Int.eq_ofNat_of_zero_le (by omega : 0 ≤ b)
  have hn : ¬ n < 10 := by omega
  simp only [Int.toNat_natCast, hexc, if_neg hn, UInt8.toNat_ofNat']
  omega

theorem digB_size (l : List UInt8) : (digB l).size = 16 := by simp [digB, digL, ByteArray.size]
end Go.Proofs.YtchkdidpnjakeaaGreatDoor.Sl
namespace Go.Proofs.YtchkdidpnjakeaaGreatDoor.Sl
open Go.RowKit

set_option maxHeartbeats 400000 in
theorem rot_any (x : Int) (w : World) :
    Calls Tryz.prog 222 #[.int .u64 x, .int .i64 5] w fun e w' => e = .returned (.int .u64 (rotI x)) ∧ w = w' := by
  have h5 : bits BinOp.and IntKind.u64 5 63 = 5 := by decide
  go_enter Tryz.func222, Tryz.ntmps222
  go_wp2
  go_ret
  exact ⟨rfl, rfl⟩

theorem conv_digits (W : World) (g : Nat) (l : List UInt8) (hc : ∀ j u, (rowL (hash l) 16)[j]? = some u → W.cell? ⟨g, j, none⟩ = some u) :
    (convert 317 9 (.slice (some ⟨g, 0, none⟩) 16 16)).run Tryz.prog W = .ok (.string (digB l)) W := by
  rw [run_convert_runes_string W _ _ 21 _ 16 16 Tryz.underlying317 Tryz.underlying21 Tryz.underlying9]
  rw [run_runesToString W ⟨g, 0, none⟩ 16 16 ((digL (hash l)).map fun c => (c.toNat : Int)) ?_, runes_digits]
  have h := run_loadCells_list (P := Tryz.prog) (w := W) ⟨g, 0, none⟩ (rowL (hash l) 16) (fun j u hu => by
    have := hc j u hu
    by_cases e : j = 0
    · subst e; simpa [Addr.add] using this
    · simpa [Addr.add, e] using this)
  rw [rowL_end] at h
  have e : (((digL (hash l)).map fun c => (c.toNat : Int)).map (Value.int .i32)).length = 16 := by simp [digL]
  rw [e] at h
  exact h

set_option maxHeartbeats 400000 in
theorem digest_any (s : ByteArray) (w : World) (hs : s.size ≤ maxLen) :
    Calls Tryz.prog 195 #[.string s] w fun e w' => e = .returned (.string (digB s.data.toList)) ∧ Below w.heap.size w w' := by
  unfold maxLen at hs
  go_enter Tryz.func195, Tryz.ntmps195
  go_wp2
  go_loop [3, 9] (fun h i => ∃ k : Nat, k ≤ s.size ∧ i = .int .i64 k ∧ h = .int .u64 (hfold (s.data.toList.take k))) (fun _ i => s.size - (RowKit.intOf i).toNat)
  case atStart => exact ⟨0, Nat.zero_le _, rfl, by rw [List.take_zero, hfold_nil]⟩
  case round =>
    obtain ⟨k, hk, rfl, rfl⟩ := hrel
    by_cases hlt : k < s.size
    · have HS := Lib.hid (hfold_snoc s k hlt)
      go_wp2_with (go_at_call 222; refine (rot_any _ _).mono ?_; rintro e w' ⟨rfl, rfl⟩)
      go_round
      case rel => exact ⟨k + 1, by omega, by go_num, by rw [HS.out, hstep]⟩
      case measure => simp [RowKit.intOf]; omega
    · obtain rfl : k = s.size := by omega
      go_wp2
      have hh := hash_eq (List.take s.size s.data.toList)
      rw [hh]
      clear hh
      have ht : List.take s.size s.data.toList = s.data.toList := List.take_of_length_le (by simp)
      rw [ht]
      clear ht
      have hcv := fun W => conv_digits W w.heap.size s.data.toList
      obtain ⟨b0, b1⟩ := hash_bd s.data.toList
      have Hnib := Lib.hid (fun j => nib_and (hash s.data.toList) j b0 b1)
      clear b0 b1
      have Hcv := Lib.hid hcv
      clear hcv
      generalize hash s.data.toList = h at *
      go_loopw [30] (fun i wr => ∃ j : Nat, j ≤ 16 ∧ i = .int .i64 j ∧ wr = w.alloc (.cells (rowD h j) 316)) (fun i _ => 16 - (RowKit.intOf i).toNat)
      case atStart =>
        exact ⟨0, by omega, rfl, by rw [rowD_zero]⟩
      case round =>
        obtain ⟨j, hj, rfl, rfl⟩ := hrel
        by_cases hlt : j < 16
        · have hr := rowD_at h j hlt
          have b0 : 0 ≤ bits BinOp.and IntKind.u64 (h / 2 ^ (60 - 4 * j)) 15 := by rw [Hnib.out j]; omega
          have b1 : bits BinOp.and IntKind.u64 (h / 2 ^ (60 - 4 * j)) 15 < 16 := by rw [Hnib.out j]; have := nib_lt h j; omega
          have Hst := Lib.hid (rowD_set h j hlt)
          have Hc := Lib.hid (hexc_ind h j (Hnib.out j))
          go_wp2
          go_roundw
          case rel => exact ⟨j + 1, by omega, by go_num, by rw [Hc.out, Hst.out]⟩
          case measure => simp [RowKit.intOf]; omega
        · obtain rfl : j = 16 := by omega
          have hcv := Hcv.out (w.alloc (.cells (rowD h 16) 316)) (fun j u hu => by
            rw [World.cell?_alloc_new]
            simpa [rowD] using hu)
          go_wp2
          go_ret
          exact ⟨rfl, (Below.refl _ _).alloc (Nat.le_refl _) _⟩
end Go.Proofs.YtchkdidpnjakeaaGreatDoor.Sl
namespace Go.Proofs.YtchkdidpnjakeaaGreatDoor
open Go.RowKit Go.Maps Go.Lib
set_option linter.unusedVariables false
set_option maxRecDepth 100000

def StoreAt (w : World) (q : Nat) : Prop := w.heap[q]? = some (.cells #[.slice none 0 0, .int .i64 0, .bool false, .int .i64 0, .bool false] 109 (0, 0))
theorem StoreAt.lt {w : World} {q : Nat} (h : StoreAt w q) : q < w.heap.size := (Array.getElem?_eq_some_iff.1 h).1
theorem StoreAt.below {w w' : World} {q : Nat} (h : StoreAt w q) (hb : Below w.heap.size w w') : StoreAt w' q := (hb.block q h.lt).trans h
theorem StoreAt.cells {w : World} {q : Nat} (h : StoreAt w q) : w.cell? ⟨q, 0, none⟩ = some (.slice none 0 0) ∧ w.cell? ⟨q, 1, none⟩ = some (.int .i64 0) ∧ w.cell? ⟨q, 4, none⟩ = some (.bool false) := by
  unfold StoreAt at h
  exact ⟨by simp [World.cell?, h], by simp [World.cell?, h], by simp [World.cell?, h]⟩
/-- a book in block q without records -/
def BookAt (w : World) (s q : Nat) : Prop := ∃ (a l : ByteArray), StoreAt w s ∧ w.heap[q]? = some (.cells #[.pointer (some ⟨s, 0, none⟩), .string a, .string l, .slice none 0 0] 169 (0, 0))
theorem BookAt.lt {w : World} {s q : Nat} (h : BookAt w s q) : q < w.heap.size := by
  obtain ⟨a, l, _, h⟩ := h
  exact (Array.getElem?_eq_some_iff.1 h).1
theorem BookAt.below {w w' : World} {s q : Nat} (h : BookAt w s q) (hb : Below w.heap.size w w') : BookAt w' s q := by
  have hl := h.lt
  obtain ⟨a, l, hs, h⟩ := h
  exact ⟨a, l, hs.below hb, (hb.block q hl).trans h⟩
theorem storeNew_m (w : World) : Calls Tryz.prog 21 #[] w fun e w' => e = .returned (.pointer (some ⟨w.heap.size, 0, none⟩)) ∧ w' = w.alloc (.cells #[.slice none 0 0, .int .i64 0, .bool false, .int .i64 0, .bool false] 109) := by
  go_enter Tryz.func21, Tryz.ntmps21
  go_wp2_with fail
  first
    | exact ⟨rfl, rfl⟩
    | (go_ret; exact ⟨rfl, rfl⟩)
theorem down_m {w : World} {q : Nat} (h : StoreAt w q) : Calls Tryz.prog 159 #[.pointer (some ⟨q, 0, none⟩)] w fun e w' => e = .returned (.bool false) ∧ w' = w := by
  obtain ⟨c0, c1, c4⟩ := h.cells
  have hl := h.lt
  go_enter Tryz.func159, Tryz.ntmps159
  go_wp2_with fail
  first
    | exact ⟨rfl, rfl⟩
    | (go_ret; exact ⟨rfl, rfl⟩)
theorem storeLen_m {w : World} {q : Nat} (h : StoreAt w q) : Calls Tryz.prog 162 #[.pointer (some ⟨q, 0, none⟩)] w fun e w' => e = .returned (.int .i64 0) ∧ w' = w := by
  obtain ⟨c0, c1, c4⟩ := h.cells
  have hl := h.lt
  go_enter Tryz.func162, Tryz.ntmps162
  go_wp2_with fail
  first
    | exact ⟨rfl, rfl⟩
    | (go_ret; exact ⟨rfl, rfl⟩)
theorem storeLasting_m {w : World} {q : Nat} (h : StoreAt w q) : Calls Tryz.prog 114 #[.pointer (some ⟨q, 0, none⟩)] w fun e w' => e = .returned (.int .i64 0) ∧ w' = w := by
  obtain ⟨c0, c1, c4⟩ := h.cells
  have hl := h.lt
  go_enter Tryz.func114, Tryz.ntmps114
  go_wp2_with fail
  first
    | exact ⟨rfl, rfl⟩
    | (go_ret; exact ⟨rfl, rfl⟩)
theorem bookLasting_m {w : World} {s q : Nat} (h : BookAt w s q) : Calls Tryz.prog 68 #[.pointer (some ⟨q, 0, none⟩)] w fun e w' => e = .returned (.int .i64 0) ∧ w' = w := by
  obtain ⟨a, l, hs, h⟩ := h
  have H1 := Lib.hid (storeLasting_m hs)
  have c0 : w.cell? ⟨q, 0, none⟩ = some (.pointer (some ⟨s, 0, none⟩)) := by simp [World.cell?, h]
  have hl := (Array.getElem?_eq_some_iff.1 h).1
  clear h hs
  go_enter Tryz.func68, Tryz.ntmps68
  go_wp2_with (first
    | (go_at_call 114; refine H1.out.mono ?_; rintro e w' ⟨rfl, rfl⟩)
    | fail)
  first
    | exact ⟨rfl, rfl⟩
    | (go_ret; exact ⟨rfl, rfl⟩)
theorem bookLen_m {w : World} {s q : Nat} (h : BookAt w s q) : Calls Tryz.prog 69 #[.pointer (some ⟨q, 0, none⟩)] w fun e w' => e = .returned (.int .i64 0) ∧ w' = w := by
  obtain ⟨a, l, hs, h⟩ := h
  have c3 : w.cell? ⟨q, 3, none⟩ = some (.slice none 0 0) := by simp [World.cell?, h]
  have hl := (Array.getElem?_eq_some_iff.1 h).1
  clear h hs
  go_enter Tryz.func69, Tryz.ntmps69
  go_wp2_with fail
  first
    | exact ⟨rfl, rfl⟩
    | (go_ret; exact ⟨rfl, rfl⟩)
/-- book.linked of a name and no text: some text -/
theorem linked_m (a : ByteArray) (w : World) (ha : a.size ≤ 1000) : Calls Tryz.prog 160 #[.string a, .string ⟨#[]⟩] w fun e w' => ∃ s : ByteArray, e = .returned (.string s) ∧ Below w.heap.size w w' := by
  have u1 : (a ++ (⟨#[10]⟩ : ByteArray)).size = a.size + 1 := by rw [ByteArray.size_append]; rfl
  have u2 : ((a ++ (⟨#[10]⟩ : ByteArray)) ++ (⟨#[]⟩ : ByteArray)).size = a.size + 1 := by rw [ByteArray.size_append, u1]; rfl
  have H1 := Lib.hid (Sl.digest_any ((a ++ (⟨#[10]⟩ : ByteArray)) ++ (⟨#[]⟩ : ByteArray)) w (by rw [u2]; unfold maxLen; omega))
  have v1 : ¬ (9223372036854775807 < a.size + 1) := by omega
  go_enter Tryz.func160, Tryz.ntmps160
  go_wp2_with (first
    | (go_at_call 195; refine H1.out.mono ?_; rintro e w' ⟨rfl, hb⟩)
    | fail)
  go_ret
  exact ⟨_, rfl, hb⟩
end Go.Proofs.YtchkdidpnjakeaaGreatDoor
