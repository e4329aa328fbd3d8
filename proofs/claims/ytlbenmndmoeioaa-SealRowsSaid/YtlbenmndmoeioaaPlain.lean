/- Plain mathematics for the seal's statements: digests, names. No program in sight. -/
import Derived.WalkKit
import Derived.WalkSpells
import Derived.WalkLawsBesides
namespace Go.Proofs.Ytlbenmndmoeioaa
open Go.RowKit

def rotI (x : Int) : Int := bits BinOp.or IntKind.u64 (IntKind.u64.wrap (x * 32)) (x / 576460752303423488)
def hstep (h : Int) (c : UInt8) : Int := IntKind.u64.wrap (rotI (bits BinOp.xor IntKind.u64 h (IntKind.u64.wrap (c.toNat : Int))) * 13787848793156543929)
def hfold (l : List UInt8) : Int := l.foldl hstep 7809847782465536322
def hmix (h : Int) : Int := IntKind.u64.wrap (bits BinOp.xor IntKind.u64 h (h / 536870912) * 13787848793156543929)
def hfin (h : Int) : Int := bits BinOp.xor IntKind.u64 (hmix h) (hmix h / 4294967296)
def hash (l : List UInt8) : Int := hfin (hfold l)

/-- the digit's number, counted from the highest -/
def nib (h : Int) (j : Nat) : Nat := (h / 2 ^ (60 - 4 * j) % 16).toNat
def hexc (n : Nat) : UInt8 := if n < 10 then UInt8.ofNat (48 + n) else UInt8.ofNat (87 + n)
def digL (h : Int) : List UInt8 := (List.range 16).map fun i => hexc (nib h i)
def digB (l : List UInt8) : ByteArray := ⟨(digL (hash l)).toArray⟩

theorem take_snoc (s : ByteArray) (k : Nat) (h : k < s.size) : s.data.toList.take (k + 1) = s.data.toList.take k ++ [s[k]] := by
  rw [List.take_succ_eq_append_getElem (by simpa using h)]; rfl

theorem hfold_snoc (s : ByteArray) (k : Nat) (h : k < s.size) : hfold (s.data.toList.take (k + 1)) = hstep (hfold (s.data.toList.take k)) s[k] := by
  rw [take_snoc s k h]; simp [hfold]

theorem hfold_nil : hfold [] = 7809847782465536322 := rfl

theorem hash_eq (l : List UInt8) : bits BinOp.xor IntKind.u64 (IntKind.u64.wrap (bits BinOp.xor IntKind.u64 (hfold l) (hfold l / 536870912) * 13787848793156543929)) (IntKind.u64.wrap (bits BinOp.xor IntKind.u64 (hfold l) (hfold l / 536870912) * 13787848793156543929) / 4294967296) = hash l := by
  unfold hash hfin hmix
  with_reducible rfl

theorem hash_bd (l : List UInt8) : 0 ≤ hash l ∧ hash l < 18446744073709551616 := by
  unfold hash hfin bits
  simp only
  rw [IntKind.wrap_u64]
  omega

theorem nib_lt (h : Int) (j : Nat) : nib h j < 16 := by unfold nib; omega

theorem and15 (x : Int) (h0 : 0 ≤ x) (h1 : x < 18446744073709551616) : bits BinOp.and IntKind.u64 x 15 = x % 16 := by
  obtain ⟨n, rfl⟩ := Int.eq_ofNat_of_zero_le h0
  have hn : n < 18446744073709551616 := by omega
  have h1 : (BitVec.ofInt 64 (n : Int)).toNat = n := by
    rw [BitVec.ofInt_natCast, BitVec.toNat_ofNat]; exact Nat.mod_eq_of_lt (by omega)
  have h2 : (BitVec.ofInt 64 (15 : Int)).toNat = 15 := by decide
  show IntKind.u64.wrap ((BitVec.ofInt 64 (n : Int) &&& BitVec.ofInt 64 (15 : Int)).toNat : Int) = _
  rw [BitVec.toNat_and, h1, h2, IntKind.wrap_u64, nat_mask4]
  omega

theorem nib_and (h : Int) (j : Nat) (h0 : 0 ≤ h) (h1 : h < 18446744073709551616) : bits BinOp.and IntKind.u64 (h / 2 ^ (60 - 4 * j)) 15 = ((nib h j : Nat) : Int) := by
  have hp : (0 : Int) < 2 ^ (60 - 4 * j) := Int.pow_pos (by decide)
  have a0 : 0 ≤ h / 2 ^ (60 - 4 * j) := Int.ediv_nonneg h0 (by omega)
  have a1 : h / 2 ^ (60 - 4 * j) ≤ h := Int.ediv_le_self _ h0
  rw [and15 _ a0 (by omega)]
  unfold nib
  omega

/-- the cells of the program's digits behind j rounds -/
def rowL (h : Int) (j : Nat) : List Value := (List.range 16).map fun i => if i < j then Value.int .i32 ((hexc (nib h i)).toNat : Int) else Value.int .i32 0
def rowD (h : Int) (j : Nat) : Array Value := (rowL h j).toArray

theorem rowD_zero (h : Int) : rowD h 0 = #[Value.int .i32 0, .int .i32 0, .int .i32 0, .int .i32 0, .int .i32 0, .int .i32 0, .int .i32 0, .int .i32 0, .int .i32 0, .int .i32 0, .int .i32 0, .int .i32 0, .int .i32 0, .int .i32 0, .int .i32 0, .int .i32 0] := by
  rfl
theorem rowD_at (h : Int) (j : Nat) (hj : j < 16) : (rowD h j)[j]? = some (Value.int .i32 0) := by
  simp [rowD, rowL, hj]
theorem rowD_size (h : Int) (j : Nat) : (rowD h j).size = 16 := by simp [rowD, rowL]
theorem rowD_set (h : Int) (j : Nat) (_hj : j < 16) : (rowD h j).setIfInBounds j (Value.int .i32 ((hexc (nib h j)).toNat : Int)) = rowD h (j + 1) := by
  apply Array.ext
  · simp [rowD, rowL]
  · intro i h1 h2
    have hi : i < 16 := by simpa [rowD, rowL] using h2
    simp only [rowD, rowL, List.setIfInBounds_toArray, List.getElem_toArray, List.getElem_set, List.getElem_map, List.getElem_range]
    by_cases e : j = i
    · subst e; simp
    · simp only [e, if_false]
      by_cases g : i < j
      · rw [if_pos g, if_pos (by omega)]
      · rw [if_neg g, if_neg (by omega)]
theorem rowL_end (h : Int) : rowL h 16 = ((digL h).map fun c => (c.toNat : Int)).map (Value.int .i32) := by
  unfold rowL digL
  rw [List.map_map, List.map_map]
  apply List.map_congr_left
  intro i hi
  rw [if_pos (List.mem_range.1 hi)]
  rfl

theorem hexc_lt (n : Nat) (h : n < 16) : (hexc n).toNat < 128 := by
  have : ∀ m : Fin 16, (hexc m.val).toNat < 128 := by decide
  exact this ⟨n, h⟩
theorem hexc_at (n : Nat) (h : n < 16) : (#[48, 49, 50, 51, 52, 53, 54, 55, 56, 57, 97, 98, 99, 100, 101, 102] : Array UInt8)[n]? = some (hexc n) := by
  have : ∀ m : Fin 16, (#[48, 49, 50, 51, 52, 53, 54, 55, 56, 57, 97, 98, 99, 100, 101, 102] : Array UInt8)[m.val]? = some (hexc m.val) := by decide
  exact this ⟨n, h⟩

theorem hexc_cell (n : Nat) (h : n < (ByteArray.mk #[48, 49, 50, 51, 52, 53, 54, 55, 56, 57, 97, 98, 99, 100, 101, 102]).size) : wrap32 (((ByteArray.mk #[48, 49, 50, 51, 52, 53, 54, 55, 56, 57, 97, 98, 99, 100, 101, 102])[n]'h).toNat : Int) = ((hexc n).toNat : Int) := by
  have : ∀ m : Fin 16, wrap32 (((ByteArray.mk #[48, 49, 50, 51, 52, 53, 54, 55, 56, 57, 97, 98, 99, 100, 101, 102])[m.val]'(m.isLt)).toNat : Int) = ((hexc m.val).toNat : Int) := by decide +kernel
  exact this ⟨n, h⟩

theorem hexc_ind (h : Int) (j : Nat) (hn : bits BinOp.and IntKind.u64 (h / 2 ^ (60 - 4 * j)) 15 = ((nib h j : Nat) : Int)) (hb : (bits BinOp.and IntKind.u64 (h / 2 ^ (60 - 4 * j)) 15).toNat < (ByteArray.mk #[48, 49, 50, 51, 52, 53, 54, 55, 56, 57, 97, 98, 99, 100, 101, 102]).size) :
    wrap32 (((ByteArray.mk #[48, 49, 50, 51, 52, 53, 54, 55, 56, 57, 97, 98, 99, 100, 101, 102])[(bits BinOp.and IntKind.u64 (h / 2 ^ (60 - 4 * j)) 15).toNat]'hb).toNat : Int) = ((hexc (nib h j)).toNat : Int) := by
  rw [hexc_cell]
  generalize bits BinOp.and IntKind.u64 (h / 2 ^ (60 - 4 * j)) 15 = d at *
  subst hn
  rfl

theorem encode_small (c : UInt8) (h : c.toNat < 128) : Utf8.encode (c.toNat : Int) = ⟨#[c]⟩ := by
  unfold Utf8.encode
  have hv : Utf8.valid (c.toNat : Int) = true := by simp [Utf8.valid]; omega
  simp [hv, h]

theorem runes_fold (l : List UInt8) (hl : ∀ c ∈ l, c.toNat < 128) : ∀ s : ByteArray, ((l.map fun c => (c.toNat : Int)).foldl (fun r n => r ++ Utf8.encode n) s) = ⟨s.data ++ l.toArray⟩ := by
  induction l with
  | nil => intro s; simp
  | cons c r ih =>
    intro s
    rw [List.map_cons, List.foldl_cons, ih (fun x hx => hl x (by simp [hx])), encode_small c (hl c (by simp))]
    apply ByteArray.ext
    simp [ByteArray.data_append]

theorem runes_digits (l : List UInt8) : runesBytes ((digL (hash l)).map fun c => (c.toNat : Int)) = digB l := by
  unfold runesBytes
  rw [runes_fold]
  · simp [digB]
  · intro c hc
    obtain ⟨i, _, rfl⟩ := List.mem_map.1 hc
    exact hexc_lt _ (nib_lt _ _)

theorem digL_step (h : Int) (j : Nat) (hj : j < 16) : (digL h).drop (16 - (j + 1)) = hexc (h / 16 ^ j % 16).toNat :: (digL h).drop (16 - j) := by
  have hl : (digL h).length = 16 := by simp [digL]
  rw [List.drop_eq_getElem_cons (by omega)]
  have e1 : 16 - (j + 1) + 1 = 16 - j := by omega
  rw [e1]
  congr 1
  simp only [digL, List.getElem_map, List.getElem_range, nib]
  have e2 : 60 - 4 * (16 - (j + 1)) = 4 * j := by omega
  have e3 : (2 : Int) ^ (4 * j) = 16 ^ j := by rw [Int.pow_mul]; rfl
  rw [e2, e3]
theorem div_step (h : Int) (j : Nat) : h / 16 ^ j / 16 = h / 16 ^ (j + 1) := by
  rw [Int.pow_succ, Int.ediv_ediv_of_nonneg (Int.pow_nonneg (by decide))]
theorem hexc_lo (a : Int) (h1 : ¬ 9 < a % 16) : 48 + a % 16 = ((hexc (a % 16).toNat).toNat : Int) := by
  have h0 : 0 ≤ a % 16 := by omega
  generalize a % 16 = b at *
  obtain ⟨n, rfl⟩ := Int.eq_ofNat_of_zero_le h0
  have hn : n < 10 := by omega
  simp only [Int.toNat_natCast, hexc, if_pos hn, UInt8.toNat_ofNat']
  omega
theorem hexc_hi (a : Int) (h1 : 9 < a % 16) : 87 + a % 16 = ((hexc (a % 16).toNat).toNat : Int) := by
  have h2 : a % 16 < 16 := by omega
  generalize a % 16 = b at *
  obtain ⟨n, rfl⟩ := Int.eq_ofNat_of_zero_le (by omega : 0 ≤ b)
  have hn : ¬ n < 10 := by omega
  simp only [Int.toNat_natCast, hexc, if_neg hn, UInt8.toNat_ofNat']
  omega

theorem digB_size (l : List UInt8) : (digB l).size = 16 := by simp [digB, digL, ByteArray.size]
end Go.Proofs.Ytlbenmndmoeioaa
