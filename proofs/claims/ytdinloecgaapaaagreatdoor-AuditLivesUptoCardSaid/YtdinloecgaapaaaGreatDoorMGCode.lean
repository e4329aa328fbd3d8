/- Codings: strings as keys; integers, bools and structs of integers as elements. The ledger's names and currencies: what they answer where all bytes are right. ref56.Same: two slices of the same texts are told the same. ref56.in: is a text one of some? -/
import Derived.Test.YtdinloecgaapaaaGreatDoorGMap
import Derived.StringKeys
import Derived.Test.YtdinloecgaapaaaGreatDoorRows
import Derived.WalkKit
import Derived.WalkSpells
import Derived.WalkLawsBesides
import Derived.Lib.Hide
import Derived.Deep.QuietTactic
import Derived.BigQuiet
namespace Go.Proofs.YtdinloecgaapaaaGreatDoor
open Go.RowKit Go.Maps
set_option linter.unusedVariables false

/-- the keys of type string -/
def strC {P : Program} {k : TypeId} (hk : P.underlying k = some .string) : KeyC P k ByteArray where
  law := string_keyed hk
  mk := .string
  lit s := .string s.data.toList
  ok s := s.size ≤ maxLen
  of s hs := WideMaps.keyOf_string_mk hk hs
  inv key kl h := by
    unfold keyOf at h
    rw [hk] at h
    simp only [mapKey, hk] at h
    cases key <;> simp at h
    exact ⟨_, rfl, h.2.symm, h.1⟩
  inj x y h := by injection h

/-- elements of type int64 -/
def intE (P : Program) (e : TypeId) (he : P.underlying e = some (.int .i64)) : ElC Int where
  mk a := .int .i64 a
  dat a := .lit (.int .i64 a)
  ok a := (Lit.int .i64 a).wf = true
  R := plainElem P e
  of v hv := plainElem_int he hv
  inv x z h := by obtain ⟨a, h1, h2, h3⟩ := plainElem_int_inv he h; exact ⟨a, h1, h2, h3⟩
  inj u v h := by injection h with h; injection h
/-- elements of type bool -/
def boolE (P : Program) (e : TypeId) (he : P.underlying e = some .bool) : ElC Bool where
  mk a := .bool a
  dat a := .lit (.bool a)
  ok _ := True
  R := plainElem P e
  of v _ := plainElem_bool he v
  inv x z h := by
    unfold plainElem at h
    rw [he] at h
    cases x <;> simp at h
    exact ⟨_, rfl, h.symm, trivial⟩
  inj u v h := by injection h with h; injection h

/-- how an account stands: floor, balance, held -/
structure Ac where
  floor : Int
  bal : Int
  held : Int
def Ac.val (a : Ac) : Value := .agg #[.int .i64 a.floor, .int .i64 a.bal, .int .i64 a.held]
def Ac.dat (a : Ac) : DataW Unit := .agg [.lit (.int .i64 a.floor), .lit (.int .i64 a.bal), .lit (.int .i64 a.held)]
def acR : Value → Option (DataW Unit × List MemPlace)
  | .agg ⟨[.int .i64 f, .int .i64 b, .int .i64 h]⟩ => some ((Ac.mk f b h).dat, [])
  | _ => none
def acE : ElC Ac where
  mk := Ac.val
  dat := Ac.dat
  ok _ := True
  R := acR
  of v _ := rfl
  inv x z h := by
    unfold acR at h
    split at h
    · cases h; exact ⟨⟨_, _, _⟩, rfl, rfl, trivial⟩
    · cases h
  inj u v h := by
    obtain ⟨a, b, c⟩ := u
    obtain ⟨a', b', c'⟩ := v
    simp [Ac.dat] at h
    simp [h]
end Go.Proofs.YtdinloecgaapaaaGreatDoor
namespace Go.Proofs.YtdinloecgaapaaaGreatDoor
open Go.RowKit Go.Lib
set_option linter.unusedVariables false

def goodC (c : UInt8) : Prop := (97 ≤ c.toNat ∧ c.toNat ≤ 122) ∨ (48 ≤ c.toNat ∧ c.toNat ≤ 57) ∨ c.toNat = 45 ∨ c.toNat = 58
instance (c : UInt8) : Decidable (goodC c) := by unfold goodC; infer_instance
structure GoodName (s : ByteArray) : Prop where
  pos : 1 ≤ s.size
  le : s.size ≤ 32
  all : ∀ k (h : k < s.size), goodC s[k]
structure GoodCur (s : ByteArray) : Prop where
  len : s.size = 3
  all : ∀ k (h : k < s.size), 65 ≤ s[k].toNat ∧ s[k].toNat ≤ 90

set_option maxHeartbeats 800000 in
theorem isName_good (s : ByteArray) (w : World) (hG : GoodName s) :
    Calls Tryz.prog 70 #[.string s] w fun e w' => e = .returned (.bool true) ∧ w = w' := by
  have h1 := hG.pos
  have h2 := hG.le
  have Ha := Lib.hid hG.all
  clear hG
  go_enter Tryz.func70, Tryz.ntmps70
  go_wp2
  go_loop [15] (fun i => ∃ k : Nat, k ≤ s.size ∧ i = .int .i64 k) (fun i => s.size - (intOf i).toNat)
  case atStart => exact ⟨0, Nat.zero_le _, rfl⟩
  case round =>
    obtain ⟨k, hk, rfl⟩ := hrel
    by_cases hlt : k < s.size
    · have hc := Ha.out k hlt
      unfold goodC at hc
      rcases hc with h | h | h | h
      all_goals
        first
          | have e45 : ((s[k].toNat : Int) != 45) = true := by simp; omega
          | have e45 : ((s[k].toNat : Int) != 45) = false := by simp; omega
        first
          | have e58 : ((s[k].toNat : Int) != 58) = true := by simp; omega
          | have e58 : ((s[k].toNat : Int) != 58) = false := by simp; omega
        go_wp2
        go_round
        case rel => exact ⟨k + 1, by omega, by go_num⟩
        case measure => simp [intOf]; omega
    · go_wp2
      go_ret
      exact ⟨rfl, rfl⟩

set_option maxHeartbeats 800000 in
theorem isCurrency_good (s : ByteArray) (w : World) (hG : GoodCur s) :
    Calls Tryz.prog 71 #[.string s] w fun e w' => e = .returned (.bool true) ∧ w = w' := by
  have h1 := hG.len
  have Ha := Lib.hid hG.all
  clear hG
  go_enter Tryz.func71, Tryz.ntmps71
  go_wp2
  go_loop [9] (fun i => ∃ k : Nat, k ≤ s.size ∧ i = .int .i64 k) (fun i => s.size - (intOf i).toNat)
  case atStart => exact ⟨0, Nat.zero_le _, rfl⟩
  case round =>
    obtain ⟨k, hk, rfl⟩ := hrel
    by_cases hlt : k < s.size
    · have hc := Ha.out k hlt
      go_wp2
      go_round
      case rel => exact ⟨k + 1, by omega, by go_num⟩
      case measure => simp [intOf]; omega
    · go_wp2
      go_ret
      exact ⟨rfl, rfl⟩
end Go.Proofs.YtdinloecgaapaaaGreatDoor
namespace Go.Proofs.YtdinloecgaapaaaGreatDoor
open Go.RowKit Go.Lib
set_option linter.unusedVariables false
set_option maxRecDepth 100000

/-- the slice's elements are the texts L, in blocks below B -/
def Rs (w : World) (B : Nat) (A : Option Addr) (L : List ByteArray) : Prop :=
  0 < L.length → ∃ g off, A = some ⟨g, off, none⟩ ∧ g < B ∧ ∀ i x, L[i]? = some x → w.cell? ⟨g, off + i, none⟩ = some (.string x)
section
variable {w w' : World} {B B' : Nat} {A : Option Addr} {L : List ByteArray}
theorem Rs.below (h : Rs w B A L) (hb : Below B w w') : Rs w' B A L := fun hl => by
  obtain ⟨g, off, e, hg, hc⟩ := h hl
  exact ⟨g, off, e, hg, fun i x hx => (hb.cell (p := ⟨g, off + i, none⟩) hg).trans (hc i x hx)⟩
theorem Rs.more (h : Rs w B A L) (hB : B ≤ B') : Rs w B' A L := fun hl => by
  obtain ⟨g, off, e, hg, hc⟩ := h hl
  exact ⟨g, off, e, by omega, hc⟩
theorem Rs.at_ (h : Rs w B A L) {k : Nat} (hk : k < L.length) : ∃ g off, A = some ⟨g, off, none⟩ ∧ g < B ∧ w.cell? ⟨g, off + k, none⟩ = some (.string L[k]) := by
  obtain ⟨g, off, e, hg, hc⟩ := h (by omega)
  exact ⟨g, off, e, hg, hc k _ (List.getElem?_eq_getElem hk)⟩
end

set_option maxHeartbeats 1000000 in
theorem same_eq (L : List ByteArray) (A1 A2 : Option Addr) (c1 c2 : Nat) (w : World) (h1 : Rs w w.heap.size A1 L) (h2 : Rs w w.heap.size A2 L) (hl : L.length ≤ 1000000) :
    Calls Tryz.prog 9 #[.slice A1 L.length c1, .slice A2 L.length c2] w fun e w' => e = .returned (.bool true) ∧ Below w.heap.size w w' := by
  go_enter Tryz.func9, Tryz.ntmps9
  go_wp2
  go_loopw [5] (fun i wr => ∃ k : Nat, k ≤ L.length ∧ i = .int .i64 k ∧ Hid (Below w.heap.size w wr)) (fun i _ => L.length - (intOf i).toNat)
  case atStart => exact ⟨0, Nat.zero_le _, rfl, Lib.hid (Below.refl _ _)⟩
  case round =>
    obtain ⟨k, hk, rfl, Hb⟩ := hrel
    by_cases hlt : k < L.length
    · obtain ⟨g1, o1, rfl, hg1, hc1⟩ := (h1.below Hb.out).at_ hlt
      obtain ⟨g2, o2, rfl, hg2, hc2⟩ := (h2.below Hb.out).at_ hlt
      generalize L[k] = x at *
      have he : (x.toList == x.toList) = true := by simp
      clear h1 h2
      go_wp2_with fail
      go_quiet (fail)
      go_wp2_with fail
      go_roundw
      case rel => exact ⟨k + 1, by omega, by go_num, Lib.hid ⟨Hb.out.os, Hb.out.tape, Hb.out.output, Hb.out.size, Hb.out.block⟩⟩
      case measure => simp [intOf]; omega
    · go_wp2
      go_ret
      exact ⟨rfl, Hb.out⟩
end Go.Proofs.YtdinloecgaapaaaGreatDoor
namespace Go.Proofs.YtdinloecgaapaaaGreatDoor
open Go.RowKit Go.Lib
set_option linter.unusedVariables false
set_option maxRecDepth 100000

def inS (L : List ByteArray) (s : ByteArray) : Bool := L.any fun x => x.toList == s.toList
theorem inS_at (L : List ByteArray) (s : ByteArray) (k : Nat) (h : k < L.length) (e : (L[k].toList == s.toList) = true) : inS L s = true := by
  unfold inS
  rw [List.any_eq_true]
  exact ⟨_, List.getElem_mem h, e⟩
theorem inS_step (L : List ByteArray) (s : ByteArray) (k : Nat) (h : k < L.length) (h0 : inS (L.take k) s = false) (e : (L[k].toList == s.toList) = false) : inS (L.take (k + 1)) s = false := by
  rw [List.take_succ_eq_append_getElem h]
  unfold inS at h0 ⊢
  rw [List.any_append, h0, List.any_cons, e]
  rfl

set_option maxHeartbeats 1000000 in
theorem in_any (L : List ByteArray) (s : ByteArray) (A : Option Addr) (c : Nat) (w : World) (h : Rs w w.heap.size A L) (hl : L.length ≤ 1000000) :
    Calls Tryz.prog 65 #[.slice A L.length c, .string s] w fun e w' => e = .returned (.bool (inS L s)) ∧ Below w.heap.size w w' := by
  go_enter Tryz.func65, Tryz.ntmps65
  go_wp2
  go_loopw [5] (fun i wr => ∃ k : Nat, k ≤ L.length ∧ i = .int .i64 k ∧ Hid (Below w.heap.size w wr) ∧ Hid (inS (L.take k) s = false)) (fun i _ => L.length - (RowKit.intOf i).toNat)
  case atStart => exact ⟨0, Nat.zero_le _, rfl, Lib.hid (Below.refl _ _), Lib.hid rfl⟩
  case round =>
    obtain ⟨k, hk, rfl, Hb, Hn⟩ := hrel
    by_cases hlt : k < L.length
    · obtain ⟨g1, o1, rfl, hg1, hc1⟩ := (h.below Hb.out).at_ hlt
      by_cases he : (L[k].toList == s.toList) = true
      · have Hin := Lib.hid (inS_at L s k hlt he)
        generalize L[k] = x at *
        clear h
        go_wp2
        go_ret
        exact ⟨by rw [Hin.out]; rfl, Hb.out⟩
      · have he' : (L[k].toList == s.toList) = false := by simpa using he
        have Hno := Lib.hid (inS_step L s k hlt Hn.out he')
        generalize L[k] = x at *
        clear h he
        go_wp2_with fail
        go_roundw
        case rel => exact ⟨k + 1, by omega, by go_num, Hb, Hno⟩
        case measure => simp [RowKit.intOf]; omega
    · have Hno := Hn
      rw [List.take_of_length_le (by omega)] at Hno
      go_wp2
      go_ret
      exact ⟨by rw [Hno.out]; rfl, Hb.out⟩
end Go.Proofs.YtdinloecgaapaaaGreatDoor
