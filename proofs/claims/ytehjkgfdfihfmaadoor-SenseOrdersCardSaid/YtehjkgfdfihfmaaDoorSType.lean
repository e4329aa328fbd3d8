/- sense.has, sense.Type, sense.Kind; supercargoref29.in, Type; supercargoref17.Texts. -/
import Derived.Test.YtehjkgfdfihfmaaDoorSVal
namespace Go.Proofs.YtehjkgfdfihfmaaDoor
open Go.RowKit Go.Maps Go.Lib
set_option linter.unusedVariables false
set_option maxRecDepth 100000

def inL (L : List ByteArray) (s : ByteArray) : Bool := L.any fun x => x.toList == s.toList
theorem ba_tl {x y : ByteArray} (h : x.toList = y.toList) : x = y := by
  rw [ByteArray.toList_eq, ByteArray.toList_eq] at h
  exact ByteArray.ext (Array.ext' h)
theorem inL_iff (L : List ByteArray) (s : ByteArray) : inL L s = true ↔ s ∈ L := by
  unfold inL
  rw [List.any_eq_true]
  constructor
  · rintro ⟨x, hx, e⟩
    rw [← ba_tl (beq_iff_eq.1 e)]; exact hx
  · intro h
    exact ⟨s, h, by simp⟩
theorem inL_contains (L : List ByteArray) (s : ByteArray) : Lib.containsS L s = inL L s := by
  rw [Bool.eq_iff_iff, inL_iff, Lib.containsS_iff]
theorem contains_any (A : Option Addr) (c : Nat) (L : List ByteArray) (s : ByteArray) (w : World) (hR : Rs w w.heap.size A L) (hl : L.length ≤ 1000) : Calls Tryd.prog 37 #[.slice A L.length c, .string s] w fun e w' => e = .returned (.bool (inL L s)) ∧ w' = w := by
  rcases Nat.eq_zero_or_pos L.length with h0 | h0
  · obtain rfl := List.length_eq_zero_iff.1 h0
    exact Tryd.slices_Contains_string_empty A c s w
  · obtain ⟨g, off, rfl, hg, hc⟩ := hR h0
    have := Tryd.slices_Contains_string g off L.length c L s w (Nat.le_refl _) (by omega) (fun j hj => by
      rw [hc j _ (List.getElem?_eq_getElem hj)]
      simp [hj])
    rw [List.take_length, inL_contains] at this
    exact this
theorem fieldsL_len (k : Int) : (fieldsL k).length ≤ 9 := by
  unfold fieldsL
  repeat' split
  all_goals first | (simp [fl0]; done) | (simp [fl1]; done) | (simp [fl2]; done) | (simp [fl3]; done) | (simp [fl4]; done) | (simp [fl5]; done) | simp

set_option maxHeartbeats 1000000 in
theorem has_any (k : Int) (s : ByteArray) (w : World) : Calls Tryd.prog 26 #[.int .i64 k, .string s] w fun e w' => e = .returned (.bool (inL (fieldsL k) s)) ∧ Below w.heap.size w w' := by
  have hl := fieldsL_len k
  have HF := Lib.hid (fields_any k w)
  go_enter Tryd.func26, Tryd.ntmps26
  go_wp2_with fail
  refine HF.out.mono ?_
  rintro e w1 ⟨A, c, rfl, hR, hb⟩
  have HC := Lib.hid (contains_any A c (fieldsL k) s w1 hR (by omega))
  have HB := Lib.hid hb
  clear hR hb HF
  go_wp2_with fail
  refine HC.out.mono ?_
  rintro e w2 ⟨rfl, rfl⟩
  go_wp2
  go_ret
  exact ⟨rfl, HB.out⟩
set_option maxHeartbeats 1000000 in
theorem in_any (A : Option Addr) (c : Nat) (L : List ByteArray) (s : ByteArray) (w : World) (hR : Rs w w.heap.size A L) (hl : L.length ≤ 1000) : Calls Tryd.prog 27 #[.slice A L.length c, .string s] w fun e w' => e = .returned (.bool (inL L s)) ∧ w' = w := by
  have HR := Lib.hid hR
  clear hR
  go_enter Tryd.func27, Tryd.ntmps27
  go_wp2_with fail
  go_loopw [5] (fun i wr => ∃ k : Nat, i = .int .i64 (k : Int) ∧ k ≤ L.length ∧ wr = w ∧ Hid (inL L s = inL (L.drop k) s)) (fun i _ => L.length - (RowKit.intOf i).toNat)
  case atStart => exact ⟨0, rfl, Nat.zero_le _, rfl, Lib.hid rfl⟩
  case round =>
    obtain ⟨k, rfl, hk, rfl, HI⟩ := hrel
    by_cases hlt : k < L.length
    · have hlt' : (k : Int) < (L.length : Int) := by omega
      obtain ⟨g, off, rfl, hg, hc⟩ := HR.out.at_ hlt
      have hst : inL (L.drop k) s = ((L[k].toList == s.toList) || inL (L.drop (k + 1)) s) := by
        rw [List.drop_eq_getElem_cons hlt]
        rfl
      have Hst := Lib.hid hst
      clear hst
      generalize L[k] = x at *
      cases hq : (x.toList == s.toList) with
      | true =>
        have HE : Hid (inL L s = true) := Lib.hid (by rw [HI.out, Hst.out, hq]; rfl)
        go_wp2
        go_ret
        exact ⟨by rw [HE.out]; rfl, rfl⟩
      | false =>
        have HN : Hid (inL L s = inL (L.drop (k + 1)) s) := Lib.hid (by rw [HI.out, Hst.out, hq]; rfl)
        go_wp2
        go_roundw
        case rel => exact ⟨k + 1, by go_num, by omega, by simp, HN⟩
        case measure => simp [RowKit.intOf]; omega
    · have hlt' : ¬ (k : Int) < (L.length : Int) := by omega
      have HE : Hid (inL L s = false) := Lib.hid (by rw [HI.out, List.drop_eq_nil_of_le (by omega)]; rfl)
      go_wp2
      go_ret
      exact ⟨by rw [HE.out]; rfl, rfl⟩

abbrev sumT : List UInt8 := [115, 117, 109]
abbrev boxesT : List UInt8 := [98, 111, 120, 101, 115]
abbrev termT : List UInt8 := [116, 101, 114, 109]
abbrev issuedT : List UInt8 := [105, 115, 115, 117, 101, 100]
def is1 (s : ByteArray) : Bool := (s.toList == sumT) || (s.toList == boxesT) || (s.toList == termT)
/-- is there a kind, from k on, that has the field? -/
def someK (s : ByteArray) : Nat → Nat → Bool
  | 0, _ => false
  | n + 1, k => inL (fieldsL (k : Nat)) s || someK s n (k + 1)
def typeB (s : ByteArray) : Int := if is1 s then 1 else if s.toList == issuedT then 2 else if someK s 6 0 then 0 else -1

set_option maxHeartbeats 1000000 in
theorem type_any (s : ByteArray) (w : World) : Calls Tryd.prog 15 #[.string s] w fun e w' => e = .returned (.int .i64 (typeB s)) ∧ Below w.heap.size w w' := by
  cases q1 : (s.toList == sumT) with
  | true =>
    have HE : Hid (typeB s = 1) := Lib.hid (by unfold typeB is1; rw [q1]; rfl)
    change (s.toList == [115, 117, 109]) = _ at q1
    go_enter Tryd.func15, Tryd.ntmps15
    go_wp2
    go_ret
    exact ⟨by rw [HE.out]; rfl, Below.refl _ _⟩
  | false =>
    cases q2 : (s.toList == boxesT) with
    | true =>
      have HE : Hid (typeB s = 1) := Lib.hid (by unfold typeB is1; rw [q1, q2]; rfl)
      change (s.toList == [115, 117, 109]) = _ at q1
      change (s.toList == [98, 111, 120, 101, 115]) = _ at q2
      go_enter Tryd.func15, Tryd.ntmps15
      go_wp2
      go_ret
      exact ⟨by rw [HE.out]; rfl, Below.refl _ _⟩
    | false =>
      cases q3 : (s.toList == termT) with
      | true =>
        have HE : Hid (typeB s = 1) := Lib.hid (by unfold typeB is1; rw [q1, q2, q3]; rfl)
        change (s.toList == [115, 117, 109]) = _ at q1
        change (s.toList == [98, 111, 120, 101, 115]) = _ at q2
        change (s.toList == [116, 101, 114, 109]) = _ at q3
        go_enter Tryd.func15, Tryd.ntmps15
        go_wp2
        go_ret
        exact ⟨by rw [HE.out]; rfl, Below.refl _ _⟩
      | false =>
        have h1 : is1 s = false := by unfold is1; rw [q1, q2, q3]; rfl
        cases q4 : (s.toList == issuedT) with
        | true =>
          have HE : Hid (typeB s = 2) := Lib.hid (by unfold typeB; rw [h1, q4]; rfl)
          change (s.toList == [115, 117, 109]) = _ at q1
          change (s.toList == [98, 111, 120, 101, 115]) = _ at q2
          change (s.toList == [116, 101, 114, 109]) = _ at q3
          change (s.toList == [105, 115, 115, 117, 101, 100]) = _ at q4
          go_enter Tryd.func15, Tryd.ntmps15
          go_wp2
          go_ret
          exact ⟨by rw [HE.out]; rfl, Below.refl _ _⟩
        | false =>
          have HT : Hid (typeB s = if someK s 6 0 then 0 else -1) := Lib.hid (by unfold typeB; rw [h1, q4]; rfl)
          change (s.toList == [115, 117, 109]) = _ at q1
          change (s.toList == [98, 111, 120, 101, 115]) = _ at q2
          change (s.toList == [116, 101, 114, 109]) = _ at q3
          change (s.toList == [105, 115, 115, 117, 101, 100]) = _ at q4
          go_enter Tryd.func15, Tryd.ntmps15
          go_wp2_with fail
          go_loopw [11] (fun i wr => ∃ k : Nat, i = .int .i64 (k : Int) ∧ k ≤ 6 ∧ Hid (someK s 6 0 = someK s (6 - k) k) ∧ Hid (Below w.heap.size w wr)) (fun i _ => 6 - (RowKit.intOf i).toNat)
          case atStart => exact ⟨0, rfl, by omega, Lib.hid rfl, Lib.hid (Below.refl _ _)⟩
          case round =>
            obtain ⟨k, rfl, hk, HI, HB⟩ := hrel
            by_cases hlt : k < 6
            · have hlt' : (k : Int) < 6 := by omega
              obtain ⟨j, hj⟩ : ∃ j, 6 - k = j + 1 := ⟨5 - k, by omega⟩
              have hst : someK s (6 - k) k = (inL (fieldsL (k : Nat)) s || someK s (6 - (k + 1)) (k + 1)) := by
                rw [hj, show 6 - (k + 1) = j by omega, someK]
              have Hst := Lib.hid hst
              clear hst hj

              have HH := Lib.hid (has_any (k : Int) s wr)
              cases hin : inL (fieldsL (k : Nat)) s with
              | true =>
                have HE : Hid (typeB s = 0) := Lib.hid (by rw [HT.out, HI.out, Hst.out, hin]; rfl)
                rw [hin] at HH
                go_wp2_with (first
                  | (go_at_call 26; refine HH.out.mono ?_; rintro e w1 ⟨rfl, hb1⟩; have HB1 := Lib.hid hb1; clear hb1)
                  | fail)
                go_ret
                exact ⟨by rw [HE.out]; rfl, HB.out.trans (HB1.out.mono HB.out.size)⟩
              | false =>
                have HN : Hid (someK s 6 0 = someK s (6 - (k + 1)) (k + 1)) := Lib.hid (by rw [HI.out, Hst.out, hin]; rfl)
                rw [hin] at HH
                go_wp2_with (first
                  | (go_at_call 26; refine HH.out.mono ?_; rintro e w1 ⟨rfl, hb1⟩; have HB1 := Lib.hid hb1; clear hb1)
                  | fail)
                go_roundw
                case rel => exact ⟨k + 1, by go_num, by omega, HN, Lib.hid (HB.out.trans (HB1.out.mono HB.out.size))⟩
                case measure => simp [RowKit.intOf]; omega
            · have hlt' : ¬ (k : Int) < 6 := by omega
              have HE : Hid (typeB s = -1) := Lib.hid (by rw [HT.out, HI.out, show 6 - k = 0 by omega]; rfl)
              go_wp2
              go_ret
              exact ⟨by rw [HE.out]; rfl, HB.out⟩
set_option maxHeartbeats 1000000 in
theorem refType_any (s : ByteArray) (w : World) : Calls Tryd.prog 16 #[.string s] w fun e w' => e = .returned (.int .i64 (typeB s)) ∧ Below w.heap.size w w' := by
  cases q1 : (s.toList == sumT) with
  | true =>
    have HE : Hid (typeB s = 1) := Lib.hid (by unfold typeB is1; rw [q1]; rfl)
    change (s.toList == [115, 117, 109]) = _ at q1
    go_enter Tryd.func16, Tryd.ntmps16
    go_wp2
    go_ret
    exact ⟨by rw [HE.out]; rfl, Below.refl _ _⟩
  | false =>
    cases q2 : (s.toList == boxesT) with
    | true =>
      have HE : Hid (typeB s = 1) := Lib.hid (by unfold typeB is1; rw [q1, q2]; rfl)
      change (s.toList == [115, 117, 109]) = _ at q1
      change (s.toList == [98, 111, 120, 101, 115]) = _ at q2
      go_enter Tryd.func16, Tryd.ntmps16
      go_wp2
      go_ret
      exact ⟨by rw [HE.out]; rfl, Below.refl _ _⟩
    | false =>
      cases q3 : (s.toList == termT) with
      | true =>
        have HE : Hid (typeB s = 1) := Lib.hid (by unfold typeB is1; rw [q1, q2, q3]; rfl)
        change (s.toList == [115, 117, 109]) = _ at q1
        change (s.toList == [98, 111, 120, 101, 115]) = _ at q2
        change (s.toList == [116, 101, 114, 109]) = _ at q3
        go_enter Tryd.func16, Tryd.ntmps16
        go_wp2
        go_ret
        exact ⟨by rw [HE.out]; rfl, Below.refl _ _⟩
      | false =>
        have h1 : is1 s = false := by unfold is1; rw [q1, q2, q3]; rfl
        cases q4 : (s.toList == issuedT) with
        | true =>
          have HE : Hid (typeB s = 2) := Lib.hid (by unfold typeB; rw [h1, q4]; rfl)
          change (s.toList == [115, 117, 109]) = _ at q1
          change (s.toList == [98, 111, 120, 101, 115]) = _ at q2
          change (s.toList == [116, 101, 114, 109]) = _ at q3
          change (s.toList == [105, 115, 115, 117, 101, 100]) = _ at q4
          go_enter Tryd.func16, Tryd.ntmps16
          go_wp2
          go_ret
          exact ⟨by rw [HE.out]; rfl, Below.refl _ _⟩
        | false =>
          have HT : Hid (typeB s = if someK s 6 0 then 0 else -1) := Lib.hid (by unfold typeB; rw [h1, q4]; rfl)
          change (s.toList == [115, 117, 109]) = _ at q1
          change (s.toList == [98, 111, 120, 101, 115]) = _ at q2
          change (s.toList == [116, 101, 114, 109]) = _ at q3
          change (s.toList == [105, 115, 115, 117, 101, 100]) = _ at q4
          go_enter Tryd.func16, Tryd.ntmps16
          go_wp2_with fail
          go_loopw [3] (fun i wr => ∃ k : Nat, i = .int .i64 (k : Int) ∧ k ≤ 6 ∧ Hid (someK s 6 0 = someK s (6 - k) k) ∧ Hid (Below w.heap.size w wr)) (fun i _ => 6 - (RowKit.intOf i).toNat)
          case atStart => exact ⟨0, rfl, by omega, Lib.hid rfl, Lib.hid (Below.refl _ _)⟩
          case round =>
            obtain ⟨k, rfl, hk, HI, HB⟩ := hrel
            by_cases hlt : k < 6
            · have hlt' : (k : Int) < 6 := by omega
              obtain ⟨j, hj⟩ : ∃ j, 6 - k = j + 1 := ⟨5 - k, by omega⟩
              have hst : someK s (6 - k) k = (inL (fieldsL (k : Nat)) s || someK s (6 - (k + 1)) (k + 1)) := by
                rw [hj, show 6 - (k + 1) = j by omega, someK]
              have Hst := Lib.hid hst
              clear hst hj

              have hl9 := fieldsL_len (k : Int)
              have HF := Lib.hid (refFields_any (k : Int) wr)
              cases hin : inL (fieldsL (k : Nat)) s with
              | true =>
                have HE : Hid (typeB s = 0) := Lib.hid (by rw [HT.out, HI.out, Hst.out, hin]; rfl)
                clear Hst HI HT
                go_wp2_with fail
                refine HF.out.mono ?_
                rintro e w1 ⟨A, c, rfl, hR, hb1⟩
                have HC := Lib.hid (in_any A c (fieldsL (k : Int)) s w1 hR (by omega))
                rw [hin] at HC
                have HB1 := Lib.hid hb1
                clear hR hb1 hin
                generalize fieldsL (k : Int) = L at *
                go_wp2_with fail
                refine HC.out.mono ?_
                rintro e w2 ⟨rfl, rfl⟩
                go_wp2
                go_ret
                exact ⟨by rw [HE.out]; rfl, HB.out.trans (HB1.out.mono HB.out.size)⟩
              | false =>
                have HN : Hid (someK s 6 0 = someK s (6 - (k + 1)) (k + 1)) := Lib.hid (by rw [HI.out, Hst.out, hin]; rfl)
                clear Hst HI
                go_wp2_with fail
                refine HF.out.mono ?_
                rintro e w1 ⟨A, c, rfl, hR, hb1⟩
                have HC := Lib.hid (in_any A c (fieldsL (k : Int)) s w1 hR (by omega))
                rw [hin] at HC
                have HB1 := Lib.hid hb1
                clear hR hb1 hin
                generalize fieldsL (k : Int) = L at *
                go_wp2_with fail
                refine HC.out.mono ?_
                rintro e w2 ⟨rfl, rfl⟩
                go_wp2
                go_roundw
                case rel => exact ⟨k + 1, by go_num, by omega, HN, Lib.hid (HB.out.trans (HB1.out.mono HB.out.size))⟩
                case measure => simp [RowKit.intOf]; omega
            · have hlt' : ¬ (k : Int) < 6 := by omega
              have HE : Hid (typeB s = -1) := Lib.hid (by rw [HT.out, HI.out, show 6 - k = 0 by omega]; rfl)
              go_wp2
              go_ret
              exact ⟨by rw [HE.out]; rfl, HB.out⟩

set_option maxHeartbeats 1000000 in
theorem texts_eq (L : List ByteArray) (A1 A2 : Option Addr) (c1 c2 : Nat) (w : World) (h1 : Rs w w.heap.size A1 L) (h2 : Rs w w.heap.size A2 L) (hl : L.length ≤ 1000000) :
    Calls Tryd.prog 12 #[.slice A1 L.length c1, .slice A2 L.length c2] w fun e w' => e = .returned (.bool true) ∧ Below w.heap.size w w' := by
  have H1 := Lib.hid h1
  have H2 := Lib.hid h2
  clear h1 h2
  go_enter Tryd.func12, Tryd.ntmps12
  go_wp2_with fail
  go_loopw [5] (fun i wr => ∃ k : Nat, i = .int .i64 (k : Int) ∧ k ≤ L.length ∧ Hid (Below w.heap.size w wr)) (fun i _ => L.length - (RowKit.intOf i).toNat)
  case atStart => exact ⟨0, rfl, Nat.zero_le _, Lib.hid (Below.refl _ _)⟩
  case round =>
    obtain ⟨k, rfl, hk, HB⟩ := hrel
    by_cases hlt : k < L.length
    · have hlt' : (k : Int) < (L.length : Int) := by omega
      obtain ⟨g1, o1, rfl, hg1, hc1⟩ := (H1.out.below HB.out).at_ hlt
      obtain ⟨g2, o2, rfl, hg2, hc2⟩ := (H2.out.below HB.out).at_ hlt
      generalize L[k] = x at *
      have q : (x.toList == x.toList) = true := by simp
      have d1 : ∀ n, (wr.drewN n).cell? ⟨g1, o1 + k, none⟩ = some (.string x) := fun n => hc1
      have d2 : ∀ n, (wr.drewN n).cell? ⟨g2, o2 + k, none⟩ = some (.string x) := fun n => hc2
      go_wp2_with fail
      go_quiet (fail)
      have HB2 : Hid (Below w.heap.size w (wr.drewN nq)) := Lib.hid ⟨HB.out.os, HB.out.tape, HB.out.output, HB.out.size, HB.out.block⟩
      clear hc1 hc2 d1 d2
      generalize wr.drewN nq = w2 at *
      go_wp2
      go_roundw
      case rel => exact ⟨k + 1, by go_num, by omega, HB2⟩
      case measure => simp [RowKit.intOf]; omega
    · have hlt' : ¬ (k : Int) < (L.length : Int) := by omega
      go_wp2
      go_ret
      exact ⟨rfl, HB.out⟩
end Go.Proofs.YtehjkgfdfihfmaaDoor
