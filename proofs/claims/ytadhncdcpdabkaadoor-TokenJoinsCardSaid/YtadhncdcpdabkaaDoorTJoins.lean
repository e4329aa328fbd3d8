/- TokenJoins: the walk. -/
import Derived.Test.YtadhncdcpdabkaaDoorTRefJoin
namespace Go.Proofs.YtadhncdcpdabkaaDoor
open Go.RowKit Go.Lib
set_option linter.unusedVariables false

def fewB (L : List GT) : Bool := decide (L.length ≤ 61) && L.all fun g => decide (g.x.size ≤ 100)
theorem few_long {L : List GT} (h : 61 < L.length) : fewB L = false := by unfold fewB; rw [decide_eq_false (by omega)]; rfl
theorem few_big {L : List GT} {g : GT} (hg : g ∈ L) (h : 100 < g.x.size) : fewB L = false := by
  unfold fewB
  rw [Bool.and_eq_false_iff]
  refine .inr (List.all_eq_false.2 ⟨g, hg, by simp; omega⟩)
theorem few_yes {L : List GT} (h : L.length ≤ 61) (ha : (L.all fun g => decide (g.x.size ≤ 100)) = true) : fewB L = true := by unfold fewB; rw [decide_eq_true h, ha]; rfl

set_option maxHeartbeats 1000000 in
set_option maxRecDepth 100000 in
theorem few_any (L : List GT) (A : Option Addr) (c B : Nat) (w : World) (hR : Rg w B A L) (hl : L.length ≤ maxLen) (hx : ∀ t ∈ L, t.x.size ≤ maxLen) :
    Calls Tryd.prog 19 #[.slice A L.length c] w fun e w' => e = .returned (.bool (fewB L)) ∧ w = w' := by
  simp only [maxLen] at hl hx
  have Hx := Lib.hid hx
  clear hx
  go_enter Tryd.func19, Tryd.ntmps19
  go_wp2_with fail
  go_loop [3] (fun i => ∃ k : Nat, k ≤ L.length ∧ k ≤ 61 ∧ i = .int .i64 k ∧ Hid (((L.take k).all fun g => decide (g.x.size ≤ 100)) = true)) (fun i => L.length - (intOf i).toNat)
  case atStart => exact ⟨0, Nat.zero_le _, by omega, rfl, Lib.hid rfl⟩
  case round =>
    obtain ⟨k, hk, hk61, rfl, HA⟩ := hrel
    by_cases hlt : k < L.length
    · obtain ⟨g, off, rfl, hg, d0, d1, d2⟩ := hR.at_ hlt
      have hm : L[k] ∈ L := List.getElem_mem hlt
      have hxs := Hx.out _ hm
      have HT := Lib.hid (show L.take (k + 1) = L.take k ++ [L[k]] from List.take_succ_eq_append_getElem hlt)
      have HB := Lib.hid (few_big (L := L) hm)
      have hk0 : (0 : Int) ≤ (k : Int) := by omega
      have hk1 : (k : Int) < (L.length : Int) := by omega
      clear d0 d1
      generalize L[k] = t at *
      rcases (show k = 61 ∨ (k ≤ 60 ∧ 100 < t.x.size) ∨ (k ≤ 60 ∧ t.x.size ≤ 100) by omega) with h | ⟨h, h'⟩ | ⟨h, h'⟩
      · have j1 : decide ((60 : Int) < (k : Int)) = true := by simp; omega
        have HF := Lib.hid (few_long (L := L) (by omega))
        clear h
        go_wp2_with fail
        go_ret
        exact ⟨by rw [HF.out]; rfl, rfl⟩
      · have j1 : decide ((60 : Int) < (k : Int)) = false := by simp; omega
        have j2 : decide ((100 : Int) < (t.x.size : Int)) = true := by simp; omega
        have HF := Lib.hid (HB.out h')
        go_wp2_with fail
        go_ret
        exact ⟨by rw [HF.out]; rfl, rfl⟩
      · have j1 : decide ((60 : Int) < (k : Int)) = false := by simp; omega
        have j2 : decide ((100 : Int) < (t.x.size : Int)) = false := by simp; omega
        go_wp2_with fail
        go_round
        case rel => exact ⟨k + 1, by omega, by omega, by go_num, Lib.hid (by rw [HT.out, List.all_append, HA.out]; simp; omega)⟩
        case measure => simp [intOf]; omega
    · have ht : L.take k = L := List.take_of_length_le (by omega)
      have HF := Lib.hid (few_yes (L := L) (by omega) (by have := HA.out; rwa [ht] at this))
      clear ht
      go_wp2_with fail
      go_ret
      exact ⟨by rw [HF.out]; rfl, rfl⟩
theorem few_is {L : List GT} (h : fewB L = true) : L.length ≤ 61 ∧ ∀ t ∈ L, t.x.size ≤ 1000000 := by
  unfold fewB at h
  simp only [Bool.and_eq_true, decide_eq_true_eq, List.all_eq_true] at h
  exact ⟨h.1, fun t ht => by have := h.2 t ht; omega⟩

def kindB (k : Nat) : ByteArray := ⟨(kindNames.getD k []).toArray⟩
def nameZ (z : Int) : ByteArray := if 0 ≤ z ∧ z < 6 then kindB z.toNat else ⟨#[]⟩
/-- the table of the kinds' names stands -/
structure Kd (w : World) : Prop where
  lt : 1 < w.heap.size
  at_ : ∀ k, k < 6 → w.cell? ⟨1, k, none⟩ = some (.string (kindB k))
theorem Kd.all {w w' : World} (h : Kd w) (hb : Below w.heap.size w w') : Kd w' := ⟨Nat.lt_of_lt_of_le h.lt hb.size, fun k hk => (hb.cell (p := ⟨1, k, none⟩) h.lt).trans (h.at_ k hk)⟩

set_option maxHeartbeats 400000 in
theorem tokName_any (z : Int) (w : World) (hK : Kd w) : Calls Tryd.prog 21 #[.int .i64 z] w fun e w' => e = .returned (.string (nameZ z)) ∧ w = w' := by
  rcases (show z < 0 ∨ (0 ≤ z ∧ 6 ≤ z) ∨ (0 ≤ z ∧ z < 6) by omega) with h | ⟨h, h'⟩ | ⟨h, h'⟩
  · have HN := Lib.hid (show nameZ z = ⟨#[]⟩ by unfold nameZ; rw [if_neg (by omega)])
    have j1 : decide (z < 0) = true := by simpa using h
    go_enter Tryd.func21, Tryd.ntmps21
    go_wp2_with fail
    go_ret
    exact ⟨by rw [HN.out]; rfl, rfl⟩
  · have HN := Lib.hid (show nameZ z = ⟨#[]⟩ by unfold nameZ; rw [if_neg (by omega)])
    have j1 : decide (z < 0) = false := by simpa using h
    have j2 : decide (6 ≤ z) = true := by simpa using h'
    go_enter Tryd.func21, Tryd.ntmps21
    go_wp2_with fail
    go_ret
    exact ⟨by rw [HN.out]; rfl, rfl⟩
  · obtain ⟨k, rfl⟩ := Int.eq_ofNat_of_zero_le h
    have HN := Lib.hid (show nameZ (k : Int) = kindB k by unfold nameZ; rw [if_pos ⟨h, h'⟩]; rfl)
    have j1 : decide ((k : Int) < 0) = false := by simp
    have j2 : decide (6 ≤ (k : Int)) = false := by simp; omega
    have c0 := hK.at_ k (by omega)
    go_enter Tryd.func21, Tryd.ntmps21
    go_wp2_with fail
    go_ret
    exact ⟨by rw [HN.out]; rfl, rfl⟩

set_option maxHeartbeats 400000 in
theorem refNameOf_any (z : Int) (w : World) : Calls Tryd.prog 22 #[.int .i64 z] w fun e w' => e = .returned (.string (nameZ z)) ∧ Below w.heap.size w w' := by
  rcases (show z < 0 ∨ (0 ≤ z ∧ 6 ≤ z) ∨ z = 0 ∨ z = 1 ∨ z = 2 ∨ z = 3 ∨ z = 4 ∨ z = 5 by omega) with h | ⟨h, h'⟩ | rfl | rfl | rfl | rfl | rfl | rfl
  · have HN := Lib.hid (show nameZ z = ⟨#[]⟩ by unfold nameZ; rw [if_neg (by omega)])
    have j1 : decide (z < 0) = true := by simpa using h
    go_enter Tryd.func22, Tryd.ntmps22
    go_wp2_with fail
    go_ret
    exact ⟨by rw [HN.out]; rfl, (Below.refl _ _).alloc (Nat.le_refl _) _⟩
  · have HN := Lib.hid (show nameZ z = ⟨#[]⟩ by unfold nameZ; rw [if_neg (by omega)])
    have j1 : decide (z < 0) = false := by simpa using h
    have j2 : decide (5 < z) = true := by simp; omega
    go_enter Tryd.func22, Tryd.ntmps22
    go_wp2_with fail
    go_ret
    exact ⟨by rw [HN.out]; rfl, (Below.refl _ _).alloc (Nat.le_refl _) _⟩
  all_goals
    go_enter Tryd.func22, Tryd.ntmps22
    go_wp2_with fail
    go_ret
    exact ⟨rfl, (Below.refl _ _).alloc (Nat.le_refl _) _⟩

set_option maxHeartbeats 1000000 in
set_option maxRecDepth 100000 in
theorem joins_any (L : List GT) (A : Option Addr) (c : Nat) (z : Int) (w : World) (hW : Wd w) (hK : Kd w) (hR : Rg w w.heap.size A L) (hl : L.length ≤ maxLen) (hx : ∀ t ∈ L, t.x.size ≤ maxLen) :
    Calls Tryd.prog 9 #[.slice A L.length c, .int .i64 z] w fun e w' => e = .returned (.bool true) ∧ Below w.heap.size w w' := by
  have Hl := Lib.hid hl
  have Hx := Lib.hid hx
  clear hl hx
  go_enter Tryd.func9, Tryd.ntmps9
  go_wp2_with fail
  refine (awake_any _ hW).mono ?_
  rintro e w1 ⟨rfl, hb1⟩
  have hW1 := hW.all hb1
  have hK1 := hK.all hb1
  have hR1 := (hR.below hb1).more hb1.size
  have H1 := Lib.hid hb1
  clear hb1 hW hK hR
  go_wp2_with fail
  refine (few_any L A c _ _ hR1 Hl.out Hx.out).mono ?_
  rintro e w' ⟨rfl, rfl⟩
  cases hf : fewB L
  · go_wp2_with fail
    go_ret
    exact ⟨rfl, H1.out⟩
  · obtain ⟨f1, f2⟩ := few_is hf
    have F2 := Lib.hid f2
    clear f2 hf
    go_wp2_with fail
    refine (join_any L A c _ hW1 hR1 (by omega) F2.out).mono ?_
    rintro e w2 ⟨rfl, hb2⟩
    have hK2 := hK1.all hb2
    have hR2 := (hR1.below hb2).more hb2.size
    have H2 := Lib.hid (below_trans' (Nat.le_refl _) H1.out hb2)
    clear hb2 hW1 hK1 hR1 H1
    go_wp2_with fail
    refine (refJoin_any L A c _ hR2 (by omega) F2.out).mono ?_
    rintro e w3 ⟨rfl, hb3⟩
    have hK3 := hK2.all hb3
    have H3 := Lib.hid (below_trans' (Nat.le_refl _) H2.out hb3)
    clear hb3 hK2 hR2 H2
    generalize joinG L = J at *
    go_wp2_with fail
    refine (tokName_any z _ hK3).mono ?_
    rintro e w' ⟨rfl, rfl⟩
    go_wp2_with fail
    refine (refNameOf_any z _).mono ?_
    rintro e w4 ⟨rfl, hb4⟩
    generalize nameZ z = Z at *
    go_wp2_with fail
    go_ret
    exact ⟨rfl, below_trans' (Nat.le_refl _) H3.out hb4⟩
end Go.Proofs.YtadhncdcpdabkaaDoor
