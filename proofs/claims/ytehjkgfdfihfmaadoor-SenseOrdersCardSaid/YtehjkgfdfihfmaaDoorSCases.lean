/- sense.cases. -/
import Derived.Test.YtehjkgfdfihfmaaDoorSCaseP
import Derived.Test.YtehjkgfdfihfmaaDoorSPlace
import Derived.Test.YtehjkgfdfihfmaaDoorSCross2
namespace Go.Proofs.YtehjkgfdfihfmaaDoor
open Go.RowKit Go.Maps Go.Lib
set_option linter.unusedVariables false
set_option maxRecDepth 100000

/-- lists of atoms' places, read -/
def rd (L : List Rl) (ls : List (List Nat)) : List (List Rl) := ls.map fun l => l.filterMap fun i => L[i]?
def InL (n : Nat) (ls : List (List Nat)) : Prop := ∀ l ∈ ls, ∀ i ∈ l, i < n
theorem rd_more (L M : List Rl) (ls : List (List Nat)) (h : InL L.length ls) : rd (L ++ M) ls = rd L ls := by
  unfold rd
  refine List.map_congr_left fun l hl => ?_
  have hl' := h l hl
  clear hl
  induction l with
  | nil => rfl
  | cons i l ih =>
    rw [List.filterMap_cons, List.filterMap_cons, List.getElem?_append_left (hl' i (by simp)), ih (fun j hj => hl' j (by simp [hj]))]
theorem rd_append (L : List Rl) (a b : List (List Nat)) : rd L (a ++ b) = rd L a ++ rd L b := by simp [rd]
theorem rd_cross (L : List Rl) (a b : List (List Nat)) : rd L (crossL a b) = (rd L a).flatMap fun p => (rd L b).map fun q => p ++ q := by
  induction a with
  | nil => rfl
  | cons x a ih =>
    have : crossL (x :: a) b = (b.map fun y => x ++ y) ++ crossL a b := by simp [crossL]
    rw [this, rd_append, ih]
    simp [rd, List.filterMap_append]
theorem InL.more {n m : Nat} {ls : List (List Nat)} (h : InL n ls) (hm : n ≤ m) : InL m ls := fun l hl i hi => Nat.lt_of_lt_of_le (h l hl i hi) hm
theorem InL.append {n : Nat} {a b : List (List Nat)} (h : InL n a) (k : InL n b) : InL n (a ++ b) := fun l hl => by
  rcases List.mem_append.1 hl with hl | hl
  · exact h l hl
  · exact k l hl
theorem InL.cross {n : Nat} {a b : List (List Nat)} (h : InL n a) (k : InL n b) : InL n (crossL a b) := fun l hl i hi => by
  obtain ⟨p, hp, hl⟩ := List.mem_flatMap.1 hl
  obtain ⟨q, hq, rfl⟩ := List.mem_map.1 hl
  rcases List.mem_append.1 hi with hi | hi
  · exact h p hp i hi
  · exact k q hq i hi
theorem rd_len (L : List Rl) (ls : List (List Nat)) : (rd L ls).length = ls.length := by simp [rd]
/-- what sense.cases leaves -/
def CRes (x : Rl) (w : World) (base pb : Nat) (v : Value) (L : List Rl) (u : Value) (w' : World) : Prop :=
  ∃ ls us v' L' cs', LL w' w.heap.size u ls us ∧ At w' base pb v' (L ++ L') cs' ∧ Gr pb v v' w w' ∧ rd (L ++ L') ls = casesR x ∧ InL (L ++ L').length ls ∧ L'.length ≤ nsz x
def CasSaid (x : Rl) : Prop := ∀ (A : Option Addr) (c : Nat) (w : World) (B base pb : Nat) (v : Value) (L : List Rl) (cs : List Value), NL w B A x.l → B ≤ pb → pb < base → base ≤ w.heap.size → At w base pb v L cs → (cnt x).2 = true → L.length + nsz x ≤ 10000 →
  Calls Tryd.prog 22 #[.agg #[.int .i64 x.k, .int .i64 x.p, .string x.f, .string x.t, .int .i64 x.n, .slice A x.l.length c], .func (.func 21) #[] #[.pointer (some ⟨pb, 0, none⟩)]] w fun e w' => ∃ u, e = .returned u ∧ CRes x w base pb v L u w'
theorem At.below' {w w' : World} {base pb : Nat} {v : Value} {L : List Rl} {cs : List Value} (h : At w base pb v L cs) (hb : Below w.heap.size w w') : At w' base pb v L cs := h.below fun q hq => hb.block q (by
  rcases hq with rfl | hq
  · exact (Array.getElem?_eq_some_iff.1 h.box).1
  · exact (h.row.lt q hq).2)
/-- a list of one list of one number -/
theorem LL_one (w : World) (base n : Nat) (hb : base ≤ w.heap.size) : LL ((w.alloc (.cells #[.int .i64 (n : Int)] 3)).alloc (.cells #[.slice (some ⟨w.heap.size, 0, none⟩) 1 1] 43)) base (.slice (some ⟨w.heap.size + 1, 0, none⟩) 1 1) [[n]] [.slice (some ⟨w.heap.size, 0, none⟩) 1 1] := by
  have hs : (w.alloc (.cells #[.int .i64 (n : Int)] 3)).heap.size = w.heap.size + 1 := by simp
  refine ⟨⟨rfl, .inr ⟨w.heap.size + 1, 1, #[.slice (some ⟨w.heap.size, 0, none⟩) 1 1], rfl, by omega, ?_, Nat.le_refl _, by unfold maxLen; omega, rfl, rfl⟩⟩, rfl, ?_, ?_⟩
  · rw [← hs]; exact heap_alloc_new _ _
  · intro i u l hu hl
    match i, hu, hl with
    | 0, hu, hl =>
      cases hu
      cases hl
      refine ⟨rfl, .inr ⟨w.heap.size, 1, #[.int .i64 (n : Int)], rfl, hb, ?_, Nat.le_refl _, by unfold maxLen; omega, rfl, rfl⟩⟩
      rw [heap_alloc_old _ _ (by omega : w.heap.size < (w.alloc (.cells #[.int .i64 (n : Int)] 3)).heap.size)]
      exact heap_alloc_new _ _
    | i + 1, hu, hl => simp at hu
  · intro i j u u' hu hu' hij
    match i, j, hu, hu' with
    | 0, 0, _, _ => exact absurd rfl hij
    | i + 1, _, hu, _ => simp at hu
    | 0, j + 1, _, hu' => simp at hu'
/-- a list of one list of none -/
theorem LL_none (w : World) (base : Nat) (hb : base ≤ w.heap.size) : LL (w.alloc (.cells #[.slice none 0 0] 43)) base (.slice (some ⟨w.heap.size, 0, none⟩) 1 1) [[]] [.slice none 0 0] := by
  refine ⟨⟨rfl, .inr ⟨w.heap.size, 1, #[.slice none 0 0], rfl, by omega, heap_alloc_new _ _, Nat.le_refl _, by unfold maxLen; omega, rfl, rfl⟩⟩, rfl, ?_, ?_⟩
  · intro i u l hu hl
    match i, hu, hl with
    | 0, hu, hl =>
      cases hu
      cases hl
      exact World.ownsRow_nil _ _ _ _
    | i + 1, hu, hl => simp at hu
  · intro i j u u' hu hu' hij
    match i, j, hu, hu' with
    | 0, 0, _, _ => exact absurd rfl hij
    | i + 1, _, hu, _ => simp at hu
    | 0, j + 1, _, hu' => simp at hu'

set_option maxHeartbeats 4000000 in
theorem cases_atom (x : Rl) (ha : atomB x.k = true) : CasSaid x := by
  intro A c w B base pb v L cs hN hBp hpb hb hA hc hl
  have hb1 : Below w.heap.size w (w.alloc (.cells #[.int .i64 x.k, .int .i64 x.p, .string x.f, .string x.t, .int .i64 x.n, .slice A x.l.length c] 24)) := (Below.refl _ _).alloc (Nat.le_refl _) _
  have HI := Lib.hid (isAtom_any x.k x.p x.n x.f x.t A x.l.length c (w.alloc (.cells #[.int .i64 x.k, .int .i64 x.p, .string x.f, .string x.t, .int .i64 x.n, .slice A x.l.length c] 24)))
  rw [ha] at HI
  have h6 : C6 (w.alloc (.cells #[.int .i64 x.k, .int .i64 x.p, .string x.f, .string x.t, .int .i64 x.n, .slice A x.l.length c] 24)) w.heap.size 0 x A c := ⟨by simp, by simp, by simp, by simp, by simp, by simp⟩
  have HA1 := Lib.hid (hA.below' hb1)
  have HB1 := Lib.hid hb1
  have hs1 : (w.alloc (.cells #[.int .i64 x.k, .int .i64 x.p, .string x.f, .string x.t, .int .i64 x.n, .slice A x.l.length c] 24)).heap.size = w.heap.size + 1 := by simp
  have HP : Hid (∀ w2 : World, Below (w.alloc (.cells #[.int .i64 x.k, .int .i64 x.p, .string x.f, .string x.t, .int .i64 x.n, .slice A x.l.length c] 24)).heap.size (w.alloc (.cells #[.int .i64 x.k, .int .i64 x.p, .string x.f, .string x.t, .int .i64 x.n, .slice A x.l.length c] 24)) w2 →
      Calls Tryd.prog 21 #[.agg #[.int .i64 x.k, .int .i64 x.p, .string x.f, .string x.t, .int .i64 x.n, .slice A x.l.length c], .pointer (some ⟨pb, 0, none⟩)] w2 fun e w' => e = .returned (.int .i64 (L.length : Int)) ∧ (w.heap.size ≤ w'.heap.size ∧ ∀ W, Below w'.heap.size w' W → LL W w.heap.size (.slice (some ⟨w'.heap.size + 1, 0, none⟩) 1 1) [[L.length]] [.slice (some ⟨w'.heap.size, 0, none⟩) 1 1] → CRes x w base pb v L (.slice (some ⟨w'.heap.size + 1, 0, none⟩) 1 1) W)) := Lib.hid (by
    intro w2 hb2
    have hs2 := hb2.size
    refine (place_any w2 base pb c A v L cs x (HA1.out.below' hb2) (by omega) hpb (by omega)).mono ?_
    rintro e w3 ⟨rfl, v', cs', hA3, hG3⟩
    have hs3 := hG3.size
    refine ⟨rfl, by omega, fun W hW hLL => ⟨_, _, v', [x], cs', hLL, hA3.below' hW, ?_, ?_, ?_, ?_⟩⟩
    · exact ((Gr.of_below (HB1.out.trans (hb2.mono (by omega)))).trans hG3).trans (Gr.of_below hW)
    · rw [cases_a x ha]; simp [rd]
    · intro l hl i hi; simp at hl; subst hl; simp at hi; subst hi; simp
    · rw [nsz_l]; simp)
  obtain ⟨b0, b1, b2, b3, b4, b5⟩ := h6
  clear hA hb1 hN HA1 HB1
  generalize x.l.length = xl at *
  generalize x.k = xk at *
  generalize x.p = xp at *
  generalize x.f = xf at *
  generalize x.t = xt at *
  generalize x.n = xn at *
  go_enter Tryd.func22, Tryd.ntmps22
  go_wp2_with (first
    | (go_at_call 29; refine HI.out.mono ?_; rintro e w2 ⟨rfl, hb2⟩; have HP2 := Lib.hid (HP.out w2 hb2); have d0 := (hb2.cell (p := ⟨w.heap.size, 0, none⟩) (by simp)).trans b0; have d1 := (hb2.cell (p := ⟨w.heap.size, 1, none⟩) (by simp)).trans b1; have d2 := (hb2.cell (p := ⟨w.heap.size, 2, none⟩) (by simp)).trans b2; have d3 := (hb2.cell (p := ⟨w.heap.size, 3, none⟩) (by simp)).trans b3; have d4 := (hb2.cell (p := ⟨w.heap.size, 4, none⟩) (by simp)).trans b4; have d5 := (hb2.cell (p := ⟨w.heap.size, 5, none⟩) (by simp)).trans b5; clear hb2)
    | (go_at_call 21; refine HP2.out.mono ?_; rintro e w3 ⟨rfl, hs3, h3⟩; have H3 := Lib.hid h3; clear h3)
    | fail)
  go_ret
  refine ⟨_, rfl, H3.out _ ?_ (LL_one w3 _ _ hs3)⟩
  exact ((Below.refl _ _).alloc (Nat.le_refl _) _).alloc (by simp) _
end Go.Proofs.YtehjkgfdfihfmaaDoor
