/- sense.cases. sense.cases of a rule that is neither an atom nor All nor Any. What a list of lists keeps while atoms are put. The cases of a rule, plain: lists of rules in two parts. sense.cases of an Any. sense.cases of an All; sense.cases of any rule. -/
import Derived.Test.YtbkffdfboloogaaGreatDoorMB
import Derived.Test.YtbkffdfboloogaaGreatDoorSPlace
import Derived.Test.YtbkffdfboloogaaGreatDoorME
namespace Go.Proofs.YtbkffdfboloogaaGreatDoor
open Go.RowKit Go.Maps Go.Lib
set_option linter.unusedVariables false
set_option maxRecDepth 100000

/-- lists of atoms' places, read -/
def rd (L : List Rl) (ls : List (List Nat)) : List (List Rl) := ls.map fun l => l.filterMap fun i => L[i]?
def InL (n : Nat) (ls : List (List Nat)) : Prop := ∀ l ∈ ls, ∀ i ∈ l, i < n
theorem rd_more (L M : List Rl) (ls : List (List Nat)) (h : InL L.length ls) : rd (L ++ M) ls = rd L ls := by
  unfold rd
  refine List.map_congr_left fun l hl => ?_
  have hl' := h l hl
  clear hl
  induction l with
  | nil => rfl
  | cons i l ih =>
    rw [List.filterMap_cons, List.filterMap_cons, List.getElem?_append_left (hl' i (by simp)), ih (fun j hj => hl' j (by simp [hj]))]
theorem rd_append (L : List Rl) (a b : List (List Nat)) : rd L (a ++ b) = rd L a ++ rd L b := by simp [rd]
theorem rd_cross (L : List Rl) (a b : List (List Nat)) : rd L (crossL a b) = (rd L a).flatMap fun p => (rd L b).map fun q => p ++ q := by
  induction a with
  | nil => rfl
  | cons x a ih =>
    have : crossL (x :: a) b = (b.map fun y => x ++ y) ++ crossL a b := by simp [crossL]
    rw [this, rd_append, ih]
    simp [rd, List.filterMap_append]
theorem InL.more {n m : Nat} {ls : List (List Nat)} (h : InL n ls) (hm : n ≤ m) : InL m ls := fun l hl i hi => Nat.lt_of_lt_of_le (h l hl i hi) hm
theorem InL.append {n : Nat} {a b : List (List Nat)} (h : InL n a) (k : InL n b) : InL n (a ++ b) := fun l hl => by
  rcases List.mem_append.1 hl with hl | hl
  · exact h l hl
  · exact k l hl
theorem InL.cross {n : Nat} {a b : List (List Nat)} (h : InL n a) (k : InL n b) : InL n (crossL a b) := fun l hl i hi => by
  obtain ⟨p, hp, hl⟩ := List.mem_flatMap.1 hl
  obtain ⟨q, hq, rfl⟩ := List.mem_map.1 hl
  rcases List.mem_append.1 hi with hi | hi
  · exact h p hp i hi
  · exact k q hq i hi
theorem rd_len (L : List Rl) (ls : List (List Nat)) : (rd L ls).length = ls.length := by simp [rd]
/-- what sense.cases leaves -/
def CRes (x : Rl) (w : World) (base pb : Nat) (v : Value) (L : List Rl) (u : Value) (w' : World) : Prop :=
  ∃ ls us v' L' cs', LL w' w.heap.size u ls us ∧ At w' base pb v' (L ++ L') cs' ∧ Gr pb v v' w w' ∧ rd (L ++ L') ls = casesR x ∧ InL (L ++ L').length ls ∧ L'.length ≤ nsz x
def CasSaid (x : Rl) : Prop := ∀ (A : Option Addr) (c : Nat) (w : World) (B base pb : Nat) (v : Value) (L : List Rl) (cs : List Value), NL w B A x.l → B ≤ pb → pb < base → base ≤ w.heap.size → At w base pb v L cs → (cnt x).2 = true → L.length + nsz x ≤ 10000 →
  Calls Tryz.prog 35 #[.agg #[.int .i64 x.k, .int .i64 x.p, .string x.f, .string x.t, .int .i64 x.n, .slice A x.l.length c], .func (.func 34) #[] #[.pointer (some ⟨pb, 0, none⟩)]] w fun e w' => ∃ u, e = .returned u ∧ CRes x w base pb v L u w'
theorem At.below' {w w' : World} {base pb : Nat} {v : Value} {L : List Rl} {cs : List Value} (h : At w base pb v L cs) (hb : Below w.heap.size w w') : At w' base pb v L cs := h.below fun q hq => hb.block q (by
  rcases hq with rfl | hq
  · exact (Array.getElem?_eq_some_iff.1 h.box).1
  · exact (h.row.lt q hq).2)
/-- a list of one list of one number -/
theorem LL_one (w : World) (base n : Nat) (hb : base ≤ w.heap.size) : LL ((w.alloc (.cells #[.int .i64 (n : Int)] 3)).alloc (.cells #[.slice (some ⟨w.heap.size, 0, none⟩) 1 1] 75)) base (.slice (some ⟨w.heap.size + 1, 0, none⟩) 1 1) [[n]] [.slice (some ⟨w.heap.size, 0, none⟩) 1 1] := by
  have hs : (w.alloc (.cells #[.int .i64 (n : Int)] 3)).heap.size = w.heap.size + 1 := by simp
  refine ⟨⟨rfl, .inr ⟨w.heap.size + 1, 1, #[.slice (some ⟨w.heap.size, 0, none⟩) 1 1], rfl, by omega, ?_, Nat.le_refl _, by unfold maxLen; omega, rfl, rfl⟩⟩, rfl, ?_, ?_⟩
  · rw [← hs]; exact heap_alloc_new _ _
  · intro i u l hu hl
    match i, hu, hl with
    | 0, hu, hl =>
      cases hu
      cases hl
      refine ⟨rfl, .inr ⟨w.heap.size, 1, #[.int .i64 (n : Int)], rfl, hb, ?_, Nat.le_refl _, by unfold maxLen; omega, rfl, rfl⟩⟩
      rw [heap_alloc_old _ _ (by omega : w.heap.size < (w.alloc (.cells #[.int .i64 (n : Int)] 3)).heap.size)]
      exact heap_alloc_new _ _
    | i + 1, hu, hl => simp at hu
  · intro i j u u' hu hu' hij
    match i, j, hu, hu' with
    | 0, 0, _, _ => exact absurd rfl hij
    | i + 1, _, hu, _ => simp at hu
    | 0, j + 1, _, hu' => simp at hu'
/-- a list of one list of none -/
theorem LL_none (w : World) (base : Nat) (hb : base ≤ w.heap.size) : LL (w.alloc (.cells #[.slice none 0 0] 75)) base (.slice (some ⟨w.heap.size, 0, none⟩) 1 1) [[]] [.slice none 0 0] := by
  refine ⟨⟨rfl, .inr ⟨w.heap.size, 1, #[.slice none 0 0], rfl, by omega, heap_alloc_new _ _, Nat.le_refl _, by unfold maxLen; omega, rfl, rfl⟩⟩, rfl, ?_, ?_⟩
  · intro i u l hu hl
    match i, hu, hl with
    | 0, hu, hl =>
      cases hu
      cases hl
      exact World.ownsRow_nil _ _ _ _
    | i + 1, hu, hl => simp at hu
  · intro i j u u' hu hu' hij
    match i, j, hu, hu' with
    | 0, 0, _, _ => exact absurd rfl hij
    | i + 1, _, hu, _ => simp at hu
    | 0, j + 1, _, hu' => simp at hu'

set_option maxHeartbeats 4000000 in
theorem cases_atom (x : Rl) (ha : atomB x.k = true) : CasSaid x := by
  intro A c w B base pb v L cs hN hBp hpb hb hA hc hl
  have hb1 : Below w.heap.size w (w.alloc (.cells #[.int .i64 x.k, .int .i64 x.p, .string x.f, .string x.t, .int .i64 x.n, .slice A x.l.length c] 33)) := (Below.refl _ _).alloc (Nat.le_refl _) _
  have HI := Lib.hid (isAtom_any x.k x.p x.n x.f x.t A x.l.length c (w.alloc (.cells #[.int .i64 x.k, .int .i64 x.p, .string x.f, .string x.t, .int .i64 x.n, .slice A x.l.length c] 33)))
  rw [ha] at HI
  have h6 : C6 (w.alloc (.cells #[.int .i64 x.k, .int .i64 x.p, .string x.f, .string x.t, .int .i64 x.n, .slice A x.l.length c] 33)) w.heap.size 0 x A c := ⟨by simp, by simp, by simp, by simp, by simp, by simp⟩
  have HA1 := Lib.hid (hA.below' hb1)
  have HB1 := Lib.hid hb1
  have hs1 : (w.alloc (.cells #[.int .i64 x.k, .int .i64 x.p, .string x.f, .string x.t, .int .i64 x.n, .slice A x.l.length c] 33)).heap.size = w.heap.size + 1 := by simp
  have HP : Hid (∀ w2 : World, Below (w.alloc (.cells #[.int .i64 x.k, .int .i64 x.p, .string x.f, .string x.t, .int .i64 x.n, .slice A x.l.length c] 33)).heap.size (w.alloc (.cells #[.int .i64 x.k, .int .i64 x.p, .string x.f, .string x.t, .int .i64 x.n, .slice A x.l.length c] 33)) w2 →
      Calls Tryz.prog 34 #[.agg #[.int .i64 x.k, .int .i64 x.p, .string x.f, .string x.t, .int .i64 x.n, .slice A x.l.length c], .pointer (some ⟨pb, 0, none⟩)] w2 fun e w' => e = .returned (.int .i64 (L.length : Int)) ∧ (w.heap.size ≤ w'.heap.size ∧ ∀ W, Below w'.heap.size w' W → LL W w.heap.size (.slice (some ⟨w'.heap.size + 1, 0, none⟩) 1 1) [[L.length]] [.slice (some ⟨w'.heap.size, 0, none⟩) 1 1] → CRes x w base pb v L (.slice (some ⟨w'.heap.size + 1, 0, none⟩) 1 1) W)) := Lib.hid (by
    intro w2 hb2
    have hs2 := hb2.size
    refine (place_any w2 base pb c A v L cs x (HA1.out.below' hb2) (by omega) hpb (by omega)).mono ?_
    rintro e w3 ⟨rfl, v', cs', hA3, hG3⟩
    have hs3 := hG3.size
    refine ⟨rfl, by omega, fun W hW hLL => ⟨_, _, v', [x], cs', hLL, hA3.below' hW, ?_, ?_, ?_, ?_⟩⟩
    · exact ((Gr.of_below (HB1.out.trans (hb2.mono (by omega)))).trans hG3).trans (Gr.of_below hW)
    · rw [cases_a x ha]; simp [rd]
    · intro l hl i hi; simp at hl; subst hl; simp at hi; subst hi; simp
    · rw [nsz_l]; simp)
  obtain ⟨b0, b1, b2, b3, b4, b5⟩ := h6
  clear hA hb1 hN HA1 HB1
  generalize x.l.length = xl at *
  generalize x.k = xk at *
  generalize x.p = xp at *
  generalize x.f = xf at *
  generalize x.t = xt at *
  generalize x.n = xn at *
  go_enter Tryz.func35, Tryz.ntmps35
  go_wp2_with (first
    | (go_at_call 65; refine HI.out.mono ?_; rintro e w2 ⟨rfl, hb2⟩; have HP2 := Lib.hid (HP.out w2 hb2); have d0 := (hb2.cell (p := ⟨w.heap.size, 0, none⟩) (by simp)).trans b0; have d1 := (hb2.cell (p := ⟨w.heap.size, 1, none⟩) (by simp)).trans b1; have d2 := (hb2.cell (p := ⟨w.heap.size, 2, none⟩) (by simp)).trans b2; have d3 := (hb2.cell (p := ⟨w.heap.size, 3, none⟩) (by simp)).trans b3; have d4 := (hb2.cell (p := ⟨w.heap.size, 4, none⟩) (by simp)).trans b4; have d5 := (hb2.cell (p := ⟨w.heap.size, 5, none⟩) (by simp)).trans b5; clear hb2)
    | (go_at_call 34; refine HP2.out.mono ?_; rintro e w3 ⟨rfl, hs3, h3⟩; have H3 := Lib.hid h3; clear h3)
    | fail)
  go_ret
  refine ⟨_, rfl, H3.out _ ?_ (LL_one w3 _ _ hs3)⟩
  exact ((Below.refl _ _).alloc (Nat.le_refl _) _).alloc (by simp) _
end Go.Proofs.YtbkffdfboloogaaGreatDoor
namespace Go.Proofs.YtbkffdfboloogaaGreatDoor
open Go.RowKit Go.Maps Go.Lib
set_option linter.unusedVariables false
set_option maxRecDepth 100000

set_option maxHeartbeats 4000000 in
theorem cases_other (x : Rl) (ha : atomB x.k = false) (h0 : x.k ≠ 0) (h1 : x.k ≠ 1) : CasSaid x := by
  intro A c w B base pb v L cs hN hBp hpb hb hA hc hl
  have hb1 : Below w.heap.size w (w.alloc (.cells #[.int .i64 x.k, .int .i64 x.p, .string x.f, .string x.t, .int .i64 x.n, .slice A x.l.length c] 33)) := (Below.refl _ _).alloc (Nat.le_refl _) _
  have HI := Lib.hid (isAtom_any x.k x.p x.n x.f x.t A x.l.length c (w.alloc (.cells #[.int .i64 x.k, .int .i64 x.p, .string x.f, .string x.t, .int .i64 x.n, .slice A x.l.length c] 33)))
  rw [ha] at HI
  have b0 : (w.alloc (.cells #[.int .i64 x.k, .int .i64 x.p, .string x.f, .string x.t, .int .i64 x.n, .slice A x.l.length c] 33)).cell? ⟨w.heap.size, 0, none⟩ = some (.int .i64 x.k) := by simp
  have HP : Hid (∀ w2 : World, Below (w.alloc (.cells #[.int .i64 x.k, .int .i64 x.p, .string x.f, .string x.t, .int .i64 x.n, .slice A x.l.length c] 33)).heap.size (w.alloc (.cells #[.int .i64 x.k, .int .i64 x.p, .string x.f, .string x.t, .int .i64 x.n, .slice A x.l.length c] 33)) w2 →
      CRes x w base pb v L (.slice (some ⟨w2.heap.size, 0, none⟩) 1 1) (w2.alloc (.cells #[.slice none 0 0] 75))) := Lib.hid (by
    intro w2 hb2
    have hs1 := hb1.size
    have hs2 := hb2.size
    have hB : Below w.heap.size w (w2.alloc (.cells #[.slice none 0 0] 75)) := (hb1.trans (hb2.mono hs1)).alloc (by omega) _
    refine ⟨_, _, v, [], cs, LL_none w2 w.heap.size (by omega), ?_, Gr.of_below hB, ?_, ?_, by simp⟩
    · rw [List.append_nil]; exact hA.below' hB
    · rw [cases_2 x ha h0 h1]; rfl
    · intro l hl i hi; simp at hl; subst hl; simp at hi)
  have q0 : (x.k == 0) = false := by simpa using h0
  have q1 : (x.k == 1) = false := by simpa using h1
  clear hA hb1 hN
  generalize x.l.length = xl at *
  generalize x.k = xk at *
  generalize x.p = xp at *
  generalize x.f = xf at *
  generalize x.t = xt at *
  generalize x.n = xn at *
  go_enter Tryz.func35, Tryz.ntmps35
  go_wp2_with (first
    | (go_at_call 65; refine HI.out.mono ?_; rintro e w2 ⟨rfl, hb2⟩; have HP2 := Lib.hid (HP.out w2 hb2); have d0 := (hb2.cell (p := ⟨w.heap.size, 0, none⟩) (by simp)).trans b0; clear hb2)
    | fail)
  go_ret
  exact ⟨_, rfl, HP2.out⟩
end Go.Proofs.YtbkffdfboloogaaGreatDoor
namespace Go.Proofs.YtbkffdfboloogaaGreatDoor
open Go.RowKit Go.Maps Go.Lib
set_option linter.unusedVariables false

/-- a list of lists is what it was, if blocks of numbers and of lists are -/
theorem LL.keepT {w w' : World} {base : Nat} {v : Value} {ls : List (List Nat)} {vs : List Value} (h : LL w base v ls vs) (hk : ∀ (q : Nat) (cur : Array Value) (t : TypeId), base ≤ q → w.heap[q]? = some (.cells cur t (0, 0)) → t ≠ 33 → w'.heap[q]? = w.heap[q]?) : LL w' base v ls vs := by
  refine ⟨⟨h.row.1, ?_⟩, h.len, fun i u l hu hl => (h.each i u l hu hl).keep fun q hq => ?_, h.apart⟩
  · rcases h.row.2 with h0 | ⟨g, cap, cur, h1, h2, h3, h4⟩
    · exact .inl h0
    · exact .inr ⟨g, cap, cur, h1, h2, (hk g cur _ h2 h3 (by decide)).trans h3, h4⟩
  · obtain ⟨h1, _, cur, h2⟩ := (h.each i u l hu hl).lt hq
    exact hk q cur _ h1 h2 (by decide)
/-- over what puts atoms -/
theorem LL.gr {w w' : World} {base B pb : Nat} {u v v' : Value} {ls : List (List Nat)} {us : List Value} {L : List Rl} {cs : List Value} (h : LL w B u ls us) (hA : At w base pb v L cs) (hpb : pb < B) (hG : Gr pb v v' w w') : LL w' B u ls us := by
  refine h.keepT fun q cur t hq hc ht => hG.block q (Array.getElem?_eq_some_iff.1 hc).1 (by omega) ?_
  intro e
  rcases hA.row.2 with ⟨h1, _⟩ | ⟨g, cap, cur2, h1, h2, h3, _⟩
  · rw [h1] at e; simp [Value.ownBlock] at e
  · rw [h1] at e
    simp [Value.ownBlock] at e
    subst e
    rw [h3] at hc
    simp at hc
    exact ht hc.2.symm
/-- the atoms are what they were, over what turns lists alone -/
theorem At.kn {w w' : World} {base pb B : Nat} {v : Value} {L : List Rl} {cs : List Value} (h : At w base pb v L cs) (hpb : pb < B) (hb : Below B w w') (hk : KN w w') : At w' base pb v L cs := by
  refine h.below fun q hq => ?_
  rcases hq with rfl | hq
  · exact hb.block q hpb
  · rcases h.row.2 with ⟨h1, _⟩ | ⟨g, cap, cur2, h1, h2, h3, _⟩
    · rw [h1] at hq; simp [Value.ownBlock] at hq
    · rw [h1] at hq
      simp [Value.ownBlock] at hq
      subst hq
      exact hk g cur2 h3
/-- the rules are what they were -/
theorem NL.gr {w w' : World} {base B pb : Nat} {v v' : Value} {L : List Rl} {cs : List Value} {A : Option Addr} {l : List Rl} (h : NL w B A l) (hA : At w base pb v L cs) (hB : B ≤ pb) (hpb : pb < base) (hb : base ≤ w.heap.size) (hG : Gr pb v v' w w') : NL w' B A l :=
  h.kept ⟨hG.os, hG.tape, hG.output, hG.size, fun q hq => hG.block q (by omega) (by omega) (fun e => by have := (hA.row.lt q e).1; omega)⟩
end Go.Proofs.YtbkffdfboloogaaGreatDoor
namespace Go.Proofs.YtbkffdfboloogaaGreatDoor
open Go.RowKit Go.Maps Go.Lib
set_option linter.unusedVariables false

theorem anyR_append (a b : List Rl) : anyR (a ++ b) = anyR a ++ anyR b := by
  induction a with
  | nil => rw [List.nil_append, anyR]; rfl
  | cons x a ih => rw [List.cons_append, anyR, anyR, ih, List.append_assoc]
theorem allR_append (a b : List Rl) : ∀ s, allR (a ++ b) s = allR b (allR a s) := by
  induction a with
  | nil => intro s; rw [List.nil_append, allR]
  | cons x a ih => intro s; rw [List.cons_append, allR, allR, ih]
theorem nszL_append (a b : List Rl) : nszL (a ++ b) = nszL a + nszL b := by
  induction a with
  | nil => rw [List.nil_append, nszL, Nat.zero_add]
  | cons x a ih => rw [List.cons_append, nszL, nszL, ih, Nat.add_assoc]
theorem proR_append (a b : List Rl) : proR (a ++ b) = proR a * proR b := by
  induction a with
  | nil => rw [List.nil_append, proR, Nat.one_mul]
  | cons x a ih => rw [List.cons_append, proR, proR, ih, Nat.mul_assoc]
theorem anyR_take (l : List Rl) (k : Nat) (hk : k < l.length) : anyR (l.take (k + 1)) = anyR (l.take k) ++ casesR l[k] := by
  rw [List.take_succ_eq_append_getElem hk, anyR_append]
  simp [anyR]
theorem allR_take (l : List Rl) (k : Nat) (hk : k < l.length) : allR (l.take (k + 1)) [[]] = (allR (l.take k) [[]]).flatMap fun p => (casesR l[k]).map fun q => p ++ q := by
  rw [List.take_succ_eq_append_getElem hk, allR_append, allR, allR]
theorem nszL_take (l : List Rl) (k : Nat) (hk : k < l.length) : nszL (l.take (k + 1)) = nszL (l.take k) + nsz l[k] := by
  rw [List.take_succ_eq_append_getElem hk, nszL_append]
  simp [nszL]
theorem proR_take (l : List Rl) (k : Nat) (hk : k < l.length) : proR (l.take (k + 1)) = proR (l.take k) * (casesR l[k]).length := by
  rw [List.take_succ_eq_append_getElem hk, proR_append]
  simp [proR]
theorem nszL_take_le (l : List Rl) (k : Nat) : nszL (l.take k) ≤ nszL l := by
  have h := nszL_append (l.take k) (l.drop k)
  rw [List.take_append_drop] at h
  omega
theorem any_take_le (l : List Rl) (k : Nat) : (anyR (l.take k)).length ≤ (anyR l).length := by
  have h := anyR_append (l.take k) (l.drop k)
  rw [List.take_append_drop] at h
  rw [h, List.length_append]
  omega
theorem pro_take_le (l : List Rl) (k : Nat) (h0 : proR l ≠ 0) : proR (l.take k) ≤ proR l := by
  have h := proR_append (l.take k) (l.drop k)
  rw [List.take_append_drop] at h
  rw [h] at h0 ⊢
  exact Nat.le_mul_of_pos_right _ (by
    rcases Nat.eq_zero_or_pos (proR (l.drop k)) with e | e
    · rw [e, Nat.mul_zero] at h0; exact absurd rfl h0
    · exact e)
theorem nsz_pos (x : Rl) : 1 ≤ nsz x := by rw [nsz_l]; omega
theorem len_nszL (l : List Rl) : l.length ≤ nszL l := by
  induction l with
  | nil => simp
  | cons x l ih => rw [nszL, List.length_cons]; have := nsz_pos x; omega
theorem nsz_mem (l : List Rl) : ∀ y ∈ l, nsz y ≤ nszL l := by
  induction l with
  | nil => intro y hy; cases hy
  | cons x l ih =>
    intro y hy
    rw [nszL]
    rcases List.mem_cons.1 hy with rfl | hy
    · omega
    · have := ih y hy; omega
theorem few_of (N : Nat) : ∀ x, SizeOf.sizeOf x ≤ N → nsz x ≤ 1000000 → Few x := by
  induction N with
  | zero =>
    intro x h
    obtain ⟨k, p, f, t, n, l⟩ := x
    simp at h
  | succ N ih =>
    intro x hN hx
    rw [nsz_l] at hx
    refine ⟨x, by have := len_nszL x.l; omega, fun y hy => ih y (by have := Rl.lt_mem hy; omega) (by have := nsz_mem x.l y hy; omega)⟩
theorem few_nsz (x : Rl) (h : nsz x ≤ 1000000) : Few x := few_of _ x (Nat.le_refl _) h
theorem all_short (ys : List Rl) : ∀ (a : List (List Rl)) (b : Nat), (∀ l ∈ a, l.length ≤ b) → ∀ l ∈ allR ys a, l.length ≤ b + nszL ys := by
  induction ys with
  | nil => intro a b ha l hl; rw [allR] at hl; rw [nszL]; exact ha l hl
  | cons y ys iy =>
    intro a b ha l hl
    rw [allR] at hl
    rw [nszL]
    have := iy _ (b + nsz y) (fun l hl => by
      obtain ⟨p, hp, hl⟩ := List.mem_flatMap.1 hl
      obtain ⟨q, hq, rfl⟩ := List.mem_map.1 hl
      have h1 := ha p hp
      have h2 := casesR_short y q hq
      rw [List.length_append]; omega) l hl
    omega
theorem rd_one (L : List Rl) (l : List Nat) (h : ∀ i ∈ l, i < L.length) : (l.filterMap fun i => L[i]?).length = l.length := by
  induction l with
  | nil => rfl
  | cons i l ih =>
    rw [List.filterMap_cons, List.getElem?_eq_getElem (h i (by simp))]
    simp only [List.length_cons]
    rw [ih (fun j hj => h j (by simp [hj]))]
theorem rd_mem (L : List Rl) (ls : List (List Nat)) (h : InL L.length ls) (n : Nat) (hn : ∀ m ∈ rd L ls, m.length ≤ n) : ∀ l ∈ ls, l.length ≤ n := by
  intro l hl
  have := hn (l.filterMap fun i => L[i]?) (List.mem_map.2 ⟨l, hl, rfl⟩)
  rw [rd_one L l (h l hl)] at this
  exact this
theorem Gr.grow {pb : Nat} {v v' : Value} {w w3 w4 : World} (h : Gr pb v v' w w3) (hb : Below w.heap.size w3 w4) : Gr pb v v' w w4 :=
  ⟨hb.os.trans h.os, hb.tape.trans h.tape, hb.output.trans h.output, Nat.le_trans h.size hb.size, fun q hq hn hv => (hb.block q hq).trans (h.block q hq hn hv), h.loc⟩
/-- what lies in sense.cases' answer behind some of the rules -/
def CInv (w : World) (base pb : Nat) (v : Value) (L : List Rl) (R : List (List Rl)) (n : Nat) (z : Value) (wr : World) : Prop :=
  ∃ ls us v' L' cs', LL wr w.heap.size z ls us ∧ At wr base pb v' (L ++ L') cs' ∧ Gr pb v v' w wr ∧ rd (L ++ L') ls = R ∧ InL (L ++ L').length ls ∧ L'.length ≤ n
theorem CInv.res {x : Rl} {w wr : World} {base pb : Nat} {v z : Value} {L : List Rl} {n : Nat} (h : CInv w base pb v L (casesR x) n z wr) (hn : n ≤ nsz x) : CRes x w base pb v L z wr := by
  obtain ⟨ls, us, v', L', cs', h1, h2, h3, h4, h5, h6⟩ := h
  exact ⟨ls, us, v', L', cs', h1, h2, h3, h4, h5, by omega⟩
theorem CInv.form {w wr : World} {base pb : Nat} {v z : Value} {L : List Rl} {R : List (List Rl)} {n : Nat} (h : CInv w base pb v L R n z wr) : ∃ A c, z = .slice A R.length c := by
  obtain ⟨ls, us, v', L', cs', h1, h2, h3, h4, h5, h6⟩ := h
  obtain ⟨A, c, e⟩ := h1.form
  exact ⟨A, c, by rw [e, ← h4, rd_len]⟩
theorem CInv.below {w wr wr2 : World} {base pb : Nat} {v z : Value} {L : List Rl} {R : List (List Rl)} {n : Nat} (h : CInv w base pb v L R n z wr) (hb : Below wr.heap.size wr wr2) : CInv w base pb v L R n z wr2 := by
  obtain ⟨ls, us, v', L', cs', h1, h2, h3, h4, h5, h6⟩ := h
  exact ⟨ls, us, v', L', cs', h1.below hb, h2.below' hb, h3.grow (hb.mono h3.size), h4, h5, h6⟩
theorem CInv.rules {w wr : World} {base pb B : Nat} {v z : Value} {L : List Rl} {R : List (List Rl)} {n : Nat} {cs : List Value} {A : Option Addr} {l : List Rl} (h : CInv w base pb v L R n z wr) (hN : NL w B A l) (hA : At w base pb v L cs) (hB : B ≤ pb) (hpb : pb < base) (hb : base ≤ w.heap.size) : NL wr B A l := by
  obtain ⟨ls, us, v', L', cs', h1, h2, h3, h4, h5, h6⟩ := h
  exact hN.gr hA hB hpb hb h3
theorem CInv.size {w wr : World} {base pb : Nat} {v z : Value} {L : List Rl} {R : List (List Rl)} {n : Nat} (h : CInv w base pb v L R n z wr) : w.heap.size ≤ wr.heap.size := by
  obtain ⟨ls, us, v', L', cs', h1, h2, h3, h4, h5, h6⟩ := h
  exact h3.size
/-- sense.cases of one rule more -/
theorem CInv.call {w wr : World} {base pb B : Nat} {v z : Value} {L : List Rl} {R : List (List Rl)} {n : Nat} (h : CInv w base pb v L R n z wr) {y : Rl} (hC : CasSaid y) {A : Option Addr} {c : Nat} (hN : NL wr B A y.l) (hB : B ≤ pb) (hpb : pb < base) (hb : base ≤ w.heap.size) (hc : (cnt y).2 = true) (hn : L.length + n + nsz y ≤ 10000) :
    Calls Tryz.prog 35 #[.agg #[.int .i64 y.k, .int .i64 y.p, .string y.f, .string y.t, .int .i64 y.n, .slice A y.l.length c], .func (.func 34) #[] #[.pointer (some ⟨pb, 0, none⟩)]] wr fun e w3 => ∃ u, e = .returned u ∧
      ∃ ls us v' L' cs' ls2 us2, LL wr w.heap.size z ls us ∧ LL w3 w.heap.size z ls us ∧ LL w3 wr.heap.size u ls2 us2 ∧ At w3 base pb v' (L ++ L') cs' ∧ Gr pb v v' w w3 ∧ rd (L ++ L') ls = R ∧ InL (L ++ L').length ls ∧ rd (L ++ L') ls2 = casesR y ∧ InL (L ++ L').length ls2 ∧ L'.length ≤ n + nsz y ∧ wr.heap.size ≤ w3.heap.size := by
  have hws := h.size
  obtain ⟨ls, us, v', L', cs', h1, h2, h3, h4, h5, h6⟩ := h
  refine (hC A c wr B base pb v' (L ++ L') cs' hN hB hpb (by omega) h2 hc (by rw [List.length_append]; omega)).mono ?_
  rintro e w3 ⟨u, rfl, ls2, us2, v2, L2, cs2, g1, g2, g3, g4, g5, g6⟩
  refine ⟨u, rfl, ls, us, v2, L' ++ L2, cs2, ls2, us2, h1, h1.gr h2 (by omega) g3, g1, ?_, h3.trans g3, ?_, ?_, ?_, ?_, ?_, g3.size⟩
  · rw [← List.append_assoc]; exact g2
  · rw [← List.append_assoc, rd_more _ _ _ h5]; exact h4
  · exact h5.more (by simp)
  · rw [← List.append_assoc]; exact g4
  · rw [← List.append_assoc]; exact g5
  · rw [List.length_append]; omega
end Go.Proofs.YtbkffdfboloogaaGreatDoor
namespace Go.Proofs.YtbkffdfboloogaaGreatDoor
open Go.RowKit Go.Maps Go.Lib
set_option linter.unusedVariables false
set_option maxRecDepth 100000

/-- what append makes of the answer and of one rule's cases -/
theorem CInv.append {w wr w3 : World} {base pb n : Nat} {v z u v' : Value} {L L' : List Rl} {R R2 : List (List Rl)} {ls ls2 : List (List Nat)} {us us2 cs' : List Value}
    (h1 : LL wr w.heap.size z ls us) (h2 : LL w3 w.heap.size z ls us) (h3 : LL w3 wr.heap.size u ls2 us2) (hA : At w3 base pb v' (L ++ L') cs') (hG : Gr pb v v' w w3) (e1 : rd (L ++ L') ls = R) (i1 : InL (L ++ L').length ls) (e2 : rd (L ++ L') ls2 = R2) (i2 : InL (L ++ L').length ls2) (hn : L'.length ≤ n) (hw : w.heap.size ≤ wr.heap.size) (hw3 : wr.heap.size ≤ w3.heap.size) (hpb : pb < w.heap.size) (hR : R.length + R2.length ≤ 100000) :
    ∃ z' w4, (Builtin.append_ #[73, 73] 73 #[z, u]).run Tryz.prog w3 = .ok z' w4 ∧ CInv w base pb v L (R ++ R2) n z' w4 := by
  have l1 : ls.length = R.length := by rw [← e1, rd_len]
  have l2 : ls2.length = R2.length := by rw [← e2, rd_len]
  obtain ⟨z', w4, hr, hrow, hg, hloc⟩ := app_rows (P := Tryz.prog) (t := 73) (e := 75) 73 Tryz.underlying73 info_ints rfl h2.row h3.row (fun x hx => by
    obtain ⟨i, hi, rfl⟩ := List.getElem_of_mem hx
    obtain ⟨A, c, e⟩ := (h3.each i us2[i] _ (List.getElem?_eq_getElem hi) (List.getElem?_eq_getElem (by rw [← h3.len]; exact hi))).form
    rw [e]; rfl) (by omega) (by omega) (by omega)
  have hB : Below w.heap.size w3 w4 := (Below.refl _ _).grown hg (by omega) (fun q e => (h2.rowlt e).1)
  refine ⟨z', w4, hr, ls ++ ls2, us ++ us2, v', L', cs', h2.app hrow hg h3.len (fun i x l hx hl => (h3.each i x l hx hl).base hw) h3.apart ?_, ?_, hG.grow hB, ?_, i1.append i2, hn⟩
  · intro x hx y hy q hq e
    have a1 := h1.lt hx hq
    have a2 := h3.lt hy e
    omega
  · refine hA.below fun q hq => ?_
    rcases hq with rfl | hq
    · exact hB.block q hpb
    · refine hg.block q (hA.row.lt q hq).2 fun e => ?_
      obtain ⟨_, _, c1, e1⟩ := h2.rowlt e.symm
      rcases hA.row.2 with ⟨k1, _⟩ | ⟨g, cap, cur2, k1, k2, k3, _⟩
      · rw [k1] at hq; simp [Value.ownBlock] at hq
      · rw [k1] at hq
        simp [Value.ownBlock] at hq
        subst hq
        rw [e1] at k3
        simp at k3
  · rw [rd_append, e1, e2]
set_option maxHeartbeats 4000000 in
theorem cases_any1 (x : Rl) (h1 : x.k = 1) (hC : ∀ y ∈ x.l, CasSaid y) : CasSaid x := by
  intro A c w B base pb v L cs hN hBp hpb hb hA hc hl
  have hb1 : Below w.heap.size w (w.alloc (.cells #[.int .i64 x.k, .int .i64 x.p, .string x.f, .string x.t, .int .i64 x.n, .slice A x.l.length c] 33)) := (Below.refl _ _).alloc (Nat.le_refl _) _
  have HI := Lib.hid (isAtom_any x.k x.p x.n x.f x.t A x.l.length c (w.alloc (.cells #[.int .i64 x.k, .int .i64 x.p, .string x.f, .string x.t, .int .i64 x.n, .slice A x.l.length c] 33)))
  rw [h1, show atomB 1 = false from rfl] at HI
  have hsz := nsz_l x
  have hlen : x.l.length ≤ 10000 := by have := len_nszL x.l; omega
  have hcx := cnt_1 x h1
  rw [hcx] at hc
  obtain ⟨hs1, hk1⟩ := any_len x.l 0 hc (fun y _ hy => casesR_len y hy)
  have hs2 : (anyR x.l).length ≤ 4097 := by
    have := cnt_le x
    rw [hcx] at this
    omega
  have HE := Lib.hid (cases_1 x h1)
  have h6 : C6 (w.alloc (.cells #[.int .i64 x.k, .int .i64 x.p, .string x.f, .string x.t, .int .i64 x.n, .slice A x.l.length c] 33)) w.heap.size 0 x A c := ⟨by simp, by simp, by simp, by simp, by simp, by simp⟩
  have HP : Hid (∀ w2 : World, Below (w.alloc (.cells #[.int .i64 x.k, .int .i64 x.p, .string x.f, .string x.t, .int .i64 x.n, .slice A x.l.length c] 33)).heap.size (w.alloc (.cells #[.int .i64 x.k, .int .i64 x.p, .string x.f, .string x.t, .int .i64 x.n, .slice A x.l.length c] 33)) w2 → CInv w base pb v L [] 0 (.slice none 0 0) w2 ∧ w2.cell? ⟨w.heap.size, 0, none⟩ = some (.int .i64 x.k) ∧ w2.cell? ⟨w.heap.size, 5, none⟩ = some (.slice A x.l.length c)) := Lib.hid (by
    intro w2 hb2
    have hB : Below w.heap.size w w2 := hb1.trans (hb2.mono hb1.size)
    refine ⟨⟨[], [], v, [], cs, LL.nil _ _, by rw [List.append_nil]; exact hA.below' hB, Gr.of_below hB, rfl, (by intro l hl; cases hl), Nat.le_refl _⟩, (hb2.cell (p := ⟨w.heap.size, 0, none⟩) (by simp)).trans h6.c0, (hb2.cell (p := ⟨w.heap.size, 5, none⟩) (by simp)).trans h6.c5⟩)
  have HS : Hid (∀ (k : Nat) (z : Value) (wr : World) (y : Rl), x.l[k]? = some y → CInv w base pb v L (anyR (x.l.take k)) (nszL (x.l.take k)) z wr → ∃ g off A' c', A = some ⟨g, off, none⟩ ∧ C6 wr g (off + k * 6) y A' c' ∧
      ∀ b, Calls Tryz.prog 35 #[.agg #[.int .i64 y.k, .int .i64 y.p, .string y.f, .string y.t, .int .i64 y.n, .slice A' y.l.length c'], .func (.func 34) #[] #[.pointer (some ⟨pb, 0, none⟩)]] (wr.alloc b) fun e w3 => ∃ Au nu cu, e = .returned (.slice Au nu cu) ∧ ∃ A4 n4 c4 w4, (Builtin.append_ #[73, 73] 73 #[z, .slice Au nu cu]).run Tryz.prog w3 = .ok (.slice A4 n4 c4) w4 ∧ CInv w base pb v L (anyR (x.l.take (k + 1))) (nszL (x.l.take (k + 1))) (.slice A4 n4 c4) w4) := Lib.hid (by
    intro k z wr y hy' hI
    obtain ⟨hk, hye⟩ := List.getElem?_eq_some_iff.1 hy'
    subst hye
    have hNr := hI.rules hN hA hBp hpb hb
    obtain ⟨g, off, A', c', e1, hg, h6, hch⟩ := hNr.at_ hk
    have hy : x.l[k] ∈ x.l := List.getElem_mem hk
    have hnt := nszL_take x.l k hk
    have hnl := nszL_take_le x.l (k + 1)
    have hal := any_take_le x.l (k + 1)
    have hat := anyR_take x.l k hk
    refine ⟨g, off, A', c', e1, h6, fun b => ?_⟩
    have hws := hI.size
    have hba : Below wr.heap.size wr (wr.alloc b) := (Below.refl _ _).alloc (Nat.le_refl _) _
    have hI2 := hI.below hba
    refine (hI2.call (hC _ hy) (c := c') (hch.kept (hba.mono (by omega))) hBp hpb hb (hk1 _ hy) (by omega)).mono ?_
    rintro e w3 ⟨u, rfl, ls, us, v', L', cs', ls2, us2, g1, g2, g3, g4, g5, g6, g7, g8, g9, g10, g11⟩
    obtain ⟨z', w4, hr, hI4⟩ := CInv.append g1 g2 g3 g4 g5 g6 g7 g8 g9 g10 hI2.size g11 (by omega) (by rw [← List.length_append, ← hat]; omega)
    rw [← hat, ← hnt] at hI4
    obtain ⟨Au, cu, rfl⟩ := g3.form
    obtain ⟨A4, c4, rfl⟩ := hI4.form
    exact ⟨Au, _, cu, rfl, A4, _, c4, w4, hr, hI4⟩)
  have hq1 : nszL x.l ≤ nsz x := by omega
  clear hA hb1 hN hC hc hcx hk1 hs1 hs2 h6
  rw [h1] at HP ⊢
  generalize hX : x.l = X at *
  generalize x.p = xp at *
  generalize x.f = xf at *
  generalize x.t = xt at *
  generalize x.n = xn at *
  clear hX h1
  go_enter Tryz.func35, Tryz.ntmps35
  go_wp2_with (first
    | (go_at_call 65; refine HI.out.mono ?_; rintro e w2 ⟨rfl, hb2⟩; obtain ⟨hi2, d0, d5⟩ := HP.out w2 hb2; have HI2 := Lib.hid hi2; clear hi2 hb2)
    | fail)
  clear HI HP
  go_loopw [5, 28] (fun z i wr => ∃ (k : Nat) (A5 : Option Addr) (n5 c5 : Nat), i = .int .i64 (k : Int) ∧ k ≤ X.length ∧ z = .slice A5 n5 c5 ∧ Hid (CInv w base pb v L (anyR (X.take k)) (nszL (X.take k)) (.slice A5 n5 c5) wr)) (fun _ i _ => X.length - (RowKit.intOf i).toNat)
  case atStart => exact ⟨0, none, 0, 0, rfl, Nat.zero_le _, rfl, Lib.hid (by simpa [anyR, nszL] using HI2.out)⟩
  case round =>
    obtain ⟨k, A5, n5, c5, rfl, hk, rfl, HIk⟩ := hrel
    by_cases hlt : k < X.length
    · have hlt' : (k : Int) < (X.length : Int) := by omega
      obtain ⟨g, off, A', c', rfl, h6, hcall⟩ := HS.out k _ wr X[k] (List.getElem?_eq_getElem hlt) HIk.out
      have HC := Lib.hid hcall
      obtain ⟨c0, c1, c2, c3, c4, c5'⟩ := h6
      clear hcall HS
      generalize X[k] = y at *
      generalize y.l.length = yl at *
      generalize y.k = yk at *
      generalize y.p = yp at *
      generalize y.f = yf at *
      generalize y.t = yt at *
      generalize y.n = yn at *
      go_wp2_with (first
        | (go_at_call 35; refine (HC.out _).mono ?_; rintro e w3 ⟨Au, nu, cu, rfl, A4, n4, c4', w4, hr, hI4⟩; have HI4 := Lib.hid hI4; clear hI4)
        | (at_builtin; refine Lib.wpList_append_run _ rfl _ _ _ _ rfl _ _ rfl rfl _ _ hr ?_)
        | fail)
      clear hr HC
      go_roundw
      case rel => exact ⟨k + 1, _, _, _, by go_num, by omega, rfl, HI4⟩
      case measure => simp [RowKit.intOf]; omega
    · have hlt' : ¬ (k : Int) < (X.length : Int) := by omega
      have HK : Hid (X.take k = X) := Lib.hid (List.take_of_length_le (by omega))
      go_wp2
      go_ret
      refine ⟨_, rfl, ?_⟩
      have h := HIk.out
      rw [HK.out, ← HE.out] at h
      exact h.res (by omega)
end Go.Proofs.YtbkffdfboloogaaGreatDoor
namespace Go.Proofs.YtbkffdfboloogaaGreatDoor
open Go.RowKit Go.Maps Go.Lib
set_option linter.unusedVariables false
set_option maxRecDepth 100000

/-- what sense.crossed makes of the answer and of one rule's cases -/
theorem CInv.cross {w wr w3 : World} {base pb n : Nat} {v z u v' : Value} {L L' : List Rl} {R R2 : List (List Rl)} {ls ls2 : List (List Nat)} {us us2 cs' : List Value}
    (h1 : LL wr w.heap.size z ls us) (h2 : LL w3 w.heap.size z ls us) (h3 : LL w3 wr.heap.size u ls2 us2) (hA : At w3 base pb v' (L ++ L') cs') (hG : Gr pb v v' w w3) (e1 : rd (L ++ L') ls = R) (i1 : InL (L ++ L').length ls) (e2 : rd (L ++ L') ls2 = R2) (i2 : InL (L ++ L').length ls2) (hn : L'.length ≤ n) (hw : w.heap.size ≤ wr.heap.size) (hw3 : wr.heap.size ≤ w3.heap.size) (hpb : pb < w.heap.size) (r1 : R.length ≤ 5000) (r2 : R2.length ≤ 5000) (r3 : R.length * R2.length ≤ 5000) (s1 : ∀ m ∈ R, m.length ≤ 10000) (s2 : ∀ m ∈ R2, m.length ≤ 10000) :
    Calls Tryz.prog 66 #[z, u] w3 fun e w4 => ∃ A4 n4 c4, e = .returned (.slice A4 n4 c4) ∧ CInv w base pb v L (R.flatMap fun p => R2.map fun q => p ++ q) n (.slice A4 n4 c4) w4 := by
  have l1 : ls.length = R.length := by rw [← e1, rd_len]
  have l2 : ls2.length = R2.length := by rw [← e2, rd_len]
  refine (crossed_any w3 w.heap.size wr.heap.size z u ls ls2 us us2 h2 h3 hw hw3 (fun q hq => (h1.rowlt hq).2.1) (fun x hx q hq => (h1.lt hx hq).2) (by omega) (by omega) (by rw [l1, l2]; exact r3) (rd_mem _ _ i1 _ (by rw [e1]; exact s1)) (rd_mem _ _ i2 _ (by rw [e2]; exact s2))).mono ?_
  rintro e w4 ⟨z', rfl, ⟨vs', hL⟩, hB, hK⟩
  obtain ⟨A4, c4, rfl⟩ := hL.form
  refine ⟨A4, _, c4, rfl, crossL ls ls2, vs', v', L', cs', hL, hA.kn hpb hB hK, hG.grow hB, ?_, i1.cross i2, hn⟩
  rw [rd_cross, e1, e2]
set_option maxHeartbeats 4000000 in
theorem cases_all0 (x : Rl) (h1 : x.k = 0) (hC : ∀ y ∈ x.l, CasSaid y) : CasSaid x := by
  intro A c w B base pb v L cs hN hBp hpb hb hA hc hl
  have hb1 : Below w.heap.size w (w.alloc (.cells #[.int .i64 x.k, .int .i64 x.p, .string x.f, .string x.t, .int .i64 x.n, .slice A x.l.length c] 33)) := (Below.refl _ _).alloc (Nat.le_refl _) _
  have HI := Lib.hid (isAtom_any x.k x.p x.n x.f x.t A x.l.length c (w.alloc (.cells #[.int .i64 x.k, .int .i64 x.p, .string x.f, .string x.t, .int .i64 x.n, .slice A x.l.length c] 33)))
  rw [h1, show atomB 0 = false from rfl] at HI
  have hsz := nsz_l x
  have hlen : x.l.length ≤ 10000 := by have := len_nszL x.l; omega
  have hcx := cnt_0 x h1
  have hFew := few_nsz x (by omega)
  have hc' := hc
  rw [hcx] at hc
  obtain ⟨hs1, hk1⟩ := prod_len x.l 1 false hc (by omega) (fun y _ hy => casesR_len y hy)
  have HE := Lib.hid (cases_0 x h1)
  have HL0 : Hid ((cnt x).1 = 0 → casesR x = []) := Lib.hid (fun e => List.length_eq_zero_iff.1 (by rw [casesR_len x hc', e]))
  have hpr : (cnt x).1 ≠ 0 → proR x.l ≠ 0 ∧ proR x.l ≤ 4096 := by
    intro h0
    rw [hcx] at h0
    rcases hs1 with ⟨e, _⟩ | ⟨_, e, h⟩
    · exact absurd e h0
    · omega
  have h6 : C6 (w.alloc (.cells #[.int .i64 x.k, .int .i64 x.p, .string x.f, .string x.t, .int .i64 x.n, .slice A x.l.length c] 33)) w.heap.size 0 x A c := ⟨by simp, by simp, by simp, by simp, by simp, by simp⟩
  have HP : Hid (∀ w2 : World, Below (w.alloc (.cells #[.int .i64 x.k, .int .i64 x.p, .string x.f, .string x.t, .int .i64 x.n, .slice A x.l.length c] 33)).heap.size (w.alloc (.cells #[.int .i64 x.k, .int .i64 x.p, .string x.f, .string x.t, .int .i64 x.n, .slice A x.l.length c] 33)) w2 → w2.cell? ⟨w.heap.size, 0, none⟩ = some (.int .i64 x.k) ∧ w2.cell? ⟨w.heap.size, 1, none⟩ = some (.int .i64 x.p) ∧ w2.cell? ⟨w.heap.size, 2, none⟩ = some (.string x.f) ∧ w2.cell? ⟨w.heap.size, 3, none⟩ = some (.string x.t) ∧ w2.cell? ⟨w.heap.size, 4, none⟩ = some (.int .i64 x.n) ∧ w2.cell? ⟨w.heap.size, 5, none⟩ = some (.slice A x.l.length c) ∧
      Calls Tryz.prog 33 #[.agg #[.int .i64 x.k, .int .i64 x.p, .string x.f, .string x.t, .int .i64 x.n, .slice A x.l.length c]] w2 fun e w3 => e = .returned (.tuple #[.int .i64 ((cnt x).1 : Nat), .bool true]) ∧ ((cnt x).1 = 0 → CRes x w base pb v L (.slice none 0 0) w3) ∧ w3.cell? ⟨w.heap.size, 5, none⟩ = some (.slice A x.l.length c) ∧
        CInv w base pb v L [[]] 0 (.slice (some ⟨w3.heap.size, 0, none⟩) 1 1) (w3.alloc (.cells #[.slice none 0 0] 75)) ∧ (w3.alloc (.cells #[.slice none 0 0] 75)).cell? ⟨w.heap.size, 5, none⟩ = some (.slice A x.l.length c)) := Lib.hid (by
    intro w2 hb2
    have hB : Below w.heap.size w w2 := hb1.trans (hb2.mono hb1.size)
    have hz2 := hB.size
    refine ⟨(hb2.cell (p := ⟨w.heap.size, 0, none⟩) (by simp)).trans h6.c0, (hb2.cell (p := ⟨w.heap.size, 1, none⟩) (by simp)).trans h6.c1, (hb2.cell (p := ⟨w.heap.size, 2, none⟩) (by simp)).trans h6.c2, (hb2.cell (p := ⟨w.heap.size, 3, none⟩) (by simp)).trans h6.c3, (hb2.cell (p := ⟨w.heap.size, 4, none⟩) (by simp)).trans h6.c4, (hb2.cell (p := ⟨w.heap.size, 5, none⟩) (by simp)).trans h6.c5, ?_⟩
    have hl2 : w.heap.size < w2.heap.size := by have := hb2.size; simp at this; omega
    refine (count_any x hFew A c w2 B (hN.kept (hB.mono (by omega))) (by omega) (by omega)).mono ?_
    rintro e w3 ⟨rfl, hb3⟩
    have hB3 : Below w.heap.size w w3 := hB.trans (hb3.mono hz2)
    have hz3 := hb3.size
    have k5 : w3.cell? ⟨w.heap.size, 5, none⟩ = some (.slice A x.l.length c) := (hb3.cell (p := ⟨w.heap.size, 5, none⟩) (by exact hl2)).trans ((hb2.cell (p := ⟨w.heap.size, 5, none⟩) (by simp)).trans h6.c5)
    have hB4 : Below w.heap.size w (w3.alloc (.cells #[.slice none 0 0] 75)) := hB3.alloc (by omega) _
    refine ⟨by rw [hc'], fun e => ?_, k5, ?_, ?_⟩
    · exact ⟨[], [], v, [], cs, LL.nil _ _, by rw [List.append_nil]; exact hA.below' hB3, Gr.of_below hB3, by rw [HL0.out e]; rfl, (by intro l hl; cases hl), Nat.zero_le _⟩
    · exact ⟨[[]], _, v, [], cs, LL_none w3 _ (by omega), by rw [List.append_nil]; exact hA.below' hB4, Gr.of_below hB4, rfl, (by intro l hl i hi; simp at hl; subst hl; simp at hi), Nat.le_refl _⟩
    · exact ((((Below.refl w3.heap.size w3).alloc (Nat.le_refl _) (.cells #[.slice none 0 0] 75)).cell (p := ⟨w.heap.size, 5, none⟩) (by simp; omega))).trans k5)
  have HS : Hid ((cnt x).1 ≠ 0 → ∀ (k : Nat) (z : Value) (wr : World) (y : Rl), x.l[k]? = some y → CInv w base pb v L (allR (x.l.take k) [[]]) (nszL (x.l.take k)) z wr → ∃ g off A' c', A = some ⟨g, off, none⟩ ∧ C6 wr g (off + k * 6) y A' c' ∧
      ∀ b, Calls Tryz.prog 35 #[.agg #[.int .i64 y.k, .int .i64 y.p, .string y.f, .string y.t, .int .i64 y.n, .slice A' y.l.length c'], .func (.func 34) #[] #[.pointer (some ⟨pb, 0, none⟩)]] (wr.alloc b) fun e w3 => ∃ Au nu cu, e = .returned (.slice Au nu cu) ∧ Calls Tryz.prog 66 #[z, .slice Au nu cu] w3 fun e w4 => ∃ A4 n4 c4, e = .returned (.slice A4 n4 c4) ∧ CInv w base pb v L (allR (x.l.take (k + 1)) [[]]) (nszL (x.l.take (k + 1))) (.slice A4 n4 c4) w4) := Lib.hid (by
    intro h0 k z wr y hy' hI
    obtain ⟨hk, hye⟩ := List.getElem?_eq_some_iff.1 hy'
    subst hye
    have hNr := hI.rules hN hA hBp hpb hb
    obtain ⟨g, off, A', c', e1, hg, h6, hch⟩ := hNr.at_ hk
    have hy : x.l[k] ∈ x.l := List.getElem_mem hk
    have hnt := nszL_take x.l k hk
    have hnl := nszL_take_le x.l (k + 1)
    have hnl' := nszL_take_le x.l k
    obtain ⟨hp0, hp1⟩ := hpr h0
    have hal := pro_take_le x.l (k + 1) hp0
    have hal' := pro_take_le x.l k hp0
    have hat := allR_take x.l k hk
    have hpt := proR_take x.l k hk
    have hll := all_len (x.l.take k) [[]]
    have hcl := cnt_le x.l[k]
    rw [← casesR_len x.l[k] (hk1 _ hy)] at hcl
    refine ⟨g, off, A', c', e1, h6, fun b => ?_⟩
    have hws := hI.size
    have hba : Below wr.heap.size wr (wr.alloc b) := (Below.refl _ _).alloc (Nat.le_refl _) _
    have hI2 := hI.below hba
    refine (hI2.call (hC _ hy) (c := c') (hch.kept (hba.mono (by omega))) hBp hpb hb (hk1 _ hy) (by omega)).mono ?_
    rintro e w3 ⟨u, rfl, ls, us, v', L', cs', ls2, us2, g1, g2, g3, g4, g5, g6, g7, g8, g9, g10, g11⟩
    have hcr := CInv.cross g1 g2 g3 g4 g5 g6 g7 g8 g9 g10 hI2.size g11 (by omega) (by rw [hll]; simp; omega) (by omega) (by rw [hll]; simp; omega) (fun m hm => by have := all_short (x.l.take k) [[]] 0 (by simp) m hm; omega) (fun m hm => by have := casesR_short _ m hm; omega)
    rw [← hat, ← hnt] at hcr
    obtain ⟨Au, cu, rfl⟩ := g3.form
    exact ⟨Au, _, cu, rfl, hcr⟩)
  have hq1 : nszL x.l ≤ nsz x := by omega
  have hcl := cnt_le x
  clear hA hb1 hN hC hc hc' hcx hk1 hs1 hpr h6 hFew
  rw [h1] at HP ⊢
  have Hrs : Hid (∀ z wr, CInv w base pb v L (allR x.l [[]]) (nszL x.l) z wr → CRes x w base pb v L z wr) := Lib.hid (fun z wr h => by rw [← HE.out] at h; exact h.res hq1)
  clear HL0
  generalize hX : x.l = X at *
  generalize x.p = xp at *
  generalize x.f = xf at *
  generalize x.t = xt at *
  generalize x.n = xn at *
  generalize hct : (cnt x).1 = ct at *
  clear hX h1 hct
  by_cases h0 : ct = 0
  · have H0 := Lib.hid h0
    have b0 : ((ct : Int) == 0) = true := by rw [beq_iff_eq]; omega
    clear h0
    go_enter Tryz.func35, Tryz.ntmps35
    go_wp2_with (first
      | (go_at_call 65; refine HI.out.mono ?_; rintro e w2 ⟨rfl, hb2⟩; obtain ⟨d0, d1, d2, d3, d4, d5, hc2⟩ := HP.out w2 hb2; have HC2 := Lib.hid hc2; clear hc2 hb2)
      | (go_at_call 33; refine HC2.out.mono ?_; rintro e w3 ⟨rfl, hr3, k5, hi3, k6⟩; have HR3 := Lib.hid (hr3 H0.out); clear hr3 hi3)
      | fail)
    go_ret
    exact ⟨_, rfl, HR3.out⟩
  have b0 : ((ct : Int) == 0) = false := by rw [beq_eq_false_iff_ne]; omega
  have HS2 := Lib.hid (HS.out h0)
  clear HS
  go_enter Tryz.func35, Tryz.ntmps35
  go_wp2_with (first
    | (go_at_call 65; refine HI.out.mono ?_; rintro e w2 ⟨rfl, hb2⟩; obtain ⟨d0, d1, d2, d3, d4, d5, hc2⟩ := HP.out w2 hb2; have HC2 := Lib.hid hc2; clear hc2 hb2)
    | (go_at_call 33; refine HC2.out.mono ?_; rintro e w3 ⟨rfl, hr3, k5, hi3, k6⟩; have HI2 := Lib.hid hi3; clear hr3 hi3)
    | fail)
  clear HI HP HC2
  go_loopw [10, 54] (fun z i wr => ∃ (k : Nat) (A5 : Option Addr) (n5 c5 : Nat), i = .int .i64 (k : Int) ∧ k ≤ X.length ∧ z = .slice A5 n5 c5 ∧ Hid (CInv w base pb v L (allR (X.take k) [[]]) (nszL (X.take k)) (.slice A5 n5 c5) wr)) (fun _ i _ => X.length - (RowKit.intOf i).toNat)
  case atStart => exact ⟨0, _, _, _, rfl, Nat.zero_le _, rfl, Lib.hid (by simpa [allR, nszL] using HI2.out)⟩
  case round =>
    obtain ⟨k, A5, n5, c5, rfl, hk, rfl, HIk⟩ := hrel
    by_cases hlt : k < X.length
    · have hlt' : (k : Int) < (X.length : Int) := by omega
      obtain ⟨g, off, A', c', rfl, h6, hcall⟩ := HS2.out k _ wr X[k] (List.getElem?_eq_getElem hlt) HIk.out
      have HC := Lib.hid hcall
      obtain ⟨c0, c1, c2, c3, c4, c5'⟩ := h6
      clear hcall HS2
      generalize X[k] = y at *
      generalize y.l.length = yl at *
      generalize y.k = yk at *
      generalize y.p = yp at *
      generalize y.f = yf at *
      generalize y.t = yt at *
      generalize y.n = yn at *
      go_wp2_with (first
        | (go_at_call 35; refine (HC.out _).mono ?_; rintro e w3 ⟨Au, nu, cu, rfl, hcr⟩; have HCR := Lib.hid hcr; clear hcr)
        | (go_at_call 66; refine HCR.out.mono ?_; rintro e w4 ⟨A4, n4, c4', rfl, hI4⟩; have HI4 := Lib.hid hI4; clear hI4)
        | fail)
      clear HC
      go_roundw
      case rel => exact ⟨k + 1, _, _, _, by go_num, by omega, rfl, HI4⟩
      case measure => simp [RowKit.intOf]; omega
    · have hlt' : ¬ (k : Int) < (X.length : Int) := by omega
      have HK : Hid (X.take k = X) := Lib.hid (List.take_of_length_le (by omega))
      go_wp2
      go_ret
      refine ⟨_, rfl, ?_⟩
      have h := HIk.out
      rw [HK.out] at h
      exact Hrs.out _ _ h
theorem cases_fuel (N : Nat) : ∀ x, SizeOf.sizeOf x ≤ N → CasSaid x := by
  induction N with
  | zero =>
    intro x h
    obtain ⟨k, p, f, t, n, l⟩ := x
    simp at h
  | succ N ih =>
    intro x hN
    have hk : ∀ y ∈ x.l, CasSaid y := fun y hy => ih y (by have := Rl.lt_mem hy; omega)
    by_cases h0 : x.k = 0
    · exact cases_all0 x h0 hk
    · by_cases h1 : x.k = 1
      · exact cases_any1 x h1 hk
      · cases ha : atomB x.k with
        | true => exact cases_atom x ha
        | false => exact cases_other x ha h0 h1
/-- sense.cases -/
theorem cases_said (x : Rl) : CasSaid x := cases_fuel _ x (Nat.le_refl _)
end Go.Proofs.YtbkffdfboloogaaGreatDoor
