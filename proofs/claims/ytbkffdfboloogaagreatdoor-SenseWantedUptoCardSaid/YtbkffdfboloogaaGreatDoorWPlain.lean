/- What is wrong with the credit that a deal asks for: nothing but its days. Plain. -/
import Derived.Test.YtbkffdfboloogaaGreatDoorMY
import Derived.Test.YtbkffdfboloogaaGreatDoorMP
import Derived.Test.YtbkffdfboloogaaGreatDoorNF
import Derived.Test.YtbkffdfboloogaaGreatDoorML
namespace Go.Proofs.YtbkffdfboloogaaGreatDoor
open Go.RowKit Go.Maps Go.Lib
set_option linter.unusedVariables false
set_option maxRecDepth 100000

/-- an atom, its field short, its text of some length -/
structure LeafR (a : Rl) : Prop where
  at_ : atomB a.k = true
  l : a.l = []
  f : a.f.size ≤ 20
  t : a.t.size ≤ 3000000
  n0 : -9223372036854775808 ≤ a.n
  n1 : a.n ≤ 9223372036854775807
theorem LeafR.one {a : Rl} (h : LeafR a) : nsz a = 1 := by
  rw [nsz_l, h.l]
  rfl
theorem leaf_nszL : ∀ L : List Rl, (∀ a ∈ L, LeafR a) → nszL L = L.length
  | [], _ => rfl
  | x :: L, h => by
    rw [nszL, (h x (by simp)).one, leaf_nszL L (fun a ha => h a (by simp [ha])), List.length_cons]
    omega
theorem leaf_atoms (L : List Rl) (h : ∀ a ∈ L, LeafR a) (k : Int) : ∀ a ∈ atomsR (ndOf k L).r, a ∈ L := by
  intro a ha
  rw [atoms_l (ndOf k L).r (show (0 : Int) ≤ 0 ∧ (0 : Int) ≤ 2 by omega)] at ha
  obtain ⟨x, hx, hax⟩ := mem_atomsL.1 ha
  rw [atoms_a x (h x hx).at_] at hax
  simp only [List.mem_singleton] at hax
  subst hax
  exact hx
theorem leaf_case : ∀ (L : List Rl), (∀ a ∈ L, LeafR a) → ∀ p, allR L [p] = [p ++ L]
  | [], _, p => by rw [allR, List.append_nil]
  | x :: L, h, p => by
    rw [allR, cases_a x (h x (by simp)).at_]
    simp only [List.flatMap_cons, List.flatMap_nil, List.map_cons, List.map_nil, List.append_nil]
    rw [leaf_case L (fun a ha => h a (by simp [ha]))]
    simp
theorem leaf_show {a : Rl} (h : LeafR a) : (showL a).length ≤ 3000060 := by
  have hsz : ∀ s : ByteArray, s.data.toList.length = s.size := fun s => by show s.data.toList.length = s.data.size; exact Array.length_toList
  have hf := h.f
  have ht := h.t
  have hi := it_len h.n0 h.n1
  have hk : a.k = 3 ∨ a.k = 4 ∨ a.k = 5 ∨ a.k = 6 ∨ a.k = 7 := by
    have := h.at_
    unfold atomB at this
    simp only [Bool.or_eq_true, beq_iff_eq] at this
    omega
  rcases hk with h3 | h3 | h3 | h3 | h3
  · rw [show_3 a h3]
    simp only [List.length_append, hsz, List.length_cons, List.length_nil]
    omega
  · rw [show_4 a h3]
    simp only [List.length_append, hsz, List.length_cons, List.length_nil]
    omega
  · rw [show_5 a h3]
    simp only [List.length_append, hsz, List.length_cons, List.length_nil]
    omega
  · rw [show_6 a h3]
    simp only [List.length_append, hsz, List.length_cons, List.length_nil]
    omega
  · rw [show_7 a h3]
    have := word_lenS a.p
    simp only [List.length_append, hsz, List.length_cons, List.length_nil]
    omega
theorem leaf_row (k : Int) : ∀ (L : List Rl), (∀ a ∈ L, LeafR a) → ∀ b, (rowL k b L).length ≤ 3000070 * L.length
  | [], _, b => by rw [rowL_nil]; simp
  | x :: L, h, b => by
    rw [rowL_cons]
    have h1 := leaf_show (h x (by simp))
    have h2 := leaf_row k L (fun a ha => h a (by simp [ha])) false
    have h3 : (brkL k x).length ≤ (showL x).length + 2 := by
      unfold brkL
      split <;> simp
    have h4 : (if b = true then ([] : Bs) else sepL k).length ≤ 5 := by
      split
      · simp
      · unfold sepL
        repeat' split
        all_goals decide
    rw [List.length_append, List.length_append, List.length_cons]
    omega
theorem nd_show (k : Int) (L : List Rl) (h : ∀ a ∈ L, LeafR a) (hl : L.length ≤ 7) : (showL (ndOf k L).r).length ≤ 39000000 := by
  rw [show_01 _ (.inl rfl)]
  have := leaf_row 0 L h true
  show (rowL 0 true L).length ≤ _
  omega
theorem nd_sm8 (k : Int) (L : List Rl) (h : ∀ a ∈ L, LeafR a) (hl : L.length ≤ 7) : Sm8 (ndOf k L) := by
  refine ⟨?_, fun a ha => ?_⟩
  · rw [nsz_l]
    have := leaf_nszL L h
    show 1 + nszL L ≤ 1000
    omega
  · have := h a (leaf_atoms L h k a ha)
    have h1 := this.f
    have h2 := this.t
    exact ⟨by omega, by omega, this.n0, this.n1⟩
theorem nodup_no {α : Type} {l : List α} (h : l.Nodup) {i j : Nat} (hij : i < j) {x : α} (hi : l[i]? = some x) (hj : l[j]? = some x) : False := by
  obtain ⟨h1, e1⟩ := List.getElem?_eq_some_iff.1 hi
  obtain ⟨h2, e2⟩ := List.getElem?_eq_some_iff.1 hj
  exact List.pairwise_iff_getElem.1 h i j h1 h2 hij (e1.trans e2.symm)
/-- fields apart, and each atom right: no fault in a need -/
theorem none_fault (c : Cr) (T : List (Int × List Rl)) (hT : c.needs = T.map fun t => ndOf t.1 t.2) (hn : (T.map (·.1)).Nodup) (h : ∀ t ∈ T, (t.2.map (·.f)).Nodup ∧ (∀ a ∈ t.2, LeafR a) ∧ ∀ a ∈ t.2, wrongB c.needs t.1 a = 0) (i : Nat) : ¬ FaultN c i := by
  rintro ⟨x, hx, hf⟩
  have hkind : ∀ (j : Nat) (y : Nd), c.needs[j]? = some y → (T.map (·.1))[j]? = some y.k := fun j y hy => by
    rw [hT, List.getElem?_map] at hy
    obtain ⟨t, ht, rfl⟩ := Option.map_eq_some_iff.1 hy
    rw [List.getElem?_map, ht]
    rfl
  rcases hf with ⟨k, hk, y, z, hy, hz, e⟩ | hw | hc
  · have h1 := hkind k y hy
    have h2 := hkind i z hz
    exact nodup_no hn hk h1 (e ▸ h2)
  · rw [hT, List.getElem?_map] at hx
    obtain ⟨t, ht, rfl⟩ := Option.map_eq_some_iff.1 hx
    obtain ⟨_, hl, h0⟩ := h t (List.mem_of_getElem? ht)
    obtain ⟨a, ha, hne⟩ := hw
    exact hne (h0 a (leaf_atoms _ hl _ a ha))
  · rw [hT, List.getElem?_map] at hx
    obtain ⟨t, ht, rfl⟩ := Option.map_eq_some_iff.1 hx
    obtain ⟨hnd, hl, _⟩ := h t (List.mem_of_getElem? ht)
    obtain ⟨_, hall⟩ := hc
    have hmem : t.2 ∈ casesR (ndOf t.1 t.2).r := by
      rw [cases_0 _ rfl]
      show t.2 ∈ allR t.2 [[]]
      rw [leaf_case _ hl]
      simp
    obtain ⟨a, ha, b, hb, hff, ho⟩ := hall _ hmem
    have hab : a = b := by
      obtain ⟨ia, hia⟩ := List.getElem?_of_mem ha
      obtain ⟨ib, hib⟩ := List.getElem?_of_mem hb
      have ka : (t.2.map (·.f))[ia]? = some a.f := by rw [List.getElem?_map, hia]; rfl
      have kb : (t.2.map (·.f))[ib]? = some b.f := by rw [List.getElem?_map, hib]; rfl
      have hla := (List.getElem?_eq_some_iff.1 ka).1
      have hlb := (List.getElem?_eq_some_iff.1 kb).1
      have : ia = ib := by
        rcases Nat.lt_trichotomy ia ib with h | h | h
        · exact (nodup_no hnd h ka (hff ▸ kb)).elim
        · exact h
        · exact (nodup_no hnd h kb (hff ▸ ka)).elim
      subst this
      rw [hia] at hib
      exact Option.some.inj hib
    subst hab
    rcases ho with ⟨h5, h6, _⟩ | ⟨_, _, hne⟩ | ⟨h3, hag⟩
    · omega
    · exact hne rfl
    · unfold agB at hag
      rw [if_neg (by omega), if_neg (by omega), if_neg (by omega)] at hag
      cases hag
theorem inL_mem {L : List ByteArray} {s : ByteArray} (h : s ∈ L) : inL L s = true := List.any_eq_true.2 ⟨s, h, by simp⟩
theorem type_zero {s : ByteArray} {k : Int} (h : inL (fieldsL k) s = true) (h1 : is1 s = false) (h2 : (s.toList == issuedT) = false) : typeB s = 0 := by
  obtain ⟨h0, h5⟩ := fieldsL_some h
  have : someK s 6 0 = true := (someK_of s 6 0).2 ⟨k.toNat, by omega, by rw [show ((0 + k.toNat : Nat) : Int) = k by omega]; exact h⟩
  unfold typeB
  rw [h1, h2, this]
  rfl
theorem wrong_is (N : List Nd) (k : Int) (f t : ByteArray) (hf : inL (fieldsL k) f = true) (h : typeB f = 0 ∨ (valB t (typeB f)).2 = true) : wrongB N k (isR f t) = 0 := by
  unfold wrongB
  show wr (inL (fieldsL k) f) 3 (typeB f) (valB t (typeB f)).2 _ _ _ = 0
  rw [hf]
  rcases h with h | h
  · rw [h]
    exact wr_3z
  · rw [h]
    exact wr_3o
theorem wrong_56 (N : List Nd) (k : Int) (a : Rl) (h5 : a.k = 5 ∨ a.k = 6) (hf : inL (fieldsL k) a.f = true) (h : ¬ typeB a.f = 0) : wrongB N k a = 0 := by
  unfold wrongB
  rw [hf]
  exact wr_56n h5 h
theorem val_dec (n : Int) (h0 : 0 ≤ n) (h1 : n ≤ 4611686018427387904) : (valB ⟨(itL n).toArray⟩ 1).2 = true := by
  have h := numB_of ⟨(itL n).toArray⟩ n (by omega) h1 rfl
  rw [valB_ok _ 1 (by omega) (by rw [h]) (by rw [h]; simp only; omega) (by omega)]
theorem alike_inv (d : Dl) : alikeL (invF d) nmInv = [isR ⟨#[115, 101, 108, 108, 101, 114]⟩ d.sel, isR ⟨#[98, 117, 121, 101, 114]⟩ d.buy, isR ⟨#[99, 117, 114, 114, 101, 110, 99, 121]⟩ d.cur, isR ⟨#[115, 117, 109]⟩ ⟨(itL d.amt).toArray⟩, isR ⟨#[102, 114, 111, 109]⟩ d.frm, isR ⟨#[116, 111]⟩ d.dst] := by
  simp [alikeL, nmInv, invF, getF, isF, List.find?, ByteArray.toList_eq]
theorem alike_pk (d : Dl) (mk ls : ByteArray) : alikeL (pkF d mk ls) nmPk = [isR ⟨#[98, 111, 120, 101, 115]⟩ ⟨(itL d.box.length).toArray⟩, isR ⟨#[109, 97, 114, 107, 115]⟩ mk] := by
  simp [alikeL, nmPk, pkF, getF, isF, List.find?, ByteArray.toList_eq]
theorem alike_or (d : Dl) : alikeL (orF d d.frm) nmOr = [isR ⟨#[115, 101, 108, 108, 101, 114]⟩ d.sel, isR ⟨#[99, 111, 117, 110, 116, 114, 121]⟩ d.frm] := by
  simp [alikeL, nmOr, orF, getF, isF, List.find?, ByteArray.toList_eq]
/-- the needs' kinds and rules -/
def wantT (d : Dl) (mk ls mk2 : ByteArray) : List (Int × List Rl) := [(0, alikeL (invF d) nmInv), (1, alikeL (pkF d mk ls) nmPk), (2, rules2 d mk2)] ++ (if d.ins.size = 0 then [] else [(3, rules3 d)]) ++ [(4, alikeL (orF d d.frm) nmOr)]
theorem want_needs (d : Dl) (mk ls mk2 : ByteArray) : (wantC d mk ls mk2).needs = (wantT d mk ls mk2).map fun t => ndOf t.1 t.2 := by
  unfold wantC wantT needs3 wantN
  by_cases h : d.ins.size = 0
  · rw [if_pos h, if_pos h]; rfl
  · rw [if_neg h, if_neg h]; rfl
theorem want_kinds (d : Dl) (mk ls mk2 : ByteArray) : ((wantT d mk ls mk2).map (·.1)).Nodup := by
  unfold wantT
  by_cases h : d.ins.size = 0
  · rw [if_pos h]; show ([0, 1, 2, 4] : List Int).Nodup; decide
  · rw [if_neg h]; show ([0, 1, 2, 3, 4] : List Int).Nodup; decide
/-- no text of a deal is long -/
structure WOk (d : Dl) (mk mk2 : ByteArray) : Prop where
  str : ∀ s ∈ [d.num, d.sel, d.buy, d.car, d.iss, d.hou, d.ins, d.frm, d.dst, d.cur], s.size ≤ 1048576
  int : ∀ n ∈ [d.amt, d.trm, d.lat, d.exp, d.ten, d.dut], -9223372036854775808 ≤ n ∧ n ≤ 9223372036854775807
  box : d.box.length ≤ 1048576
  m1 : mk.size ≤ 3000000
  m2 : mk2.size ≤ 3000000
theorem leaf_is (f t : ByteArray) (hf : f.size ≤ 20) (ht : t.size ≤ 3000000) : LeafR (isR f t) := ⟨rfl, rfl, hf, ht, by show (-9223372036854775808 : Int) ≤ 0; omega, by show (0 : Int) ≤ _; omega⟩
theorem it_sizeW (n : Int) (h0 : -9223372036854775808 ≤ n) (h1 : n ≤ 9223372036854775807) : (⟨(itL n).toArray⟩ : ByteArray).size ≤ 3000000 := by
  have := it_len h0 h1
  show (itL n).toArray.size ≤ _
  rw [List.size_toArray]
  omega
/-- what all needs' rules are -/
theorem want_each (d : Dl) (mk ls mk2 : ByteArray) (h : WOk d mk mk2) (Q : Int → List Rl → Prop)
    (q0 : Q 0 (alikeL (invF d) nmInv)) (q1 : Q 1 (alikeL (pkF d mk ls) nmPk)) (q2 : Q 2 (rules2 d mk2)) (q3 : Q 3 (rules3 d)) (q4 : Q 4 (alikeL (orF d d.frm) nmOr)) : ∀ t ∈ wantT d mk ls mk2, Q t.1 t.2 := by
  intro t ht
  unfold wantT at ht
  by_cases hi : d.ins.size = 0
  · rw [if_pos hi] at ht
    simp only [List.append_nil, List.cons_append, List.nil_append, List.mem_cons, List.not_mem_nil, or_false] at ht
    rcases ht with rfl | rfl | rfl | rfl <;> assumption
  · rw [if_neg hi] at ht
    simp only [List.cons_append, List.nil_append, List.mem_cons, List.not_mem_nil, or_false] at ht
    rcases ht with rfl | rfl | rfl | rfl | rfl <;> assumption

theorem want_leaf (d : Dl) (mk ls mk2 : ByteArray) (h : WOk d mk mk2) : ∀ t ∈ wantT d mk ls mk2, t.2.length ≤ 7 ∧ ∀ a ∈ t.2, LeafR a := by
  have hs : ∀ s ∈ [d.num, d.sel, d.buy, d.car, d.iss, d.hou, d.ins, d.frm, d.dst, d.cur], s.size ≤ 3000000 := fun s hs => Nat.le_trans (h.str s hs) (by omega)
  have hi := h.int
  have hb := h.box
  have h1 := h.m1
  have h2 := h.m2
  simp only [List.mem_cons, List.not_mem_nil, or_false, forall_eq_or_imp, forall_eq] at hs hi
  obtain ⟨s0, s1, s2, s3, s4, s5, s6, s7, s8, s9⟩ := hs
  obtain ⟨i0, i1, i2, i3, i4, i5⟩ := hi
  refine want_each d mk ls mk2 h (fun _ L => L.length ≤ 7 ∧ ∀ a ∈ L, LeafR a) ?_ ?_ ?_ ?_ ?_
  · rw [alike_inv]
    refine ⟨by simp, ?_⟩
    simp only [List.mem_cons, List.not_mem_nil, or_false, forall_eq_or_imp, forall_eq]
    exact ⟨leaf_is _ _ (by decide) s1, leaf_is _ _ (by decide) s2, leaf_is _ _ (by decide) s9, leaf_is _ _ (by decide) (it_sizeW _ i0.1 i0.2), leaf_is _ _ (by decide) s7, leaf_is _ _ (by decide) s8⟩
  · rw [alike_pk]
    refine ⟨by simp, ?_⟩
    simp only [List.mem_cons, List.not_mem_nil, or_false, forall_eq_or_imp, forall_eq]
    exact ⟨leaf_is _ _ (by decide) (it_sizeW _ (by omega) (by omega)), leaf_is _ _ (by decide) h1⟩
  · unfold rules2
    refine ⟨by simp, ?_⟩
    simp only [List.mem_cons, List.not_mem_nil, or_false, forall_eq_or_imp, forall_eq]
    exact ⟨leaf_is _ _ (by decide) s3, leaf_is _ _ (by decide) s1, leaf_is _ _ (by decide) s7, leaf_is _ _ (by decide) s8, leaf_is _ _ (by decide) h2, leaf_is _ _ (by decide) (by decide), ⟨rfl, rfl, (show (6 : Nat) ≤ 20 by omega), (show (0 : Nat) ≤ 3000000 by omega), i2.1, i2.2⟩⟩
  · unfold rules3
    refine ⟨by simp, ?_⟩
    simp only [List.mem_cons, List.not_mem_nil, or_false, forall_eq_or_imp, forall_eq]
    exact ⟨leaf_is _ _ (by decide) s7, leaf_is _ _ (by decide) s8, leaf_is _ _ (by decide) s9, ⟨rfl, rfl, (show (3 : Nat) ≤ 20 by omega), (show (0 : Nat) ≤ 3000000 by omega), i0.1, i0.2⟩⟩
  · rw [alike_or]
    refine ⟨by simp, ?_⟩
    simp only [List.mem_cons, List.not_mem_nil, or_false, forall_eq_or_imp, forall_eq]
    exact ⟨leaf_is _ _ (by decide) s1, leaf_is _ _ (by decide) s7⟩
theorem want_len (d : Dl) (mk ls mk2 : ByteArray) : (wantC d mk ls mk2).needs.length ≤ 5 := by
  rw [want_needs, List.length_map]
  unfold wantT
  by_cases h : d.ins.size = 0
  · rw [if_pos h]; show 4 ≤ 5; omega
  · rw [if_neg h]; show 5 ≤ 5; omega
theorem want_mem {d : Dl} {mk ls mk2 : ByteArray} {x : Nd} (hx : x ∈ (wantC d mk ls mk2).needs) : ∃ t ∈ wantT d mk ls mk2, x = ndOf t.1 t.2 := by
  rw [want_needs] at hx
  obtain ⟨t, ht, rfl⟩ := List.mem_map.1 hx
  exact ⟨t, ht, rfl⟩
theorem want_thin (d : Dl) (mk ls mk2 : ByteArray) (h : WOk d mk mk2) : Thin (wantC d mk ls mk2) := by
  have hl := want_leaf d mk ls mk2 h
  have hs := h.str
  simp only [List.mem_cons, List.not_mem_nil, or_false, forall_eq_or_imp, forall_eq] at hs
  obtain ⟨s0, s1, s2, s3, s4, s5, s6, s7, s8, s9⟩ := hs
  have hn := want_len d mk ls mk2
  refine ⟨⟨?_, fun x hx => ?_, by omega⟩, by omega, fun x hx => ?_⟩
  · show ∀ s ∈ [d.num, d.buy, d.sel, d.iss, ⟨#[]⟩, d.frm, d.dst, d.cur], s.size ≤ 140737488351232
    simp only [List.mem_cons, List.not_mem_nil, or_false, forall_eq_or_imp, forall_eq]
    exact ⟨by omega, by omega, by omega, by omega, by show 0 ≤ _; omega, by omega, by omega, by omega⟩
  · obtain ⟨t, ht, rfl⟩ := want_mem hx
    exact nd_sm8 _ _ (hl t ht).2 (hl t ht).1
  · obtain ⟨t, ht, rfl⟩ := want_mem hx
    exact nd_show _ _ (hl t ht).2 (hl t ht).1
theorem want_kind (d : Dl) (mk ls mk2 : ByteArray) : ∀ x ∈ (wantC d mk ls mk2).needs, -9223372036854775808 ≤ x.k ∧ x.k ≤ 9223372036854775807 := by
  intro x hx
  obtain ⟨t, ht, rfl⟩ := want_mem hx
  show -9223372036854775808 ≤ t.1 ∧ t.1 ≤ 9223372036854775807
  unfold wantT at ht
  by_cases hi : d.ins.size = 0
  · rw [if_pos hi] at ht
    simp only [List.append_nil, List.cons_append, List.nil_append, List.mem_cons, List.not_mem_nil, or_false] at ht
    rcases ht with rfl | rfl | rfl | rfl <;> simp only <;> omega
  · rw [if_neg hi] at ht
    simp only [List.cons_append, List.nil_append, List.mem_cons, List.not_mem_nil, or_false] at ht
    rcases ht with rfl | rfl | rfl | rfl | rfl <;> simp only <;> omega

theorem type_one {s : ByteArray} (h : is1 s = true) : typeB s = 1 := by
  unfold typeB
  rw [if_pos h]
theorem type_two {s : ByteArray} (h : is1 s = false) (h2 : (s.toList == issuedT) = true) : typeB s = 2 := by
  unfold typeB
  rw [h, h2]
  rfl

theorem want_right (d : Dl) (mk ls mk2 : ByteArray) (h : WOk d mk mk2) (N : List Nd) (ha0 : 0 ≤ d.amt) (ha1 : d.amt ≤ 4611686018427387904) : ∀ t ∈ wantT d mk ls mk2, (t.2.map (·.f)).Nodup ∧ ∀ a ∈ t.2, wrongB N t.1 a = 0 := by
  have hb := h.box
  refine want_each d mk ls mk2 h (fun k L => (L.map (·.f)).Nodup ∧ ∀ a ∈ L, wrongB N k a = 0) ?_ ?_ ?_ ?_ ?_
  · rw [alike_inv]
    refine ⟨(show ([⟨#[115, 101, 108, 108, 101, 114]⟩, ⟨#[98, 117, 121, 101, 114]⟩, ⟨#[99, 117, 114, 114, 101, 110, 99, 121]⟩, ⟨#[115, 117, 109]⟩, ⟨#[102, 114, 111, 109]⟩, ⟨#[116, 111]⟩] : List ByteArray).Nodup by decide +kernel), ?_⟩
    simp only [List.mem_cons, List.not_mem_nil, or_false, forall_eq_or_imp, forall_eq]
    exact ⟨wrong_is _ 0 ⟨#[115, 101, 108, 108, 101, 114]⟩ _ (inL_mem (L := fieldsL 0) (s := ⟨#[115, 101, 108, 108, 101, 114]⟩) (by rw [fieldsL_0]; simp [fl0])) (.inl (type_zero (k := 0) (inL_mem (L := fieldsL 0) (s := ⟨#[115, 101, 108, 108, 101, 114]⟩) (by rw [fieldsL_0]; simp [fl0])) (by simp [is1, sumT, boxesT, termT, ByteArray.toList_eq]) (by simp [issuedT, ByteArray.toList_eq]))), wrong_is _ 0 ⟨#[98, 117, 121, 101, 114]⟩ _ (inL_mem (L := fieldsL 0) (s := ⟨#[98, 117, 121, 101, 114]⟩) (by rw [fieldsL_0]; simp [fl0])) (.inl (type_zero (k := 0) (inL_mem (L := fieldsL 0) (s := ⟨#[98, 117, 121, 101, 114]⟩) (by rw [fieldsL_0]; simp [fl0])) (by simp [is1, sumT, boxesT, termT, ByteArray.toList_eq]) (by simp [issuedT, ByteArray.toList_eq]))), wrong_is _ 0 ⟨#[99, 117, 114, 114, 101, 110, 99, 121]⟩ _ (inL_mem (L := fieldsL 0) (s := ⟨#[99, 117, 114, 114, 101, 110, 99, 121]⟩) (by rw [fieldsL_0]; simp [fl0])) (.inl (type_zero (k := 0) (inL_mem (L := fieldsL 0) (s := ⟨#[99, 117, 114, 114, 101, 110, 99, 121]⟩) (by rw [fieldsL_0]; simp [fl0])) (by simp [is1, sumT, boxesT, termT, ByteArray.toList_eq]) (by simp [issuedT, ByteArray.toList_eq]))), wrong_is _ 0 ⟨#[115, 117, 109]⟩ _ (inL_mem (L := fieldsL 0) (s := ⟨#[115, 117, 109]⟩) (by rw [fieldsL_0]; simp [fl0])) (.inr (by rw [type_one (by simp [is1, sumT, boxesT, termT, ByteArray.toList_eq])]; exact val_dec _ ha0 ha1)), wrong_is _ 0 ⟨#[102, 114, 111, 109]⟩ _ (inL_mem (L := fieldsL 0) (s := ⟨#[102, 114, 111, 109]⟩) (by rw [fieldsL_0]; simp [fl0])) (.inl (type_zero (k := 0) (inL_mem (L := fieldsL 0) (s := ⟨#[102, 114, 111, 109]⟩) (by rw [fieldsL_0]; simp [fl0])) (by simp [is1, sumT, boxesT, termT, ByteArray.toList_eq]) (by simp [issuedT, ByteArray.toList_eq]))), wrong_is _ 0 ⟨#[116, 111]⟩ _ (inL_mem (L := fieldsL 0) (s := ⟨#[116, 111]⟩) (by rw [fieldsL_0]; simp [fl0])) (.inl (type_zero (k := 0) (inL_mem (L := fieldsL 0) (s := ⟨#[116, 111]⟩) (by rw [fieldsL_0]; simp [fl0])) (by simp [is1, sumT, boxesT, termT, ByteArray.toList_eq]) (by simp [issuedT, ByteArray.toList_eq])))⟩
  · rw [alike_pk]
    refine ⟨(show ([⟨#[98, 111, 120, 101, 115]⟩, ⟨#[109, 97, 114, 107, 115]⟩] : List ByteArray).Nodup by decide +kernel), ?_⟩
    simp only [List.mem_cons, List.not_mem_nil, or_false, forall_eq_or_imp, forall_eq]
    exact ⟨wrong_is _ 1 ⟨#[98, 111, 120, 101, 115]⟩ _ (inL_mem (L := fieldsL 1) (s := ⟨#[98, 111, 120, 101, 115]⟩) (by rw [fieldsL_1]; simp [fl1])) (.inr (by rw [type_one (by simp [is1, sumT, boxesT, termT, ByteArray.toList_eq])]; exact val_dec _ (by omega) (by omega))), wrong_is _ 1 ⟨#[109, 97, 114, 107, 115]⟩ _ (inL_mem (L := fieldsL 1) (s := ⟨#[109, 97, 114, 107, 115]⟩) (by rw [fieldsL_1]; simp [fl1])) (.inl (type_zero (k := 1) (inL_mem (L := fieldsL 1) (s := ⟨#[109, 97, 114, 107, 115]⟩) (by rw [fieldsL_1]; simp [fl1])) (by simp [is1, sumT, boxesT, termT, ByteArray.toList_eq]) (by simp [issuedT, ByteArray.toList_eq])))⟩
  · unfold rules2
    refine ⟨(show ([⟨#[99, 97, 114, 114, 105, 101, 114]⟩, ⟨#[115, 104, 105, 112, 112, 101, 114]⟩, ⟨#[102, 114, 111, 109]⟩, ⟨#[116, 111]⟩, ⟨#[109, 97, 114, 107, 115]⟩, ⟨#[99, 108, 101, 97, 110]⟩, ⟨#[105, 115, 115, 117, 101, 100]⟩] : List ByteArray).Nodup by decide +kernel), ?_⟩
    simp only [List.mem_cons, List.not_mem_nil, or_false, forall_eq_or_imp, forall_eq]
    exact ⟨wrong_is _ 2 ⟨#[99, 97, 114, 114, 105, 101, 114]⟩ _ (inL_mem (L := fieldsL 2) (s := ⟨#[99, 97, 114, 114, 105, 101, 114]⟩) (by rw [fieldsL_2]; simp [fl2])) (.inl (type_zero (k := 2) (inL_mem (L := fieldsL 2) (s := ⟨#[99, 97, 114, 114, 105, 101, 114]⟩) (by rw [fieldsL_2]; simp [fl2])) (by simp [is1, sumT, boxesT, termT, ByteArray.toList_eq]) (by simp [issuedT, ByteArray.toList_eq]))), wrong_is _ 2 ⟨#[115, 104, 105, 112, 112, 101, 114]⟩ _ (inL_mem (L := fieldsL 2) (s := ⟨#[115, 104, 105, 112, 112, 101, 114]⟩) (by rw [fieldsL_2]; simp [fl2])) (.inl (type_zero (k := 2) (inL_mem (L := fieldsL 2) (s := ⟨#[115, 104, 105, 112, 112, 101, 114]⟩) (by rw [fieldsL_2]; simp [fl2])) (by simp [is1, sumT, boxesT, termT, ByteArray.toList_eq]) (by simp [issuedT, ByteArray.toList_eq]))), wrong_is _ 2 ⟨#[102, 114, 111, 109]⟩ _ (inL_mem (L := fieldsL 2) (s := ⟨#[102, 114, 111, 109]⟩) (by rw [fieldsL_2]; simp [fl2])) (.inl (type_zero (k := 2) (inL_mem (L := fieldsL 2) (s := ⟨#[102, 114, 111, 109]⟩) (by rw [fieldsL_2]; simp [fl2])) (by simp [is1, sumT, boxesT, termT, ByteArray.toList_eq]) (by simp [issuedT, ByteArray.toList_eq]))), wrong_is _ 2 ⟨#[116, 111]⟩ _ (inL_mem (L := fieldsL 2) (s := ⟨#[116, 111]⟩) (by rw [fieldsL_2]; simp [fl2])) (.inl (type_zero (k := 2) (inL_mem (L := fieldsL 2) (s := ⟨#[116, 111]⟩) (by rw [fieldsL_2]; simp [fl2])) (by simp [is1, sumT, boxesT, termT, ByteArray.toList_eq]) (by simp [issuedT, ByteArray.toList_eq]))), wrong_is _ 2 ⟨#[109, 97, 114, 107, 115]⟩ _ (inL_mem (L := fieldsL 2) (s := ⟨#[109, 97, 114, 107, 115]⟩) (by rw [fieldsL_2]; simp [fl2])) (.inl (type_zero (k := 2) (inL_mem (L := fieldsL 2) (s := ⟨#[109, 97, 114, 107, 115]⟩) (by rw [fieldsL_2]; simp [fl2])) (by simp [is1, sumT, boxesT, termT, ByteArray.toList_eq]) (by simp [issuedT, ByteArray.toList_eq]))), wrong_is _ 2 ⟨#[99, 108, 101, 97, 110]⟩ _ (inL_mem (L := fieldsL 2) (s := ⟨#[99, 108, 101, 97, 110]⟩) (by rw [fieldsL_2]; simp [fl2])) (.inl (type_zero (k := 2) (inL_mem (L := fieldsL 2) (s := ⟨#[99, 108, 101, 97, 110]⟩) (by rw [fieldsL_2]; simp [fl2])) (by simp [is1, sumT, boxesT, termT, ByteArray.toList_eq]) (by simp [issuedT, ByteArray.toList_eq]))), wrong_56 _ 2 _ (by first | exact .inl rfl | exact .inr rfl) (inL_mem (L := fieldsL 2) (s := ⟨#[105, 115, 115, 117, 101, 100]⟩) (by rw [fieldsL_2]; simp [fl2])) (by show ¬ typeB ⟨#[105, 115, 115, 117, 101, 100]⟩ = 0; rw [type_two (by simp [is1, sumT, boxesT, termT, ByteArray.toList_eq]) (by simp [issuedT, ByteArray.toList_eq])]; omega)⟩
  · unfold rules3
    refine ⟨(show ([⟨#[102, 114, 111, 109]⟩, ⟨#[116, 111]⟩, ⟨#[99, 117, 114, 114, 101, 110, 99, 121]⟩, ⟨#[115, 117, 109]⟩] : List ByteArray).Nodup by decide +kernel), ?_⟩
    simp only [List.mem_cons, List.not_mem_nil, or_false, forall_eq_or_imp, forall_eq]
    exact ⟨wrong_is _ 3 ⟨#[102, 114, 111, 109]⟩ _ (inL_mem (L := fieldsL 3) (s := ⟨#[102, 114, 111, 109]⟩) (by rw [fieldsL_3]; simp [fl3])) (.inl (type_zero (k := 3) (inL_mem (L := fieldsL 3) (s := ⟨#[102, 114, 111, 109]⟩) (by rw [fieldsL_3]; simp [fl3])) (by simp [is1, sumT, boxesT, termT, ByteArray.toList_eq]) (by simp [issuedT, ByteArray.toList_eq]))), wrong_is _ 3 ⟨#[116, 111]⟩ _ (inL_mem (L := fieldsL 3) (s := ⟨#[116, 111]⟩) (by rw [fieldsL_3]; simp [fl3])) (.inl (type_zero (k := 3) (inL_mem (L := fieldsL 3) (s := ⟨#[116, 111]⟩) (by rw [fieldsL_3]; simp [fl3])) (by simp [is1, sumT, boxesT, termT, ByteArray.toList_eq]) (by simp [issuedT, ByteArray.toList_eq]))), wrong_is _ 3 ⟨#[99, 117, 114, 114, 101, 110, 99, 121]⟩ _ (inL_mem (L := fieldsL 3) (s := ⟨#[99, 117, 114, 114, 101, 110, 99, 121]⟩) (by rw [fieldsL_3]; simp [fl3])) (.inl (type_zero (k := 3) (inL_mem (L := fieldsL 3) (s := ⟨#[99, 117, 114, 114, 101, 110, 99, 121]⟩) (by rw [fieldsL_3]; simp [fl3])) (by simp [is1, sumT, boxesT, termT, ByteArray.toList_eq]) (by simp [issuedT, ByteArray.toList_eq]))), wrong_56 _ 3 _ (by first | exact .inl rfl | exact .inr rfl) (inL_mem (L := fieldsL 3) (s := ⟨#[115, 117, 109]⟩) (by rw [fieldsL_3]; simp [fl3])) (by show ¬ typeB ⟨#[115, 117, 109]⟩ = 0; rw [type_one (by simp [is1, sumT, boxesT, termT, ByteArray.toList_eq])]; omega)⟩
  · rw [alike_or]
    refine ⟨(show ([⟨#[115, 101, 108, 108, 101, 114]⟩, ⟨#[99, 111, 117, 110, 116, 114, 121]⟩] : List ByteArray).Nodup by decide +kernel), ?_⟩
    simp only [List.mem_cons, List.not_mem_nil, or_false, forall_eq_or_imp, forall_eq]
    exact ⟨wrong_is _ 4 ⟨#[115, 101, 108, 108, 101, 114]⟩ _ (inL_mem (L := fieldsL 4) (s := ⟨#[115, 101, 108, 108, 101, 114]⟩) (by rw [fieldsL_4]; simp [fl4])) (.inl (type_zero (k := 4) (inL_mem (L := fieldsL 4) (s := ⟨#[115, 101, 108, 108, 101, 114]⟩) (by rw [fieldsL_4]; simp [fl4])) (by simp [is1, sumT, boxesT, termT, ByteArray.toList_eq]) (by simp [issuedT, ByteArray.toList_eq]))), wrong_is _ 4 ⟨#[99, 111, 117, 110, 116, 114, 121]⟩ _ (inL_mem (L := fieldsL 4) (s := ⟨#[99, 111, 117, 110, 116, 114, 121]⟩) (by rw [fieldsL_4]; simp [fl4])) (.inl (type_zero (k := 4) (inL_mem (L := fieldsL 4) (s := ⟨#[99, 111, 117, 110, 116, 114, 121]⟩) (by rw [fieldsL_4]; simp [fl4])) (by simp [is1, sumT, boxesT, termT, ByteArray.toList_eq]) (by simp [issuedT, ByteArray.toList_eq])))⟩

/-- nothing is wrong with such a credit but its days -/
theorem want_faulty (d : Dl) (mk ls mk2 : ByteArray) (h : WOk d mk mk2) (hm : mayB (wantC d mk ls mk2) = true) : Faulty (wantC d mk ls mk2) ↔ d.exp < d.lat := by
  have hf : fitsB (wantC d mk ls mk2) = true := by
    unfold mayB at hm
    rw [Bool.and_eq_true] at hm
    exact hm.1
  unfold fitsB at hf
  simp only [Bool.and_eq_true, decide_eq_true_eq] at hf
  have ha : 1 ≤ d.amt ∧ d.amt ≤ 1099511627776 := hf.1.1.1.1.1.1.1.1.2
  have hl := want_leaf d mk ls mk2 h
  have hr := want_right d mk ls mk2 h (wantC d mk ls mk2).needs (by omega) (by omega)
  have hno := none_fault (wantC d mk ls mk2) (wantT d mk ls mk2) (want_needs d mk ls mk2) (want_kinds d mk ls mk2) (fun t ht => ⟨(hr t ht).1, (hl t ht).2, (hr t ht).2⟩)
  constructor
  · rintro (h | ⟨i, _, h⟩)
    · exact h
    · exact absurd h (hno i)
  · exact fun h => .inl h
end Go.Proofs.YtbkffdfboloogaaGreatDoor
