/- The cases of a rule, plain: lists of rules in two parts. -/
import Derived.Test.YtehjkgfdfihfmaaDoorSKeep
namespace Go.Proofs.YtehjkgfdfihfmaaDoor
open Go.RowKit Go.Maps Go.Lib
set_option linter.unusedVariables false

theorem anyR_append (a b : List Rl) : anyR (a ++ b) = anyR a ++ anyR b := by
  induction a with
  | nil => rw [List.nil_append, anyR]; rfl
  | cons x a ih => rw [List.cons_append, anyR, anyR, ih, List.append_assoc]
theorem allR_append (a b : List Rl) : ∀ s, allR (a ++ b) s = allR b (allR a s) := by
  induction a with
  | nil => intro s; rw [List.nil_append, allR]
  | cons x a ih => intro s; rw [List.cons_append, allR, allR, ih]
theorem nszL_append (a b : List Rl) : nszL (a ++ b) = nszL a + nszL b := by
  induction a with
  | nil => rw [List.nil_append, nszL, Nat.zero_add]
  | cons x a ih => rw [List.cons_append, nszL, nszL, ih, Nat.add_assoc]
theorem proR_append (a b : List Rl) : proR (a ++ b) = proR a * proR b := by
  induction a with
  | nil => rw [List.nil_append, proR, Nat.one_mul]
  | cons x a ih => rw [List.cons_append, proR, proR, ih, Nat.mul_assoc]
theorem anyR_take (l : List Rl) (k : Nat) (hk : k < l.length) : anyR (l.take (k + 1)) = anyR (l.take k) ++ casesR l[k] := by
  rw [List.take_succ_eq_append_getElem hk, anyR_append]
  simp [anyR]
theorem allR_take (l : List Rl) (k : Nat) (hk : k < l.length) : allR (l.take (k + 1)) [[]] = (allR (l.take k) [[]]).flatMap fun p => (casesR l[k]).map fun q => p ++ q := by
  rw [List.take_succ_eq_append_getElem hk, allR_append, allR, allR]
theorem nszL_take (l : List Rl) (k : Nat) (hk : k < l.length) : nszL (l.take (k + 1)) = nszL (l.take k) + nsz l[k] := by
  rw [List.take_succ_eq_append_getElem hk, nszL_append]
  simp [nszL]
theorem proR_take (l : List Rl) (k : Nat) (hk : k < l.length) : proR (l.take (k + 1)) = proR (l.take k) * (casesR l[k]).length := by
  rw [List.take_succ_eq_append_getElem hk, proR_append]
  simp [proR]
theorem nszL_take_le (l : List Rl) (k : Nat) : nszL (l.take k) ≤ nszL l := by
  have h := nszL_append (l.take k) (l.drop k)
  rw [List.take_append_drop] at h
  omega
theorem any_take_le (l : List Rl) (k : Nat) : (anyR (l.take k)).length ≤ (anyR l).length := by
  have h := anyR_append (l.take k) (l.drop k)
  rw [List.take_append_drop] at h
  rw [h, List.length_append]
  omega
theorem pro_take_le (l : List Rl) (k : Nat) (h0 : proR l ≠ 0) : proR (l.take k) ≤ proR l := by
  have h := proR_append (l.take k) (l.drop k)
  rw [List.take_append_drop] at h
  rw [h] at h0 ⊢
  exact Nat.le_mul_of_pos_right _ (by
    rcases Nat.eq_zero_or_pos (proR (l.drop k)) with e | e
    · rw [e, Nat.mul_zero] at h0; exact absurd rfl h0
    · exact e)
theorem nsz_pos (x : Rl) : 1 ≤ nsz x := by rw [nsz_l]; omega
theorem len_nszL (l : List Rl) : l.length ≤ nszL l := by
  induction l with
  | nil => simp
  | cons x l ih => rw [nszL, List.length_cons]; have := nsz_pos x; omega
theorem nsz_mem (l : List Rl) : ∀ y ∈ l, nsz y ≤ nszL l := by
  induction l with
  | nil => intro y hy; cases hy
  | cons x l ih =>
    intro y hy
    rw [nszL]
    rcases List.mem_cons.1 hy with rfl | hy
    · omega
    · have := ih y hy; omega
theorem few_of (N : Nat) : ∀ x, SizeOf.sizeOf x ≤ N → nsz x ≤ 1000000 → Few x := by
  induction N with
  | zero =>
    intro x h
    obtain ⟨k, p, f, t, n, l⟩ := x
    simp at h
  | succ N ih =>
    intro x hN hx
    rw [nsz_l] at hx
    refine ⟨x, by have := len_nszL x.l; omega, fun y hy => ih y (by have := Rl.lt_mem hy; omega) (by have := nsz_mem x.l y hy; omega)⟩
theorem few_nsz (x : Rl) (h : nsz x ≤ 1000000) : Few x := few_of _ x (Nat.le_refl _) h
theorem all_short (ys : List Rl) : ∀ (a : List (List Rl)) (b : Nat), (∀ l ∈ a, l.length ≤ b) → ∀ l ∈ allR ys a, l.length ≤ b + nszL ys := by
  induction ys with
  | nil => intro a b ha l hl; rw [allR] at hl; rw [nszL]; exact ha l hl
  | cons y ys iy =>
    intro a b ha l hl
    rw [allR] at hl
    rw [nszL]
    have := iy _ (b + nsz y) (fun l hl => by
      obtain ⟨p, hp, hl⟩ := List.mem_flatMap.1 hl
      obtain ⟨q, hq, rfl⟩ := List.mem_map.1 hl
      have h1 := ha p hp
      have h2 := casesR_short y q hq
      rw [List.length_append]; omega) l hl
    omega
theorem rd_one (L : List Rl) (l : List Nat) (h : ∀ i ∈ l, i < L.length) : (l.filterMap fun i => L[i]?).length = l.length := by
  induction l with
  | nil => rfl
  | cons i l ih =>
    rw [List.filterMap_cons, List.getElem?_eq_getElem (h i (by simp))]
    simp only [List.length_cons]
    rw [ih (fun j hj => h j (by simp [hj]))]
theorem rd_mem (L : List Rl) (ls : List (List Nat)) (h : InL L.length ls) (n : Nat) (hn : ∀ m ∈ rd L ls, m.length ≤ n) : ∀ l ∈ ls, l.length ≤ n := by
  intro l hl
  have := hn (l.filterMap fun i => L[i]?) (List.mem_map.2 ⟨l, hl, rfl⟩)
  rw [rd_one L l (h l hl)] at this
  exact this
theorem Gr.grow {pb : Nat} {v v' : Value} {w w3 w4 : World} (h : Gr pb v v' w w3) (hb : Below w.heap.size w3 w4) : Gr pb v v' w w4 :=
  ⟨hb.os.trans h.os, hb.tape.trans h.tape, hb.output.trans h.output, Nat.le_trans h.size hb.size, fun q hq hn hv => (hb.block q hq).trans (h.block q hq hn hv), h.loc⟩
/-- what lies in sense.cases' answer behind some of the rules -/
def CInv (w : World) (base pb : Nat) (v : Value) (L : List Rl) (R : List (List Rl)) (n : Nat) (z : Value) (wr : World) : Prop :=
  ∃ ls us v' L' cs', LL wr w.heap.size z ls us ∧ At wr base pb v' (L ++ L') cs' ∧ Gr pb v v' w wr ∧ rd (L ++ L') ls = R ∧ InL (L ++ L').length ls ∧ L'.length ≤ n
theorem CInv.res {x : Rl} {w wr : World} {base pb : Nat} {v z : Value} {L : List Rl} {n : Nat} (h : CInv w base pb v L (casesR x) n z wr) (hn : n ≤ nsz x) : CRes x w base pb v L z wr := by
  obtain ⟨ls, us, v', L', cs', h1, h2, h3, h4, h5, h6⟩ := h
  exact ⟨ls, us, v', L', cs', h1, h2, h3, h4, h5, by omega⟩
theorem CInv.form {w wr : World} {base pb : Nat} {v z : Value} {L : List Rl} {R : List (List Rl)} {n : Nat} (h : CInv w base pb v L R n z wr) : ∃ A c, z = .slice A R.length c := by
  obtain ⟨ls, us, v', L', cs', h1, h2, h3, h4, h5, h6⟩ := h
  obtain ⟨A, c, e⟩ := h1.form
  exact ⟨A, c, by rw [e, ← h4, rd_len]⟩
theorem CInv.below {w wr wr2 : World} {base pb : Nat} {v z : Value} {L : List Rl} {R : List (List Rl)} {n : Nat} (h : CInv w base pb v L R n z wr) (hb : Below wr.heap.size wr wr2) : CInv w base pb v L R n z wr2 := by
  obtain ⟨ls, us, v', L', cs', h1, h2, h3, h4, h5, h6⟩ := h
  exact ⟨ls, us, v', L', cs', h1.below hb, h2.below' hb, h3.grow (hb.mono h3.size), h4, h5, h6⟩
theorem CInv.rules {w wr : World} {base pb B : Nat} {v z : Value} {L : List Rl} {R : List (List Rl)} {n : Nat} {cs : List Value} {A : Option Addr} {l : List Rl} (h : CInv w base pb v L R n z wr) (hN : NL w B A l) (hA : At w base pb v L cs) (hB : B ≤ pb) (hpb : pb < base) (hb : base ≤ w.heap.size) : NL wr B A l := by
  obtain ⟨ls, us, v', L', cs', h1, h2, h3, h4, h5, h6⟩ := h
  exact hN.gr hA hB hpb hb h3
theorem CInv.size {w wr : World} {base pb : Nat} {v z : Value} {L : List Rl} {R : List (List Rl)} {n : Nat} (h : CInv w base pb v L R n z wr) : w.heap.size ≤ wr.heap.size := by
  obtain ⟨ls, us, v', L', cs', h1, h2, h3, h4, h5, h6⟩ := h
  exact h3.size
/-- sense.cases of one rule more -/
theorem CInv.call {w wr : World} {base pb B : Nat} {v z : Value} {L : List Rl} {R : List (List Rl)} {n : Nat} (h : CInv w base pb v L R n z wr) {y : Rl} (hC : CasSaid y) {A : Option Addr} {c : Nat} (hN : NL wr B A y.l) (hB : B ≤ pb) (hpb : pb < base) (hb : base ≤ w.heap.size) (hc : (cnt y).2 = true) (hn : L.length + n + nsz y ≤ 10000) :
    Calls Tryd.prog 22 #[.agg #[.int .i64 y.k, .int .i64 y.p, .string y.f, .string y.t, .int .i64 y.n, .slice A y.l.length c], .func (.func 21) #[] #[.pointer (some ⟨pb, 0, none⟩)]] wr fun e w3 => ∃ u, e = .returned u ∧
      ∃ ls us v' L' cs' ls2 us2, LL wr w.heap.size z ls us ∧ LL w3 w.heap.size z ls us ∧ LL w3 wr.heap.size u ls2 us2 ∧ At w3 base pb v' (L ++ L') cs' ∧ Gr pb v v' w w3 ∧ rd (L ++ L') ls = R ∧ InL (L ++ L').length ls ∧ rd (L ++ L') ls2 = casesR y ∧ InL (L ++ L').length ls2 ∧ L'.length ≤ n + nsz y ∧ wr.heap.size ≤ w3.heap.size := by
  have hws := h.size
  obtain ⟨ls, us, v', L', cs', h1, h2, h3, h4, h5, h6⟩ := h
  refine (hC A c wr B base pb v' (L ++ L') cs' hN hB hpb (by omega) h2 hc (by rw [List.length_append]; omega)).mono ?_
  rintro e w3 ⟨u, rfl, ls2, us2, v2, L2, cs2, g1, g2, g3, g4, g5, g6⟩
  refine ⟨u, rfl, ls, us, v2, L' ++ L2, cs2, ls2, us2, h1, h1.gr h2 (by omega) g3, g1, ?_, h3.trans g3, ?_, ?_, ?_, ?_, ?_, g3.size⟩
  · rw [← List.append_assoc]; exact g2
  · rw [← List.append_assoc, rd_more _ _ _ h5]; exact h4
  · exact h5.more (by simp)
  · rw [← List.append_assoc]; exact g4
  · rw [← List.append_assoc]; exact g5
  · rw [List.length_append]; omega
end Go.Proofs.YtehjkgfdfihfmaaDoor
