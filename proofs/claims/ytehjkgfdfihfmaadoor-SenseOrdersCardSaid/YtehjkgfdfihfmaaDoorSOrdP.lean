/- A rule whose rules stand the other way round: it has as many cases, and clashes alike. Plain. -/
import Derived.Test.YtehjkgfdfihfmaaDoorSClash
namespace Go.Proofs.YtehjkgfdfihfmaaDoor
set_option linter.unusedVariables false

mutual
/-- the rules the other way round, all through -/
def turnR : Rl → Rl
  | ⟨k, p, f, t, n, l⟩ => ⟨k, p, f, t, n, turnL l⟩
def turnL : List Rl → List Rl
  | [] => []
  | x :: l => turnL l ++ [turnR x]
end
mutual
/-- the atoms of a rule, in order -/
def atomsR : Rl → List Rl
  | ⟨k, p, f, t, n, l⟩ => if atomB k = true then [⟨k, p, f, t, n, l⟩] else if 0 ≤ k ∧ k ≤ 2 then atomsL l else []
def atomsL : List Rl → List Rl
  | [] => []
  | x :: l => atomsR x ++ atomsL l
end
theorem turnL_eq (l : List Rl) : turnL l = (l.map turnR).reverse := by
  induction l with
  | nil => rfl
  | cons x l ih => rw [turnL, ih, List.map_cons, List.reverse_cons]
theorem turn_k (x : Rl) : (turnR x).k = x.k := by obtain ⟨k, p, f, t, n, l⟩ := x; rw [turnR]; rfl
theorem turn_p (x : Rl) : (turnR x).p = x.p := by obtain ⟨k, p, f, t, n, l⟩ := x; rw [turnR]; rfl
theorem turn_f (x : Rl) : (turnR x).f = x.f := by obtain ⟨k, p, f, t, n, l⟩ := x; rw [turnR]; rfl
theorem turn_t (x : Rl) : (turnR x).t = x.t := by obtain ⟨k, p, f, t, n, l⟩ := x; rw [turnR]; rfl
theorem turn_n (x : Rl) : (turnR x).n = x.n := by obtain ⟨k, p, f, t, n, l⟩ := x; rw [turnR]; rfl
theorem turn_l (x : Rl) : (turnR x).l = turnL x.l := by obtain ⟨k, p, f, t, n, l⟩ := x; rw [turnR]; rfl
theorem mem_turnL {l : List Rl} {y : Rl} : y ∈ turnL l ↔ ∃ x ∈ l, turnR x = y := by
  rw [turnL_eq, List.mem_reverse, List.mem_map]
theorem turn_turn (N : Nat) : ∀ x, SizeOf.sizeOf x ≤ N → turnR (turnR x) = x := by
  induction N with
  | zero =>
    intro x h
    obtain ⟨k, p, f, t, n, l⟩ := x
    simp at h
  | succ N ih =>
    intro x h
    have hk : ∀ y ∈ x.l, turnR (turnR y) = y := fun y hy => ih y (by have := Rl.lt_mem hy; omega)
    obtain ⟨k, p, f, t, n, l⟩ := x
    rw [turnR, turnR]
    have : turnL (turnL l) = l := by
      rw [turnL_eq, turnL_eq, List.map_reverse, List.reverse_reverse, List.map_map]
      refine (List.map_congr_left fun y hy => ?_).trans (List.map_id l)
      exact hk y hy
    rw [this]
theorem turn_twice (x : Rl) : turnR (turnR x) = x := turn_turn _ x (Nat.le_refl _)
theorem nsz_turn' (N : Nat) : ∀ x, SizeOf.sizeOf x ≤ N → nsz (turnR x) = nsz x := by
  induction N with
  | zero =>
    intro x h
    obtain ⟨k, p, f, t, n, l⟩ := x
    simp at h
  | succ N ih =>
    intro x h
    have hk : ∀ y ∈ x.l, nsz (turnR y) = nsz y := fun y hy => ih y (by have := Rl.lt_mem hy; omega)
    rw [nsz_l, nsz_l, turn_l]
    have : ∀ l : List Rl, (∀ y ∈ l, nsz (turnR y) = nsz y) → nszL (turnL l) = nszL l := by
      intro l
      induction l with
      | nil => intro _; rfl
      | cons y l il =>
        intro h
        rw [turnL, nszL_append, il (fun z hz => h z (by simp [hz])), nszL, nszL, nszL, h y (by simp)]
        omega
    rw [this _ hk]
theorem nsz_turn (x : Rl) : nsz (turnR x) = nsz x := nsz_turn' _ x (Nat.le_refl _)

/-! how many cases there are -/
def pstep (c : Rl → Nat × Bool) (s : Option (Nat × Bool)) (x : Rl) : Option (Nat × Bool) := match s with
  | none => none
  | some (t, z) => if (c x).2 = false then none else if (c x).1 = 0 then some (t, true) else some (min (t * (c x).1) 4097, z)
def pfin : Option (Nat × Bool) → Nat × Bool
  | none => (0, false)
  | some (t, z) => if z then (0, true) else (t, decide (t ≤ 4096))
theorem foldl_none (c : Rl → Nat × Bool) (l : List Rl) : l.foldl (pstep c) none = none := by
  induction l with
  | nil => rfl
  | cons x l ih => exact ih
theorem prodL_fold (l : List Rl) : ∀ t z, prodL l t z = pfin (l.foldl (pstep cnt) (some (t, z))) := by
  induction l with
  | nil => intro t z; rw [prodL]; rfl
  | cons x l ih =>
    intro t z
    rw [prodL, List.foldl_cons]
    simp only [pstep]
    split
    · rw [foldl_none]; rfl
    · split
      · exact ih _ _
      · exact ih _ _
theorem min_twice (t a b : Nat) (hb : 0 < b) : min (min (t * a) 4097 * b) 4097 = min (t * (a * b)) 4097 := by
  rw [← Nat.mul_assoc]
  by_cases h : t * a ≤ 4097
  · rw [Nat.min_eq_left h]
  · have h1 : 4097 ≤ t * a := by omega
    have h2 : 4097 ≤ t * a * b := Nat.le_trans h1 (Nat.le_mul_of_pos_right _ hb)
    rw [Nat.min_eq_right h1, Nat.min_eq_right h2, Nat.min_eq_right (Nat.le_mul_of_pos_right _ hb)]
theorem ps_no (c : Rl → Nat × Bool) (s : Nat × Bool) (x : Rl) (h : (c x).2 = false) : pstep c (some s) x = none := by
  obtain ⟨t, z⟩ := s
  simp only [pstep]
  rw [if_pos h]
theorem ps_zero (c : Rl → Nat × Bool) (s : Nat × Bool) (x : Rl) (h : ¬ (c x).2 = false) (h0 : (c x).1 = 0) : pstep c (some s) x = some (s.1, true) := by
  obtain ⟨t, z⟩ := s
  simp only [pstep]
  rw [if_neg h, if_pos h0]
theorem ps_more (c : Rl → Nat × Bool) (s : Nat × Bool) (x : Rl) (h : ¬ (c x).2 = false) (h0 : ¬ (c x).1 = 0) : pstep c (some s) x = some (min (s.1 * (c x).1) 4097, s.2) := by
  obtain ⟨t, z⟩ := s
  simp only [pstep]
  rw [if_neg h, if_neg h0]
theorem pstep_comm (c : Rl → Nat × Bool) (s : Option (Nat × Bool)) (x y : Rl) : pstep c (pstep c s x) y = pstep c (pstep c s y) x := by
  cases s with
  | none => rfl
  | some s =>
    by_cases hx : (c x).2 = false
    · rw [ps_no c s x hx]
      by_cases hy : (c y).2 = false
      · rw [ps_no c s y hy]; rfl
      · by_cases y0 : (c y).1 = 0
        · rw [ps_zero c s y hy y0, ps_no c _ x hx]; rfl
        · rw [ps_more c s y hy y0, ps_no c _ x hx]; rfl
    · by_cases hy : (c y).2 = false
      · rw [ps_no c s y hy]
        by_cases x0 : (c x).1 = 0
        · rw [ps_zero c s x hx x0, ps_no c _ y hy]; rfl
        · rw [ps_more c s x hx x0, ps_no c _ y hy]; rfl
      · by_cases x0 : (c x).1 = 0
        · rw [ps_zero c s x hx x0]
          by_cases y0 : (c y).1 = 0
          · rw [ps_zero c s y hy y0, ps_zero c _ y hy y0, ps_zero c _ x hx x0]
          · rw [ps_more c s y hy y0, ps_more c _ y hy y0, ps_zero c _ x hx x0]
        · rw [ps_more c s x hx x0]
          by_cases y0 : (c y).1 = 0
          · rw [ps_zero c s y hy y0, ps_zero c _ y hy y0, ps_more c _ x hx x0]
          · rw [ps_more c s y hy y0, ps_more c _ y hy y0, ps_more c _ x hx x0]
            simp only
            rw [min_twice _ _ _ (by omega), min_twice _ _ _ (by omega), Nat.mul_comm (c x).1]
def sstep (c : Rl → Nat × Bool) (s : Option Nat) (x : Rl) : Option Nat := match s with
  | none => none
  | some t => if (c x).2 = false ∨ 4096 < t + (c x).1 then none else some (t + (c x).1)
def sfin : Option Nat → Nat × Bool
  | none => (0, false)
  | some t => (t, true)
theorem foldl_none' (c : Rl → Nat × Bool) (l : List Rl) : l.foldl (sstep c) none = none := by
  induction l with
  | nil => rfl
  | cons x l ih => exact ih
theorem sumL_fold (l : List Rl) : ∀ t, sumL l t = sfin (l.foldl (sstep cnt) (some t)) := by
  induction l with
  | nil => intro t; rw [sumL]; rfl
  | cons x l ih =>
    intro t
    rw [sumL, List.foldl_cons]
    simp only [sstep]
    split
    · rw [foldl_none']; rfl
    · exact ih _
theorem sstep_comm (c : Rl → Nat × Bool) (s : Option Nat) (x y : Rl) : sstep c (sstep c s x) y = sstep c (sstep c s y) x := by
  cases s with
  | none => rfl
  | some t =>
    simp only [sstep]
    by_cases hx : (c x).2 = false ∨ 4096 < t + (c x).1
    · rw [if_pos hx]
      by_cases hy : (c y).2 = false ∨ 4096 < t + (c y).1
      · rw [if_pos hy]
      · rw [if_neg hy]
        simp only
        rw [if_pos (by rcases hx with h | h; exact .inl h; exact .inr (by omega))]
    · rw [if_neg hx]
      by_cases hy : (c y).2 = false ∨ 4096 < t + (c y).1
      · rw [if_pos hy]
        simp only
        rw [if_pos (by rcases hy with h | h; exact .inl h; exact .inr (by omega))]
      · rw [if_neg hy]
        simp only
        by_cases h : 4096 < t + (c x).1 + (c y).1
        · rw [if_pos (.inr h), if_pos (.inr (by omega))]
        · rw [if_neg (fun h' => h'.elim (fun e => hy (.inl e)) h), if_neg (fun h' => h'.elim (fun e => hx (.inl e)) (by omega))]
          congr 1
          omega
theorem fold_turn {σ : Type} (st : σ → Rl → σ) (hc : ∀ s x y, st (st s x) y = st (st s y) x) (l : List Rl) (he : ∀ x ∈ l, ∀ s, st s (turnR x) = st s x) (s : σ) : (turnL l).foldl st s = l.foldl st s := by
  rw [turnL_eq]
  rw [(List.reverse_perm (l.map turnR)).foldl_eq' (fun x _ y _ z => hc z x y) s]
  rw [List.foldl_map]
  induction l generalizing s with
  | nil => rfl
  | cons x l ih =>
    rw [List.foldl_cons, List.foldl_cons, he x (by simp), ih (fun y hy => he y (by simp [hy]))]
theorem cnt_turn' (N : Nat) : ∀ x, SizeOf.sizeOf x ≤ N → cnt (turnR x) = cnt x := by
  induction N with
  | zero =>
    intro x h
    obtain ⟨k, p, f, t, n, l⟩ := x
    simp at h
  | succ N ih =>
    intro x h
    have hk : ∀ y ∈ x.l, cnt (turnR y) = cnt y := fun y hy => ih y (by have := Rl.lt_mem hy; omega)
    have e := turn_k x
    by_cases h0 : x.k = 0
    · rw [cnt_0 _ (by rw [e]; exact h0), cnt_0 x h0, turn_l, prodL_fold, prodL_fold, fold_turn _ (pstep_comm cnt) _ (fun y hy s => ?_)]
      cases s with
      | none => rfl
      | some s => simp only [pstep, hk y hy]
    · by_cases h1 : x.k = 1
      · rw [cnt_1 _ (by rw [e]; exact h1), cnt_1 x h1, turn_l, sumL_fold, sumL_fold, fold_turn _ (sstep_comm cnt) _ (fun y hy s => ?_)]
        cases s with
        | none => rfl
        | some s => simp only [sstep, hk y hy]
      · rw [cnt_2 _ (by rw [e]; exact h0) (by rw [e]; exact h1), cnt_2 x h0 h1]
theorem cnt_turn (x : Rl) : cnt (turnR x) = cnt x := cnt_turn' _ x (Nat.le_refl _)

/-! which cases there are -/
def Sm (a b : Rl) : Prop := a.k = b.k ∧ a.f = b.f ∧ a.t = b.t ∧ a.n = b.n
theorem Sm.refl (a : Rl) : Sm a a := ⟨rfl, rfl, rfl, rfl⟩
theorem sm_turn (x : Rl) : Sm x (turnR x) := ⟨(turn_k x).symm, (turn_f x).symm, (turn_t x).symm, (turn_n x).symm⟩
theorem Sm.odds {a b c d : Rl} (h : Sm a c) (k : Sm b d) (ho : Odds a b) : Odds c d := by
  obtain ⟨a1, a2, a3, a4⟩ := h
  obtain ⟨b1, b2, b3, b4⟩ := k
  obtain ⟨e, ho⟩ := ho
  refine ⟨by rw [← a2, ← b2]; exact e, ?_⟩
  rw [← a1, ← b1, ← a4, ← b4, ← a3, ← b3]
  have : agB a.t d = agB a.t b := by unfold agB; rw [b1, b3, b4]
  rw [this]
  exact ho
/-- each atom of the one is in the other -/
def Sub (l m : List Rl) : Prop := ∀ a ∈ l, ∃ b ∈ m, Sm a b
theorem Sub.clashes {l m : List Rl} (h : Sub l m) (hc : Clashes l) : Clashes m := by
  obtain ⟨a, ha, b, hb, ho⟩ := hc
  obtain ⟨c, hc, h1⟩ := h a ha
  obtain ⟨d, hd, h2⟩ := h b hb
  exact ⟨c, hc, d, hd, h1.odds h2 ho⟩
theorem mem_anyR {L : List Rl} {m : List Rl} : m ∈ anyR L ↔ ∃ x ∈ L, m ∈ casesR x := by
  induction L with
  | nil => rw [anyR]; simp
  | cons x L ih => rw [anyR, List.mem_append, ih]; simp
theorem all_parts (L : List Rl) : ∀ (a : List (List Rl)) (m : List Rl), m ∈ allR L a → (∃ p ∈ a, ∀ u ∈ p, u ∈ m) ∧ (∀ y ∈ L, ∃ c ∈ casesR y, ∀ u ∈ c, u ∈ m) := by
  induction L with
  | nil => intro a m h; rw [allR] at h; exact ⟨⟨m, h, fun u hu => hu⟩, by simp⟩
  | cons x L ih =>
    intro a m h
    rw [allR] at h
    obtain ⟨⟨p, hp, hpm⟩, h2⟩ := ih _ m h
    obtain ⟨p0, hp0, hp⟩ := List.mem_flatMap.1 hp
    obtain ⟨q, hq, rfl⟩ := List.mem_map.1 hp
    refine ⟨⟨p0, hp0, fun u hu => hpm u (by simp [hu])⟩, fun y hy => ?_⟩
    rcases List.mem_cons.1 hy with rfl | hy
    · exact ⟨q, hq, fun u hu => hpm u (by simp [hu])⟩
    · exact h2 y hy
theorem all_make (m : List Rl) (L : List Rl) : ∀ a : List (List Rl), (∃ p ∈ a, Sub p m) → (∀ x ∈ L, ∃ c ∈ casesR x, Sub c m) → ∃ l ∈ allR L a, Sub l m := by
  induction L with
  | nil => intro a h _; rw [allR]; exact h
  | cons x L ih =>
    intro a h hx
    rw [allR]
    obtain ⟨p, hp, hs⟩ := h
    obtain ⟨c, hc, hcs⟩ := hx x (by simp)
    refine ih _ ⟨p ++ c, List.mem_flatMap.2 ⟨p, hp, List.mem_map.2 ⟨c, hc, rfl⟩⟩, fun u hu => ?_⟩ (fun y hy => hx y (by simp [hy]))
    rcases List.mem_append.1 hu with hu | hu
    · exact hs u hu
    · exact hcs u hu
theorem case_turn (N : Nat) : ∀ x, SizeOf.sizeOf x ≤ N → ∀ m ∈ casesR (turnR x), ∃ l ∈ casesR x, Sub l m := by
  induction N with
  | zero =>
    intro x h
    obtain ⟨k, p, f, t, n, l⟩ := x
    simp at h
  | succ N ih =>
    intro x h m hm
    have hk : ∀ y ∈ x.l, ∀ m ∈ casesR (turnR y), ∃ l ∈ casesR y, Sub l m := fun y hy => ih y (by have := Rl.lt_mem hy; omega)
    have e := turn_k x
    cases ha : atomB x.k with
    | true =>
      rw [cases_a _ (by rw [e]; exact ha)] at hm
      simp at hm
      subst hm
      exact ⟨[x], by rw [cases_a x ha]; simp, fun a ha => ⟨turnR x, by simp, by simp at ha; subst ha; exact sm_turn a⟩⟩
    | false =>
      by_cases h0 : x.k = 0
      · rw [cases_0 _ (by rw [e]; exact h0), turn_l] at hm
        rw [cases_0 x h0]
        obtain ⟨_, h2⟩ := all_parts _ _ _ hm
        refine all_make m x.l [[]] ⟨[], by simp, fun a ha => by cases ha⟩ fun y hy => ?_
        obtain ⟨c, hc, hcm⟩ := h2 (turnR y) (mem_turnL.2 ⟨y, hy, rfl⟩)
        obtain ⟨l, hl, hs⟩ := hk y hy c hc
        exact ⟨l, hl, fun a ha => by obtain ⟨b, hb, hsm⟩ := hs a ha; exact ⟨b, hcm b hb, hsm⟩⟩
      · by_cases h1 : x.k = 1
        · rw [cases_1 _ (by rw [e]; exact h1), turn_l] at hm
          rw [cases_1 x h1]
          obtain ⟨y, hy, hm⟩ := mem_anyR.1 hm
          obtain ⟨z, hz, rfl⟩ := mem_turnL.1 hy
          obtain ⟨l, hl, hs⟩ := hk z hz m hm
          exact ⟨l, mem_anyR.2 ⟨z, hz, hl⟩, hs⟩
        · rw [cases_2 _ (by rw [e]; exact ha) (by rw [e]; exact h0) (by rw [e]; exact h1)] at hm
          simp at hm
          subst hm
          exact ⟨[], by rw [cases_2 x ha h0 h1]; simp, fun a ha => by cases ha⟩
theorem clash_half (x : Rl) (h : ClashR x) : ClashR (turnR x) := by
  refine ⟨by rw [cnt_turn]; exact h.1, fun m hm => ?_⟩
  obtain ⟨l, hl, hs⟩ := case_turn _ x (Nat.le_refl _) m hm
  exact hs.clashes (h.2 l hl)
/-- whichever way the rules stand, they clash alike -/
theorem clash_turn (x : Rl) : ClashR (turnR x) ↔ ClashR x :=
  ⟨fun h => by have := clash_half _ h; rwa [turn_twice] at this, clash_half x⟩

/-! atoms -/
theorem atoms_a (x : Rl) (h : atomB x.k = true) : atomsR x = [x] := by
  obtain ⟨k, p, f, t, n, l⟩ := x
  have h' : atomB k = true := h
  rw [atomsR, if_pos h']
theorem atoms_l (x : Rl) (h : 0 ≤ x.k ∧ x.k ≤ 2) : atomsR x = atomsL x.l := by
  obtain ⟨k, p, f, t, n, l⟩ := x
  have h' : 0 ≤ k ∧ k ≤ 2 := h
  have ha : ¬ atomB k = true := by
    intro h
    simp [atomB] at h
    omega
  rw [atomsR, if_neg ha, if_pos h']
  rfl
theorem atoms_o (x : Rl) (ha : atomB x.k = false) (h : ¬ (0 ≤ x.k ∧ x.k ≤ 2)) : atomsR x = [] := by
  obtain ⟨k, p, f, t, n, l⟩ := x
  have h' : ¬ (0 ≤ k ∧ k ≤ 2) := h
  have ha' : ¬ atomB k = true := by rw [show atomB k = false from ha]; simp
  rw [atomsR, if_neg ha', if_neg h']
theorem mem_atomsL {L : List Rl} {a : Rl} : a ∈ atomsL L ↔ ∃ x ∈ L, a ∈ atomsR x := by
  induction L with
  | nil => rw [atomsL]; simp
  | cons x L ih => rw [atomsL, List.mem_append, ih]; simp
theorem case_atoms (N : Nat) : ∀ x, SizeOf.sizeOf x ≤ N → ∀ l ∈ casesR x, ∀ a ∈ l, a ∈ atomsR x := by
  induction N with
  | zero =>
    intro x h
    obtain ⟨k, p, f, t, n, l⟩ := x
    simp at h
  | succ N ih =>
    intro x h l hl a ha
    have hk : ∀ y ∈ x.l, ∀ l ∈ casesR y, ∀ a ∈ l, a ∈ atomsR y := fun y hy => ih y (by have := Rl.lt_mem hy; omega)
    cases hat : atomB x.k with
    | true =>
      rw [cases_a x hat] at hl
      simp at hl
      subst hl
      rw [atoms_a x hat]
      exact ha
    | false =>
      by_cases h0 : x.k = 0
      · rw [cases_0 x h0] at hl
        rw [atoms_l x (by omega)]
        have key : ∀ (L : List Rl) (acc : List (List Rl)), (∀ y ∈ L, ∀ l ∈ casesR y, ∀ a ∈ l, a ∈ atomsR y) → ∀ l ∈ allR L acc, ∀ a ∈ l, (∃ p ∈ acc, a ∈ p) ∨ a ∈ atomsL L := by
          intro L
          induction L with
          | nil => intro acc _ l hl a ha; rw [allR] at hl; exact .inl ⟨l, hl, ha⟩
          | cons y L iL =>
            intro acc hy l hl a ha
            rw [allR] at hl
            rcases iL _ (fun z hz => hy z (by simp [hz])) l hl a ha with ⟨p, hp, hap⟩ | h
            · obtain ⟨p0, hp0, hp⟩ := List.mem_flatMap.1 hp
              obtain ⟨q, hq, rfl⟩ := List.mem_map.1 hp
              rcases List.mem_append.1 hap with h | h
              · exact .inl ⟨p0, hp0, h⟩
              · exact .inr (mem_atomsL.2 ⟨y, by simp, hy y (by simp) q hq a h⟩)
            · obtain ⟨z, hz, h⟩ := mem_atomsL.1 h
              exact .inr (mem_atomsL.2 ⟨z, by simp [hz], h⟩)
        rcases key x.l [[]] hk l hl a ha with ⟨p, hp, h⟩ | h
        · simp at hp
          subst hp
          cases h
        · exact h
      · by_cases h1 : x.k = 1
        · rw [cases_1 x h1] at hl
          rw [atoms_l x (by omega)]
          obtain ⟨y, hy, hl⟩ := mem_anyR.1 hl
          exact mem_atomsL.2 ⟨y, hy, hk y hy l hl a ha⟩
        · rw [cases_2 x hat h0 h1] at hl
          simp at hl
          subst hl
          cases ha
theorem atoms_turn (N : Nat) : ∀ x, SizeOf.sizeOf x ≤ N → ∀ b ∈ atomsR (turnR x), ∃ a ∈ atomsR x, Sm a b := by
  induction N with
  | zero =>
    intro x h
    obtain ⟨k, p, f, t, n, l⟩ := x
    simp at h
  | succ N ih =>
    intro x h b hb
    have hk : ∀ y ∈ x.l, ∀ b ∈ atomsR (turnR y), ∃ a ∈ atomsR y, Sm a b := fun y hy => ih y (by have := Rl.lt_mem hy; omega)
    have e := turn_k x
    cases hat : atomB x.k with
    | true =>
      rw [atoms_a _ (by rw [e]; exact hat)] at hb
      simp at hb
      subst hb
      exact ⟨x, by rw [atoms_a x hat]; simp, sm_turn x⟩
    | false =>
      by_cases h2 : 0 ≤ x.k ∧ x.k ≤ 2
      · rw [atoms_l _ (by rw [e]; exact h2), turn_l] at hb
        rw [atoms_l x h2]
        obtain ⟨y, hy, hb⟩ := mem_atomsL.1 hb
        obtain ⟨z, hz, rfl⟩ := mem_turnL.1 hy
        obtain ⟨a, ha, hs⟩ := hk z hz b hb
        exact ⟨a, mem_atomsL.2 ⟨z, hz, ha⟩, hs⟩
      · rw [atoms_o _ (by rw [e]; exact hat) (by rw [e]; exact h2)] at hb
        cases hb
theorem Sm.fits {a b : Rl} (h : Sm a b) (hf : Fits a) : Fits b := by
  obtain ⟨_, h2, h3, h4⟩ := h
  unfold Fits at hf ⊢
  rw [← h2, ← h3, ← h4]
  exact hf
theorem fits_cases {x : Rl} (h : ∀ a ∈ atomsR x, Fits a) : ∀ l ∈ casesR x, ∀ a ∈ l, Fits a := fun l hl a ha => h a (case_atoms _ x (Nat.le_refl _) l hl a ha)
theorem fits_turn {x : Rl} (h : ∀ a ∈ atomsR x, Fits a) : ∀ l ∈ casesR (turnR x), ∀ a ∈ l, Fits a := fits_cases fun b hb => by
  obtain ⟨a, ha, hs⟩ := atoms_turn _ x (Nat.le_refl _) b hb
  exact hs.fits (h a ha)
end Go.Proofs.YtehjkgfdfihfmaaDoor
