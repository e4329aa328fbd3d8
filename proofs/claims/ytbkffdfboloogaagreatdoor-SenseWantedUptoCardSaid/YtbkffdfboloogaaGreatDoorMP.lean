/- How long the text of a narrow rule is, plain. Rows of needs, and append to them. Needs whose rules are own rows: built, appended, handed on. What is wrong with a credit, plain. -/
import Derived.Test.YtbkffdfboloogaaGreatDoorMC
import Derived.Test.YtbkffdfboloogaaGreatDoorMB
import Derived.Test.YtbkffdfboloogaaGreatDoorML
import Derived.Test.YtbkffdfboloogaaGreatDoorMO
namespace Go.Proofs.YtbkffdfboloogaaGreatDoor
open Go.Lib
set_option linter.unusedVariables false

theorem it_len {n : Int} (h0 : -9223372036854775808 ≤ n) (h1 : n ≤ 9223372036854775807) : (itL n).length ≤ 20 := by
  unfold itL Lib.itoa
  split
  · have := dec_len 18 n.natAbs (by omega)
    simp
    omega
  · have := dec_len 18 n.toNat (by omega)
    omega
theorem word_lenS (p : Int) : (wordL p).length ≤ 9 := by
  unfold wordL
  repeat' split
  all_goals decide
theorem sep_len (k : Int) : (sepL k).length ≤ 5 := by
  unfold sepL
  repeat' split
  all_goals decide
theorem brk_len (o : Int) (x : Rl) : (brkL o x).length ≤ (showL x).length + 2 := by
  unfold brkL
  split <;> simp
/-- what an atom's text may hold -/
def Little (a : Rl) : Prop := a.f.size + a.t.size ≤ 100 ∧ -9223372036854775808 ≤ a.n ∧ a.n ≤ 9223372036854775807
theorem show_len (N : Nat) : ∀ x, SizeOf.sizeOf x ≤ N → (∀ a ∈ atomsR x, Little a) → (showL x).length + 7 ≤ 140 * nsz x := by
  induction N with
  | zero =>
    intro x h
    obtain ⟨k, p, f, t, n, l⟩ := x
    simp at h
  | succ N ih =>
    intro x h ha
    have hz := nsz_l x
    have own : atomB x.k = true → Little x := fun hk => ha x (by rw [atoms_a x hk]; simp)
    have hrow : ∀ k : Int, 0 ≤ x.k ∧ x.k ≤ 2 → ∀ b, (rowL k b x.l).length ≤ 140 * nszL x.l := by
      intro k h2
      have hy : ∀ y ∈ x.l, (showL y).length + 7 ≤ 140 * nsz y := fun y hy => ih y (by have := Rl.lt_mem hy; omega) fun a haa => ha a (by rw [atoms_l x h2]; exact mem_atomsL.2 ⟨y, hy, haa⟩)
      have key : ∀ l : List Rl, (∀ y ∈ l, (showL y).length + 7 ≤ 140 * nsz y) → ∀ b, (rowL k b l).length ≤ 140 * nszL l := by
        intro l
        induction l with
        | nil => intro _ b; rw [rowL_nil]; simp [nszL]
        | cons y l il =>
          intro hl b
          rw [rowL_cons, nszL]
          have h1 := hl y (by simp)
          have h2 := il (fun z hz => hl z (by simp [hz])) false
          have h3 := brk_len k y
          have h4 := sep_len k
          have h5 : (if b = true then ([] : Bs) else sepL k).length ≤ 5 := by
            split
            · simp
            · exact h4
          rw [List.length_append, List.length_append]
          omega
      exact key x.l hy
    by_cases h01 : x.k = 0 ∨ x.k = 1
    · rw [show_01 x h01]
      have := hrow x.k (by omega) true
      omega
    · by_cases h2 : x.k = 2
      · rw [show_2 x h2, List.length_append]
        have := hrow 2 (by omega) true
        have e : ([110, 111, 116, 32] : Bs).length = 4 := rfl
        omega
      · have hsz : ∀ s : ByteArray, s.data.toList.length = s.size := fun s => by show s.data.toList.length = s.data.size; exact Array.length_toList
        by_cases h3 : x.k = 3
        · have := own (by rw [h3]; rfl)
          rw [show_3 x h3]
          simp only [List.length_append, hsz, List.length_cons, List.length_nil]
          have := this.1
          omega
        · by_cases h4 : x.k = 4
          · have := own (by rw [h4]; rfl)
            rw [show_4 x h4]
            simp only [List.length_append, hsz, List.length_cons, List.length_nil]
            have := this.1
            omega
          · by_cases h5 : x.k = 5
            · have := own (by rw [h5]; rfl)
              rw [show_5 x h5]
              have hi := it_len this.2.1 this.2.2
              simp only [List.length_append, hsz, List.length_cons, List.length_nil]
              have := this.1
              omega
            · by_cases h6 : x.k = 6
              · have := own (by rw [h6]; rfl)
                rw [show_6 x h6]
                have hi := it_len this.2.1 this.2.2
                simp only [List.length_append, hsz, List.length_cons, List.length_nil]
                have := this.1
                omega
              · by_cases h7 : x.k = 7
                · have := own (by rw [h7]; rfl)
                  rw [show_7 x h7]
                  have hi := word_lenS x.p
                  simp only [List.length_append, hsz, List.length_cons, List.length_nil]
                  have := this.1
                  omega
                · have : showL x = [] := by
                    obtain ⟨k, p, f, t, n, l⟩ := x
                    simp only [Rl.k] at h01 h2 h3 h4 h5 h6 h7
                    rw [showL, if_neg h01, if_neg h2, if_neg h3, if_neg h4, if_neg h5, if_neg h6, if_neg h7]
                  rw [this]
                  simp
                  omega
end Go.Proofs.YtbkffdfboloogaaGreatDoor
namespace Go.Proofs.YtbkffdfboloogaaGreatDoor
open Go.RowKit Go.Maps Go.Lib
set_option linter.unusedVariables false
set_option maxRecDepth 100000

def z8 : List Value := [.int .i64 0, .int .i64 0, .int .i64 0, .int .i64 0, .string ⟨#[]⟩, .string ⟨#[]⟩, .int .i64 0, .slice none 0 0]
theorem info_need : (Tryz.prog.info? 35).map (fun i => (i.zero, i.size, i.bytes)) = some (some (.agg z8.toArray), 8, 96) := by kernel_rfl
/-- v is a slice of its own, in a block from base on, of the needs L; cs: its cells; what hangs on them lies below B -/
structure Nw (w : World) (base : Nat) (v : Value) (L : List Nd) (cs : List Value) (B : Nat) : Prop where
  row : w.ownsRow base 35 8 v L.length cs
  each : ∀ i x, L[i]? = some x → ∃ A c, (∀ j, j < 8 → cs[8 * i + j]? = (ndA x A c)[j]?) ∧ NL w B A x.r.l
/-- the needs M stand at a -/
def Src (w : World) (B g off : Nat) (M : List Nd) : Prop := ∀ i x, M[i]? = some x → ∃ A c, C8 w g (off + i * 8) x A c ∧ NL w B A x.r.l
theorem C8.at_ {w : World} {g o : Nat} {x : Nd} {A : Option Addr} {c : Nat} (h : C8 w g o x A c) {j : Nat} (hj : j < 8) : w.cell? ⟨g, o + j, none⟩ = (ndA x A c)[j]? := by
  obtain ⟨h0, h1, h2, h3, h4, h5, h6, h7⟩ := h
  match j, hj with
  | 0, _ => exact h0
  | 1, _ => exact h1
  | 2, _ => exact h2
  | 3, _ => exact h3
  | 4, _ => exact h4
  | 5, _ => exact h5
  | 6, _ => exact h6
  | 7, _ => exact h7
theorem ndA_one (x : Nd) (A : Option Addr) (c : Nat) {j : Nat} (hj : j < 8) : ∃ u, (ndA x A c)[j]? = some u ∧ u.oneCell' = true := by
  match j, hj with
  | 0, _ => exact ⟨_, rfl, rfl⟩
  | 1, _ => exact ⟨_, rfl, rfl⟩
  | 2, _ => exact ⟨_, rfl, rfl⟩
  | 3, _ => exact ⟨_, rfl, rfl⟩
  | 4, _ => exact ⟨_, rfl, rfl⟩
  | 5, _ => exact ⟨_, rfl, rfl⟩
  | 6, _ => exact ⟨_, rfl, rfl⟩
  | 7, _ => exact ⟨_, rfl, rfl⟩
/-- the cells of a source -/
def srcCells (w : World) (g off n : Nat) : List Value := (List.range (n * 8)).map fun j => (w.cell? ⟨g, off + j, none⟩).getD (.slice none 0 0)
theorem Src.cell {w : World} {B g off : Nat} {M : List Nd} (h : Src w B g off M) {j : Nat} (hj : j < M.length * 8) : ∃ u, w.cell? ⟨g, off + j, none⟩ = some u ∧ (srcCells w g off M.length)[j]? = some u ∧ u.oneCell' = true := by
  have hi : j / 8 < M.length := by omega
  obtain ⟨A, c, h8, _⟩ := h (j / 8) _ (List.getElem?_eq_getElem hi)
  have hm : j % 8 < 8 := Nat.mod_lt _ (by omega)
  have h1 := h8.at_ hm
  rw [show off + j / 8 * 8 + j % 8 = off + j by omega] at h1
  obtain ⟨u, h2, h3⟩ := ndA_one M[j / 8] A c hm
  rw [h2] at h1
  refine ⟨u, h1, ?_, h3⟩
  unfold srcCells
  rw [List.getElem?_map, List.getElem?_range hj, Option.map_some, h1]
  rfl
theorem srcCells_len (w : World) (g off n : Nat) : (srcCells w g off n).length = n * 8 := by simp [srcCells]
theorem Nw.lt {w : World} {base B : Nat} {v : Value} {L : List Nd} {cs : List Value} (h : Nw w base v L cs B) {q : Nat} (hq : v.ownBlock = some q) : base ≤ q ∧ q < w.heap.size := by
  rcases h.row.2 with ⟨h1, _⟩ | ⟨g, cap, cur, h1, h2, h3, _⟩
  · rw [h1] at hq; simp [Value.ownBlock] at hq
  · rw [h1] at hq
    simp [Value.ownBlock] at hq
    subst hq
    exact ⟨h2, (Array.getElem?_eq_some_iff.1 h3).1⟩
theorem Nw.form {w : World} {base B : Nat} {v : Value} {L : List Nd} {cs : List Value} (h : Nw w base v L cs B) : ∃ A c, v = .slice A L.length c := by
  rcases h.row.2 with ⟨h1, h2⟩ | ⟨g, cap, cur, h1, _⟩
  · exact ⟨none, 0, by rw [h1, h2]⟩
  · exact ⟨_, _, h1⟩
theorem Nw.below {w w' : World} {base B : Nat} {v : Value} {L : List Nd} {cs : List Value} (h : Nw w base v L cs B) (hB : B ≤ w.heap.size) (hb : Below w.heap.size w w') : Nw w' base v L cs B := by
  refine ⟨⟨h.row.1, ?_⟩, fun i x hx => ?_⟩
  · rcases h.row.2 with h0 | ⟨g, cap, cur, h1, h2, h3, h4⟩
    · exact .inl h0
    · exact .inr ⟨g, cap, cur, h1, h2, (hb.block g (Array.getElem?_eq_some_iff.1 h3).1).trans h3, h4⟩
  · obtain ⟨A, c, h1, h2⟩ := h.each i x hx
    exact ⟨A, c, h1, h2.kept (hb.mono hB)⟩
/-- append of needs to an own row of needs -/
theorem app_needs {w : World} {base B g off cap : Nat} (ty : TypeId) {v : Value} {L M : List Nd} {cs : List Value} (hv : Nw w base v L cs B) (hs : Src w B g off M) (hl : L.length + M.length ≤ 1000000) (hbase : base ≤ w.heap.size) (hB : B ≤ base) :
    ∃ v' w' cs', (Builtin.append_ #[24, 24] ty #[v, .slice (some ⟨g, off, none⟩) M.length cap]).run Tryz.prog w = .ok v' w' ∧ Nw w' base v' (L ++ M) cs' B ∧ w.grownBy w' v.ownBlock := by
  obtain ⟨i0, hi0, hz0, hz1, hz2⟩ := info_parts info_need
  obtain ⟨v', w', hr, h2, h3, _, h5⟩ := run_append_own_at (P := Tryz.prog) (w := w) base 24 ty 35 i0 (.agg z8.toArray) 8 96 Tryz.underlying24 hi0 hz0 hz1 hz2 rfl (by omega) v L.length cs hv.row ⟨g, off, none⟩ M.length cap (srcCells w g off M.length) (srcCells_len _ _ _ _) (fun j u hu => by
      have hj : j < M.length * 8 := by rw [← srcCells_len w g off]; exact (List.getElem?_eq_some_iff.1 hu).1
      obtain ⟨u', e1, e2, _⟩ := hs.cell hj
      rw [e2] at hu
      injection hu with hu
      subst hu
      rw [Lib.add_plain]
      exact e1) (fun u hu => by
      obtain ⟨j, hj, rfl⟩ := List.getElem_of_mem hu
      obtain ⟨u', e1, e2, e3⟩ := hs.cell (j := j) (by rw [← srcCells_len w g off]; exact hj)
      rw [List.getElem?_eq_getElem hj] at e2
      injection e2 with e2
      rw [e2]; exact e3) (by unfold maxLen; omega) (by omega) hbase
  have hbel : Below B w w' := (Below.refl B w).grown h3 (by omega) (fun j hj => by have := (hv.lt hj).1; omega)
  refine ⟨v', w', _, hr, ⟨by rw [List.length_append]; exact h2, fun i x hx => ?_⟩, h3⟩
  have hcl := hv.row.1
  by_cases hi : i < L.length
  · rw [List.getElem?_append_left hi] at hx
    obtain ⟨A, c, e1, e2⟩ := hv.each i x hx
    refine ⟨A, c, fun j hj => ?_, e2.kept hbel⟩
    rw [List.getElem?_append_left (by omega)]
    exact e1 j hj
  · rw [List.getElem?_append_right (by omega)] at hx
    have hm := (List.getElem?_eq_some_iff.1 hx).1
    obtain ⟨A, c, e1, e2⟩ := hs (i - L.length) x hx
    refine ⟨A, c, fun j hj => ?_, e2.kept hbel⟩
    rw [List.getElem?_append_right (by omega), show 8 * i + j - cs.length = (i - L.length) * 8 + j by omega]
    obtain ⟨u, u1, u2, _⟩ := hs.cell (j := (i - L.length) * 8 + j) (by omega)
    rw [u2, ← u1, ← e1.at_ hj, Nat.add_assoc]
/-- nothing is appended -/
theorem app_noNeeds {w : World} {base B : Nat} (ty : TypeId) {v : Value} {L : List Nd} {cs : List Value} (hv : Nw w base v L cs B) :
    (Builtin.append_ #[24, 24] ty #[v, .slice none 0 0]).run Tryz.prog w = .ok v w := by
  obtain ⟨i0, hi0, hz0, hz1, hz2⟩ := info_parts info_need
  exact run_append_owned_none w base 24 ty 35 i0 8 Tryz.underlying24 hi0 v _ cs hv.row
/-- an empty slice is appended -/
theorem app_zero {w : World} {base B cap : Nat} {a : Addr} (ty : TypeId) {v : Value} {L : List Nd} {cs : List Value} (hv : Nw w base v L cs B) (hl : L.length ≤ 1000000) (hbase : base ≤ w.heap.size) (hB : B ≤ base) :
    ∃ v' w' cs', (Builtin.append_ #[24, 24] ty #[v, .slice (some a) 0 cap]).run Tryz.prog w = .ok v' w' ∧ Nw w' base v' L cs' B ∧ w.grownBy w' v.ownBlock := by
  obtain ⟨i0, hi0, hz0, hz1, hz2⟩ := info_parts info_need
  obtain ⟨v', w', hr, h2, h3, _, h5⟩ := run_append_own_at (P := Tryz.prog) (w := w) base 24 ty 35 i0 (.agg z8.toArray) 8 96 Tryz.underlying24 hi0 hz0 hz1 hz2 rfl (by omega) v L.length cs hv.row a 0 cap [] rfl (fun j u hu => by simp at hu) (fun u hu => by cases hu) (by unfold maxLen; omega) (by omega) hbase
  have hbel : Below B w w' := (Below.refl B w).grown h3 (by omega) (fun j hj => by have := (hv.lt hj).1; omega)
  refine ⟨v', w', _, hr, ⟨h2, fun i x hx => ?_⟩, h3⟩
  obtain ⟨A, c, e1, e2⟩ := hv.each i x hx
  exact ⟨A, c, fun j hj => by rw [List.append_nil]; exact e1 j hj, e2.kept hbel⟩
/-- the empty row, just built -/
theorem no_need (W : World) (B : Nat) : Nw (W.alloc (.cells #[] 35)) W.heap.size (.slice (some ⟨W.heap.size, 0, none⟩) 0 0) [] [] B :=
  ⟨⟨rfl, .inr ⟨W.heap.size, 0, _, rfl, Nat.le_refl _, heap_alloc_new _ _, Nat.le_refl _, by unfold maxLen; omega, rfl, rfl⟩⟩, fun i x h => by simp at h⟩
theorem Nw.ns {w : World} {base B : Nat} {A : Option Addr} {c : Nat} {L : List Nd} {cs : List Value} (h : Nw w base (.slice A L.length c) L cs B) (hB : B ≤ w.heap.size) : Ns w w.heap.size A L := by
  intro hl
  rcases h.row.2 with ⟨h1, h2⟩ | ⟨g, cap, cur, h1, h2, h3, h4⟩
  · omega
  · injection h1 with h1
    subst h1
    refine ⟨g, 0, rfl, (Array.getElem?_eq_some_iff.1 h3).1, fun i x hx => ?_⟩
    obtain ⟨A5, c5, e1, e2⟩ := h.each i x hx
    have hi := (List.getElem?_eq_some_iff.1 hx).1
    have k : ∀ j, j < 8 → w.cell? ⟨g, 0 + i * 8 + j, none⟩ = (ndA x A5 c5)[j]? := fun j hj => by
      rw [← e1 j hj, show 0 + i * 8 + j = 8 * i + j by omega]
      exact h.row.cellAt (8 * i + j) (by omega)
    exact ⟨A5, c5, ⟨k 0 (by omega), k 1 (by omega), k 2 (by omega), k 3 (by omega), k 4 (by omega), k 5 (by omega), k 6 (by omega), k 7 (by omega)⟩, e2.more hB⟩
end Go.Proofs.YtbkffdfboloogaaGreatDoor
namespace Go.Proofs.YtbkffdfboloogaaGreatDoor
open Go.RowKit Go.Maps Go.Lib
set_option linter.unusedVariables false
set_option maxRecDepth 100000

theorem flat_len {α : Type} (f : α → List Value) (n : Nat) (hf : ∀ x, (f x).length = n) : ∀ T : List α, (T.flatMap f).length = T.length * n
  | [] => by simp
  | x :: T => by rw [List.flatMap_cons, List.length_append, hf, flat_len f n hf T, List.length_cons, Nat.add_mul, Nat.one_mul, Nat.add_comm]
theorem flat_at {α : Type} (f : α → List Value) (n : Nat) (hf : ∀ x, (f x).length = n) : ∀ (T : List α) (i : Nat) (x : α), T[i]? = some x → ∀ j, j < n → (T.flatMap f)[n * i + j]? = (f x)[j]?
  | [], i, x, h, _, _ => by simp at h
  | y :: T, 0, x, h, j, hj => by
    simp only [List.getElem?_cons_zero, Option.some.injEq] at h
    subst h
    rw [List.flatMap_cons, Nat.mul_zero, Nat.zero_add, List.getElem?_append_left (by rw [hf]; exact hj)]
  | y :: T, i + 1, x, h, j, hj => by
    have h2 := flat_at f n hf T i x (by simpa using h) j hj
    rw [List.flatMap_cons, List.getElem?_append_right (by rw [hf, Nat.mul_add]; omega), hf, ← h2]
    congr 1
    rw [Nat.mul_add]
    omega
theorem row_new (W : World) (base : Nat) (ty : TypeId) (size n : Nat) (cs : List Value) (hb : base ≤ W.heap.size) (hl : cs.length = n * size) (hm : n ≤ 1000) : (W.alloc (.cells cs.toArray ty)).ownsRow base ty size (.slice (some ⟨W.heap.size, 0, none⟩) n n) n cs :=
  ⟨hl, .inr ⟨W.heap.size, n, cs.toArray, rfl, hb, heap_alloc_new _ _, Nat.le_refl _, by unfold maxLen; omega, by simpa using hl, by simp [← hl]⟩⟩
/-- rules without rules of their own, just built -/
theorem Ar.new (W : World) (base : Nat) (L : List Rl) (hb : base ≤ W.heap.size) (hm : L.length ≤ 1000) : Ar (W.alloc (.cells (L.flatMap fun x => six x none 0).toArray 33)) base (.slice (some ⟨W.heap.size, 0, none⟩) L.length L.length) L (L.flatMap fun x => six x none 0) := by
  have h6 := flat_at (fun x : Rl => six x none 0) 6 (fun _ => rfl) L
  refine ⟨row_new W base _ 6 L.length _ hb (flat_len _ 6 (fun _ => rfl) L) hm, fun i x hx => ?_⟩
  exact ⟨h6 i x hx 0 (by omega), h6 i x hx 1 (by omega), h6 i x hx 2 (by omega), h6 i x hx 3 (by omega), h6 i x hx 4 (by omega), none, 0, h6 i x hx 5 (by omega)⟩
theorem Ar.nl {w : World} {base : Nat} {A : Option Addr} {c : Nat} {L : List Rl} {cs : List Value} (h : Ar w base (.slice A L.length c) L cs) (hleaf : ∀ y ∈ L, y.l = []) : NL w w.heap.size A L := by
  have hmem : ∀ (i : Nat) (x : Rl), L[i]? = some x → x.l = [] := fun i x hx => hleaf x (List.mem_of_getElem? hx)
  have hcap : ∀ i : Nat, ∃ p : Option Addr × Nat, ∀ x : Rl, L[i]? = some x → cs[6 * i + 5]? = some (.slice p.1 x.l.length p.2) := fun i => by
    rcases hx : L[i]? with _ | x
    · exact ⟨(none, 0), fun x h => by cases h⟩
    · obtain ⟨_, _, _, _, _, A5, c5, h5⟩ := h.each i x hx
      exact ⟨(A5, c5), fun y hy => by cases hy; exact h5⟩
  refine ⟨A, L, fun i => (Classical.choose (hcap i)).1, fun i => (Classical.choose (hcap i)).2, fun h0 => ?_, fun i x hx => ?_⟩
  · rcases h.row.2 with ⟨h1, h2⟩ | ⟨g, cap, cur, h1, h2, h3, h4⟩
    · omega
    · injection h1 with h1
      subst h1
      refine ⟨g, 0, rfl, (Array.getElem?_eq_some_iff.1 h3).1, fun i x hx => ?_⟩
      have hi := (List.getElem?_eq_some_iff.1 hx).1
      have k : ∀ j, j < 6 → w.cell? ⟨g, 0 + i * 6 + j, none⟩ = cs[6 * i + j]? := fun j hj => by
        rw [show 0 + i * 6 + j = 6 * i + j by omega]
        exact h.row.cellAt (6 * i + j) (by omega)
      obtain ⟨e0, e1, e2, e3, e4, _⟩ := h.each i x hx
      exact ⟨(k 0 (by omega)).trans e0, (k 1 (by omega)).trans e1, (k 2 (by omega)).trans e2, (k 3 (by omega)).trans e3, (k 4 (by omega)).trans e4, (k 5 (by omega)).trans (Classical.choose_spec (hcap i) x hx)⟩
  · rw [hmem i x hx]
    exact NL.nil _ _ _
/-- a row of needs of its own; each one's rules are an own row too -/
structure NwA (w : World) (base : Nat) (v : Value) (L : List Nd) (cs : List Value) : Prop where
  row : w.ownsRow base 35 8 v L.length cs
  each : ∀ i x, L[i]? = some x → ∃ A c ds, (∀ j, j < 8 → cs[8 * i + j]? = (ndA x A c)[j]?) ∧ Ar w base (.slice A x.r.l.length c) x.r.l ds
theorem NwA.lt {w : World} {base : Nat} {v : Value} {L : List Nd} {cs : List Value} (h : NwA w base v L cs) {q : Nat} (hq : v.ownBlock = some q) : base ≤ q ∧ q < w.heap.size := by
  rcases h.row.2 with ⟨h1, _⟩ | ⟨g, cap, cur, h1, h2, h3, _⟩
  · rw [h1] at hq; simp [Value.ownBlock] at hq
  · rw [h1] at hq
    simp [Value.ownBlock] at hq
    subst hq
    exact ⟨h2, (Array.getElem?_eq_some_iff.1 h3).1⟩
theorem NwA.form {w : World} {base : Nat} {v : Value} {L : List Nd} {cs : List Value} (h : NwA w base v L cs) : ∃ A c, v = .slice A L.length c := by
  rcases h.row.2 with ⟨h1, h2⟩ | ⟨g, cap, cur, h1, _⟩
  · exact ⟨none, 0, by rw [h1, h2]⟩
  · exact ⟨_, _, h1⟩
theorem NwA.below {w w' : World} {base : Nat} {v : Value} {L : List Nd} {cs : List Value} (h : NwA w base v L cs) (hb : Below w.heap.size w w') : NwA w' base v L cs := by
  refine ⟨⟨h.row.1, ?_⟩, fun i x hx => ?_⟩
  · rcases h.row.2 with h0 | ⟨g, cap, cur, h1, h2, h3, h4⟩
    · exact .inl h0
    · exact .inr ⟨g, cap, cur, h1, h2, (hb.block g (Array.getElem?_eq_some_iff.1 h3).1).trans h3, h4⟩
  · obtain ⟨A, c, ds, e1, e2⟩ := h.each i x hx
    exact ⟨A, c, ds, e1, e2.below hb⟩
/-- a cell below the row is written -/
theorem NwA.set {w : World} {base : Nat} {v : Value} {L : List Nd} {cs : List Value} (h : NwA w base v L cs) {a : Addr} (ha : a.block < base) (u : Value) : NwA (w.setCell a u) base v L cs :=
  ⟨ownsRow_setCell_below h.row ha u, fun i x hx => by
    obtain ⟨A, c, ds, e1, e2⟩ := h.each i x hx
    exact ⟨A, c, ds, e1, ownsRow_setCell_below e2.row ha u, e2.each⟩⟩
theorem nd_len (x : Nd) (A : Option Addr) (c : Nat) : (ndA x A c).toList.length = 8 := rfl
abbrev Nt3 := Nd × Option Addr × Nat
def ndL (t : Nt3) : List Value := (ndA t.1 t.2.1 t.2.2).toList
/-- needs just built -/
theorem NwA.new (W : World) (base : Nat) (T : List Nt3) (hb : base ≤ W.heap.size) (hm : T.length ≤ 1000) (hT : ∀ t ∈ T, ∃ ds, Ar W base (.slice t.2.1 t.1.r.l.length t.2.2) t.1.r.l ds) :
    NwA (W.alloc (.cells (T.flatMap ndL).toArray 35)) base (.slice (some ⟨W.heap.size, 0, none⟩) T.length T.length) (T.map (·.1)) (T.flatMap ndL) := by
  have hr := row_new W base 35 8 T.length _ hb (flat_len ndL 8 (fun _ => rfl) T) hm
  refine ⟨by rw [List.length_map]; exact hr, fun i x hx => ?_⟩
  rw [List.getElem?_map] at hx
  obtain ⟨t, ht, rfl⟩ := Option.map_eq_some_iff.1 hx
  obtain ⟨ds, hA⟩ := hT t (List.mem_of_getElem? ht)
  refine ⟨t.2.1, t.2.2, ds, fun j hj => ?_, hA.below ((Below.refl _ _).alloc (Nat.le_refl _) _)⟩
  rw [flat_at ndL 8 (fun _ => rfl) T i t ht j hj]
  unfold ndL
  rw [Array.getElem?_toList]
/-- one need more -/
theorem app_needA {w : World} {base : Nat} (ty : TypeId) {v : Value} {L : List Nd} {cs : List Value} (hv1 : NwA w base v L cs) (x : Nd) (A : Option Addr) (c g : Nat) {fz : Nat × Nat} (hnew : w.heap[g]? = some (.cells (ndA x A c) 35 fz)) {ds : List Value} (hA : Ar w base (.slice A x.r.l.length c) x.r.l ds) (hl : L.length ≤ 1000) (hbase : base ≤ w.heap.size) :
    ∃ v' w' cs', (Builtin.append_ #[24, 24] ty #[v, .slice (some ⟨g, 0, none⟩) 1 1]).run Tryz.prog w = .ok v' w' ∧ NwA w' base v' (L ++ [x]) cs' ∧ w.grownBy w' v.ownBlock := by
  obtain ⟨i0, hi0, hz0, hz1, hz2⟩ := info_parts info_need
  have hone : ∀ u ∈ (ndA x A c).toList, u.oneCell' = true := by
    intro u hu
    simp only [ndA, List.mem_cons, List.not_mem_nil, or_false] at hu
    rcases hu with rfl | rfl | rfl | rfl | rfl | rfl | rfl | rfl <;> rfl
  obtain ⟨v', w', hr, h2, h3, _, h5⟩ := run_append_own_at (P := Tryz.prog) (w := w) base 24 ty 35 i0 (.agg z8.toArray) 8 96 Tryz.underlying24 hi0 hz0 hz1 hz2 rfl (by omega) v L.length cs hv1.row ⟨g, 0, none⟩ 1 1 (ndA x A c).toList rfl (fun j u hu => by
      rw [Lib.add_plain]
      unfold World.cell?
      show (match w.heap[g]? with | some (.cells c _ _) => c[0 + j]? | _ => none) = _
      rw [hnew, Nat.zero_add]
      rw [Array.getElem?_toList] at hu
      exact hu) hone (by unfold maxLen; omega) (by omega) hbase
  have hkeep : ∀ {A5 : Option Addr} {c5 : Nat} {M : List Rl} {es : List Value}, Ar w base (.slice A5 M.length c5) M es → Ar w' base (.slice A5 M.length c5) M es := by
    intro A5 c5 M es hM
    refine hM.keep fun q hq => h3.block q (hM.lt hq).2 fun he => ?_
    rcases hM.row.2 with ⟨h1, _⟩ | ⟨g, cap, cur, h1, _, hg, _⟩
    · rw [h1] at hq; simp [Value.ownBlock] at hq
    · rw [h1] at hq
      simp [Value.ownBlock] at hq
      subst hq
      rcases hv1.row.2 with ⟨k1, _⟩ | ⟨g2, cap2, cur2, k1, _, kg, _⟩
      · rw [k1] at he; simp [Value.ownBlock] at he
      · rw [k1] at he
        simp [Value.ownBlock] at he
        subst he
        rw [hg] at kg
        cases kg
  refine ⟨v', w', cs ++ (ndA x A c).toList, hr, ⟨by rw [List.length_append]; exact h2, fun i y hy => ?_⟩, h3⟩
  have hcl := hv1.row.1
  by_cases hi : i < L.length
  · rw [List.getElem?_append_left hi] at hy
    obtain ⟨A5, c5, es, e1, e2⟩ := hv1.each i y hy
    refine ⟨A5, c5, es, fun j hj => ?_, hkeep e2⟩
    rw [List.getElem?_append_left (by omega)]
    exact e1 j hj
  · rw [List.getElem?_append_right (by omega)] at hy
    have hi0 : i - L.length = 0 := by
      have := (List.getElem?_eq_some_iff.1 hy).1
      simp only [List.length_cons, List.length_nil] at this
      omega
    rw [hi0] at hy
    simp only [List.getElem?_cons_zero, Option.some.injEq] at hy
    subst hy
    refine ⟨A, c, ds, fun j hj => ?_, hkeep hA⟩
    rw [List.getElem?_append_right (by omega), show 8 * i + j - cs.length = j by omega, Array.getElem?_toList]
theorem NwA.ns {w : World} {base : Nat} {A : Option Addr} {c : Nat} {L : List Nd} {cs : List Value} (h : NwA w base (.slice A L.length c) L cs) (hleaf : ∀ x ∈ L, ∀ y ∈ x.r.l, y.l = []) : Ns w w.heap.size A L := by
  intro hl
  rcases h.row.2 with ⟨h1, h2⟩ | ⟨g, cap, cur, h1, h2, h3, h4⟩
  · omega
  · injection h1 with h1
    subst h1
    refine ⟨g, 0, rfl, (Array.getElem?_eq_some_iff.1 h3).1, fun i x hx => ?_⟩
    obtain ⟨A5, c5, ds, e1, e2⟩ := h.each i x hx
    have hi := (List.getElem?_eq_some_iff.1 hx).1
    have k : ∀ j, j < 8 → w.cell? ⟨g, 0 + i * 8 + j, none⟩ = (ndA x A5 c5)[j]? := fun j hj => by
      rw [← e1 j hj, show 0 + i * 8 + j = 8 * i + j by omega]
      exact h.row.cellAt (8 * i + j) (by omega)
    exact ⟨A5, c5, ⟨k 0 (by omega), k 1 (by omega), k 2 (by omega), k 3 (by omega), k 4 (by omega), k 5 (by omega), k 6 (by omega), k 7 (by omega)⟩, e2.nl (hleaf x (List.mem_of_getElem? hx))⟩
end Go.Proofs.YtbkffdfboloogaaGreatDoor
namespace Go.Proofs.YtbkffdfboloogaaGreatDoor
set_option linter.unusedVariables false

/-- what is wrong with an atom, by what has been asked: is the field there, the atom's kind, the field's type, is the text a value, is there such a need, has it such a field, of which type -/
def wr (h1 : Bool) (k t : Int) (ok an h2 : Bool) (t2 : Int) : Int :=
  if h1 = false then 1
  else if k = 5 ∨ k = 6 then (if t = 0 then 3 else 0)
  else if k = 3 then (if t ≠ 0 ∧ ok = false then 3 else 0)
  else if k = 7 then (if an = false ∨ h2 = false then 1 else if t2 ≠ t then 3 else 0)
  else 0
section
variable {k t t2 : Int} {ok an h2 : Bool}
theorem wr_no : wr false k t ok an h2 t2 = 1 := rfl
theorem wr_56 (h : k = 5 ∨ k = 6) (ht : t = 0) : wr true k t ok an h2 t2 = 3 := by
  unfold wr
  rw [if_neg (by simp), if_pos h, if_pos ht]
theorem wr_56n (h : k = 5 ∨ k = 6) (ht : ¬ t = 0) : wr true k t ok an h2 t2 = 0 := by
  unfold wr
  rw [if_neg (by simp), if_pos h, if_neg ht]
theorem wr_3 (ht : ¬ t = 0) : wr true 3 t false an h2 t2 = 3 := by
  unfold wr
  rw [if_neg (by simp), if_neg (by omega), if_pos rfl, if_pos ⟨ht, rfl⟩]
theorem wr_3z : wr true 3 0 ok an h2 t2 = 0 := by
  unfold wr
  rw [if_neg (by simp), if_neg (by omega), if_pos rfl, if_neg (by simp)]
theorem wr_3o : wr true 3 t true an h2 t2 = 0 := by
  unfold wr
  rw [if_neg (by simp), if_neg (by omega), if_pos rfl, if_neg (by simp)]
theorem wr_7a : wr true 7 t ok false h2 t2 = 1 := by
  unfold wr
  rw [if_neg (by simp), if_neg (by omega), if_neg (by omega), if_pos rfl, if_pos (.inl rfl)]
theorem wr_7h : wr true 7 t ok an false t2 = 1 := by
  unfold wr
  rw [if_neg (by simp), if_neg (by omega), if_neg (by omega), if_pos rfl, if_pos (.inr rfl)]
theorem wr_7 (h : ¬ t2 = t) : wr true 7 t ok true true t2 = 3 := by
  unfold wr
  rw [if_neg (by simp), if_neg (by omega), if_neg (by omega), if_pos rfl, if_neg (by simp), if_pos h]
theorem wr_7e : wr true 7 t ok true true t = 0 := by
  unfold wr
  rw [if_neg (by simp), if_neg (by omega), if_neg (by omega), if_pos rfl, if_neg (by simp), if_neg (by simp)]
theorem wr_o (h1 : ¬ k = 5) (h2' : ¬ k = 6) (h3 : ¬ k = 3) (h4 : ¬ k = 7) : wr true k t ok an h2 t2 = 0 := by
  unfold wr
  rw [if_neg (by simp), if_neg (by omega), if_neg h3, if_neg h4]
end
theorem wr_range (h1 : Bool) (k t : Int) (ok an h2 : Bool) (t2 : Int) : wr h1 k t ok an h2 t2 = 0 ∨ wr h1 k t ok an h2 t2 = 1 ∨ wr h1 k t ok an h2 t2 = 3 := by
  unfold wr
  repeat' split
  all_goals omega
/-- what is wrong with an atom in a need of a kind -/
def wrongB (L : List Nd) (k : Int) (a : Rl) : Int := wr (inL (fieldsL k) a.f) a.k (typeB a.f) (valB a.t (typeB a.f)).2 (L.any fun x => decide (x.k = a.p)) (inL (fieldsL a.p) a.t) (typeB a.t)
theorem wrong_range (L : List Nd) (k : Int) (a : Rl) : wrongB L k a = 0 ∨ wrongB L k a = 1 ∨ wrongB L k a = 3 := wr_range _ _ _ _ _ _ _
theorem someK_of (s : ByteArray) : ∀ (n k : Nat), someK s n k = true ↔ ∃ j, j < n ∧ inL (fieldsL ((k + j : Nat) : Int)) s = true
  | 0, k => by
    rw [someK]
    constructor
    · intro h; cases h
    · rintro ⟨j, hj, _⟩; omega
  | n + 1, k => by
    rw [someK, Bool.or_eq_true, someK_of s n (k + 1)]
    constructor
    · rintro (h | ⟨j, hj, h⟩)
      · exact ⟨0, by omega, h⟩
      · exact ⟨j + 1, by omega, by rw [show k + (j + 1) = k + 1 + j by omega]; exact h⟩
    · rintro ⟨j, hj, h⟩
      match j, hj, h with
      | 0, _, h => exact .inl h
      | j + 1, hj, h => exact .inr ⟨j, by omega, by rw [show k + 1 + j = k + (j + 1) by omega]; exact h⟩
theorem fieldsL_some {k : Int} {s : ByteArray} (h : inL (fieldsL k) s = true) : 0 ≤ k ∧ k ≤ 5 := by
  by_cases hk : 0 ≤ k ∧ k ≤ 5
  · exact hk
  · unfold fieldsL at h
    rw [if_neg (by omega), if_neg (by omega), if_neg (by omega), if_neg (by omega), if_neg (by omega), if_neg (by omega)] at h
    cases h
theorem type_nonneg {k : Int} {s : ByteArray} (h : inL (fieldsL k) s = true) : 0 ≤ typeB s := by
  obtain ⟨h0, h5⟩ := fieldsL_some h
  have : someK s 6 0 = true := (someK_of s 6 0).2 ⟨k.toNat, by omega, by rw [show ((0 + k.toNat : Nat) : Int) = k by omega]; exact h⟩
  unfold typeB
  rw [this]
  split
  · omega
  · split
    · omega
    · exact Int.le_refl _

/-- the need at i is faulty -/
def DupAt (c : Cr) (i : Nat) : Prop := ∃ k, k < i ∧ ∃ x y, c.needs[k]? = some x ∧ c.needs[i]? = some y ∧ x.k = y.k
def WrongAt (c : Cr) (k : Int) (L : List Rl) : Prop := ∃ a ∈ L, wrongB c.needs k a ≠ 0
def FaultN (c : Cr) (i : Nat) : Prop := ∃ x, c.needs[i]? = some x ∧ (DupAt c i ∨ WrongAt c x.k (atomsR x.r) ∨ ClashR x.r)
/-- something is wrong with the credit's days, or with one of its first m needs -/
def FaultyTo (c : Cr) (m : Nat) : Prop := c.exp < c.lat ∨ ∃ i, i < m ∧ FaultN c i
def Faulty (c : Cr) : Prop := FaultyTo c c.needs.length
theorem faulty_zero (c : Cr) : FaultyTo c 0 ↔ c.exp < c.lat := by
  unfold FaultyTo
  constructor
  · rintro (h | ⟨i, hi, _⟩)
    · exact h
    · omega
  · exact .inl
theorem faulty_step (c : Cr) (i : Nat) (x : Nd) (hx : c.needs[i]? = some x) : FaultyTo c (i + 1) ↔ (((FaultyTo c i ∨ DupAt c i) ∨ WrongAt c x.k (atomsR x.r)) ∨ ClashR x.r) := by
  unfold FaultyTo
  constructor
  · rintro (h | ⟨j, hj, h⟩)
    · exact .inl (.inl (.inl (.inl h)))
    · by_cases e : j = i
      · subst e
        obtain ⟨y, hy, h⟩ := h
        rw [hx] at hy
        injection hy with hy
        subst hy
        rcases h with h | h | h
        · exact .inl (.inl (.inr h))
        · exact .inl (.inr h)
        · exact .inr h
      · exact .inl (.inl (.inl (.inr ⟨j, by omega, h⟩)))
  · rintro (((h | h) | h) | h)
    · rcases h with h | ⟨j, hj, h⟩
      · exact .inl h
      · exact .inr ⟨j, by omega, h⟩
    · exact .inr ⟨i, by omega, x, hx, .inl h⟩
    · exact .inr ⟨i, by omega, x, hx, .inr (.inl h)⟩
    · exact .inr ⟨i, by omega, x, hx, .inr (.inr h)⟩
theorem wrong_nil (c : Cr) (k : Int) : ¬ WrongAt c k [] := by
  rintro ⟨a, ha, _⟩
  cases ha
theorem wrong_snoc (c : Cr) (k : Int) (L : List Rl) (a : Rl) : WrongAt c k (L ++ [a]) ↔ WrongAt c k L ∨ wrongB c.needs k a ≠ 0 := by
  unfold WrongAt
  constructor
  · rintro ⟨b, hb, h⟩
    rcases List.mem_append.1 hb with hb | hb
    · exact .inl ⟨b, hb, h⟩
    · simp at hb; subst hb; exact .inr h
  · rintro (⟨b, hb, h⟩ | h)
    · exact ⟨b, List.mem_append_left _ hb, h⟩
    · exact ⟨a, by simp, h⟩
/-- the kinds of the needs ahead -/
theorem dup_iff (c : Cr) (i : Nat) (x : Nd) (hx : c.needs[i]? = some x) : DupAt c i ↔ ∃ y ∈ c.needs.take i, y.k = x.k := by
  have hi := (List.getElem?_eq_some_iff.1 hx).1
  constructor
  · rintro ⟨k, hk, y, z, hy, hz, e⟩
    rw [hx] at hz
    injection hz with hz
    subst hz
    refine ⟨y, ?_, e⟩
    rw [List.mem_take_iff_getElem]
    obtain ⟨hk2, e2⟩ := List.getElem?_eq_some_iff.1 hy
    exact ⟨k, by omega, e2⟩
  · rintro ⟨y, hy, e⟩
    rw [List.mem_take_iff_getElem] at hy
    obtain ⟨k, hk, e2⟩ := hy
    exact ⟨k, by omega, y, x, by rw [← e2]; exact List.getElem?_eq_getElem _, hx, e⟩
theorem late_faulty (c : Cr) (h : c.exp < c.lat) : Faulty c := .inl h
/-- a need for papers of origin, over a field that they don't have -/
theorem odd_faulty (c : Cr) (i : Nat) (x : Nd) (hx : c.needs[i]? = some x) (hk : x.k = 4) (ha : atomB x.r.k = true) (hf : inL fl4 x.r.f = false) : Faulty c := by
  refine .inr ⟨i, (List.getElem?_eq_some_iff.1 hx).1, x, hx, .inr (.inl ⟨x.r, ?_, ?_⟩)⟩
  · rw [atoms_a x.r ha]; simp
  · unfold wrongB
    rw [hk, fieldsL_4, hf, wr_no]
    decide
end Go.Proofs.YtbkffdfboloogaaGreatDoor
