/- Rules that may be, and a credit's text, plain. Needs and credits: how they lie in memory. Small functions of syntax and of its document. Lots, boxes, a deal: how they lie in memory. -/
import Derived.Test.YtbkffdfboloogaaGreatDoorMA
import Derived.Test.YtbkffdfboloogaaGreatDoorMB
import Derived.Lib.ItoaNum
import Derived.Lib.Join
import Derived.BigQuiet
namespace Go.Proofs.YtbkffdfboloogaaGreatDoor
open Go.Lib
set_option linter.unusedVariables false

/-- a need -/
structure Nd where
  k : Int
  c : Int
  r : Rl
/-- a credit -/
structure Cr where
  num : ByteArray
  app : ByteArray
  ben : ByteArray
  iss : ByteArray
  con : ByteArray
  frm : ByteArray
  dst : ByteArray
  cur : ByteArray
  amt : Int
  abo : Int
  bel : Int
  lat : Int
  exp : Int
  wit : Int
  ten : Int
  par : Bool
  chg : Bool
  needs : List Nd
/-- may a text stand between two signs? -/
def txtB (s : ByteArray) : Bool := s.data.toList.all quotd
mutual
/-- may a rule be, at any depth? -/
def rightR : Rl → Bool
  | ⟨k, p, f, t, n, l⟩ =>
    if k = 0 ∨ k = 1 then p == 0 && n == 0 && f.size == 0 && t.size == 0 && decide (2 ≤ l.length) && decide (l.length ≤ 64) && rightL l
    else if k = 2 then p == 0 && n == 0 && f.size == 0 && t.size == 0 && decide (l.length = 1) && rightL l
    else if k = 3 ∨ k = 4 then p == 0 && n == 0 && decide (l.length = 0) && nmB f && txtB t
    else if k = 5 ∨ k = 6 then p == 0 && t.size == 0 && decide (l.length = 0) && nmB f && decide (0 ≤ n) && decide (n ≤ 1099511627776)
    else if k = 7 then n == 0 && decide (l.length = 0) && nmB f && nmB t && decide (0 ≤ p) && decide (p ≤ 5)
    else false
def rightL : List Rl → Bool
  | [] => true
  | x :: l => rightR x && rightL l
end
theorem rightL_all (l : List Rl) : rightL l = l.all rightR := by
  induction l with
  | nil => rw [rightL]; rfl
  | cons x l ih => rw [rightL, ih, List.all_cons]
theorem right_01 (x : Rl) (h : x.k = 0 ∨ x.k = 1) : rightR x = (x.p == 0 && x.n == 0 && x.f.size == 0 && x.t.size == 0 && decide (2 ≤ x.l.length) && decide (x.l.length ≤ 64) && x.l.all rightR) := by
  obtain ⟨k, p, f, t, n, l⟩ := x
  have h' : k = 0 ∨ k = 1 := h
  rw [rightR, if_pos h', rightL_all]
  rfl
theorem right_2 (x : Rl) (h : x.k = 2) : rightR x = (x.p == 0 && x.n == 0 && x.f.size == 0 && x.t.size == 0 && decide (x.l.length = 1) && x.l.all rightR) := by
  obtain ⟨k, p, f, t, n, l⟩ := x
  have h' : k = 2 := h
  subst h'
  rw [rightR, if_neg (by decide), if_pos rfl, rightL_all]
  rfl
theorem right_34 (x : Rl) (h : x.k = 3 ∨ x.k = 4) : rightR x = (x.p == 0 && x.n == 0 && decide (x.l.length = 0) && nmB x.f && txtB x.t) := by
  obtain ⟨k, p, f, t, n, l⟩ := x
  have h' : k = 3 ∨ k = 4 := h
  rw [rightR, if_neg (by omega), if_neg (by omega), if_pos h']
  rfl
theorem right_56 (x : Rl) (h : x.k = 5 ∨ x.k = 6) : rightR x = (x.p == 0 && x.t.size == 0 && decide (x.l.length = 0) && nmB x.f && decide (0 ≤ x.n) && decide (x.n ≤ 1099511627776)) := by
  obtain ⟨k, p, f, t, n, l⟩ := x
  have h' : k = 5 ∨ k = 6 := h
  rw [rightR, if_neg (by omega), if_neg (by omega), if_neg (by omega), if_pos h']
  rfl
theorem right_7 (x : Rl) (h : x.k = 7) : rightR x = (x.n == 0 && decide (x.l.length = 0) && nmB x.f && nmB x.t && decide (0 ≤ x.p) && decide (x.p ≤ 5)) := by
  obtain ⟨k, p, f, t, n, l⟩ := x
  have h' : k = 7 := h
  rw [rightR, if_neg (by omega), if_neg (by omega), if_neg (by omega), if_neg (by omega), if_pos h']
  rfl
theorem right_no (x : Rl) (h : x.k < 0 ∨ 7 < x.k) : rightR x = false := by
  obtain ⟨k, p, f, t, n, l⟩ := x
  have h' : k < 0 ∨ 7 < k := h
  rw [rightR, if_neg (by omega), if_neg (by omega), if_neg (by omega), if_neg (by omega), if_neg (by omega)]
theorem right_k {x : Rl} (h : rightR x = true) : 0 ≤ x.k ∧ x.k ≤ 7 := by
  by_cases h1 : x.k < 0 ∨ 7 < x.k
  · rw [right_no x h1] at h; cases h
  · omega
/-- is it the rule that always holds? -/
def alwB (x : Rl) : Bool := x.k == 0 && x.p == 0 && x.n == 0 && x.f.size == 0 && x.t.size == 0 && decide (x.l.length = 0)
mutual
/-- how deep a rule is -/
def dep : Rl → Nat
  | ⟨_, _, _, _, _, l⟩ => depL l
def depL : List Rl → Nat
  | [] => 0
  | x :: l => max (1 + dep x) (depL l)
end
theorem dep_l (x : Rl) : dep x = depL x.l := by
  obtain ⟨k, p, f, t, n, l⟩ := x
  rw [dep]
  rfl
theorem depL_le (l : List Rl) (d : Nat) : depL l ≤ d ↔ ∀ x ∈ l, 1 + dep x ≤ d := by
  induction l with
  | nil => simp [depL]
  | cons x l ih =>
    rw [depL, Nat.max_le, ih]
    simp
/-- may a need be? -/
def needB (x : Nd) : Bool := decide (0 ≤ x.k ∧ x.k ≤ 5) && decide (1 ≤ x.c ∧ x.c ≤ 9) && (alwB x.r || (decide (dep x.r ≤ 16) && rightR x.r))
/-- may a credit be, but for its text's length? -/
def fitsB (c : Cr) : Bool :=
  nmB c.num && nmB c.app && nmB c.ben && nmB c.iss && nmB c.frm && nmB c.dst && (c.con.size == 0 || nmB c.con) && codeB c.cur && decide (1 ≤ c.amt ∧ c.amt ≤ 1099511627776) &&
  decide (0 ≤ c.abo ∧ c.abo ≤ 1000) && decide (0 ≤ c.bel ∧ c.bel ≤ 1000) && decide (0 ≤ c.lat ∧ c.lat ≤ 1048576) && decide (0 ≤ c.exp ∧ c.exp ≤ 1048576) && decide (0 ≤ c.wit ∧ c.wit ≤ 1048576) && decide (0 ≤ c.ten ∧ c.ten ≤ 1048576) &&
  decide (c.needs.length ≤ 64) && c.needs.all needB

/-- a paper's word -/
def wordL (k : Int) : Bs := if k = 0 then [105, 110, 118, 111, 105, 99, 101] else if k = 1 then [112, 97, 99, 107, 105, 110, 103] else if k = 2 then [108, 97, 100, 105, 110, 103] else if k = 3 then [105, 110, 115, 117, 114, 97, 110, 99, 101] else if k = 4 then [111, 114, 105, 103, 105, 110] else if k = 5 then [100, 114, 97, 102, 116] else []
def itL (n : Int) : Bs := itoa n
/-- what stands between two rules -/
def sepL (k : Int) : Bs := if k = 0 then [32, 97, 110, 100, 32] else if k = 1 then [32, 111, 114, 32] else []
/-- does a rule stand in brackets, in one of a kind? -/
def brB (o k : Int) : Bool := k == 1 || (k == 0 && !(o == 1))
mutual
/-- a rule's text -/
def showL : Rl → Bs
  | ⟨k, p, f, t, n, l⟩ =>
    if k = 0 ∨ k = 1 then rowL k true l
    else if k = 2 then [110, 111, 116, 32] ++ rowL k true l
    else if k = 3 then f.data.toList ++ [32, 61, 32, 34] ++ t.data.toList ++ [34]
    else if k = 4 then f.data.toList ++ [32, 126, 32, 34] ++ t.data.toList ++ [34]
    else if k = 5 then f.data.toList ++ [32, 60, 61, 32] ++ itL n
    else if k = 6 then f.data.toList ++ [32, 62, 61, 32] ++ itL n
    else if k = 7 then f.data.toList ++ [32, 61, 32] ++ wordL p ++ [46] ++ t.data.toList
    else []
/-- rules in a row -/
def rowL (k : Int) : Bool → List Rl → Bs
  | _, [] => []
  | b, x :: l => (if b then [] else sepL k) ++ (if brB k x.k then [40] ++ showL x ++ [41] else showL x) ++ rowL k false l
end
def brkL (o : Int) (x : Rl) : Bs := if brB o x.k then [40] ++ showL x ++ [41] else showL x
theorem show_01 (x : Rl) (h : x.k = 0 ∨ x.k = 1) : showL x = rowL x.k true x.l := by
  obtain ⟨k, p, f, t, n, l⟩ := x
  have h' : k = 0 ∨ k = 1 := h
  rw [showL, if_pos h']
  rfl
theorem show_2 (x : Rl) (h : x.k = 2) : showL x = [110, 111, 116, 32] ++ rowL 2 true x.l := by
  obtain ⟨k, p, f, t, n, l⟩ := x
  have h' : k = 2 := h
  subst h'
  rw [showL, if_neg (by decide), if_pos rfl]
  rfl
theorem show_3 (x : Rl) (h : x.k = 3) : showL x = x.f.data.toList ++ [32, 61, 32, 34] ++ x.t.data.toList ++ [34] := by
  obtain ⟨k, p, f, t, n, l⟩ := x
  have h' : k = 3 := h
  subst h'
  rw [showL, if_neg (by decide), if_neg (by decide), if_pos rfl]
  rfl
theorem show_4 (x : Rl) (h : x.k = 4) : showL x = x.f.data.toList ++ [32, 126, 32, 34] ++ x.t.data.toList ++ [34] := by
  obtain ⟨k, p, f, t, n, l⟩ := x
  have h' : k = 4 := h
  subst h'
  rw [showL, if_neg (by decide), if_neg (by decide), if_neg (by decide), if_pos rfl]
  rfl
theorem show_5 (x : Rl) (h : x.k = 5) : showL x = x.f.data.toList ++ [32, 60, 61, 32] ++ itL x.n := by
  obtain ⟨k, p, f, t, n, l⟩ := x
  have h' : k = 5 := h
  subst h'
  rw [showL, if_neg (by decide), if_neg (by decide), if_neg (by decide), if_neg (by decide), if_pos rfl]
  rfl
theorem show_6 (x : Rl) (h : x.k = 6) : showL x = x.f.data.toList ++ [32, 62, 61, 32] ++ itL x.n := by
  obtain ⟨k, p, f, t, n, l⟩ := x
  have h' : k = 6 := h
  subst h'
  rw [showL, if_neg (by decide), if_neg (by decide), if_neg (by decide), if_neg (by decide), if_neg (by decide), if_pos rfl]
  rfl
theorem show_7 (x : Rl) (h : x.k = 7) : showL x = x.f.data.toList ++ [32, 61, 32] ++ wordL x.p ++ [46] ++ x.t.data.toList := by
  obtain ⟨k, p, f, t, n, l⟩ := x
  have h' : k = 7 := h
  subst h'
  rw [showL, if_neg (by decide), if_neg (by decide), if_neg (by decide), if_neg (by decide), if_neg (by decide), if_neg (by decide), if_pos rfl]
  rfl
theorem rowL_nil (k : Int) (b : Bool) : rowL k b [] = [] := by rw [rowL]
theorem rowL_cons (k : Int) (b : Bool) (x : Rl) (l : List Rl) : rowL k b (x :: l) = (if b then [] else sepL k) ++ brkL k x ++ rowL k false l := by rw [rowL]; rfl
theorem rowL_append (k : Int) : ∀ (b : Bool) (l m : List Rl), rowL k b (l ++ m) = rowL k b l ++ rowL k (b && l.isEmpty) m
  | b, [], m => by rw [rowL_nil, List.nil_append, List.nil_append]; simp
  | b, x :: l, m => by
    rw [List.cons_append, rowL_cons, rowL_cons, rowL_append k false l m]
    simp
theorem rowL_take (k : Int) (l : List Rl) (i : Nat) (h : i < l.length) : rowL k true (l.take (i + 1)) = rowL k true (l.take i) ++ ((if i = 0 then [] else sepL k) ++ brkL k l[i]) := by
  rw [← List.take_append_getElem h, rowL_append, rowL_cons, rowL_nil, List.append_nil]
  congr 1
  congr 1
  by_cases h0 : i = 0
  · subst h0; simp
  · have : (l.take i).isEmpty = false := by
      cases hl : l.take i with
      | nil =>
        have := congrArg List.length hl
        rw [List.length_take] at this
        have hz : ([] : List Rl).length = 0 := rfl
        omega
      | cons a b => rfl
    rw [this, if_neg h0]
    rfl
theorem rowL_take_le (k : Int) (l : List Rl) (i : Nat) : (rowL k true (l.take i)).length ≤ (rowL k true l).length := by
  have h := rowL_append k true (l.take i) (l.drop i)
  rw [List.take_append_drop] at h
  rw [h, List.length_append]
  omega

/-- a line of words -/
def lineL (l : List Bs) : Bs := join l [32] ++ [59, 10]
def yesL (b : Bool) : Bs := if b then [121, 101, 115] else [110, 111]
/-- what a need's line says -/
def needL (x : Nd) : Bs := lineL ([[119, 97, 110, 116, 115], wordL x.k, [99, 111, 112, 105, 101, 115], itL x.c] ++ (if alwB x.r then [] else [[119, 105, 116, 104], showL x.r]))
def needsL : List Nd → Bs
  | [] => []
  | x :: l => needL x ++ needsL l
theorem needsL_append (l m : List Nd) : needsL (l ++ m) = needsL l ++ needsL m := by
  induction l with
  | nil => rfl
  | cons x l ih => rw [List.cons_append, needsL, needsL, ih, List.append_assoc]
theorem needsL_take (l : List Nd) (i : Nat) (h : i < l.length) : needsL (l.take (i + 1)) = needsL (l.take i) ++ needL l[i] := by
  rw [← List.take_append_getElem h, needsL_append, needsL, needsL, List.append_nil]
theorem needsL_take_le (l : List Nd) (i : Nat) : (needsL (l.take i)).length ≤ (needsL l).length := by
  have h := needsL_append (l.take i) (l.drop i)
  rw [List.take_append_drop] at h
  rw [h, List.length_append]
  omega
/-- the lines ahead of the needs -/
def headL (c : Cr) : Bs :=
  lineL [[99, 114, 101, 100, 105, 116], c.num.data.toList] ++ lineL [[97, 112, 112, 108, 105, 99, 97, 110, 116], c.app.data.toList] ++ lineL [[98, 101, 110, 101, 102, 105, 99, 105, 97, 114, 121], c.ben.data.toList] ++ lineL [[105, 115, 115, 117, 101, 114], c.iss.data.toList] ++ (if c.con.size = 0 then [] else lineL [[99, 111, 110, 102, 105, 114, 109, 101, 114], c.con.data.toList]) ++
  lineL [[102, 114, 111, 109], c.frm.data.toList] ++ lineL [[116, 111], c.dst.data.toList] ++ lineL [[115, 117, 109], c.cur.data.toList, itL c.amt, [97, 98, 111, 118, 101], itL c.abo, [98, 101, 108, 111, 119], itL c.bel] ++
  lineL [[108, 97, 116, 101, 115, 116], itL c.lat] ++ lineL [[101, 120, 112, 105, 114, 121], itL c.exp] ++ lineL [[119, 105, 116, 104, 105, 110], itL c.wit, [100, 97, 121, 115]] ++ (if c.ten = 0 then lineL [[116, 101, 110, 111, 114], [115, 105, 103, 104, 116]] else lineL [[116, 101, 110, 111, 114], itL c.ten, [100, 97, 121, 115]]) ++
  lineL [[112, 97, 114, 116, 105, 97, 108], yesL c.par] ++ lineL [[99, 104, 97, 110, 103, 101], yesL c.chg]
/-- a credit's text -/
def credL (c : Cr) : Bs := headL c ++ needsL c.needs
/-- may a credit be? -/
def mayB (c : Cr) : Bool := fitsB c && decide ((credL c).length ≤ 4096)
theorem line_nil : lineL [] = [59, 10] := rfl
theorem line_one (a : Bs) : lineL [a] = a ++ [59, 10] := by simp [lineL, join, List.intercalate]
theorem line_two (a b : Bs) : lineL [a, b] = a ++ 32 :: (b ++ [59, 10]) := by simp [lineL, join, List.intercalate]
theorem line_three (a b c : Bs) : lineL [a, b, c] = a ++ 32 :: (b ++ 32 :: (c ++ [59, 10])) := by simp [lineL, join, List.intercalate]
theorem line_four (a b c d : Bs) : lineL [a, b, c, d] = a ++ 32 :: (b ++ 32 :: (c ++ 32 :: (d ++ [59, 10]))) := by simp [lineL, join, List.intercalate]
theorem line_six (a b c d e f : Bs) : lineL [a, b, c, d, e, f] = a ++ 32 :: (b ++ 32 :: (c ++ 32 :: (d ++ 32 :: (e ++ 32 :: (f ++ [59, 10]))))) := by simp [lineL, join, List.intercalate]
theorem line_seven (a b c d e f g : Bs) : lineL [a, b, c, d, e, f, g] = a ++ 32 :: (b ++ 32 :: (c ++ 32 :: (d ++ 32 :: (e ++ 32 :: (f ++ 32 :: (g ++ [59, 10])))))) := by simp [lineL, join, List.intercalate]
end Go.Proofs.YtbkffdfboloogaaGreatDoor
namespace Go.Proofs.YtbkffdfboloogaaGreatDoor
open Go.RowKit Go.Lib
set_option linter.unusedVariables false
set_option maxRecDepth 100000

/-- the eight cells of a need -/
structure C8 (w : World) (g o : Nat) (x : Nd) (A : Option Addr) (c : Nat) : Prop where
  d0 : w.cell? ⟨g, o, none⟩ = some (.int .i64 x.k)
  d1 : w.cell? ⟨g, o + 1, none⟩ = some (.int .i64 x.c)
  d2 : w.cell? ⟨g, o + 2, none⟩ = some (.int .i64 x.r.k)
  d3 : w.cell? ⟨g, o + 3, none⟩ = some (.int .i64 x.r.p)
  d4 : w.cell? ⟨g, o + 4, none⟩ = some (.string x.r.f)
  d5 : w.cell? ⟨g, o + 5, none⟩ = some (.string x.r.t)
  d6 : w.cell? ⟨g, o + 6, none⟩ = some (.int .i64 x.r.n)
  d7 : w.cell? ⟨g, o + 7, none⟩ = some (.slice A x.r.l.length c)
/-- a need as a value -/
def ndA (x : Nd) (A : Option Addr) (c : Nat) : Array Value := #[.int .i64 x.k, .int .i64 x.c, .int .i64 x.r.k, .int .i64 x.r.p, .string x.r.f, .string x.r.t, .int .i64 x.r.n, .slice A x.r.l.length c]
/-- the slice's elements are the needs l, all of it in blocks below B -/
def Ns (w : World) (B : Nat) (A : Option Addr) (l : List Nd) : Prop :=
  0 < l.length → ∃ g off, A = some ⟨g, off, none⟩ ∧ g < B ∧ ∀ i x, l[i]? = some x → ∃ A' c', C8 w g (off + i * 8) x A' c' ∧ NL w B A' x.r.l
section
variable {w w' : World} {B B' : Nat} {A : Option Addr} {l : List Nd}
theorem C8.keep {g o : Nat} {x : Nd} {c : Nat} (h : C8 w g o x A c) (hk : ∀ p : Addr, p.block = g → w'.cell? p = w.cell? p) : C8 w' g o x A c :=
  ⟨(hk _ rfl).trans h.d0, (hk _ rfl).trans h.d1, (hk _ rfl).trans h.d2, (hk _ rfl).trans h.d3, (hk _ rfl).trans h.d4, (hk _ rfl).trans h.d5, (hk _ rfl).trans h.d6, (hk _ rfl).trans h.d7⟩
theorem Ns.kept (h : Ns w B A l) (hb : Below B w w') : Ns w' B A l := fun h0 => by
  obtain ⟨g, off, e, hg, hc⟩ := h h0
  refine ⟨g, off, e, hg, fun i x hx => ?_⟩
  obtain ⟨A', c', h8, hn⟩ := hc i x hx
  exact ⟨A', c', h8.keep fun p hp => hb.cell (by rw [hp]; exact hg), hn.kept hb⟩
theorem Ns.more (h : Ns w B A l) (hB : B ≤ B') : Ns w B' A l := fun h0 => by
  obtain ⟨g, off, e, hg, hc⟩ := h h0
  refine ⟨g, off, e, by omega, fun i x hx => ?_⟩
  obtain ⟨A', c', h8, hn⟩ := hc i x hx
  exact ⟨A', c', h8, hn.more hB⟩
theorem Ns.at_ (h : Ns w B A l) {i : Nat} (hi : i < l.length) : ∃ g off A' c', A = some ⟨g, off, none⟩ ∧ g < B ∧ C8 w g (off + i * 8) l[i] A' c' ∧ NL w B A' l[i].r.l := by
  obtain ⟨g, off, e, hg, hc⟩ := h (by omega)
  obtain ⟨A', c', h8, hn⟩ := hc i _ (List.getElem?_eq_getElem hi)
  exact ⟨g, off, A', c', e, hg, h8, hn⟩
end
/-- a credit as a value -/
def crA (c : Cr) (A : Option Addr) (cp : Nat) : Array Value := #[.string c.num, .string c.app, .string c.ben, .string c.iss, .string c.con, .string c.frm, .string c.dst, .string c.cur, .int .i64 c.amt, .int .i64 c.abo, .int .i64 c.bel, .int .i64 c.lat, .int .i64 c.exp, .int .i64 c.wit, .int .i64 c.ten, .bool c.par, .bool c.chg, .slice A c.needs.length cp]
/-- the cells of a credit -/
structure C18 (w : World) (g : Nat) (c : Cr) (A : Option Addr) (cp : Nat) : Prop where
  c0 : w.cell? ⟨g, 0, none⟩ = some (.string c.num)
  c1 : w.cell? ⟨g, 1, none⟩ = some (.string c.app)
  c2 : w.cell? ⟨g, 2, none⟩ = some (.string c.ben)
  c3 : w.cell? ⟨g, 3, none⟩ = some (.string c.iss)
  c4 : w.cell? ⟨g, 4, none⟩ = some (.string c.con)
  c5 : w.cell? ⟨g, 5, none⟩ = some (.string c.frm)
  c6 : w.cell? ⟨g, 6, none⟩ = some (.string c.dst)
  c7 : w.cell? ⟨g, 7, none⟩ = some (.string c.cur)
  c8 : w.cell? ⟨g, 8, none⟩ = some (.int .i64 c.amt)
  c9 : w.cell? ⟨g, 9, none⟩ = some (.int .i64 c.abo)
  c10 : w.cell? ⟨g, 10, none⟩ = some (.int .i64 c.bel)
  c11 : w.cell? ⟨g, 11, none⟩ = some (.int .i64 c.lat)
  c12 : w.cell? ⟨g, 12, none⟩ = some (.int .i64 c.exp)
  c13 : w.cell? ⟨g, 13, none⟩ = some (.int .i64 c.wit)
  c14 : w.cell? ⟨g, 14, none⟩ = some (.int .i64 c.ten)
  c15 : w.cell? ⟨g, 15, none⟩ = some (.bool c.par)
  c16 : w.cell? ⟨g, 16, none⟩ = some (.bool c.chg)
  c17 : w.cell? ⟨g, 17, none⟩ = some (.slice A c.needs.length cp)
theorem C18.keep {w w' : World} {g : Nat} {c : Cr} {A : Option Addr} {cp : Nat} (h : C18 w g c A cp) (hk : ∀ p : Addr, p.block = g → w'.cell? p = w.cell? p) : C18 w' g c A cp :=
  ⟨(hk _ rfl).trans h.c0, (hk _ rfl).trans h.c1, (hk _ rfl).trans h.c2, (hk _ rfl).trans h.c3, (hk _ rfl).trans h.c4, (hk _ rfl).trans h.c5, (hk _ rfl).trans h.c6, (hk _ rfl).trans h.c7, (hk _ rfl).trans h.c8, (hk _ rfl).trans h.c9, (hk _ rfl).trans h.c10, (hk _ rfl).trans h.c11, (hk _ rfl).trans h.c12, (hk _ rfl).trans h.c13, (hk _ rfl).trans h.c14, (hk _ rfl).trans h.c15, (hk _ rfl).trans h.c16, (hk _ rfl).trans h.c17⟩
theorem C18.below {w w' : World} {g : Nat} {c : Cr} {A : Option Addr} {cp B : Nat} (h : C18 w g c A cp) (hb : Below B w w') (hg : g < B) : C18 w' g c A cp := h.keep fun p hp => hb.cell (by rw [hp]; exact hg)
theorem C18.new (w : World) (c : Cr) (A : Option Addr) (cp : Nat) (t : TypeId) : C18 (w.alloc (.cells (crA c A cp) t)) w.heap.size c A cp :=
  ⟨by simp [crA], by simp [crA], by simp [crA], by simp [crA], by simp [crA], by simp [crA], by simp [crA], by simp [crA], by simp [crA], by simp [crA], by simp [crA], by simp [crA], by simp [crA], by simp [crA], by simp [crA], by simp [crA], by simp [crA], by simp [crA]⟩
end Go.Proofs.YtbkffdfboloogaaGreatDoor
namespace Go.Proofs.YtbkffdfboloogaaGreatDoor
open Go.RowKit Go.Lib
set_option linter.unusedVariables false
set_option maxRecDepth 100000

theorem emp_eq (s : ByteArray) : (s.toList == []) = (s.size == 0) := by
  rw [ByteArray.toList_eq, Bool.eq_iff_iff, beq_iff_eq, beq_iff_eq, ← List.length_eq_zero_iff]
  simp
/-- the tests of the rule that always holds -/
theorem alwB_is (x : Rl) : alwB x = (x.k == 0 && x.p == 0 && x.n == 0 && x.f.size == 0 && x.t.size == 0 && decide (x.l.length = 0)) := rfl
set_option maxHeartbeats 2000000 in
theorem always_any (k p n : Int) (f t : ByteArray) (A : Option Addr) (l c : Nat) (w : World) :
    Calls Tryz.prog 95 #[.agg #[.int .i64 k, .int .i64 p, .string f, .string t, .int .i64 n, .slice A l c]] w fun e w' => e = .returned (.bool (k == 0 && p == 0 && n == 0 && f.size == 0 && t.size == 0 && decide (l = 0))) ∧ Below w.heap.size w w' := by
  have hb1 : Hid (Below w.heap.size w (w.alloc (.cells #[.int .i64 k, .int .i64 p, .string f, .string t, .int .i64 n, .slice A l c] 33))) := Lib.hid ((Below.refl _ _).alloc (Nat.le_refl _) _)
  have hf := emp_eq f
  have ht := emp_eq t
  have hl : ((l : Int) == 0) = decide (l = 0) := by rw [Bool.eq_iff_iff, beq_iff_eq, decide_eq_true_iff]; omega
  generalize (f.size == 0) = fb at *
  generalize (t.size == 0) = tb at *
  generalize decide (l = 0) = lb at *
  generalize hk : (k == 0) = kb at *
  generalize hp : (p == 0) = pb at *
  generalize hn : (n == 0) = nb at *
  go_enter Tryz.func95, Tryz.ntmps95
  go_wp2
  all_goals
    go_ret
    exact ⟨by clear hb1 hf ht hl hk hp hn; simp_all, hb1.out⟩
set_option maxHeartbeats 2000000 in
theorem refAlways_any (k p n : Int) (f t : ByteArray) (A : Option Addr) (l c : Nat) (w : World) :
    Calls Tryz.prog 46 #[.agg #[.int .i64 k, .int .i64 p, .string f, .string t, .int .i64 n, .slice A l c]] w fun e w' => e = .returned (.bool (k == 0 && p == 0 && n == 0 && f.size == 0 && t.size == 0 && decide (l = 0))) ∧ Below w.heap.size w w' := by
  have hb1 : Hid (Below w.heap.size w (w.alloc (.cells #[.int .i64 k, .int .i64 p, .string f, .string t, .int .i64 n, .slice A l c] 33))) := Lib.hid ((Below.refl _ _).alloc (Nat.le_refl _) _)
  have hf := emp_eq f
  have ht := emp_eq t
  have hl : ((l : Int) == 0) = decide (l = 0) := by rw [Bool.eq_iff_iff, beq_iff_eq, decide_eq_true_iff]; omega
  generalize (f.size == 0) = fb at *
  generalize (t.size == 0) = tb at *
  generalize decide (l = 0) = lb at *
  generalize hk : (k == 0) = kb at *
  generalize hp : (p == 0) = pb at *
  generalize hn : (n == 0) = nb at *
  go_enter Tryz.func46, Tryz.ntmps46
  go_wp2
  all_goals
    go_ret
    exact ⟨by clear hb1 hf ht hl hk hp hn; simp_all, hb1.out⟩
theorem quotd_n (c : UInt8) : quotd c = (decide (c.toNat ≠ 34) && decide (32 ≤ c.toNat) && decide (c.toNat ≤ 126)) := by
  unfold quotd
  rw [Bool.eq_iff_iff]
  simp only [Bool.and_eq_true, decide_eq_true_iff, bne_iff_ne, ne_eq, UInt8.le_iff_toNat_le, ← UInt8.toNat_inj]
  rfl
theorem txt_snoc (s : ByteArray) (k : Nat) (h : k < s.size) : (s.data.toList.take (k + 1)).all quotd = ((s.data.toList.take k).all quotd && quotd s[k]) := by
  have e : s.data.toList.take (k + 1) = s.data.toList.take k ++ [s[k]] := by
    rw [List.take_succ_eq_append_getElem (by simpa using h)]
    rfl
  rw [e]; simp
theorem txt_bad (s : ByteArray) (k : Nat) (h : k < s.size) (hn : quotd s[k] = false) : s.data.toList.all quotd = false := by
  rw [List.all_eq_false]
  exact ⟨s[k], by show s.data[k] ∈ s.data.toList; simp, by simp [hn]⟩
set_option maxHeartbeats 2000000 in
theorem isText_any (s : ByteArray) (w : World) (hs : s.size ≤ 140737488351232) :
    Calls Tryz.prog 148 #[.string s] w fun e w' => e = .returned (.bool (txtB s)) ∧ w = w' := by
  have Hall : Hid (txtB s = s.data.toList.all quotd) := Lib.hid rfl
  generalize txtB s = r at *
  go_enter Tryz.func148, Tryz.ntmps148
  go_wp2
  go_loop [6] (fun i => ∃ k : Nat, k ≤ s.size ∧ i = .int .i64 k ∧ Hid ((s.data.toList.take k).all quotd = true)) (fun i => s.size - (intOf i).toNat)
  case atStart => exact ⟨0, Nat.zero_le _, rfl, Lib.hid (by simp)⟩
  case round =>
    obtain ⟨k, hk, rfl, Hk⟩ := hrel
    by_cases hlt : k < s.size
    · have HS := Lib.hid (txt_snoc s k hlt)
      have HB := Lib.hid (txt_bad s k hlt)
      have Hc := Lib.hid (quotd_n s[k])
      by_cases h34 : s[k].toNat = 34
      · have e34 : ((s[k].toNat : Int) == 34) = true := by rw [beq_iff_eq]; omega
        go_wp2
        all_goals
          go_ret
          exact ⟨by rw [Hall.out, HB.out (by rw [Hc.out]; simp; omega)]; rfl, rfl⟩
      · have e34 : ((s[k].toNat : Int) == 34) = false := by rw [beq_eq_false_iff_ne]; omega
        go_wp2
        all_goals first
          | (go_ret
             exact ⟨by rw [Hall.out, HB.out (by rw [Hc.out]; simp; omega)]; rfl, rfl⟩)
          | exact ⟨⟨k + 1, by omega, by go_num, Lib.hid (by rw [HS.out, Hk.out, Hc.out]; simp; omega)⟩, by simp [intOf]; omega⟩
    · have Hw := Lib.hid (show s.data.toList.take k = s.data.toList from List.take_of_length_le (by simp; omega))
      go_wp2
      go_ret
      exact ⟨by rw [Hall.out, ← Hw.out, Hk.out]; rfl, rfl⟩
set_option maxHeartbeats 2000000 in
theorem refText_any (s : ByteArray) (w : World) (hs : s.size ≤ 140737488351232) :
    Calls Tryz.prog 107 #[.string s] w fun e w' => e = .returned (.bool (txtB s)) ∧ w = w' := by
  have Hall : Hid (txtB s = s.data.toList.all quotd) := Lib.hid rfl
  generalize txtB s = r at *
  go_enter Tryz.func107, Tryz.ntmps107
  go_wp2
  go_loop [3] (fun i => ∃ k : Nat, k ≤ s.size ∧ i = .int .i64 k ∧ Hid ((s.data.toList.take k).all quotd = true)) (fun i => s.size - (intOf i).toNat)
  case atStart => exact ⟨0, Nat.zero_le _, rfl, Lib.hid (by simp)⟩
  case round =>
    obtain ⟨k, hk, rfl, Hk⟩ := hrel
    by_cases hlt : k < s.size
    · have HS := Lib.hid (txt_snoc s k hlt)
      have HB := Lib.hid (txt_bad s k hlt)
      have Hc := Lib.hid (quotd_n s[k])
      by_cases h34 : s[k].toNat = 34
      · have e34 : ((s[k].toNat : Int) == 34) = true := by rw [beq_iff_eq]; omega
        go_wp2
        all_goals
          go_ret
          exact ⟨by rw [Hall.out, HB.out (by rw [Hc.out]; simp; omega)]; rfl, rfl⟩
      · have e34 : ((s[k].toNat : Int) == 34) = false := by rw [beq_eq_false_iff_ne]; omega
        go_wp2
        all_goals first
          | (go_ret
             exact ⟨by rw [Hall.out, HB.out (by rw [Hc.out]; simp; omega)]; rfl, rfl⟩)
          | exact ⟨⟨k + 1, by omega, by go_num, Lib.hid (by rw [HS.out, Hk.out, Hc.out]; simp; omega)⟩, by simp [intOf]; omega⟩
    · have Hw := Lib.hid (show s.data.toList.take k = s.data.toList from List.take_of_length_le (by simp; omega))
      go_wp2
      go_ret
      exact ⟨by rw [Hall.out, ← Hw.out, Hk.out]; rfl, rfl⟩
theorem isPaper_any (k : Int) (w : World) : Calls Tryz.prog 118 #[.int .i64 k] w fun e w' => e = .returned (.bool (decide (0 ≤ k ∧ k ≤ 5))) ∧ w = w' := by
  rcases (show k < 0 ∨ (0 ≤ k ∧ k ≤ 5) ∨ 5 < k by omega) with h | h | h
  all_goals
    first
      | have HE : Hid (decide (0 ≤ k ∧ k ≤ 5) = true) := Lib.hid (decide_eq_true (by omega))
      | have HE : Hid (decide (0 ≤ k ∧ k ≤ 5) = false) := Lib.hid (decide_eq_false (by omega))
    first
      | have h0 : decide (0 ≤ k) = true := decide_eq_true (by omega)
      | have h0 : decide (0 ≤ k) = false := decide_eq_false (by omega)
    first
      | have h6 : decide (k < 6) = true := decide_eq_true (by omega)
      | have h6 : decide (k < 6) = false := decide_eq_false (by omega)
    generalize decide (0 ≤ k ∧ k ≤ 5) = r at *
    go_enter Tryz.func118, Tryz.ntmps118
    go_wp2
    go_ret
    exact ⟨by rw [HE.out]; rfl, rfl⟩
theorem between_any (n a b : Int) (w : World) : Calls Tryz.prog 90 #[.int .i64 n, .int .i64 a, .int .i64 b] w fun e w' => e = .returned (.bool (decide (a ≤ n ∧ n ≤ b))) ∧ w = w' := by
  by_cases ha : a ≤ n
  · by_cases hb : n ≤ b
    · have HE : Hid (decide (a ≤ n ∧ n ≤ b) = true) := Lib.hid (decide_eq_true ⟨ha, hb⟩)
      generalize decide (a ≤ n ∧ n ≤ b) = r at *
      go_enter Tryz.func90, Tryz.ntmps90
      go_wp2
      go_ret
      exact ⟨by rw [HE.out]; first | rfl | simp [hb], rfl⟩
    · have HE : Hid (decide (a ≤ n ∧ n ≤ b) = false) := Lib.hid (decide_eq_false fun h => hb h.2)
      generalize decide (a ≤ n ∧ n ≤ b) = r at *
      go_enter Tryz.func90, Tryz.ntmps90
      go_wp2
      go_ret
      exact ⟨by rw [HE.out]; first | rfl | simp [hb], rfl⟩
  · have HE : Hid (decide (a ≤ n ∧ n ≤ b) = false) := Lib.hid (decide_eq_false fun h => ha h.1)
    generalize decide (a ≤ n ∧ n ≤ b) = r at *
    go_enter Tryz.func90, Tryz.ntmps90
    go_wp2
    go_ret
    exact ⟨by rw [HE.out]; rfl, rfl⟩
theorem yesNo_any (b : Bool) (w : World) : Calls Tryz.prog 94 #[.bool b] w fun e w' => e = .returned (.string ⟨(yesL b).toArray⟩) ∧ w = w' := by
  cases b
  all_goals
    go_enter Tryz.func94, Tryz.ntmps94
    go_wp2
    go_ret
    exact ⟨rfl, rfl⟩
theorem yes_any (b : Bool) (w : World) : Calls Tryz.prog 44 #[.bool b] w fun e w' => e = .returned (.string ⟨(yesL b).toArray⟩) ∧ w = w' := by
  cases b
  all_goals
    go_enter Tryz.func44, Tryz.ntmps44
    go_wp2
    go_ret
    exact ⟨rfl, rfl⟩
set_option maxHeartbeats 2000000 in
theorem word_any (k : Int) (w : World) : Calls Tryz.prog 45 #[.int .i64 k] w fun e w' => e = .returned (.string ⟨(wordL k).toArray⟩) ∧ w = w' := by
  go_enter Tryz.func45, Tryz.ntmps45
  go_wp2
  all_goals
    go_ret
    refine ⟨?_, rfl⟩
    simp only [beq_iff_eq] at *
    first
      | (subst_vars; rfl)
      | (unfold wordL; simp_all)
end Go.Proofs.YtbkffdfboloogaaGreatDoor
namespace Go.Proofs.YtbkffdfboloogaaGreatDoor
open Go.RowKit Go.Lib
set_option linter.unusedVariables false
set_option maxRecDepth 100000

/-- a lot: so many of a good -/
structure Lt where
  g : ByteArray
  c : Int
/-- a box -/
structure Bx where
  m : ByteArray
  k : Int
  l : List Lt
/-- a deal -/
structure Dl where
  num : ByteArray
  sel : ByteArray
  buy : ByteArray
  car : ByteArray
  iss : ByteArray
  hou : ByteArray
  ins : ByteArray
  frm : ByteArray
  dst : ByteArray
  cur : ByteArray
  amt : Int
  box : List Bx
  trm : Int
  lat : Int
  exp : Int
  ten : Int
  dut : Int
def ltA (x : Lt) : Array Value := #[.string x.g, .int .i64 x.c]
def bxA (b : Bx) (A : Option Addr) (c : Nat) : Array Value := #[.string b.m, .int .i64 b.k, .slice A b.l.length c]
def dlA (d : Dl) (A : Option Addr) (c : Nat) : Array Value := #[.string d.num, .string d.sel, .string d.buy, .string d.car, .string d.iss, .string d.hou, .string d.ins, .string d.frm, .string d.dst, .string d.cur, .int .i64 d.amt, .slice A d.box.length c, .int .i64 d.trm, .int .i64 d.lat, .int .i64 d.exp, .int .i64 d.ten, .int .i64 d.dut]
/-- the lots l stand from off on in block g -/
def LtAt (w : World) (g off : Nat) (l : List Lt) : Prop := ∀ i x, l[i]? = some x → w.cell? ⟨g, off + i * 2, none⟩ = some (.string x.g) ∧ w.cell? ⟨g, off + i * 2 + 1, none⟩ = some (.int .i64 x.c)
/-- a slice of lots, in a block below B -/
def Lts (w : World) (B : Nat) (A : Option Addr) (l : List Lt) : Prop := 0 < l.length → ∃ g off, A = some ⟨g, off, none⟩ ∧ g < B ∧ LtAt w g off l
/-- the three cells of a box, and its lots -/
structure B3 (w : World) (B g o : Nat) (b : Bx) (A : Option Addr) (c : Nat) : Prop where
  c0 : w.cell? ⟨g, o, none⟩ = some (.string b.m)
  c1 : w.cell? ⟨g, o + 1, none⟩ = some (.int .i64 b.k)
  c2 : w.cell? ⟨g, o + 2, none⟩ = some (.slice A b.l.length c)
  lots : Lts w B A b.l
  nil : A = none → c = 0
/-- a slice of boxes, all of it in blocks below B -/
def Bxs (w : World) (B : Nat) (A : Option Addr) (l : List Bx) : Prop := 0 < l.length → ∃ g off, A = some ⟨g, off, none⟩ ∧ g < B ∧ ∀ i b, l[i]? = some b → ∃ A' c', B3 w B g (off + i * 3) b A' c'
section
variable {w w' : World} {B B' : Nat} {A : Option Addr} {l : List Lt} {L : List Bx}
theorem LtAt.below {g off : Nat} (h : LtAt w g off l) (hb : Below B w w') (hg : g < B) : LtAt w' g off l := fun i x hx =>
  ⟨(hb.cell (p := ⟨g, off + i * 2, none⟩) hg).trans (h i x hx).1, (hb.cell (p := ⟨g, off + i * 2 + 1, none⟩) hg).trans (h i x hx).2⟩
theorem Lts.kept (h : Lts w B A l) (hb : Below B w w') : Lts w' B A l := fun h0 => by
  obtain ⟨g, off, e, hg, hc⟩ := h h0
  exact ⟨g, off, e, hg, hc.below hb hg⟩
theorem Lts.more (h : Lts w B A l) (hB : B ≤ B') : Lts w B' A l := fun h0 => by
  obtain ⟨g, off, e, hg, hc⟩ := h h0
  exact ⟨g, off, e, by omega, hc⟩
theorem Lts.at_ (h : Lts w B A l) {i : Nat} (hi : i < l.length) : ∃ g off, A = some ⟨g, off, none⟩ ∧ g < B ∧ w.cell? ⟨g, off + i * 2, none⟩ = some (.string l[i].g) ∧ w.cell? ⟨g, off + i * 2 + 1, none⟩ = some (.int .i64 l[i].c) := by
  obtain ⟨g, off, e, hg, hc⟩ := h (by omega)
  exact ⟨g, off, e, hg, hc i _ (List.getElem?_eq_getElem hi)⟩
theorem B3.kept {g o : Nat} {b : Bx} {c : Nat} (h : B3 w B g o b A c) (hb : Below B w w') (hg : g < B) : B3 w' B g o b A c :=
  ⟨(hb.cell (p := ⟨g, o, none⟩) hg).trans h.c0, (hb.cell (p := ⟨g, o + 1, none⟩) hg).trans h.c1, (hb.cell (p := ⟨g, o + 2, none⟩) hg).trans h.c2, h.lots.kept hb, h.nil⟩
theorem Bxs.kept (h : Bxs w B A L) (hb : Below B w w') : Bxs w' B A L := fun h0 => by
  obtain ⟨g, off, e, hg, hc⟩ := h h0
  refine ⟨g, off, e, hg, fun i x hx => ?_⟩
  obtain ⟨A', c', h3⟩ := hc i x hx
  exact ⟨A', c', h3.kept hb hg⟩
theorem Bxs.more (h : Bxs w B A L) (hB : B ≤ B') : Bxs w B' A L := fun h0 => by
  obtain ⟨g, off, e, hg, hc⟩ := h h0
  refine ⟨g, off, e, by omega, fun i x hx => ?_⟩
  obtain ⟨A', c', h3⟩ := hc i x hx
  exact ⟨A', c', h3.c0, h3.c1, h3.c2, h3.lots.more hB, h3.nil⟩
theorem Bxs.at_ (h : Bxs w B A L) {i : Nat} (hi : i < L.length) : ∃ g off A' c', A = some ⟨g, off, none⟩ ∧ g < B ∧ B3 w B g (off + i * 3) L[i] A' c' := by
  obtain ⟨g, off, e, hg, hc⟩ := h (by omega)
  obtain ⟨A', c', h3⟩ := hc i _ (List.getElem?_eq_getElem hi)
  exact ⟨g, off, A', c', e, hg, h3⟩
end
/-- no text and no row of it is long -/
def LtOk (x : Lt) : Prop := x.g.size ≤ 1048576 ∧ -9223372036854775808 ≤ x.c ∧ x.c ≤ 9223372036854775807
def LtsOk (l : List Lt) : Prop := l.length ≤ 1048576 ∧ ∀ x ∈ l, LtOk x
/-- the lots of all boxes -/
def lotsOf (L : List Bx) : List Lt := L.flatMap (·.l)
structure BxsOk (L : List Bx) : Prop where
  few : L.length ≤ 1048576
  lots : LtsOk (lotsOf L)
  mark : ∀ b ∈ L, b.m.size ≤ 1048576
theorem lots_le (L : List Bx) (b : Bx) : b ∈ L → b.l.length ≤ (lotsOf L).length := by
  induction L with
  | nil => intro h; cases h
  | cons x L ih =>
    intro h
    unfold lotsOf at *
    rw [List.flatMap_cons, List.length_append]
    rcases List.mem_cons.1 h with rfl | h
    · omega
    · have := ih h; omega
theorem BxsOk.of_mem {L : List Bx} (h : BxsOk L) {b : Bx} (hb : b ∈ L) : LtsOk b.l := by
  have hsub : ∀ x ∈ b.l, x ∈ lotsOf L := fun x hx => List.mem_flatMap.2 ⟨b, hb, hx⟩
  have hlen : b.l.length ≤ (lotsOf L).length := lots_le L b hb
  exact ⟨Nat.le_trans hlen h.lots.1, fun x hx => h.lots.2 x (hsub x hx)⟩
end Go.Proofs.YtbkffdfboloogaaGreatDoor
