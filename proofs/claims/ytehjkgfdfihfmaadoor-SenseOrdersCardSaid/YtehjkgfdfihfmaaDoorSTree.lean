/- Rules: their trees, how they lie in memory, how many cases they have. -/
import Derived.Test.YtehjkgfdfihfmaaDoorSBase
namespace Go.Proofs.YtehjkgfdfihfmaaDoor
open Go.RowKit Go.Maps Go.Lib
set_option linter.unusedVariables false
set_option maxRecDepth 100000

inductive Rl where
  | mk (k p : Int) (f t : ByteArray) (n : Int) (l : List Rl)
namespace Rl
def k : Rl → Int | ⟨k, _, _, _, _, _⟩ => k
def p : Rl → Int | ⟨_, p, _, _, _, _⟩ => p
def f : Rl → ByteArray | ⟨_, _, f, _, _, _⟩ => f
def t : Rl → ByteArray | ⟨_, _, _, t, _, _⟩ => t
def n : Rl → Int | ⟨_, _, _, _, n, _⟩ => n
def l : Rl → List Rl | ⟨_, _, _, _, _, l⟩ => l
def val (x : Rl) (A : Option Addr) (c : Nat) : Value := .agg #[.int .i64 x.k, .int .i64 x.p, .string x.f, .string x.t, .int .i64 x.n, .slice A x.l.length c]
theorem lt_l (x : Rl) : SizeOf.sizeOf x.l < SizeOf.sizeOf x := by
  obtain ⟨k, p, f, t, n, l⟩ := x
  simp [Rl.l]
  omega
theorem lt_mem {x : Rl} {y : Rl} (h : y ∈ x.l) : SizeOf.sizeOf y < SizeOf.sizeOf x := Nat.lt_trans (List.sizeOf_lt_of_mem h) x.lt_l
end Rl
/-- the six cells of a node -/
structure C6 (w : World) (g o : Nat) (x : Rl) (A : Option Addr) (c : Nat) : Prop where
  c0 : w.cell? ⟨g, o, none⟩ = some (.int .i64 x.k)
  c1 : w.cell? ⟨g, o + 1, none⟩ = some (.int .i64 x.p)
  c2 : w.cell? ⟨g, o + 2, none⟩ = some (.string x.f)
  c3 : w.cell? ⟨g, o + 3, none⟩ = some (.string x.t)
  c4 : w.cell? ⟨g, o + 4, none⟩ = some (.int .i64 x.n)
  c5 : w.cell? ⟨g, o + 5, none⟩ = some (.slice A x.l.length c)
/-- the slice's elements are the rules l, all of it in blocks below B -/
inductive NL (w : World) (B : Nat) : Option Addr → List Rl → Prop
  | mk (A : Option Addr) (l : List Rl) (ad : Nat → Option Addr) (cp : Nat → Nat) (hA : 0 < l.length → ∃ g off, A = some ⟨g, off, none⟩ ∧ g < B ∧ ∀ i x, l[i]? = some x → C6 w g (off + i * 6) x (ad i) (cp i))
      (hk : ∀ i x, l[i]? = some x → NL w B (ad i) x.l) : NL w B A l
section
variable {w w' : World} {B B' : Nat} {A : Option Addr} {l : List Rl}
theorem C6.keep {g o : Nat} {x : Rl} {c : Nat} (h : C6 w g o x A c) (hk : ∀ p : Addr, p.block = g → w'.cell? p = w.cell? p) : C6 w' g o x A c :=
  ⟨(hk _ rfl).trans h.c0, (hk _ rfl).trans h.c1, (hk _ rfl).trans h.c2, (hk _ rfl).trans h.c3, (hk _ rfl).trans h.c4, (hk _ rfl).trans h.c5⟩
theorem NL.kept (h : NL w B A l) (hb : Below B w w') : NL w' B A l := by
  induction h with
  | mk A l ad cp hA hk ih =>
    refine ⟨A, l, ad, cp, fun h0 => ?_, ih⟩
    obtain ⟨g, off, e, hg, hc⟩ := hA h0
    exact ⟨g, off, e, hg, fun i x hx => (hc i x hx).keep fun p hp => hb.cell (by rw [hp]; exact hg)⟩
theorem NL.more (h : NL w B A l) (hB : B ≤ B') : NL w B' A l := by
  induction h with
  | mk A l ad cp hA hk ih =>
    refine ⟨A, l, ad, cp, fun h0 => ?_, ih⟩
    obtain ⟨g, off, e, hg, hc⟩ := hA h0
    exact ⟨g, off, e, by omega, hc⟩
theorem NL.at_ (h : NL w B A l) {i : Nat} (hi : i < l.length) : ∃ g off A' c', A = some ⟨g, off, none⟩ ∧ g < B ∧ C6 w g (off + i * 6) l[i] A' c' ∧ NL w B A' l[i].l := by
  cases h with
  | mk A l ad cp hA hk =>
    obtain ⟨g, off, e, hg, hc⟩ := hA (by omega)
    exact ⟨g, off, ad i, cp i, e, hg, hc i _ (List.getElem?_eq_getElem hi), hk i _ (List.getElem?_eq_getElem hi)⟩
theorem NL.nil (w : World) (B : Nat) (A : Option Addr) : NL w B A [] := ⟨A, [], fun _ => none, fun _ => 0, fun h => by simp at h, fun i x hx => by simp at hx⟩
end

mutual
/-- how many cases a rule has, and whether that can be told -/
def cnt : Rl → Nat × Bool
  | ⟨k, p, f, t, n, l⟩ => if k = 0 then prodL l 1 false else if k = 1 then sumL l 0 else (1, true)
def prodL : List Rl → Nat → Bool → Nat × Bool
  | [], times, z => if z then (0, true) else (times, decide (times ≤ 4096))
  | x :: l, times, z => if (cnt x).2 = false then (0, false) else if (cnt x).1 = 0 then prodL l times true else prodL l (min (times * (cnt x).1) 4097) z
def sumL : List Rl → Nat → Nat × Bool
  | [], s => (s, true)
  | x :: l, s => if (cnt x).2 = false ∨ 4096 < s + (cnt x).1 then (0, false) else sumL l (s + (cnt x).1)
end
theorem cnt_le (x : Rl) : (cnt x).1 ≤ 4097 := by
  have hs : ∀ (l : List Rl) (s : Nat), s ≤ 4096 → (sumL l s).1 ≤ 4096 := by
    intro l
    induction l with
    | nil => intro s h; rw [sumL]; exact h
    | cons x l ih =>
      intro s h
      rw [sumL]
      split
      · simp
      · rename_i hn
        exact ih _ (by omega)
  have hp : ∀ (l : List Rl) (s : Nat) (b : Bool), s ≤ 4097 → (prodL l s b).1 ≤ 4097 := by
    intro l
    induction l with
    | nil =>
      intro s b h
      rw [prodL]
      split
      · simp
      · exact h
    | cons x l ih =>
      intro s b h
      rw [prodL]
      split
      · simp
      · split
        · exact ih _ _ h
        · exact ih _ _ (by omega)
  obtain ⟨k, p, f, t, n, l⟩ := x
  rw [cnt]
  split
  · exact hp l 1 false (by omega)
  · split
    · have := hs l 0 (by omega)
      omega
    · simp
end Go.Proofs.YtehjkgfdfihfmaaDoor
