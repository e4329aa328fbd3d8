/- Slices of texts. Rules: their trees, how they lie in memory, how many cases they have. sense.isAtom. sense.count and sense.product. The cases of a rule, plain. The fields of the papers' kinds: sense.Fields and supercargoref29.Fields. -/
import Derived.Test.YtbkffdfboloogaaGreatDoorProg
import Derived.Lib.Hide
import Derived.WalkKit
import Derived.WalkSpells
import Derived.WalkLawsBesides
import Derived.Carry
import Derived.Deep.QuietTactic
import Derived.BigQuiet
import Derived.Deep.Cut
import Derived.Maps.OwnSet
import Derived.Test.YtbkffdfboloogaaGreatDoorGMap
namespace Go.Proofs.YtbkffdfboloogaaGreatDoor
open Go.RowKit Go.Lib
set_option linter.unusedVariables false
set_option maxRecDepth 100000

/-- the slice's elements are the texts L, in blocks below B -/
def Rs (w : World) (B : Nat) (A : Option Addr) (L : List ByteArray) : Prop :=
  0 < L.length → ∃ g off, A = some ⟨g, off, none⟩ ∧ g < B ∧ ∀ i x, L[i]? = some x → w.cell? ⟨g, off + i, none⟩ = some (.string x)
section
variable {w w' : World} {B B' : Nat} {A : Option Addr} {L : List ByteArray}
theorem Rs.below (h : Rs w B A L) (hb : Below B w w') : Rs w' B A L := fun hl => by
  obtain ⟨g, off, e, hg, hc⟩ := h hl
  exact ⟨g, off, e, hg, fun i x hx => (hb.cell (p := ⟨g, off + i, none⟩) hg).trans (hc i x hx)⟩
theorem Rs.more (h : Rs w B A L) (hB : B ≤ B') : Rs w B' A L := fun hl => by
  obtain ⟨g, off, e, hg, hc⟩ := h hl
  exact ⟨g, off, e, by omega, hc⟩
theorem Rs.at_ (h : Rs w B A L) {k : Nat} (hk : k < L.length) : ∃ g off, A = some ⟨g, off, none⟩ ∧ g < B ∧ w.cell? ⟨g, off + k, none⟩ = some (.string L[k]) := by
  obtain ⟨g, off, e, hg, hc⟩ := h (by omega)
  exact ⟨g, off, e, hg, hc k _ (List.getElem?_eq_getElem hk)⟩
end

end Go.Proofs.YtbkffdfboloogaaGreatDoor
namespace Go.Proofs.YtbkffdfboloogaaGreatDoor
open Go.RowKit Go.Maps Go.Lib
set_option linter.unusedVariables false
set_option maxRecDepth 100000

inductive Rl where
  | mk (k p : Int) (f t : ByteArray) (n : Int) (l : List Rl)
namespace Rl
def k : Rl → Int | ⟨k, _, _, _, _, _⟩ => k
def p : Rl → Int | ⟨_, p, _, _, _, _⟩ => p
def f : Rl → ByteArray | ⟨_, _, f, _, _, _⟩ => f
def t : Rl → ByteArray | ⟨_, _, _, t, _, _⟩ => t
def n : Rl → Int | ⟨_, _, _, _, n, _⟩ => n
def l : Rl → List Rl | ⟨_, _, _, _, _, l⟩ => l
def val (x : Rl) (A : Option Addr) (c : Nat) : Value := .agg #[.int .i64 x.k, .int .i64 x.p, .string x.f, .string x.t, .int .i64 x.n, .slice A x.l.length c]
theorem lt_l (x : Rl) : SizeOf.sizeOf x.l < SizeOf.sizeOf x := by
  obtain ⟨k, p, f, t, n, l⟩ := x
  simp [Rl.l]
  omega
theorem lt_mem {x : Rl} {y : Rl} (h : y ∈ x.l) : SizeOf.sizeOf y < SizeOf.sizeOf x := Nat.lt_trans (List.sizeOf_lt_of_mem h) x.lt_l
end Rl
/-- the six cells of a node -/
structure C6 (w : World) (g o : Nat) (x : Rl) (A : Option Addr) (c : Nat) : Prop where
  c0 : w.cell? ⟨g, o, none⟩ = some (.int .i64 x.k)
  c1 : w.cell? ⟨g, o + 1, none⟩ = some (.int .i64 x.p)
  c2 : w.cell? ⟨g, o + 2, none⟩ = some (.string x.f)
  c3 : w.cell? ⟨g, o + 3, none⟩ = some (.string x.t)
  c4 : w.cell? ⟨g, o + 4, none⟩ = some (.int .i64 x.n)
  c5 : w.cell? ⟨g, o + 5, none⟩ = some (.slice A x.l.length c)
/-- the slice's elements are the rules l, all of it in blocks below B -/
inductive NL (w : World) (B : Nat) : Option Addr → List Rl → Prop
  | mk (A : Option Addr) (l : List Rl) (ad : Nat → Option Addr) (cp : Nat → Nat) (hA : 0 < l.length → ∃ g off, A = some ⟨g, off, none⟩ ∧ g < B ∧ ∀ i x, l[i]? = some x → C6 w g (off + i * 6) x (ad i) (cp i))
      (hk : ∀ i x, l[i]? = some x → NL w B (ad i) x.l) : NL w B A l
section
variable {w w' : World} {B B' : Nat} {A : Option Addr} {l : List Rl}
theorem C6.keep {g o : Nat} {x : Rl} {c : Nat} (h : C6 w g o x A c) (hk : ∀ p : Addr, p.block = g → w'.cell? p = w.cell? p) : C6 w' g o x A c :=
  ⟨(hk _ rfl).trans h.c0, (hk _ rfl).trans h.c1, (hk _ rfl).trans h.c2, (hk _ rfl).trans h.c3, (hk _ rfl).trans h.c4, (hk _ rfl).trans h.c5⟩
theorem NL.kept (h : NL w B A l) (hb : Below B w w') : NL w' B A l := by
  induction h with
  | mk A l ad cp hA hk ih =>
    refine ⟨A, l, ad, cp, fun h0 => ?_, ih⟩
    obtain ⟨g, off, e, hg, hc⟩ := hA h0
    exact ⟨g, off, e, hg, fun i x hx => (hc i x hx).keep fun p hp => hb.cell (by rw [hp]; exact hg)⟩
theorem NL.more (h : NL w B A l) (hB : B ≤ B') : NL w B' A l := by
  induction h with
  | mk A l ad cp hA hk ih =>
    refine ⟨A, l, ad, cp, fun h0 => ?_, ih⟩
    obtain ⟨g, off, e, hg, hc⟩ := hA h0
    exact ⟨g, off, e, by omega, hc⟩
theorem NL.at_ (h : NL w B A l) {i : Nat} (hi : i < l.length) : ∃ g off A' c', A = some ⟨g, off, none⟩ ∧ g < B ∧ C6 w g (off + i * 6) l[i] A' c' ∧ NL w B A' l[i].l := by
  cases h with
  | mk A l ad cp hA hk =>
    obtain ⟨g, off, e, hg, hc⟩ := hA (by omega)
    exact ⟨g, off, ad i, cp i, e, hg, hc i _ (List.getElem?_eq_getElem hi), hk i _ (List.getElem?_eq_getElem hi)⟩
theorem NL.nil (w : World) (B : Nat) (A : Option Addr) : NL w B A [] := ⟨A, [], fun _ => none, fun _ => 0, fun h => by simp at h, fun i x hx => by simp at hx⟩
end

mutual
/-- how many cases a rule has, and whether that can be told -/
def cnt : Rl → Nat × Bool
  | ⟨k, p, f, t, n, l⟩ => if k = 0 then prodL l 1 false else if k = 1 then sumL l 0 else (1, true)
def prodL : List Rl → Nat → Bool → Nat × Bool
  | [], times, z => if z then (0, true) else (times, decide (times ≤ 4096))
  | x :: l, times, z => if (cnt x).2 = false then (0, false) else if (cnt x).1 = 0 then prodL l times true else prodL l (min (times * (cnt x).1) 4097) z
def sumL : List Rl → Nat → Nat × Bool
  | [], s => (s, true)
  | x :: l, s => if (cnt x).2 = false ∨ 4096 < s + (cnt x).1 then (0, false) else sumL l (s + (cnt x).1)
end
theorem cnt_le (x : Rl) : (cnt x).1 ≤ 4097 := by
  have hs : ∀ (l : List Rl) (s : Nat), s ≤ 4096 → (sumL l s).1 ≤ 4096 := by
    intro l
    induction l with
    | nil => intro s h; rw [sumL]; exact h
    | cons x l ih =>
      intro s h
      rw [sumL]
      split
      · simp
      · rename_i hn
        exact ih _ (by omega)
  have hp : ∀ (l : List Rl) (s : Nat) (b : Bool), s ≤ 4097 → (prodL l s b).1 ≤ 4097 := by
    intro l
    induction l with
    | nil =>
      intro s b h
      rw [prodL]
      split
      · simp
      · exact h
    | cons x l ih =>
      intro s b h
      rw [prodL]
      split
      · simp
      · split
        · exact ih _ _ h
        · exact ih _ _ (by omega)
  obtain ⟨k, p, f, t, n, l⟩ := x
  rw [cnt]
  split
  · exact hp l 1 false (by omega)
  · split
    · have := hs l 0 (by omega)
      omega
    · simp
end Go.Proofs.YtbkffdfboloogaaGreatDoor
namespace Go.Proofs.YtbkffdfboloogaaGreatDoor
open Go.RowKit Go.Maps Go.Lib
set_option linter.unusedVariables false
set_option maxRecDepth 100000

/-- is a rule an atom? -/
def atomB (k : Int) : Bool := k == 3 || k == 4 || k == 5 || k == 6 || k == 7
set_option maxHeartbeats 2000000 in
theorem isAtom_any (k p n : Int) (f t : ByteArray) (A : Option Addr) (l c : Nat) (w : World) :
    Calls Tryz.prog 65 #[.agg #[.int .i64 k, .int .i64 p, .string f, .string t, .int .i64 n, .slice A l c]] w fun e w' => e = .returned (.bool (atomB k)) ∧ Below w.heap.size w w' := by
  have hb1 : Hid (Below w.heap.size w (w.alloc (.cells #[.int .i64 k, .int .i64 p, .string f, .string t, .int .i64 n, .slice A l c] 33))) := Lib.hid ((Below.refl _ _).alloc (Nat.le_refl _) _)
  by_cases h3 : k = 3
  · subst h3
    go_enter Tryz.func65, Tryz.ntmps65
    go_wp2
    go_ret
    exact ⟨rfl, hb1.out⟩
  by_cases h4 : k = 4
  · subst h4
    go_enter Tryz.func65, Tryz.ntmps65
    go_wp2
    go_ret
    exact ⟨rfl, hb1.out⟩
  by_cases h5 : k = 5
  · subst h5
    go_enter Tryz.func65, Tryz.ntmps65
    go_wp2
    go_ret
    exact ⟨rfl, hb1.out⟩
  by_cases h6 : k = 6
  · subst h6
    go_enter Tryz.func65, Tryz.ntmps65
    go_wp2
    go_ret
    exact ⟨rfl, hb1.out⟩
  by_cases h7 : k = 7
  · subst h7
    go_enter Tryz.func65, Tryz.ntmps65
    go_wp2
    go_ret
    exact ⟨rfl, hb1.out⟩
  have b3 : (k == 3) = false := by simpa using h3
  have b4 : (k == 4) = false := by simpa using h4
  have b5 : (k == 5) = false := by simpa using h5
  have b6 : (k == 6) = false := by simpa using h6
  have b7 : (k == 7) = false := by simpa using h7
  have HA : Hid (atomB k = false) := Lib.hid (by simp [atomB, b3, b4, b5, b6, b7])
  go_enter Tryz.func65, Tryz.ntmps65
  go_wp2
  go_ret
  exact ⟨by first | rfl | (rw [HA.out]; rfl) | simp [HA.out], hb1.out⟩
end Go.Proofs.YtbkffdfboloogaaGreatDoor
namespace Go.Proofs.YtbkffdfboloogaaGreatDoor
open Go.RowKit Go.Maps Go.Lib
set_option linter.unusedVariables false
set_option maxRecDepth 100000

def CntSaid (x : Rl) : Prop := ∀ (A : Option Addr) (c : Nat) (w : World) (B : Nat), NL w B A x.l → B ≤ w.heap.size → x.l.length ≤ 1000000 →
  Calls Tryz.prog 33 #[.agg #[.int .i64 x.k, .int .i64 x.p, .string x.f, .string x.t, .int .i64 x.n, .slice A x.l.length c]] w fun e w' => e = .returned (.tuple #[.int .i64 ((cnt x).1 : Nat), .bool (cnt x).2]) ∧ Below w.heap.size w w'
def ProdSaid (l : List Rl) : Prop := ∀ (A : Option Addr) (c : Nat) (w : World) (B : Nat), NL w B A l → B ≤ w.heap.size → l.length ≤ 1000000 →
  Calls Tryz.prog 64 #[.slice A l.length c] w fun e w' => e = .returned (.tuple #[.int .i64 ((prodL l 1 false).1 : Nat), .bool (prodL l 1 false).2]) ∧ Below w.heap.size w w'
/-- no rule of a rule has more than a million rules -/
inductive Few : Rl → Prop
  | mk (x : Rl) (h : x.l.length ≤ 1000000) (hk : ∀ y ∈ x.l, Few y) : Few x

set_option maxHeartbeats 2000000 in
theorem product_step (l : List Rl) (hC : ∀ x ∈ l, CntSaid x) (hF : ∀ x ∈ l, x.l.length ≤ 1000000) : ProdSaid l := by
  intro A c w B hN hB hl
  have HN := Lib.hid hN
  have HC := Lib.hid hC
  have HF := Lib.hid hF
  clear hN hC hF
  go_enter Tryz.func64, Tryz.ntmps64
  go_wp2_with fail
  go_loopw [4, 5, 12] (fun t z i wr => ∃ (k times : Nat) (b : Bool), i = .int .i64 (k : Int) ∧ t = .int .i64 (times : Int) ∧ z = .bool b ∧ k ≤ l.length ∧ times ≤ 4097 ∧ Hid (prodL l 1 false = prodL (l.drop k) times b) ∧ Hid (Below w.heap.size w wr)) (fun _ _ i _ => l.length - (RowKit.intOf i).toNat)
  case atStart => exact ⟨0, 1, false, rfl, rfl, rfl, Nat.zero_le _, by omega, Lib.hid rfl, Lib.hid (Below.refl _ _)⟩
  case round =>
    obtain ⟨k, times, b, rfl, rfl, rfl, hk, ht, HI, HB⟩ := hrel
    by_cases hlt : k < l.length
    · have hlt' : (k : Int) < (l.length : Int) := by omega
      have hbs := HB.out.size
      obtain ⟨g, off, A', c', rfl, hg, h6, hch⟩ := (HN.out.kept (HB.out.mono hB)).at_ hlt
      have hst : prodL (l.drop k) times b = if (cnt l[k]).2 = false then (0, false) else if (cnt l[k]).1 = 0 then prodL (l.drop (k + 1)) times true else prodL (l.drop (k + 1)) (min (times * (cnt l[k]).1) 4097) b := by
        rw [List.drop_eq_getElem_cons hlt, prodL]
      have hcl := cnt_le l[k]
      have HCx := Lib.hid (HC.out l[k] (List.getElem_mem hlt))
      have hfx := HF.out l[k] (List.getElem_mem hlt)
      generalize l[k] = x at *
      have hb2 : Below wr.heap.size wr (wr.alloc (.cells #[.int .i64 x.k, .int .i64 x.p, .string x.f, .string x.t, .int .i64 x.n, .slice A' x.l.length c'] 33)) := (Below.refl _ _).alloc (Nat.le_refl _) _
      have HK := Lib.hid (HCx.out A' c' (wr.alloc (.cells #[.int .i64 x.k, .int .i64 x.p, .string x.f, .string x.t, .int .i64 x.n, .slice A' x.l.length c'] 33)) B (hch.kept (hb2.mono (by omega))) (by simp; omega) hfx)
      have HB2 := Lib.hid (HB.out.trans (hb2.mono hbs))
      obtain ⟨c0, c1, c2, c3, c4, c5⟩ := h6
      have Hst := Lib.hid hst
      clear hst HCx hch hb2
      generalize x.l.length = xl at *
      generalize x.k = xk at *
      generalize x.p = xp at *
      generalize x.f = xf at *
      generalize x.t = xt at *
      generalize x.n = xn at *
      cases h2 : (cnt x).2 with
      | false =>
        have HE : Hid (prodL l 1 false = (0, false)) := Lib.hid (by rw [HI.out, Hst.out, if_pos h2])
        rw [h2] at HK
        go_wp2_with (first
          | (go_at_call 33; refine HK.out.mono ?_; rintro e w3 ⟨rfl, hb3⟩; have HB3 := Lib.hid hb3; clear hb3)
          | fail)
        go_ret2
        exact ⟨by rw [HE.out]; rfl, HB2.out.trans (HB3.out.mono (by have := HB2.out.size; omega))⟩
      | true =>
        rw [h2] at HK
        by_cases h0 : (cnt x).1 = 0
        · have HE : Hid (prodL l 1 false = prodL (l.drop (k + 1)) times true) := Lib.hid (by rw [HI.out, Hst.out, if_neg (by rw [h2]; simp), if_pos h0])
          rw [h0] at HK
          go_wp2_with (first
            | (go_at_call 33; refine HK.out.mono ?_; rintro e w3 ⟨rfl, hb3⟩; have HB3 := Lib.hid hb3; clear hb3)
            | fail)
          go_roundw
          case rel => exact ⟨k + 1, times, true, by go_num, rfl, rfl, by omega, ht, HE, Lib.hid (HB2.out.trans (HB3.out.mono (by have := HB2.out.size; omega)))⟩
          case measure => simp [RowKit.intOf]; omega
        · have HE : Hid (prodL l 1 false = prodL (l.drop (k + 1)) (min (times * (cnt x).1) 4097) b) := Lib.hid (by rw [HI.out, Hst.out, if_neg (by rw [h2]; simp), if_neg h0])
          have hm : times * (cnt x).1 ≤ 4097 * 4097 := Nat.mul_le_mul ht hcl
          have b0 : (((cnt x).1 : Int) == 0) = false := by rw [beq_eq_false_iff_ne]; omega
          generalize (cnt x).1 = q at *
          have hmi : (times : Int) * (q : Int) = ((times * q : Nat) : Int) := by simp
          have Hmi := Lib.hid hmi
          have m0 : IntKind.i64.wrap ((times : Int) * (q : Int)) = ((times * q : Nat) : Int) := by
            rw [hmi]
            simp only [IntKind.wrap, IntKind.signed, IntKind.bits]
            simp
            omega
          clear hmi
          generalize times * q = z at *
          go_wp2_with (first
            | (go_at_call 33; refine HK.out.mono ?_; rintro e w3 ⟨rfl, hb3⟩; have HB3 := Lib.hid hb3; clear hb3)
            | go_in)
          go_roundw
          case rel => exact ⟨k + 1, min z 4097, b, by go_num, by congr 1; split <;> omega, rfl, by omega, by omega, HE, Lib.hid (HB2.out.trans (HB3.out.mono (by have := HB2.out.size; omega)))⟩
          case measure => simp [RowKit.intOf]; omega
    · have hlt' : ¬ (k : Int) < (l.length : Int) := by omega
      have HE : Hid (prodL l 1 false = if b then (0, true) else (times, decide (times ≤ 4096))) := Lib.hid (by rw [HI.out, List.drop_eq_nil_of_le (by omega), prodL])
      cases b with
      | true =>
        go_wp2
        go_ret2
        exact ⟨by rw [HE.out]; rfl, HB.out⟩
      | false =>
        by_cases h4 : times ≤ 4096
        · have h4' : (times : Int) ≤ 4096 := by omega
          have HE2 : Hid (prodL l 1 false = (times, true)) := Lib.hid (by rw [HE.out]; simp [h4])
          go_wp2
          go_ret2
          exact ⟨by rw [HE2.out]; rfl, HB.out⟩
        · have h4' : ¬ (times : Int) ≤ 4096 := by omega
          have HE2 : Hid (prodL l 1 false = (times, false)) := Lib.hid (by rw [HE.out]; simp [h4])
          go_wp2
          go_ret2
          exact ⟨by rw [HE2.out]; rfl, HB.out⟩

theorem cnt_0 (x : Rl) (h : x.k = 0) : cnt x = prodL x.l 1 false := by
  obtain ⟨k, p, f, t, n, l⟩ := x
  have h' : k = 0 := h
  rw [cnt, if_pos h']
  rfl
theorem cnt_1 (x : Rl) (h : x.k = 1) : cnt x = sumL x.l 0 := by
  obtain ⟨k, p, f, t, n, l⟩ := x
  have h' : k = 1 := h
  rw [cnt, if_neg (by omega), if_pos h']
  rfl
theorem cnt_2 (x : Rl) (h0 : x.k ≠ 0) (h1 : x.k ≠ 1) : cnt x = (1, true) := by
  obtain ⟨k, p, f, t, n, l⟩ := x
  have h0' : ¬ k = 0 := h0
  have h1' : ¬ k = 1 := h1
  rw [cnt, if_neg h0', if_neg h1']
set_option maxHeartbeats 2000000 in
theorem count_step (x : Rl) (hP : ProdSaid x.l) (hC : ∀ y ∈ x.l, CntSaid y) (hF : ∀ y ∈ x.l, y.l.length ≤ 1000000) : CntSaid x := by
  intro A c w B hN hB hl
  have hb1 : Below w.heap.size w (w.alloc (.cells #[.int .i64 x.k, .int .i64 x.p, .string x.f, .string x.t, .int .i64 x.n, .slice A x.l.length c] 33)) := (Below.refl _ _).alloc (Nat.le_refl _) _
  have HB1 := Lib.hid hb1
  have HN := Lib.hid (hN.kept (hb1.mono hB))
  have HP := Lib.hid (hP A c _ B HN.out (by simp; omega) hl)
  have HC := Lib.hid hC
  have HF := Lib.hid hF
  clear hN hC hF hP hb1
  by_cases h0 : x.k = 0
  · have HE := Lib.hid (cnt_0 x h0)
    rw [HE.out]
    rw [h0] at HP HB1 ⊢
    clear HC HF HN
    generalize prodL x.l 1 false = r at *
    generalize x.l.length = xl at *
    generalize x.p = xp at *
    generalize x.f = xf at *
    generalize x.t = xt at *
    generalize x.n = xn at *
    go_enter Tryz.func33, Tryz.ntmps33
    go_wp2_with (first
      | (go_at_call 64; refine HP.out.mono ?_; rintro e w3 ⟨rfl, hb3⟩; have HB3 := Lib.hid hb3; clear hb3)
      | fail)
    go_ret2
    exact ⟨rfl, HB1.out.trans (HB3.out.mono HB1.out.size)⟩
  · by_cases h1 : x.k = 1
    · have HE := Lib.hid (cnt_1 x h1)
      rw [HE.out]
      rw [h1] at HN HB1 ⊢
      generalize hL : x.l = L at *
      clear HP hL
      generalize x.p = xp at *
      generalize x.f = xf at *
      generalize x.t = xt at *
      generalize x.n = xn at *
      go_enter Tryz.func33, Tryz.ntmps33
      go_wp2_with fail
      have hs1 := HB1.out.size
      generalize w.alloc (.cells #[.int .i64 1, .int .i64 xp, .string xf, .string xt, .int .i64 xn, .slice A L.length c] 33) = w1 at *
      go_loopw [4, 23] (fun s i wr => ∃ (k sum : Nat), i = .int .i64 (k : Int) ∧ s = .int .i64 (sum : Int) ∧ k ≤ L.length ∧ sum ≤ 4096 ∧ Hid (sumL L 0 = sumL (L.drop k) sum) ∧ Hid (Below w1.heap.size w1 wr)) (fun _ i _ => L.length - (RowKit.intOf i).toNat)
      case atStart => exact ⟨0, 0, rfl, rfl, Nat.zero_le _, by omega, Lib.hid rfl, Lib.hid (Below.refl _ _)⟩
      case round =>
        obtain ⟨k, sum, rfl, rfl, hk, ht, HI, HB⟩ := hrel
        by_cases hlt : k < L.length
        · have hlt' : (k : Int) < (L.length : Int) := by omega
          have hbs := HB.out.size
          obtain ⟨g, off, A', c', rfl, hg, h6, hch⟩ := (HN.out.kept (HB.out.mono (by omega))).at_ hlt
          have hst : sumL (L.drop k) sum = if (cnt L[k]).2 = false ∨ 4096 < sum + (cnt L[k]).1 then (0, false) else sumL (L.drop (k + 1)) (sum + (cnt L[k]).1) := by
            rw [List.drop_eq_getElem_cons hlt, sumL]
          have hcl := cnt_le L[k]
          have HCx := Lib.hid (HC.out L[k] (List.getElem_mem hlt))
          have hfx := HF.out L[k] (List.getElem_mem hlt)
          generalize L[k] = x at *
          have hb2 : Below wr.heap.size wr (wr.alloc (.cells #[.int .i64 x.k, .int .i64 x.p, .string x.f, .string x.t, .int .i64 x.n, .slice A' x.l.length c'] 33)) := (Below.refl _ _).alloc (Nat.le_refl _) _
          have HK := Lib.hid (HCx.out A' c' (wr.alloc (.cells #[.int .i64 x.k, .int .i64 x.p, .string x.f, .string x.t, .int .i64 x.n, .slice A' x.l.length c'] 33)) B (hch.kept (hb2.mono (by omega))) (by simp; omega) hfx)
          have HB2 := Lib.hid (HB.out.trans (hb2.mono hbs))
          obtain ⟨c0, c1, c2, c3, c4, c5⟩ := h6
          have Hst := Lib.hid hst
          clear hst HCx hch hb2
          generalize x.l.length = yl at *
          generalize x.k = yk at *
          generalize x.p = yp at *
          generalize x.f = yf at *
          generalize x.t = yt at *
          generalize x.n = yn at *
          cases h2 : (cnt x).2 with
          | false =>
            have HE : Hid (sumL L 0 = (0, false)) := Lib.hid (by rw [HI.out, Hst.out, if_pos (.inl h2)])
            rw [h2] at HK
            generalize (cnt x).1 = q at *
            go_wp2_with (first
              | (go_at_call 33; refine HK.out.mono ?_; rintro e w3 ⟨rfl, hb3⟩; have HB3 := Lib.hid hb3; clear hb3)
              | fail)
            go_ret2
            refine ⟨by rw [HE.out]; rfl, HB1.out.trans ((HB2.out.trans (HB3.out.mono (by have := HB2.out.size; omega))).mono (by omega))⟩
          | true =>
            rw [h2] at HK
            by_cases h4 : 4096 < sum + (cnt x).1
            · have HE : Hid (sumL L 0 = (0, false)) := Lib.hid (by rw [HI.out, Hst.out, if_pos (.inr h4)])
              have h4' : (4096 : Int) < (sum : Int) + ((cnt x).1 : Int) := by omega
              generalize (cnt x).1 = q at *
              go_wp2_with (first
                | (go_at_call 33; refine HK.out.mono ?_; rintro e w3 ⟨rfl, hb3⟩; have HB3 := Lib.hid hb3; clear hb3)
                | fail)
              go_ret2
              refine ⟨by rw [HE.out]; rfl, HB1.out.trans ((HB2.out.trans (HB3.out.mono (by have := HB2.out.size; omega))).mono (by omega))⟩
            · have HE : Hid (sumL L 0 = sumL (L.drop (k + 1)) (sum + (cnt x).1)) := Lib.hid (by rw [HI.out, Hst.out, if_neg (by rw [h2]; intro h; exact h.elim (fun h => by cases h) h4)])
              have h4' : ¬ (4096 : Int) < (sum : Int) + ((cnt x).1 : Int) := by omega
              generalize (cnt x).1 = q at *
              go_wp2_with (first
                | (go_at_call 33; refine HK.out.mono ?_; rintro e w3 ⟨rfl, hb3⟩; have HB3 := Lib.hid hb3; clear hb3)
                | fail)
              go_roundw
              case rel => exact ⟨k + 1, sum + q, by go_num, by congr 1, by omega, by omega, HE, Lib.hid (HB2.out.trans (HB3.out.mono (by have := HB2.out.size; omega)))⟩
              case measure => simp [RowKit.intOf]; omega
        · have hlt' : ¬ (k : Int) < (L.length : Int) := by omega
          have HE : Hid (sumL L 0 = (sum, true)) := Lib.hid (by rw [HI.out, List.drop_eq_nil_of_le (by omega), sumL])
          go_wp2
          go_ret2
          exact ⟨by rw [HE.out]; rfl, HB1.out.trans (HB.out.mono (by omega))⟩
    · have HE := Lib.hid (cnt_2 x h0 h1)
      rw [HE.out]
      have b0 : (x.k == 0) = false := by rw [beq_eq_false_iff_ne]; exact h0
      have b1 : (x.k == 1) = false := by rw [beq_eq_false_iff_ne]; exact h1
      clear HP HC HF HN HE
      generalize x.l.length = xl at *
      generalize x.k = xk at *
      generalize x.p = xp at *
      generalize x.f = xf at *
      generalize x.t = xt at *
      generalize x.n = xn at *
      go_enter Tryz.func33, Tryz.ntmps33
      go_wp2
      go_ret2
      exact ⟨rfl, HB1.out⟩
theorem Few.len {x : Rl} (h : Few x) : x.l.length ≤ 1000000 := by cases h; assumption
theorem Few.kid {x : Rl} (h : Few x) {y : Rl} (hy : y ∈ x.l) : Few y := by cases h with | mk _ _ hk => exact hk y hy
theorem count_fuel (N : Nat) : (∀ x, SizeOf.sizeOf x ≤ N → Few x → CntSaid x) ∧ (∀ l : List Rl, SizeOf.sizeOf l ≤ N → (∀ x ∈ l, Few x) → ProdSaid l) := by
  induction N with
  | zero =>
    refine ⟨fun x h => ?_, fun l h => ?_⟩
    · obtain ⟨k, p, f, t, n, l⟩ := x
      simp at h
    · cases l <;> simp at h
  | succ N ih =>
    have hp : ∀ l : List Rl, SizeOf.sizeOf l ≤ N + 1 → (∀ x ∈ l, Few x) → ProdSaid l := fun l hl hF =>
      product_step l (fun x hx => ih.1 x (by have := List.sizeOf_lt_of_mem hx; omega) (hF x hx)) (fun x hx => (hF x hx).len)
    refine ⟨fun x hx hF => ?_, hp⟩
    exact count_step x (ih.2 x.l (by have := x.lt_l; omega) (fun y hy => hF.kid hy)) (fun y hy => ih.1 y (by have := Rl.lt_mem hy; omega) (hF.kid hy)) (fun y hy => (hF.kid hy).len)
theorem count_any (x : Rl) (hF : Few x) : CntSaid x := (count_fuel _).1 x (Nat.le_refl _) hF
end Go.Proofs.YtbkffdfboloogaaGreatDoor
namespace Go.Proofs.YtbkffdfboloogaaGreatDoor
set_option linter.unusedVariables false

mutual
/-- the cases of a rule, as lists of atoms -/
def casesR : Rl → List (List Rl)
  | ⟨k, p, f, t, n, l⟩ => if atomB k = true then [[⟨k, p, f, t, n, l⟩]] else if k = 1 then anyR l else if k = 0 then allR l [[]] else [[]]
def anyR : List Rl → List (List Rl)
  | [] => []
  | x :: l => casesR x ++ anyR l
def allR : List Rl → List (List Rl) → List (List Rl)
  | [], a => a
  | x :: l, a => allR l (a.flatMap fun p => (casesR x).map fun q => p ++ q)
end
mutual
/-- how many rules there are in a rule -/
def nsz : Rl → Nat
  | ⟨k, p, f, t, n, l⟩ => 1 + nszL l
def nszL : List Rl → Nat
  | [] => 0
  | x :: l => nsz x + nszL l
end
theorem cases_a (x : Rl) (h : atomB x.k = true) : casesR x = [[x]] := by
  obtain ⟨k, p, f, t, n, l⟩ := x
  have h' : atomB k = true := h
  rw [casesR, if_pos h']
theorem cases_1 (x : Rl) (h : x.k = 1) : casesR x = anyR x.l := by
  obtain ⟨k, p, f, t, n, l⟩ := x
  have h' : k = 1 := h
  subst h'
  rw [casesR, if_neg (by decide), if_pos rfl]
  rfl
theorem cases_0 (x : Rl) (h : x.k = 0) : casesR x = allR x.l [[]] := by
  obtain ⟨k, p, f, t, n, l⟩ := x
  have h' : k = 0 := h
  subst h'
  rw [casesR, if_neg (by decide), if_neg (by decide), if_pos rfl]
  rfl
theorem cases_2 (x : Rl) (ha : atomB x.k = false) (h0 : x.k ≠ 0) (h1 : x.k ≠ 1) : casesR x = [[]] := by
  obtain ⟨k, p, f, t, n, l⟩ := x
  have ha' : ¬ atomB k = true := by rw [show atomB k = false from ha]; simp
  have h0' : ¬ k = 0 := h0
  have h1' : ¬ k = 1 := h1
  rw [casesR, if_neg ha', if_neg h1', if_neg h0']
theorem nsz_l (x : Rl) : nsz x = 1 + nszL x.l := by
  obtain ⟨k, p, f, t, n, l⟩ := x
  rw [nsz]
  rfl
/-- the product of the counts -/
def proR : List Rl → Nat
  | [] => 1
  | x :: l => (casesR x).length * proR l
theorem any_len (l : List Rl) : ∀ s, (sumL l s).2 = true → (∀ x ∈ l, (cnt x).2 = true → (casesR x).length = (cnt x).1) → (sumL l s).1 = s + (anyR l).length ∧ ∀ x ∈ l, (cnt x).2 = true := by
  induction l with
  | nil => intro s _ _; rw [sumL, anyR]; simp
  | cons x l ih =>
    intro s h hc
    rw [sumL] at h ⊢
    split at h
    · simp at h
    · rename_i hn
      rw [if_neg hn]
      have hx : (cnt x).2 = true := by
        cases e : (cnt x).2
        · exact absurd (.inl e) hn
        · rfl
      obtain ⟨h1, h2⟩ := ih _ h (fun y hy => hc y (by simp [hy]))
      refine ⟨?_, ?_⟩
      · rw [h1, anyR, List.length_append, hc x (by simp) hx]; omega
      · intro y hy
        rcases List.mem_cons.1 hy with rfl | hy
        · exact hx
        · exact h2 y hy
theorem all_len (l : List Rl) : ∀ a, (allR l a).length = a.length * proR l := by
  induction l with
  | nil => intro a; rw [allR, proR]; simp
  | cons x l ih =>
    intro a
    rw [allR, proR, ih]
    have : (a.flatMap fun p => (casesR x).map fun q => p ++ q).length = a.length * (casesR x).length := by
      induction a with
      | nil => simp
      | cons p a iha => rw [List.flatMap_cons, List.length_append, iha, List.length_map, List.length_cons, Nat.succ_mul]; omega
    rw [this, Nat.mul_assoc]
theorem prod_len (l : List Rl) : ∀ times z, (prodL l times z).2 = true → times ≤ 4097 → (∀ x ∈ l, (cnt x).2 = true → (casesR x).length = (cnt x).1) →
    (((prodL l times z).1 = 0 ∧ (z = true ∨ proR l = 0)) ∨ (z = false ∧ (prodL l times z).1 = times * proR l ∧ times * proR l ≤ 4096)) ∧ ∀ x ∈ l, (cnt x).2 = true := by
  induction l with
  | nil =>
    intro times z h ht _
    rw [prodL] at h ⊢
    cases z with
    | true => simp
    | false => simp at h ⊢; right; rw [proR]; omega
  | cons x l ih =>
    intro times z h ht hc
    rw [prodL] at h ⊢
    split at h
    · simp at h
    · rename_i hn
      have hx : (cnt x).2 = true := by simpa using hn
      have hcx := hc x (by simp) hx
      have hc' : ∀ y ∈ l, (cnt y).2 = true → (casesR y).length = (cnt y).1 := fun y hy => hc y (by simp [hy])
      have hall : ∀ hl : (∀ y ∈ l, (cnt y).2 = true), ∀ y ∈ x :: l, (cnt y).2 = true := fun hl y hy => by
        rcases List.mem_cons.1 hy with rfl | hy
        · exact hx
        · exact hl y hy
      rw [if_neg hn]
      split at h
      · rename_i h0
        rw [if_pos h0]
        obtain ⟨h1, h2⟩ := ih _ _ h ht hc'
        refine ⟨.inl ⟨?_, .inr (by rw [proR, hcx, h0, Nat.zero_mul])⟩, hall h2⟩
        rcases h1 with h1 | h1
        · exact h1.1
        · simp at h1
      · rename_i h0
        rw [if_neg h0]
        obtain ⟨h1, h2⟩ := ih _ _ h (by omega) hc'
        refine ⟨?_, hall h2⟩
        rcases h1 with ⟨h1, h3⟩ | ⟨h1, h3, h4⟩
        · refine .inl ⟨h1, ?_⟩
          rcases h3 with h3 | h3
          · exact .inl h3
          · exact .inr (by rw [proR, h3, Nat.mul_zero])
        · by_cases hb : times * (cnt x).1 ≤ 4097
          · rw [Nat.min_eq_left hb] at h3 h4 ⊢
            refine .inr ⟨h1, ?_, ?_⟩
            · rw [h3, proR, hcx, Nat.mul_assoc]
            · rw [proR, hcx, ← Nat.mul_assoc]; exact h4
          · rw [Nat.min_eq_right (by omega)] at h3 h4 ⊢
            have hp : proR l = 0 := by
              cases e : proR l with
              | zero => rfl
              | succ m => rw [e] at h4; omega
            refine .inl ⟨by rw [h3, hp], .inr (by rw [proR, hp, Nat.mul_zero])⟩
theorem cases_len (N : Nat) : ∀ x, SizeOf.sizeOf x ≤ N → (cnt x).2 = true → (casesR x).length = (cnt x).1 := by
  induction N with
  | zero =>
    intro x h
    obtain ⟨k, p, f, t, n, l⟩ := x
    simp at h
  | succ N ih =>
    intro x hN h
    have hk : ∀ y ∈ x.l, (cnt y).2 = true → (casesR y).length = (cnt y).1 := fun y hy => ih y (by have := Rl.lt_mem hy; omega)
    by_cases h0 : x.k = 0
    · rw [cnt_0 x h0] at h ⊢
      rw [cases_0 x h0, all_len]
      obtain ⟨h1, _⟩ := prod_len x.l 1 false h (by omega) hk
      rcases h1 with ⟨h1, h2⟩ | ⟨_, h1, _⟩
      · rcases h2 with h2 | h2
        · simp at h2
        · rw [h1, h2, Nat.mul_zero]
      · rw [h1]; simp
    · by_cases h1 : x.k = 1
      · rw [cnt_1 x h1] at h ⊢
        rw [cases_1 x h1, (any_len x.l 0 h hk).1]
        omega
      · rw [cnt_2 x h0 h1]
        cases ha : atomB x.k with
        | true => rw [cases_a x ha]; rfl
        | false => rw [cases_2 x ha h0 h1]; rfl
theorem casesR_len (x : Rl) (h : (cnt x).2 = true) : (casesR x).length = (cnt x).1 := cases_len _ x (Nat.le_refl _) h
/-- no case is longer than the rule -/
theorem cases_short (N : Nat) : ∀ x, SizeOf.sizeOf x ≤ N → ∀ l ∈ casesR x, l.length ≤ nsz x := by
  induction N with
  | zero =>
    intro x h
    obtain ⟨k, p, f, t, n, l⟩ := x
    simp at h
  | succ N ih =>
    intro x hN
    have hk : ∀ y ∈ x.l, ∀ l ∈ casesR y, l.length ≤ nsz y := fun y hy => ih y (by have := Rl.lt_mem hy; omega)
    have hany : ∀ ys : List Rl, (∀ y ∈ ys, ∀ l ∈ casesR y, l.length ≤ nsz y) → ∀ l ∈ anyR ys, l.length ≤ nszL ys := by
      intro ys
      induction ys with
      | nil => intro _ l hl; rw [anyR] at hl; cases hl
      | cons y ys iy =>
        intro h l hl
        rw [anyR, List.mem_append] at hl
        rw [nszL]
        rcases hl with hl | hl
        · have := h y (by simp) l hl; omega
        · have := iy (fun z hz => h z (by simp [hz])) l hl; omega
    have hall : ∀ (ys : List Rl) (a : List (List Rl)) (b : Nat), (∀ y ∈ ys, ∀ l ∈ casesR y, l.length ≤ nsz y) → (∀ l ∈ a, l.length ≤ b) → ∀ l ∈ allR ys a, l.length ≤ b + nszL ys := by
      intro ys
      induction ys with
      | nil => intro a b _ ha l hl; rw [allR] at hl; rw [nszL]; exact ha l hl
      | cons y ys iy =>
        intro a b h ha l hl
        rw [allR] at hl
        rw [nszL]
        have := iy _ (b + nsz y) (fun z hz => h z (by simp [hz])) (fun l hl => by
          obtain ⟨p, hp, hl⟩ := List.mem_flatMap.1 hl
          obtain ⟨q, hq, rfl⟩ := List.mem_map.1 hl
          have h1 := ha p hp
          have h2 := h y (by simp) q hq
          rw [List.length_append]; omega) l hl
        omega
    intro l hl
    rw [nsz_l]
    by_cases h0 : x.k = 0
    · rw [cases_0 x h0] at hl
      have := hall x.l [[]] 0 hk (by simp) l hl
      omega
    · by_cases h1 : x.k = 1
      · rw [cases_1 x h1] at hl
        have := hany x.l hk l hl
        omega
      · cases ha : atomB x.k with
        | true => rw [cases_a x ha] at hl; simp at hl; subst hl; simp
        | false => rw [cases_2 x ha h0 h1] at hl; simp at hl; subst hl; simp
theorem casesR_short (x : Rl) : ∀ l ∈ casesR x, l.length ≤ nsz x := cases_short _ x (Nat.le_refl _)
end Go.Proofs.YtbkffdfboloogaaGreatDoor
namespace Go.Proofs.YtbkffdfboloogaaGreatDoor
open Go.RowKit Go.Maps Go.Lib
set_option linter.unusedVariables false
set_option maxRecDepth 100000

def fl0 : List ByteArray := [⟨#[115, 101, 108, 108, 101, 114]⟩, ⟨#[98, 117, 121, 101, 114]⟩, ⟨#[99, 117, 114, 114, 101, 110, 99, 121]⟩, ⟨#[115, 117, 109]⟩, ⟨#[102, 114, 111, 109]⟩, ⟨#[116, 111]⟩, ⟨#[98, 111, 120, 101, 115]⟩, ⟨#[116, 101, 114, 109]⟩]
def fl1 : List ByteArray := [⟨#[115, 101, 108, 108, 101, 114]⟩, ⟨#[102, 114, 111, 109]⟩, ⟨#[116, 111]⟩, ⟨#[98, 111, 120, 101, 115]⟩, ⟨#[109, 97, 114, 107, 115]⟩, ⟨#[99, 111, 110, 116, 101, 110, 116]⟩]
def fl2 : List ByteArray := [⟨#[99, 97, 114, 114, 105, 101, 114]⟩, ⟨#[115, 104, 105, 112, 112, 101, 114]⟩, ⟨#[102, 114, 111, 109]⟩, ⟨#[116, 111]⟩, ⟨#[98, 111, 120, 101, 115]⟩, ⟨#[109, 97, 114, 107, 115]⟩, ⟨#[105, 115, 115, 117, 101, 100]⟩, ⟨#[99, 108, 101, 97, 110]⟩, ⟨#[112, 97, 114, 101, 110, 116, 115]⟩]
def fl3 : List ByteArray := [⟨#[115, 101, 108, 108, 101, 114]⟩, ⟨#[102, 114, 111, 109]⟩, ⟨#[116, 111]⟩, ⟨#[99, 117, 114, 114, 101, 110, 99, 121]⟩, ⟨#[115, 117, 109]⟩]
def fl4 : List ByteArray := [⟨#[115, 101, 108, 108, 101, 114]⟩, ⟨#[99, 111, 117, 110, 116, 114, 121]⟩, ⟨#[98, 111, 120, 101, 115]⟩]
def fl5 : List ByteArray := [⟨#[100, 114, 97, 119, 101, 114]⟩, ⟨#[100, 114, 97, 119, 101, 101]⟩, ⟨#[112, 97, 121, 101, 101]⟩, ⟨#[99, 117, 114, 114, 101, 110, 99, 121]⟩, ⟨#[115, 117, 109]⟩]
def fieldsL (k : Int) : List ByteArray := if k = 0 then fl0 else if k = 1 then fl1 else if k = 2 then fl2 else if k = 3 then fl3 else if k = 4 then fl4 else if k = 5 then fl5 else []
theorem fieldsL_0 : fieldsL 0 = fl0 := by rfl
theorem fieldsL_1 : fieldsL 1 = fl1 := by rfl
theorem fieldsL_2 : fieldsL 2 = fl2 := by rfl
theorem fieldsL_3 : fieldsL 3 = fl3 := by rfl
theorem fieldsL_4 : fieldsL 4 = fl4 := by rfl
theorem fieldsL_5 : fieldsL 5 = fl5 := by rfl
theorem rs_new (W : World) (L : List ByteArray) (t : TypeId) : Rs (W.alloc (.cells (L.map Value.string).toArray t)) (W.heap.size + 1) (some ⟨W.heap.size, 0, none⟩) L := fun _ =>
  ⟨W.heap.size, 0, rfl, by omega, fun i x hx => by
    have h := (MapKept.heap_alloc W (.cells (L.map Value.string).toArray t)).1
    unfold World.cell?
    rw [h]
    simp [hx]⟩
def FieldsSaid (f : FuncId) : Prop := ∀ (k : Int) (w : World), Calls Tryz.prog f #[.int .i64 k] w fun e w' => ∃ A c, e = .returned (.slice A (fieldsL k).length c) ∧ Rs w' w'.heap.size A (fieldsL k) ∧ Below w.heap.size w w'
theorem fields_done {w : World} {k : Int} {L : List ByteArray} (n : Nat) (hn : L.length = n) (hk : fieldsL k = L) : ∃ A c, (Ending.returned (.slice (some ⟨w.heap.size, 0, none⟩) n n) : Ending) = .returned (.slice A (fieldsL k).length c) ∧ Rs (w.alloc (.cells (L.map Value.string).toArray 9)) (w.alloc (.cells (L.map Value.string).toArray 9)).heap.size A (fieldsL k) ∧ Below w.heap.size w (w.alloc (.cells (L.map Value.string).toArray 9)) :=
  ⟨_, n, by rw [hk, hn], by rw [hk]; simpa using rs_new w L 9, (Below.refl _ w).alloc (Nat.le_refl _) _⟩

set_option maxHeartbeats 1000000 in
theorem fields_any : FieldsSaid 71 := by
  intro k w
  by_cases h0 : k = 0
  · subst h0
    go_enter Tryz.func71, Tryz.ntmps71
    go_wp2
    go_ret
    exact fields_done 8 rfl fieldsL_0
  have b0 : (k == 0) = false := by rw [beq_eq_false_iff_ne]; exact h0
  by_cases h1 : k = 1
  · subst h1
    go_enter Tryz.func71, Tryz.ntmps71
    go_wp2
    go_ret
    exact fields_done 6 rfl fieldsL_1
  have b1 : (k == 1) = false := by rw [beq_eq_false_iff_ne]; exact h1
  by_cases h2 : k = 2
  · subst h2
    go_enter Tryz.func71, Tryz.ntmps71
    go_wp2
    go_ret
    exact fields_done 9 rfl fieldsL_2
  have b2 : (k == 2) = false := by rw [beq_eq_false_iff_ne]; exact h2
  by_cases h3 : k = 3
  · subst h3
    go_enter Tryz.func71, Tryz.ntmps71
    go_wp2
    go_ret
    exact fields_done 5 rfl fieldsL_3
  have b3 : (k == 3) = false := by rw [beq_eq_false_iff_ne]; exact h3
  by_cases h4 : k = 4
  · subst h4
    go_enter Tryz.func71, Tryz.ntmps71
    go_wp2
    go_ret
    exact fields_done 3 rfl fieldsL_4
  have b4 : (k == 4) = false := by rw [beq_eq_false_iff_ne]; exact h4
  by_cases h5 : k = 5
  · subst h5
    go_enter Tryz.func71, Tryz.ntmps71
    go_wp2
    go_ret
    exact fields_done 5 rfl fieldsL_5
  have b5 : (k == 5) = false := by rw [beq_eq_false_iff_ne]; exact h5
  have hk : fieldsL k = [] := by simp [fieldsL, h0, h1, h2, h3, h4, h5]
  go_enter Tryz.func71, Tryz.ntmps71
  go_wp2
  go_ret
  exact ⟨none, 0, by rw [hk]; rfl, by rw [hk]; intro h; simp at h, Below.refl _ _⟩
set_option maxHeartbeats 1000000 in
theorem refFields_any : FieldsSaid 49 := by
  intro k w
  by_cases h0 : k = 0
  · subst h0
    go_enter Tryz.func49, Tryz.ntmps49
    go_wp2
    go_ret
    exact fields_done 8 rfl fieldsL_0
  have b0 : (k == 0) = false := by rw [beq_eq_false_iff_ne]; exact h0
  by_cases h1 : k = 1
  · subst h1
    go_enter Tryz.func49, Tryz.ntmps49
    go_wp2
    go_ret
    exact fields_done 6 rfl fieldsL_1
  have b1 : (k == 1) = false := by rw [beq_eq_false_iff_ne]; exact h1
  by_cases h2 : k = 2
  · subst h2
    go_enter Tryz.func49, Tryz.ntmps49
    go_wp2
    go_ret
    exact fields_done 9 rfl fieldsL_2
  have b2 : (k == 2) = false := by rw [beq_eq_false_iff_ne]; exact h2
  by_cases h3 : k = 3
  · subst h3
    go_enter Tryz.func49, Tryz.ntmps49
    go_wp2
    go_ret
    exact fields_done 5 rfl fieldsL_3
  have b3 : (k == 3) = false := by rw [beq_eq_false_iff_ne]; exact h3
  by_cases h4 : k = 4
  · subst h4
    go_enter Tryz.func49, Tryz.ntmps49
    go_wp2
    go_ret
    exact fields_done 3 rfl fieldsL_4
  have b4 : (k == 4) = false := by rw [beq_eq_false_iff_ne]; exact h4
  by_cases h5 : k = 5
  · subst h5
    go_enter Tryz.func49, Tryz.ntmps49
    go_wp2
    go_ret
    exact fields_done 5 rfl fieldsL_5
  have b5 : (k == 5) = false := by rw [beq_eq_false_iff_ne]; exact h5
  have hk : fieldsL k = [] := by simp [fieldsL, h0, h1, h2, h3, h4, h5]
  go_enter Tryz.func49, Tryz.ntmps49
  go_wp2
  go_ret
  exact ⟨none, 0, by rw [hk]; rfl, by rw [hk]; intro h; simp at h, Below.refl _ _⟩
end Go.Proofs.YtbkffdfboloogaaGreatDoor
