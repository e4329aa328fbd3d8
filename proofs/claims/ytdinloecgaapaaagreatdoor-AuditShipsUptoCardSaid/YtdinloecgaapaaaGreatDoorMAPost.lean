/- Ledger.Post, of entries that are in order. A post of two entries, of one currency, that sum to nothing. Names and currencies that the laws use; two entries in memory; blocks that are none of a ledger's. -/
import Derived.Test.YtdinloecgaapaaaGreatDoorMHOpen
namespace Go.Proofs.YtdinloecgaapaaaGreatDoor
open Go.RowKit Go.Maps Go.Lib
set_option linter.unusedVariables false
set_option maxRecDepth 100000

/-- entries that a ledger takes -/
structure Fits (G : Nt → Option Ac) (es : List Ent) : Prop where
  one : 0 < es.length
  few : es.length ≤ 64
  fine : ∀ e ∈ es, e.Fine
  there : ∀ e ∈ es, ∃ a, G e.key = some a
  even : ∀ cu v, sumG es cu = some v → v = 0
  bears : ∀ x v, eachG es x = some v → ∃ a, G x = some a ∧ Bears a v

set_option maxHeartbeats 2000000 in
theorem post_ok (txt : ByteArray) (A : Option Addr) (c : Nat) (es : List Ent) (w : World) (base p b n : Nat) (G : Nt → Option Ac) (pv hv : Value) (L : List Pl) (hD : Led w base p b n G pv hv L) (hR : Re w w.heap.size A es) (hFits : Fits G es) (hn : n + 64 < 4000000) (hLn : L.length < 4096) (ht : txt.size ≤ 4096) :
    Calls Tryz.prog 46 #[.pointer (some ⟨p, 0, none⟩), .string txt, .slice A es.length c] w fun e w' => e = .returned (.tuple #[.int .i64 ((L.length : Int) + 1), .int .i64 0]) ∧
      ∃ pv' A' c' n', n' ≤ n + es.length ∧ Led w' base p b n' (bump G (eachG es)) pv' hv (L ++ [⟨⟨(L.length : Int) + 1, txt, es⟩, A', c'⟩]) ∧ Kp (own3 p b pv) w w' := by
  have HD := Lib.hid hD
  have HR := Lib.hid hR
  have HF := Lib.hid hFits
  have h0 := hFits.one
  have h64 := hFits.few
  have c1 := hD.lg.c1
  obtain ⟨Ap, cp, hpv⟩ := hD.form
  have hpv' := hpv
  subst hpv'
  clear hpv hD hR hFits
  have q1 : decide ((4096 : Int) < (txt.size : Int)) = false := by simp; omega
  have q2 : ((es.length : Int) == 0) = false := by simp; intro e; rw [e] at h0; exact absurd h0 (by decide)
  have q3 : decide ((64 : Int) < (es.length : Int)) = false := by simp; omega
  have q4 : decide ((4096 : Int) ≤ (L.length : Int)) = false := by simp; omega
  have q5 : decide ((es.length : Int) = 0) = false := by simp; intro e; rw [e] at h0; exact absurd h0 (by decide)
  have q6 : ¬ ((es.length : Int) = 0) := by omega
  have q7 : ¬ (es.length = 0) := by omega
  have q8 : ¬ (es = []) := by rintro rfl; exact absurd h0 (by decide)
  go_enter Tryz.func46, Tryz.ntmps46
  go_wp2_with fail
  refine (refused_ok A c es w p b n G _ hv HD.out.lg HR.out h64 HF.out.fine HF.out.there HF.out.even HF.out.bears).mono ?_
  rintro e w1 ⟨rfl, hb1⟩
  have HK1 := Lib.hid (Kp.of_below (fun _ => False) hb1)
  have HD1 := Lib.hid (HD.out.kp HK1.out (fun _ _ _ e => e))
  have HR1 := Lib.hid (HR.out.kp HK1.out (fun _ _ e => e))
  clear hb1 HD HR
  go_wp2_with fail
  refine (enter_ok txt A c es w1 base p b n G _ hv L HD1.out HR1.out h0 h64 HF.out.fine hn (by omega) HF.out.bears).mono ?_
  rintro e w2 ⟨rfl, pv', A', c', n', hn', hD2, hk2⟩
  have HD2 := Lib.hid hD2
  have HK2 := Lib.hid hk2
  clear hD2 hk2
  go_wp2
  go_ret2
  exact ⟨rfl, pv', A', c', n', hn', HD2.out, (HK1.out.mono (fun _ _ e => e.elim)).trans HK2.out⟩
end Go.Proofs.YtdinloecgaapaaaGreatDoor
namespace Go.Proofs.YtdinloecgaapaaaGreatDoor
open Go.RowKit Go.Maps Go.Lib
set_option linter.unusedVariables false
set_option maxRecDepth 100000

def two (a1 a2 c : ByteArray) (n m : Int) : List Ent := [⟨a1, c, n⟩, ⟨a2, c, m⟩]
section
variable {a1 a2 c : ByteArray} {n m : Int}
theorem eachG_two (hne : a1 ≠ a2) : eachG (two a1 a2 c n m) = putG (putG (fun _ => none) (a1, c) n) (a2, c) m := by
  have h : ((a2, c) : Nt) ≠ (a1, c) := fun e => hne (by injection e with e _; exact e.symm)
  show putG (putG (fun _ => none) (a1, c) (0 + n)) (a2, c) ((putG (fun _ => none) (a1, c) (0 + n) (a2, c)).getD 0 + m) = _
  rw [putG_other _ _ h, Int.zero_add]
  simp
theorem sumG_two : sumG (two a1 a2 c n m) = putG (putG (fun _ => none) c n) c (n + m) := by
  show putG (putG (fun _ => none) c (0 + n)) c ((putG (fun _ => none) c (0 + n) c).getD 0 + m) = _
  rw [putG_same, Int.zero_add]
  simp
theorem eachG_two_val (hne : a1 ≠ a2) {y : Nt} {v : Int} (h : eachG (two a1 a2 c n m) y = some v) : (y = (a1, c) ∧ v = n) ∨ (y = (a2, c) ∧ v = m) := by
  rw [eachG_two hne] at h
  by_cases h2 : y = (a2, c)
  · subst h2
    rw [putG_same] at h
    exact .inr ⟨rfl, by injection h with h; exact h.symm⟩
  · rw [putG_other _ _ h2] at h
    by_cases h1 : y = (a1, c)
    · subst h1
      rw [putG_same] at h
      exact .inl ⟨rfl, by injection h with h; exact h.symm⟩
    · rw [putG_other _ _ h1] at h
      cases h
structure Can (G : Nt → Option Ac) (a c : ByteArray) (v : Int) : Prop where
  small : a.size ≤ 100
  cur : c.size ≤ 100
  lo : -1048576 ≤ v
  hi : v ≤ 1048576
  has : ∃ f bal, G (a, c) = some ⟨f, bal, 0⟩ ∧ -1099511627776 ≤ f ∧ f ≤ 0 ∧ -1073741824 ≤ bal ∧ bal ≤ 1073741824 ∧ (v < 0 → -v ≤ bal - f)
theorem Can.bears {G : Nt → Option Ac} {a c : ByteArray} {v : Int} (h : Can G a c v) : ∃ x, G (a, c) = some x ∧ Bears x v := by
  obtain ⟨f, bal, hG, f0, f1, b0, b1, hlow⟩ := h.has
  have := h.lo
  have := h.hi
  exact ⟨_, hG, ⟨⟨by simp only; omega, by simp only; omega, by simp only; omega, by simp only; omega, by simp only; omega, by simp only; omega⟩, by simp only; omega, by omega, by simp only; omega⟩⟩
theorem fits_two {G : Nt → Option Ac} (hne : a1 ≠ a2) (hnm : n + m = 0) (h1 : Can G a1 c n) (h2 : Can G a2 c m) : Fits G (two a1 a2 c n m) := by
  refine ⟨by simp [two], by simp [two], ?_, ?_, ?_, ?_⟩
  · intro e he
    have m100 : 100 ≤ maxLen := by decide
    simp [two] at he
    rcases he with rfl | rfl
    · exact ⟨Nat.le_trans h1.small m100, Nat.le_trans h1.cur m100, by have := h1.lo; simp only; omega, by have := h1.hi; simp only; omega⟩
    · exact ⟨Nat.le_trans h2.small m100, Nat.le_trans h2.cur m100, by have := h2.lo; simp only; omega, by have := h2.hi; simp only; omega⟩
  · intro e he
    simp [two] at he
    rcases he with rfl | rfl
    · obtain ⟨x, hx, _⟩ := h1.bears; exact ⟨x, hx⟩
    · obtain ⟨x, hx, _⟩ := h2.bears; exact ⟨x, hx⟩
  · intro cu v h
    rw [sumG_two] at h
    by_cases hc : cu = c
    · subst hc
      rw [putG_same] at h
      injection h with h
      omega
    · rw [putG_other _ _ hc, putG_other _ _ hc] at h
      cases h
  · intro y v h
    rcases eachG_two_val hne h with ⟨rfl, rfl⟩ | ⟨rfl, rfl⟩
    · exact h1.bears
    · exact h2.bears
theorem bump_first {G : Nt → Option Ac} (hne : a1 ≠ a2) : bump G (eachG (two a1 a2 c n m)) (a1, c) = (G (a1, c)).map fun a => a.plus n := by
  have h : ((a1, c) : Nt) ≠ (a2, c) := fun e => hne (by injection e)
  unfold bump
  rw [eachG_two hne, putG_other _ _ h, putG_same]
theorem bump_second {G : Nt → Option Ac} (hne : a1 ≠ a2) : bump G (eachG (two a1 a2 c n m)) (a2, c) = (G (a2, c)).map fun a => a.plus m := by
  unfold bump
  rw [eachG_two hne, putG_same]
theorem bump_rest {G : Nt → Option Ac} (hne : a1 ≠ a2) {y : Nt} (h1 : y ≠ (a1, c)) (h2 : y ≠ (a2, c)) : bump G (eachG (two a1 a2 c n m)) y = G y := by
  unfold bump
  rw [eachG_two hne, putG_other _ _ h2, putG_other _ _ h1]
end

/-- the accounts of K stand between -k and k times 32768 -/
def Bal (G : Nt → Option Ac) (K : List Nt) (k : Nat) : Prop := ∀ y ∈ K, ∃ bal, G y = some ⟨-1099511627776, bal, 0⟩ ∧ -(32768 * (k : Int)) ≤ bal ∧ bal ≤ 32768 * (k : Int)
theorem Bal.can {G : Nt → Option Ac} {K : List Nt} {k : Nat} (h : Bal G K k) (hk : k ≤ 1000) {a c : ByteArray} (hm : (a, c) ∈ K) (ha : a.size ≤ 100) (hc : c.size ≤ 100) {v : Int} (h0 : -32768 ≤ v) (h1 : v ≤ 32768) : Can G a c v := by
  obtain ⟨bal, hG, b0, b1⟩ := h _ hm
  exact ⟨ha, hc, by omega, by omega, _, bal, hG, by omega, by omega, by omega, by omega, by omega⟩
theorem Bal.step {G : Nt → Option Ac} {K : List Nt} {k : Nat} (h : Bal G K k) {a1 a2 c : ByteArray} {n m : Int} (hne : a1 ≠ a2) (n0 : -32768 ≤ n) (n1 : n ≤ 32768) (m0 : -32768 ≤ m) (m1 : m ≤ 32768) : Bal (bump G (eachG (two a1 a2 c n m))) K (k + 1) := by
  intro y hy
  obtain ⟨bal, hG, b0, b1⟩ := h y hy
  by_cases h1 : y = (a1, c)
  · subst h1
    exact ⟨bal + n, by rw [bump_first hne, hG]; rfl, by push_cast; omega, by push_cast; omega⟩
  · by_cases h2 : y = (a2, c)
    · subst h2
      exact ⟨bal + m, by rw [bump_second hne, hG]; rfl, by push_cast; omega, by push_cast; omega⟩
    · exact ⟨bal, by rw [bump_rest hne h1 h2, hG], by push_cast; omega, by push_cast; omega⟩
/-- the accounts of K, newly opened -/
def openedG (f : Int) (K : List Nt) : Nt → Option Ac := fun y => if K.any (fun k => decide (k = y)) then some ⟨f, 0, 0⟩ else none
theorem openedG_snoc (f : Int) (K : List Nt) (k : Nt) : putG (openedG f K) k ⟨f, 0, 0⟩ = openedG f (K ++ [k]) := by
  funext y
  by_cases h : y = k
  · subst h; rw [putG_same]; simp [openedG]
  · rw [putG_other _ _ h]
    have hk : decide (k = y) = false := by simp; exact fun e => h e.symm
    unfold openedG
    rw [List.any_append, List.any_cons, List.any_nil, hk, Bool.or_false, Bool.or_false]
theorem openedG_nil (f : Int) : openedG f [] = fun _ => none := by funext y; simp [openedG]
theorem openedG_none (f : Int) {K : List Nt} {y : Nt} (h : y ∉ K) : openedG f K y = none := by
  have : K.any (fun k => decide (k = y)) = false := by
    rw [List.any_eq_false]
    intro k hk
    simp
    rintro rfl
    exact h hk
  simp [openedG, this]
theorem openedG_bal (K : List Nt) : Bal (openedG (-1099511627776) K) K 0 := fun y hy => ⟨0, by
  have : K.any (fun k => decide (k = y)) = true := by
    rw [List.any_eq_true]
    exact ⟨y, hy, by simp⟩
  simp [openedG, this], by simp, by simp⟩
end Go.Proofs.YtdinloecgaapaaaGreatDoor
namespace Go.Proofs.YtdinloecgaapaaaGreatDoor
open Go.RowKit Go.Maps Go.Lib
set_option linter.unusedVariables false
set_option maxRecDepth 100000

def eurT : ByteArray := ⟨#[69, 85, 82]⟩
def usdT : ByteArray := ⟨#[85, 83, 68]⟩
def xT : ByteArray := ⟨#[120]⟩
theorem goodName_of (l : List UInt8) (h1 : 1 ≤ l.length) (h2 : l.length ≤ 32) (h : l.all (fun c => decide (goodC c)) = true) : GoodName ⟨l.toArray⟩ := by
  refine ⟨h1, h2, fun k hk => ?_⟩
  have hk' : k < l.length := hk
  have := List.all_eq_true.1 h l[k] (List.getElem_mem hk')
  exact of_decide_eq_true this
theorem goodCur_of (l : List UInt8) (h1 : l.length = 3) (h : l.all (fun c => decide (65 ≤ c.toNat ∧ c.toNat ≤ 90)) = true) : GoodCur ⟨l.toArray⟩ := by
  refine ⟨h1, fun k hk => ?_⟩
  have hk' : k < l.length := hk
  have := List.all_eq_true.1 h l[k] (List.getElem_mem hk')
  exact of_decide_eq_true this
theorem eur_good : GoodCur eurT := goodCur_of [69, 85, 82] rfl (by decide)
theorem usd_good : GoodCur usdT := goodCur_of [85, 83, 68] rfl (by decide)
theorem x_good : GoodName xT := goodName_of [120] (by decide) (by decide) (by decide)
theorem re_two {V : World} {a1 a2 c : ByteArray} {n m : Int} : Re (V.alloc (.cells #[.string a1, .string c, .int .i64 n, .string a2, .string c, .int .i64 m] 107)) (V.alloc (.cells #[.string a1, .string c, .int .i64 n, .string a2, .string c, .int .i64 m] 107)).heap.size (some ⟨V.heap.size, 0, none⟩) (two a1 a2 c n m) := fun _ => by
  refine ⟨V.heap.size, 0, rfl, by simp, fun i e he => ?_⟩
  rcases i with _ | _ | i
  · simp [two] at he; subst he; simp
  · simp [two] at he; subst he; simp
  · simp [two] at he

theorem Led.not_own {w : World} {base p b n : Nat} {G : Nt → Option Ac} {pv hv : Value} {L : List Pl} (h : Led w base p b n G pv hv L) {k : Nat} (hk : k < base ∨ w.heap.size ≤ k) : ¬ own3 p b pv k := by
  intro ho
  have hp := h.lg.plt
  have hb := h.lg.blt
  have := h.own_base k ho
  rcases ho with rfl | rfl | ho
  · omega
  · omega
  · have := (h.row.lt k ho.symm).2; omega
end Go.Proofs.YtdinloecgaapaaaGreatDoor
