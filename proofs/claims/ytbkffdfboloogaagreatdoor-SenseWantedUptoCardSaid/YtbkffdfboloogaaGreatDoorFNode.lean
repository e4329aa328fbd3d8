/- slices.IndexFunc and ContainsFunc over rules and over needs, of any function value. -/
import Derived.Test.YtbkffdfboloogaaGreatDoorMC
import Derived.Shelf.Abstract
import Derived.BigQuiet
namespace Go.Proofs.YtbkffdfboloogaaGreatDoor
open Go.RowKit Go.Lib
set_option linter.unusedVariables false
set_option maxRecDepth 100000

/-- a rule as a value -/
def rlA (x : Rl) (A : Option Addr) (c : Nat) : Array Value := #[.int .i64 x.k, .int .i64 x.p, .string x.f, .string x.t, .int .i64 x.n, .slice A x.l.length c]
set_option maxHeartbeats 2000000 in
theorem indexN_any (g : Nat) (cap : Array Value) (eg : ∀ args w, (callFunc g args).run Tryz.prog w = .ok (.enter g args) w) (B c : Nat) (A : Option Addr) (l : List Rl) (p : Rl → Bool) (w : World) (hN : NL w B A l) (hB : B ≤ w.heap.size) (hl : l.length ≤ 1000000)
    (hc : ∀ (W : World) (x : Rl) (A' : Option Addr) (c' : Nat), x ∈ l → NL W B A' x.l → Below w.heap.size w W → Calls Tryz.prog g (#[.agg (rlA x A' c')] ++ cap) W fun e w' => e = .returned (.bool (p x)) ∧ Below W.heap.size W w') :
    Calls Tryz.prog 174 #[.slice A l.length c, .func (.func g) #[] cap] w fun e w' => ∃ r : Int, e = .returned (.int .i64 r) ∧ (0 ≤ r ↔ ∃ x ∈ l, p x = true) ∧ Below w.heap.size w w' := by
  have HN := Lib.hid hN
  have HC := Lib.hid hc
  clear hN hc
  go_enter Tryz.func174, Tryz.ntmps174
  go_wp2
  go_loopw [8] (fun i wr => ∃ k : Nat, k ≤ l.length ∧ i = .int .i64 (k : Int) ∧ Hid (∀ x ∈ l.take k, p x = false) ∧ Hid (Below w.heap.size w wr)) (fun i _ => l.length - (RowKit.intOf i).toNat)
  case atStart => exact ⟨0, Nat.zero_le _, rfl, Lib.hid (by simp), Lib.hid (Below.refl _ _)⟩
  case round =>
    obtain ⟨k, hk, rfl, HK, HB⟩ := hrel
    by_cases hlt : k < l.length
    · obtain ⟨q, off, A', c', rfl, hq, h6, hch⟩ := (HN.out.kept (HB.out.mono hB)).at_ hlt
      obtain ⟨c0, c1, c2, c3, c4, c5⟩ := h6
      have HC2 := Lib.hid (HC.out wr l[k] A' c' (List.getElem_mem hlt) hch HB.out)
      have hk1 : (k : Int) < (l.length : Int) := by omega
      have hz := HB.out.size
      have Hp := Lib.hid (show l[k] ∈ l from List.getElem_mem hlt)
      have HT : Hid (p l[k] = false → ∀ x ∈ l.take (k + 1), p x = false) := Lib.hid (fun h x hx => by
        rw [← List.take_append_getElem hlt] at hx
        rcases List.mem_append.1 hx with hx | hx
        · exact HK.out x hx
        · simp at hx; subst hx; exact h)
      unfold rlA at HC2
      generalize l[k] = x at *
      clear HC hch
      cases hp : p x with
      | true =>
        rw [hp] at HC2
        have HE := Lib.hid (show ∃ y ∈ l, p y = true from ⟨x, Hp.out, hp⟩)
        clear hp HT
        generalize x.l.length = xl at *
        generalize x.k = xk at *
        generalize x.p = xp at *
        generalize x.f = xf at *
        generalize x.t = xt at *
        generalize x.n = xn at *
        go_wp2_with (first
          | (go_at_fn g; refine HC2.out.mono ?_; rintro e w3 ⟨rfl, hb3⟩; have HB3 := Lib.hid hb3; clear hb3)
          | fail)
        go_ret
        exact ⟨_, rfl, ⟨fun _ => HE.out, fun _ => by omega⟩, HB.out.trans (HB3.out.mono hz)⟩
      | false =>
        rw [hp] at HC2
        have HT2 := Lib.hid (HT.out hp)
        clear hp HT
        generalize x.l.length = xl at *
        generalize x.k = xk at *
        generalize x.p = xp at *
        generalize x.f = xf at *
        generalize x.t = xt at *
        generalize x.n = xn at *
        go_wp2_with (first
          | (go_at_fn g; refine HC2.out.mono ?_; rintro e w3 ⟨rfl, hb3⟩; have HB3 := Lib.hid hb3; clear hb3)
          | fail)
        go_roundw
        case rel => exact ⟨k + 1, by omega, by go_num, HT2, Lib.hid (HB.out.trans (HB3.out.mono hz))⟩
        case measure => simp [RowKit.intOf]; omega
    · have hk1 : ¬ (k : Int) < (l.length : Int) := by omega
      have Hno : Hid (¬ ∃ x ∈ l, p x = true) := Lib.hid (by
        rintro ⟨x, hx, h⟩
        rw [← List.take_of_length_le (i := k) (l := l) (by omega)] at hx
        rw [HK.out x hx] at h; cases h)
      go_wp2
      go_ret
      exact ⟨_, rfl, ⟨fun h => by omega, fun h => absurd h Hno.out⟩, HB.out⟩
theorem containsN_any (g : Nat) (cap : Array Value) (eg : ∀ args w, (callFunc g args).run Tryz.prog w = .ok (.enter g args) w) (B c : Nat) (A : Option Addr) (l : List Rl) (p : Rl → Bool) (w : World) (hN : NL w B A l) (hB : B ≤ w.heap.size) (hl : l.length ≤ 1000000)
    (hc : ∀ (W : World) (x : Rl) (A' : Option Addr) (c' : Nat), x ∈ l → NL W B A' x.l → Below w.heap.size w W → Calls Tryz.prog g (#[.agg (rlA x A' c')] ++ cap) W fun e w' => e = .returned (.bool (p x)) ∧ Below W.heap.size W w') :
    Calls Tryz.prog 145 #[.slice A l.length c, .func (.func g) #[] cap] w fun e w' => e = .returned (.bool (l.any p)) ∧ Below w.heap.size w w' := by
  have HX := Lib.hid (indexN_any g cap eg B c A l p w hN hB hl hc)
  have HE : Hid (∀ r : Int, (0 ≤ r ↔ ∃ x ∈ l, p x = true) → decide (0 ≤ r) = l.any p) := Lib.hid (fun r h => by rw [Bool.eq_iff_iff, decide_eq_true_iff, List.any_eq_true]; exact h)
  clear hN hc
  go_enter Tryz.func145, Tryz.ntmps145
  go_wp2_with (first
    | (go_at_call 174; refine HX.out.mono ?_; rintro e w3 ⟨r, rfl, hr, hb3⟩; have HR := Lib.hid (HE.out r hr); have HB3 := Lib.hid hb3; clear hr hb3)
    | fail)
  go_ret
  exact ⟨by rw [← HR.out]; rfl, HB3.out⟩
set_option maxHeartbeats 2000000 in
theorem indexD_any (g : Nat) (cap : Array Value) (eg : ∀ args w, (callFunc g args).run Tryz.prog w = .ok (.enter g args) w) (B c : Nat) (A : Option Addr) (l : List Nd) (p : Nd → Bool) (w : World) (hN : Ns w B A l) (hB : B ≤ w.heap.size) (hl : l.length ≤ 1000000)
    (hc : ∀ (W : World) (x : Nd) (A' : Option Addr) (c' : Nat), x ∈ l → NL W B A' x.r.l → Below w.heap.size w W → Calls Tryz.prog g (#[.agg (ndA x A' c')] ++ cap) W fun e w' => e = .returned (.bool (p x)) ∧ Below W.heap.size W w') :
    Calls Tryz.prog 104 #[.slice A l.length c, .func (.func g) #[] cap] w fun e w' => ∃ r : Int, e = .returned (.int .i64 r) ∧ (0 ≤ r ↔ ∃ x ∈ l, p x = true) ∧ Below w.heap.size w w' := by
  have HN := Lib.hid hN
  have HC := Lib.hid hc
  clear hN hc
  go_enter Tryz.func104, Tryz.ntmps104
  go_wp2
  go_loopw [8] (fun i wr => ∃ k : Nat, k ≤ l.length ∧ i = .int .i64 (k : Int) ∧ Hid (∀ x ∈ l.take k, p x = false) ∧ Hid (Below w.heap.size w wr)) (fun i _ => l.length - (RowKit.intOf i).toNat)
  case atStart => exact ⟨0, Nat.zero_le _, rfl, Lib.hid (by simp), Lib.hid (Below.refl _ _)⟩
  case round =>
    obtain ⟨k, hk, rfl, HK, HB⟩ := hrel
    by_cases hlt : k < l.length
    · obtain ⟨q, off, A', c', rfl, hq, h6, hch⟩ := (HN.out.kept (HB.out.mono hB)).at_ hlt
      obtain ⟨c0, c1, c2, c3, c4, c5, c6, c7⟩ := h6
      have HC2 := Lib.hid (HC.out wr l[k] A' c' (List.getElem_mem hlt) hch HB.out)
      have hk1 : (k : Int) < (l.length : Int) := by omega
      have hz := HB.out.size
      have Hp := Lib.hid (show l[k] ∈ l from List.getElem_mem hlt)
      have HT : Hid (p l[k] = false → ∀ x ∈ l.take (k + 1), p x = false) := Lib.hid (fun h x hx => by
        rw [← List.take_append_getElem hlt] at hx
        rcases List.mem_append.1 hx with hx | hx
        · exact HK.out x hx
        · simp at hx; subst hx; exact h)
      unfold ndA at HC2
      generalize l[k] = x at *
      clear HC hch
      cases hp : p x with
      | true =>
        rw [hp] at HC2
        have HE := Lib.hid (show ∃ y ∈ l, p y = true from ⟨x, Hp.out, hp⟩)
        clear hp HT
        generalize x.r.l.length = xl at *
        generalize x.r.k = xk at *
        generalize x.r.p = xp at *
        generalize x.r.f = xf at *
        generalize x.r.t = xt at *
        generalize x.r.n = xn at *
        generalize x.k = yk at *
        generalize x.c = yc at *
        go_wp2_with (first
          | (go_at_fn g; refine HC2.out.mono ?_; rintro e w3 ⟨rfl, hb3⟩; have HB3 := Lib.hid hb3; clear hb3)
          | fail)
        go_ret
        exact ⟨_, rfl, ⟨fun _ => HE.out, fun _ => by omega⟩, HB.out.trans (HB3.out.mono hz)⟩
      | false =>
        rw [hp] at HC2
        have HT2 := Lib.hid (HT.out hp)
        clear hp HT
        generalize x.r.l.length = xl at *
        generalize x.r.k = xk at *
        generalize x.r.p = xp at *
        generalize x.r.f = xf at *
        generalize x.r.t = xt at *
        generalize x.r.n = xn at *
        generalize x.k = yk at *
        generalize x.c = yc at *
        go_wp2_with (first
          | (go_at_fn g; refine HC2.out.mono ?_; rintro e w3 ⟨rfl, hb3⟩; have HB3 := Lib.hid hb3; clear hb3)
          | fail)
        go_roundw
        case rel => exact ⟨k + 1, by omega, by go_num, HT2, Lib.hid (HB.out.trans (HB3.out.mono hz))⟩
        case measure => simp [RowKit.intOf]; omega
    · have hk1 : ¬ (k : Int) < (l.length : Int) := by omega
      have Hno : Hid (¬ ∃ x ∈ l, p x = true) := Lib.hid (by
        rintro ⟨x, hx, h⟩
        rw [← List.take_of_length_le (i := k) (l := l) (by omega)] at hx
        rw [HK.out x hx] at h; cases h)
      go_wp2
      go_ret
      exact ⟨_, rfl, ⟨fun h => by omega, fun h => absurd h Hno.out⟩, HB.out⟩
theorem containsD_any (g : Nat) (cap : Array Value) (eg : ∀ args w, (callFunc g args).run Tryz.prog w = .ok (.enter g args) w) (B c : Nat) (A : Option Addr) (l : List Nd) (p : Nd → Bool) (w : World) (hN : Ns w B A l) (hB : B ≤ w.heap.size) (hl : l.length ≤ 1000000)
    (hc : ∀ (W : World) (x : Nd) (A' : Option Addr) (c' : Nat), x ∈ l → NL W B A' x.r.l → Below w.heap.size w W → Calls Tryz.prog g (#[.agg (ndA x A' c')] ++ cap) W fun e w' => e = .returned (.bool (p x)) ∧ Below W.heap.size W w') :
    Calls Tryz.prog 73 #[.slice A l.length c, .func (.func g) #[] cap] w fun e w' => e = .returned (.bool (l.any p)) ∧ Below w.heap.size w w' := by
  have HX := Lib.hid (indexD_any g cap eg B c A l p w hN hB hl hc)
  have HE : Hid (∀ r : Int, (0 ≤ r ↔ ∃ x ∈ l, p x = true) → decide (0 ≤ r) = l.any p) := Lib.hid (fun r h => by rw [Bool.eq_iff_iff, decide_eq_true_iff, List.any_eq_true]; exact h)
  clear hN hc
  go_enter Tryz.func73, Tryz.ntmps73
  go_wp2_with (first
    | (go_at_call 104; refine HX.out.mono ?_; rintro e w3 ⟨r, rfl, hr, hb3⟩; have HR := Lib.hid (HE.out r hr); have HB3 := Lib.hid hb3; clear hr hb3)
    | fail)
  go_ret
  exact ⟨by rw [← HR.out]; rfl, HB3.out⟩
end Go.Proofs.YtbkffdfboloogaaGreatDoor
