/- The document's Has, and 'heavy'. -/
import Derived.Test.YtlbenmndmoeioaaNotes
namespace Go.Proofs.Ytlbenmndmoeioaa
open Go.RowKit Go.Maps
set_option linter.unusedVariables false

theorem hSNote : Try.prog.underlying 27 = some (.struct (Try.prog.fieldsOf 27)) := by kernel_rfl
theorem hPNote : Try.prog.stoodInHeld 27 = false := by kernel_rfl
theorem hGNote : Try.prog.eqGuardType Try.prog.depth 27 = false := by kernel_rfl
theorem eq_note (xa xt a t : ByteArray) (W : World) : (binOp .eql 27 (.agg #[.string xa, .string xt]) (.agg #[.string a, .string t])).run Try.prog W = .ok (.bool (decide ((xa, xt) = (a, t)))) W := by
  rw [run_eql_struct, run_equalIn_agg W 9999 27 _ _ hSNote hPNote]
  simp only [Program.fieldsOf, Try.underlying27]
  have hx : (xa.toList == a.toList) = decide (xa = a) := by
    rw [Bool.eq_iff_iff, decide_eq_true_iff]; exact eqB_iff xa a
  have ht : (xt.toList == t.toList) = decide (xt = t) := by
    rw [Bool.eq_iff_iff, decide_eq_true_iff]; exact eqB_iff xt t
  by_cases h1 : xa = a <;> by_cases h2 : xt = t
  all_goals go_simp

theorem hasN_snoc (L : List Nt) (k : Nat) (h : k < L.length) (x : Nt) : hasN (L.take (k + 1)) x = (hasN (L.take k) x || decide (L[k] = x)) := by
  rw [List.take_succ_eq_append_getElem h]
  unfold hasN
  simp only [List.any_append, List.any_cons, List.any_nil, Bool.or_false]
theorem hasN_at (L : List Nt) (k : Nat) (h : k < L.length) (x : Nt) (e : L[k] = x) : hasN L x = true := by
  rw [hasN_iff, ← e]; exact List.getElem_mem h

set_option maxHeartbeats 400000 in
set_option maxRecDepth 100000 in
theorem refHas_any (a t : ByteArray) (w : World) (B : Nat) (A : Option Addr) (c : Nat) (L : List Nt) (hR : Rn w B A L) (hB : B ≤ w.heap.size) (hL : L.length ≤ 4096) :
    Calls Try.prog 24 #[.slice A L.length c, .agg #[.string a, .string t]] w fun e w' => e = .returned (.bool (hasN L (a, t))) ∧ Below w.heap.size w w' := by
  go_enter Try.func24, Try.ntmps24
  go_wp2
  go_loopw [5] (fun i wr => ∃ k n : Nat, k ≤ L.length ∧ i = .int .i64 k ∧ Hid (hasN (L.take k) (a, t) = false) ∧ wr = (w.alloc (.cells #[.string a, .string t] 27)).drewN n) (fun i _ => L.length - (intOf i).toNat)
  case atStart => exact ⟨0, 0, Nat.zero_le _, rfl, Lib.hid rfl, rfl⟩
  case round =>
    obtain ⟨k, n, hk, rfl, Hk, rfl⟩ := hrel
    by_cases hlt : k < L.length
    · obtain ⟨g, off, rfl, hg, hc0, hc1⟩ := hR.at_ hlt
      have hgw : g < w.heap.size := by omega
      have HS := Lib.hid (hasN_snoc L k hlt (a, t))
      have HA := Lib.hid (hasN_at L k hlt (a, t))
      generalize L[k] = x at *
      obtain ⟨xa, xt⟩ := x
      have hq := eq_note xa xt a t
      have hG := hGNote
      by_cases he : (xa, xt) = (a, t)
      all_goals
        first
          | have hd : decide ((xa, xt) = (a, t)) = true := decide_eq_true he
          | have hd : decide ((xa, xt) = (a, t)) = false := decide_eq_false he
        rw [hd] at hq
        have Hd := Lib.hid hd
        have He := Lib.hid he
        clear hd he
        go_wp2_with fail
        go_quiet (fail)
        go_wp2_with fail
        first
          | (go_roundw
             case rel => exact ⟨k + 1, _, by omega, by go_num, Lib.hid (by rw [HS.out, Hk.out, Hd.out]; rfl), by first | rfl | (rw [World.drewN_drewN])⟩
             case measure => simp [intOf]; omega)
          | (go_ret
             exact ⟨by rw [HA.out He.out]; rfl, by first | exact below_quiet _ _ _ | exact below_drewN (below_quiet _ _ _) _⟩)
    · have ht : L.take k = L := List.take_of_length_le (by omega)
      have HT := Lib.hid ht
      clear ht
      go_wp2
      go_ret
      exact ⟨by rw [← Hk.out, HT.out]; rfl, below_quiet _ _ _⟩

def big (x : Nt) : Bool := decide (100 < x.1.size) || decide (5000 < x.2.size)
def hv (L : List Nt) (m : Nat) : Bool := decide (m < L.length) || L.any big

set_option maxHeartbeats 400000 in
set_option maxRecDepth 100000 in
theorem heavy_any (m : Nat) (w : World) (B : Nat) (A : Option Addr) (c : Nat) (L : List Nt) (hR : Rn w B A L) (hS : ∀ x ∈ L, Small x) (hL : L.length ≤ maxLen) (hm : m ≤ 4096) :
    Calls Try.prog 12 #[.slice A L.length c, .int .i64 m] w fun e w' => e = .returned (.bool (hv L m)) ∧ w = w' := by
  unfold maxLen at hL
  by_cases h0 : m < L.length
  · go_enter Try.func12, Try.ntmps12
    go_wp2
    go_ret
    exact ⟨by simp [hv, h0], rfl⟩
  · go_enter Try.func12, Try.ntmps12
    go_wp2
    go_loop [5] (fun i => ∃ k : Nat, k ≤ L.length ∧ i = .int .i64 k ∧ Hid ((L.take k).any big = false)) (fun i => L.length - (intOf i).toNat)
    case atStart => exact ⟨0, Nat.zero_le _, rfl, Lib.hid rfl⟩
    case round =>
      obtain ⟨k, hk, rfl, Hk⟩ := hrel
      by_cases hlt : k < L.length
      · obtain ⟨g, off, rfl, hg, hc0, hc1⟩ := hR.at_ hlt
        have hx := hS L[k] (List.getElem_mem hlt)
        have HS := Lib.hid (show (L.take (k + 1)).any big = ((L.take k).any big || big L[k]) by
          rw [List.take_succ_eq_append_getElem hlt]; simp only [List.any_append, List.any_cons, List.any_nil, Bool.or_false])
        have HA := Lib.hid (show big L[k] = true → hv L m = true from fun h => by
          simp only [hv, Bool.or_eq_true]; exact .inr (List.any_eq_true.2 ⟨_, List.getElem_mem hlt, h⟩))
        generalize L[k] = x at *
        obtain ⟨xa, xt⟩ := x
        obtain ⟨hx1, hx2⟩ := hx
        simp only [maxLen] at hx1 hx2
        have Hb := Lib.hid (show big (xa, xt) = (decide (100 < xa.size) || decide (5000 < xt.size)) from rfl)
        rcases (show 100 < xa.size ∨ (xa.size ≤ 100 ∧ 5000 < xt.size) ∨ (xa.size ≤ 100 ∧ xt.size ≤ 5000) by omega) with h | ⟨h, h'⟩ | ⟨h, h'⟩
        all_goals
          go_wp2
          first
            | (go_round
               case rel => exact ⟨k + 1, by omega, by go_num, Lib.hid (by rw [HS.out, Hk.out, Hb.out]; simp; omega)⟩
               case measure => simp [intOf]; omega)
            | (go_ret
               exact ⟨by rw [HA.out (by rw [Hb.out]; simp; omega)]; rfl, rfl⟩)
      · have ht : L.take k = L := List.take_of_length_le (by omega)
        have HT := Lib.hid ht
        clear ht
        go_wp2
        go_ret
        exact ⟨by rw [hv, ← HT.out, Hk.out, HT.out]; simp; omega, rfl⟩
end Go.Proofs.Ytlbenmndmoeioaa
