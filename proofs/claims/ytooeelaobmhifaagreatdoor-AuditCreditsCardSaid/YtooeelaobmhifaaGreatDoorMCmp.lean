/- cmp.Compare of texts; the order of holds. maps.Values of the holds: a function value over one new block that holds the map. -/
import Derived.Test.YtooeelaobmhifaaGreatDoorMPlain
import Derived.Test.YtooeelaobmhifaaGreatDoorCHolds
namespace Go.Proofs.YtooeelaobmhifaaGreatDoor
open Go.RowKit Go.Maps Go.Lib
set_option linter.unusedVariables false
set_option maxRecDepth 100000

def cmpS (x y : ByteArray) : Int := if ltS x y then -1 else if ltS y x then 1 else 0
set_option maxHeartbeats 400000 in
theorem isNaN_any (x : ByteArray) (w : World) : Calls Tryz.prog 52 #[.string x] w fun e w' => e = .returned (.bool false) ∧ w' = w := by
  have q : (x.toList == x.toList) = true := by simp
  go_enter Tryz.func52, Tryz.ntmps52
  go_wp2
  go_ret
  exact ⟨rfl, rfl⟩
set_option maxHeartbeats 1000000 in
theorem compare_any (x y : ByteArray) (w : World) : Calls Tryz.prog 33 #[.string x, .string y] w fun e w' => e = .returned (.int .i64 (cmpS x y)) ∧ w' = w := by
  unfold cmpS
  cases h1 : ltS x y with
  | true =>
    have q1 : Op.bytesLess x.toList y.toList = true := h1
    go_enter Tryz.func33, Tryz.ntmps33
    go_wp2_with (first
      | (go_at_call 52; refine (isNaN_any _ _).mono ?_; rintro e w' ⟨rfl, rfl⟩)
      | go_in)
    go_ret
    exact ⟨rfl, rfl⟩
  | false =>
    have q1 : Op.bytesLess x.toList y.toList = false := h1
    cases h2 : ltS y x with
    | true =>
      have q2 : Op.bytesLess y.toList x.toList = true := h2
      have q3 : (x.toList == y.toList) = false := by
        rw [beq_eq_false_iff_ne]
        intro e
        unfold ltS at h1 h2
        rw [e] at h1 h2
        rw [h1] at h2
        cases h2
      go_enter Tryz.func33, Tryz.ntmps33
      go_wp2_with (first
        | (go_at_call 52; refine (isNaN_any _ _).mono ?_; rintro e w' ⟨rfl, rfl⟩)
        | go_in)
      go_ret
      exact ⟨rfl, rfl⟩
    | false =>
      have q2 : Op.bytesLess y.toList x.toList = false := h2
      have q3 : (x.toList == y.toList) = true := by
        by_cases e : x = y
        · rw [e]; simp
        · rw [ltS_total h1 e] at h2; cases h2
      go_enter Tryz.func33, Tryz.ntmps33
      go_wp2_with (first
        | (go_at_call 52; refine (isNaN_any _ _).mono ?_; rintro e w' ⟨rfl, rfl⟩)
        | go_in)
      go_ret
      exact ⟨rfl, rfl⟩

set_option maxHeartbeats 1000000 in
theorem holdCmp_any (a b : Hd) (w : World) : Calls Tryz.prog 32 #[.agg #[.string a.id, .string a.acc, .string a.cur, .int .i64 a.n], .agg #[.string b.id, .string b.acc, .string b.cur, .int .i64 b.n]] w fun e w' => e = .returned (.int .i64 (cmpS a.id b.id)) ∧ Below w.heap.size w w' := by
  obtain ⟨ai, aa, ac, an⟩ := a
  obtain ⟨bi, ba, bc, bn⟩ := b
  simp only
  have hb := ((Below.refl w.heap.size w).alloc (Nat.le_refl _) (.cells #[.string ai, .string aa, .string ac, .int .i64 an] 56)).alloc (by simp) (.cells #[.string bi, .string ba, .string bc, .int .i64 bn] 56)
  have HB := Lib.hid hb
  clear hb
  go_enter Tryz.func32, Tryz.ntmps32
  go_wp2_with fail
  refine (compare_any ai bi _).mono ?_
  rintro e w' ⟨rfl, rfl⟩
  go_wp2
  go_ret
  exact ⟨rfl, HB.out⟩
end Go.Proofs.YtooeelaobmhifaaGreatDoor
namespace Go.Proofs.YtooeelaobmhifaaGreatDoor
open Go.RowKit Go.Maps Go.Lib
set_option linter.unusedVariables false

set_option maxHeartbeats 400000 in
theorem values_any (h : Nat) (w : World) : Calls Tryz.prog 31 #[.map (some h)] w fun e w' =>
    e = .returned (.func (.func 51) #[] #[.pointer (some ⟨w.heap.size, 0, none⟩)]) ∧ w' = w.alloc (.cells #[.map (some h)] 46) := by
  have hmf : ∀ (fn : Fn) (first cap : Array Value) (w : World), (Instr.makeFunc fn first cap).run Tryz.prog w = .ok (.func fn first cap) w := fun _ _ _ _ => rfl
  go_enter Tryz.func31, Tryz.ntmps31
  go_wp2
  go_ret
  exact ⟨rfl, rfl⟩
end Go.Proofs.YtooeelaobmhifaaGreatDoor
