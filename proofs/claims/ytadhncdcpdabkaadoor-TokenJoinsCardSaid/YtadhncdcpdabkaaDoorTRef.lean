/- The document's small functions: digits, above, in. -/
import Derived.Test.YtadhncdcpdabkaaDoorTAbove
import Derived.Test.YtadhncdcpdabkaaDoorTNameR
namespace Go.Proofs.YtadhncdcpdabkaaDoor
open Go.RowKit Go.Lib
set_option linter.unusedVariables false

theorem digs_snoc (s : ByteArray) (k : Nat) (h : k < s.size) : (s.data.toList.take (k + 1)).all digit = ((s.data.toList.take k).all digit && digit s[k]) := by
  rw [take_snoc s k h]; simp
theorem digs_bad (s : ByteArray) (k : Nat) (h : k < s.size) (hn : digit s[k] = false) : s.data.toList.all digit = false := by
  rw [List.all_eq_false]
  exact ⟨s[k], by show s.data[k] ∈ s.data.toList; simp, by simp [hn]⟩
def allD (l : Bs) : Bool := l.all digit

set_option maxHeartbeats 800000 in
theorem refDigits_any (s : ByteArray) (w : World) (hs : s.size ≤ 1000000000) :
    Calls Tryd.prog 39 #[.string s] w fun e w' => e = .returned (.bool (allD s.data.toList)) ∧ w = w' := by
  go_enter Tryd.func39, Tryd.ntmps39
  go_wp2
  go_loop [3] (fun i => ∃ k : Nat, k ≤ s.size ∧ i = .int .i64 k ∧ Hid ((s.data.toList.take k).all digit = true)) (fun i => s.size - (intOf i).toNat)
  case atStart => exact ⟨0, Nat.zero_le _, rfl, Lib.hid (by simp)⟩
  case round =>
    obtain ⟨k, hk, rfl, Hk⟩ := hrel
    by_cases hlt : k < s.size
    · have HS := Lib.hid (digs_snoc s k hlt)
      have HB := Lib.hid (digs_bad s k hlt)
      have Hc := Lib.hid (digit_nat s[k])
      rcases (show s[k].toNat < 48 ∨ (48 ≤ s[k].toNat ∧ s[k].toNat ≤ 57) ∨ 57 < s[k].toNat by omega) with h | h | h
      all_goals
        first
          | have d48 : decide ((s[k].toNat : Int) < 48) = true := by simp; omega
          | have d48 : decide ((s[k].toNat : Int) < 48) = false := by simp; omega
        first
          | have d57 : decide (57 < (s[k].toNat : Int)) = true := by simp; omega
          | have d57 : decide (57 < (s[k].toNat : Int)) = false := by simp; omega
        go_wp2
        first
          | (go_round
             case rel => exact ⟨k + 1, by omega, by go_num, Lib.hid (by rw [HS.out, Hk.out, Hc.out]; simp; omega)⟩
             case measure => simp [intOf]; omega)
          | (go_ret
             exact ⟨by rw [allD, HB.out (by rw [Hc.out]; simp; omega)]; rfl, rfl⟩)
    · have ht : s.data.toList.take k = s.data.toList := List.take_of_length_le (by simp; omega)
      have Hw := Lib.hid (show allD s.data.toList = true by have := Hk.out; rw [ht] at this; exact this)
      clear ht
      go_wp2
      go_ret
      exact ⟨by rw [Hw.out]; rfl, rfl⟩

set_option maxHeartbeats 800000 in
theorem above_any (s : ByteArray) (w : World) (hs : s.size ≤ 1000000000) :
    Calls Tryd.prog 40 #[.string s] w fun e w' => e = .returned (.bool (aboveL s.data.toList)) ∧ w = w' := by
  have hl : s.data.toList.length = s.size := by simp
  rcases Nat.lt_trichotomy s.size 13 with h | h | h
  · have HE := Lib.hid (show aboveL s.data.toList = false by unfold aboveL; rw [hl, decide_eq_false (by omega), decide_eq_false (by omega)]; rfl)
    have d1 : decide ((13 : Int) < (s.size : Int)) = false := by simp; omega
    have d2 : ((s.size : Int) == 13) = false := by simp; omega
    clear hl
    go_enter Tryd.func40, Tryd.ntmps40
    go_wp2
    go_ret
    exact ⟨by rw [HE.out]; rfl, rfl⟩
  · have HE := Lib.hid (show aboveL s.data.toList = !(Op.bytesLess s.data.toList mostL || s.data.toList == mostL) by unfold aboveL; rw [hl, decide_eq_false (by omega), decide_eq_true h]; rfl)
    have d1 : decide ((13 : Int) < (s.size : Int)) = false := by simp; omega
    have d2 : ((s.size : Int) == 13) = true := by simp; omega
    have Hs := Lib.hid (ByteArray.toList_eq (bs := s))
    clear hl h
    go_enter Tryd.func40, Tryd.ntmps40
    go_wp2
    go_ret
    exact ⟨by rw [HE.out, Bool.not_or, ← Hs.out]; rfl, rfl⟩
  · have HE := Lib.hid (show aboveL s.data.toList = true by unfold aboveL; rw [hl, decide_eq_true h]; rfl)
    have d1 : decide ((13 : Int) < (s.size : Int)) = true := by simp; omega
    clear hl
    go_enter Tryd.func40, Tryd.ntmps40
    go_wp2
    go_ret
    exact ⟨by rw [HE.out]; rfl, rfl⟩

/-- one of some texts? -/
def inL (xs : List ByteArray) (s : ByteArray) : Bool := xs.any fun x => eqB x s
theorem inL_snoc (xs : List ByteArray) (s : ByteArray) (k : Nat) (h : k < xs.length) : inL (xs.take (k + 1)) s = (inL (xs.take k) s || eqB xs[k] s) := by
  unfold inL
  rw [List.take_succ_eq_append_getElem h, List.any_append]
  simp only [List.any_cons, List.any_nil, Bool.or_false]
theorem inL_yes (xs : List ByteArray) (s : ByteArray) (k : Nat) (h : inL (xs.take k) s = true) : inL xs s = true := by
  unfold inL at *
  rw [List.any_eq_true] at *
  obtain ⟨x, hx, he⟩ := h
  exact ⟨x, List.mem_of_mem_take hx, he⟩

set_option maxHeartbeats 800000 in
set_option maxRecDepth 100000 in
theorem in_any (xs : List ByteArray) (s : ByteArray) (g c : Nat) (w : World) (hl : xs.length ≤ 1000000) (hc : ∀ k x, xs[k]? = some x → w.cell? ⟨g, k, none⟩ = some (.string x)) :
    Calls Tryd.prog 41 #[.slice (some ⟨g, 0, none⟩) xs.length c, .string s] w fun e w' => e = .returned (.bool (inL xs s)) ∧ w = w' := by
  have Hc := Lib.hid hc
  clear hc
  go_enter Tryd.func41, Tryd.ntmps41
  go_wp2
  go_loop [5] (fun i => ∃ k : Nat, k ≤ xs.length ∧ i = .int .i64 k ∧ Hid (inL (xs.take k) s = false)) (fun i => xs.length - (intOf i).toNat)
  case atStart => exact ⟨0, Nat.zero_le _, rfl, Lib.hid rfl⟩
  case round =>
    obtain ⟨k, hk, rfl, Hk⟩ := hrel
    by_cases hlt : k < xs.length
    · have HS := Lib.hid (inL_snoc xs s k hlt)
      have HY := Lib.hid (inL_yes xs s (k + 1))
      have c0 := Hc.out k xs[k] (List.getElem?_eq_getElem hlt)
      have hk0 : (0 : Int) ≤ (k : Int) := by omega
      have hk1 : (k : Int) < (xs.length : Int) := by omega
      generalize xs[k] = x at *
      cases he : eqB x s
      · have H3 := Lib.hid (show inL (xs.take (k + 1)) s = false by rw [HS.out, Hk.out, he]; rfl)
        unfold eqB at he
        go_wp2
        go_round
        case rel => exact ⟨k + 1, by omega, by go_num, H3⟩
        case measure => simp [intOf]; omega
      · have H3 := Lib.hid (HY.out (by rw [HS.out, Hk.out, he]; rfl))
        unfold eqB at he
        go_wp2
        go_ret
        exact ⟨by rw [H3.out]; rfl, rfl⟩
    · have ht : xs.take k = xs := List.take_of_length_le (by omega)
      have Hw := Lib.hid (show inL xs s = false by have := Hk.out; rwa [ht] at this)
      clear ht
      go_wp2
      go_ret
      exact ⟨by rw [Hw.out]; rfl, rfl⟩
end Go.Proofs.YtadhncdcpdabkaaDoor
