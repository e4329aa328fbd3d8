/- supercargoref05.Number: the document's number of a text. -/
import Derived.Test.YtehjkgfdfihfmaaDoorSDig
namespace Go.Proofs.YtehjkgfdfihfmaaDoor
open Go.RowKit Go.Maps Go.Lib
set_option linter.unusedVariables false
set_option maxRecDepth 100000

def rdig : Nat → List UInt8 → Option Nat
  | acc, [] => some acc
  | acc, c :: r => if c.toNat < 48 ∨ 57 < c.toNat ∨ 461168601842738790 < acc then none else rdig (10 * acc + (c.toNat - 48)) r
theorem rdig_append (l r : List UInt8) : ∀ acc, rdig acc (l ++ r) = (rdig acc l).bind fun a => rdig a r := by
  induction l with
  | nil => intro acc; rfl
  | cons c l ih =>
    intro acc
    rw [List.cons_append, rdig, rdig]
    split
    · rfl
    · exact ih _
theorem rdig_dec (u : Nat) (h : u ≤ 4611686018427387904) : rdig 0 (decDigits u) = some u := by
  induction u using Nat.strongRecOn with
  | _ u ih =>
    by_cases h9 : u < 10
    · rw [dec_small h9, rdig, dg_nat, Nat.mod_eq_of_lt h9, if_neg (by omega), rdig]
      congr 1
      omega
    · rw [dec_big h9, rdig_append, ih (u / 10) (by omega) (by omega)]
      show rdig (u / 10) [dg u] = some u
      rw [rdig, dg_nat, if_neg (by omega), rdig]
      congr 1
      omega
theorem pu_append (M : Nat) (l r : List UInt8) : ∀ acc, Lib.parseUintM M acc (l ++ r) = match Lib.parseUintM M acc l with | .ok a => Lib.parseUintM M a r | e => e := by
  induction l with
  | nil => intro acc; rfl
  | cons c l ih =>
    intro acc
    rw [List.cons_append, Lib.parseUintM, Lib.parseUintM]
    split
    · split
      · rfl
      · split
        · rfl
        · exact ih _
    · rfl
theorem pu_dec (u : Nat) (h : u ≤ 4611686018427387904) : Lib.parseUintM (2 ^ 64 - 1) 0 (decDigits u) = .ok u := by
  induction u using Nat.strongRecOn with
  | _ u ih =>
    by_cases h9 : u < 10
    · rw [dec_small h9, Lib.parseUintM, dg_nat, Nat.mod_eq_of_lt h9, if_pos (by omega), if_neg (by omega), if_neg (by omega), Lib.parseUintM]
      congr 1
      omega
    · rw [dec_big h9, pu_append, ih (u / 10) (by omega) (by omega)]
      show Lib.parseUintM _ (u / 10) [dg u] = _
      rw [Lib.parseUintM, dg_nat, if_pos (by omega), if_neg (by omega), if_neg (by omega), Lib.parseUintM]
      congr 1
      omega
theorem dec_head (u : Nat) : ∃ c r, decDigits u = c :: r ∧ 48 ≤ c.toNat ∧ c.toNat ≤ 57 := by
  induction u using Nat.strongRecOn with
  | _ u ih =>
    by_cases h9 : u < 10
    · exact ⟨dg u, [], dec_small h9, by rw [dg_nat]; omega, by rw [dg_nat]; omega⟩
    · obtain ⟨c, r, e, h1, h2⟩ := ih (u / 10) (by omega)
      exact ⟨c, r ++ [dg u], by rw [dec_big h9, e]; rfl, h1, h2⟩
theorem pi_dec (n : Int) (h0 : -4611686018427387904 ≤ n) (h1 : n ≤ 4611686018427387904) : Lib.parseIntB 64 (Lib.itoa n) = .ok n := by
  unfold Lib.itoa
  split
  · rename_i hn
    rw [Lib.parseIntB]
    have e : ((45 : UInt8).toNat = 43 ∨ (45 : UInt8).toNat = 45) := .inr rfl
    simp only [if_pos e]
    obtain ⟨c, r, ec, _, _⟩ := dec_head n.natAbs
    have hne : decDigits n.natAbs ≠ [] := by rw [ec]; simp
    rw [Lib.parseUintB, if_neg hne, pu_dec _ (by omega)]
    simp only
    rw [if_neg (by intro h; exact h.1 rfl), if_neg (by intro h; have := h.2; omega), if_pos (show (45 : UInt8).toNat = 45 from rfl)]
    congr 1
    omega
  · rename_i hn
    obtain ⟨c, r, ec, e1, e2⟩ := dec_head n.toNat
    rw [ec, Lib.parseIntB]
    have e : ¬ (c.toNat = 43 ∨ c.toNat = 45) := by omega
    simp only [if_neg e]
    rw [Lib.parseUintB, if_neg (by simp), ← ec, pu_dec _ (by omega)]
    simp only
    have hc : ¬ c.toNat = 45 := by omega
    rw [if_neg (by intro h; have := h.2; omega), if_neg (by intro h; exact hc h.1), if_neg hc]
    congr 1
    omega
theorem dec_len (k : Nat) : ∀ u, u < 10 ^ (k + 1) → (decDigits u).length ≤ k + 1 := by
  induction k with
  | zero => intro u h; rw [dec_small (by simpa using h)]; simp
  | succ k ih =>
    intro u h
    by_cases h9 : u < 10
    · rw [dec_small h9]; simp
    · rw [dec_big h9, List.length_append]
      have : u / 10 < 10 ^ (k + 1) := by
        rw [Nat.div_lt_iff_lt_mul (by omega)]
        rw [Nat.pow_succ] at h
        exact h
      have := ih _ this
      simp
      omega
/-- is a text a number's? -/
theorem numB_of (s : ByteArray) (v : Int) (h0 : -4611686018427387904 ≤ v) (h1 : v ≤ 4611686018427387904) (he : s = decT v) : numB s = (v, true) := by
  subst he
  unfold numB
  have : (decT v).data.toList = Lib.itoa v := by simp [decT]
  rw [this, pi_dec v h0 h1]
  simp only
  rw [if_pos ⟨h0, h1, by simp⟩]
theorem numB_cases (s : ByteArray) : numB s = (0, false) ∨ ∃ v, numB s = (v, true) ∧ -4611686018427387904 ≤ v ∧ v ≤ 4611686018427387904 ∧ s = decT v := by
  unfold numB
  split
  · rename_i v hv
    split
    · rename_i h
      refine .inr ⟨v, rfl, h.1, h.2.1, ?_⟩
      have := beq_iff_eq.1 h.2.2
      rw [ByteArray.toList_eq, ByteArray.toList_eq] at this
      exact (ByteArray.ext (Array.ext' this)).symm
    · exact .inl rfl
  · exact .inl rfl
theorem decT_size (v : Int) (h0 : -4611686018427387904 ≤ v) (h1 : v ≤ 4611686018427387904) : 0 < (decT v).size ∧ (decT v).size ≤ 20 := by
  have e : (decT v).size = (Lib.itoa v).length := by show (Lib.itoa v).toArray.size = _; simp
  rw [e]
  unfold Lib.itoa
  split
  · have := dec_len 18 v.natAbs (by omega)
    simp
    omega
  · have := dec_len 18 v.toNat (by omega)
    obtain ⟨c, r, ec, _, _⟩ := dec_head v.toNat
    rw [ec] at this ⊢
    simp at this ⊢
    omega
/-- what the document's Number does with the digits -/
def refTail (s : ByteArray) (n : Int) : Int × Bool := if 4611686018427387904 < n ∨ n < -4611686018427387904 ∨ ((decT n).toList == s.toList) = false then (0, false) else (n, true)
def refNumB (s : ByteArray) : Int × Bool :=
  if s.size = 0 ∨ 20 < s.size then (0, false) else
  if s.data.toList.head? = some 45 then (match rdig 0 (s.data.toList.drop 1) with | none => (0, false) | some a => refTail s (-(a : Int)))
  else (match rdig 0 (s.data.toList.drop 0) with | none => (0, false) | some a => refTail s (a : Int))
theorem refTail_cases (s : ByteArray) (n : Int) : refTail s n = (0, false) ∨ (refTail s n = (n, true) ∧ -4611686018427387904 ≤ n ∧ n ≤ 4611686018427387904 ∧ s = decT n) := by
  unfold refTail
  split
  · exact .inl rfl
  · rename_i h
    refine .inr ⟨rfl, by omega, by omega, ?_⟩
    have h3 : ((decT n).toList == s.toList) = true := by
      cases hb : ((decT n).toList == s.toList) with
      | true => rfl
      | false => exact absurd (.inr (.inr hb)) h
    have := beq_iff_eq.1 h3
    rw [ByteArray.toList_eq, ByteArray.toList_eq] at this
    exact (ByteArray.ext (Array.ext' this)).symm
theorem refTail_of (s : ByteArray) (n : Int) (h0 : -4611686018427387904 ≤ n) (h1 : n ≤ 4611686018427387904) (he : s = decT n) : refTail s n = (n, true) := by
  unfold refTail
  rw [if_neg]
  rintro (h | h | h)
  · omega
  · omega
  · rw [he] at h; simp at h
theorem refNumB_is (s : ByteArray) : refNumB s = numB s := by
  rcases numB_cases s with h | ⟨v, h, h0, h1, he⟩
  · rw [h]
    unfold refNumB
    split
    · rfl
    · split
      · split
        · rfl
        · rename_i a _
          rcases refTail_cases s (-(a : Int)) with e | ⟨_, e0, e1, e2⟩
          · exact e
          · rw [numB_of s _ e0 e1 e2] at h; exact absurd (congrArg Prod.snd h) (by simp)
      · split
        · rfl
        · rename_i a _
          rcases refTail_cases s (a : Int) with e | ⟨_, e0, e1, e2⟩
          · exact e
          · rw [numB_of s _ e0 e1 e2] at h; exact absurd (congrArg Prod.snd h) (by simp)
  · rw [h]
    have hsz := decT_size v h0 h1
    have hl : s.data.toList = Lib.itoa v := by rw [he]; simp [decT]
    rw [← he] at hsz
    unfold refNumB
    rw [if_neg (by omega), hl]
    unfold Lib.itoa
    split
    · rename_i hn
      rw [if_pos (show (45 :: decDigits v.natAbs).head? = some 45 from rfl), show (45 :: decDigits v.natAbs).drop 1 = decDigits v.natAbs from rfl, rdig_dec _ (by omega)]
      simp only
      rw [show -((v.natAbs : Nat) : Int) = v from by omega]
      exact refTail_of s v h0 h1 he
    · rename_i hn
      obtain ⟨c, r, ec, e1, e2⟩ := dec_head v.toNat
      rw [if_neg (by rw [ec]; intro h; simp at h; rw [h] at e1; revert e1; decide), List.drop_zero, rdig_dec _ (by omega)]
      simp only
      rw [show ((v.toNat : Nat) : Int) = v from by omega]
      exact refTail_of s v h0 h1 he
theorem get_list (s : ByteArray) (k : Nat) (h : k < s.size) : s.data.toList.drop k = s[k] :: s.data.toList.drop (k + 1) := by
  rw [List.drop_eq_getElem_cons (by rw [Array.length_toList]; exact h)]
  rfl

set_option maxHeartbeats 2000000 in
theorem refNumber_any (s : ByteArray) (w : World) : Calls Tryd.prog 25 #[.string s] w fun e w' => e = .returned (.tuple #[.int .i64 (numB s).1, .bool (numB s).2]) ∧ Below w.heap.size w w' := by
  rw [← refNumB_is]
  by_cases h0 : s.size = 0
  · have HE : Hid (refNumB s = (0, false)) := Lib.hid (by unfold refNumB; rw [if_pos (.inl h0)])
    have q : (s.toList == ([] : List UInt8)) = true := by
      have : s.toList = [] := by
        rw [ByteArray.toList_eq]
        exact List.length_eq_zero_iff.1 (by rw [Array.length_toList]; exact h0)
      rw [this]; rfl
    have q' : (s.toList == (⟨#[]⟩ : ByteArray).toList) = true := by rw [show (⟨#[]⟩ : ByteArray).toList = [] from by rw [ByteArray.toList_eq]]; exact q
    go_enter Tryd.func25, Tryd.ntmps25
    go_wp2
    go_ret2
    exact ⟨by rw [HE.out]; rfl, Below.refl _ _⟩
  have q : (s.toList == ([] : List UInt8)) = false := by
    rw [beq_eq_false_iff_ne]
    intro e
    have := congrArg List.length e
    rw [ByteArray.toList_eq, Array.length_toList] at this
    exact h0 this
  have q' : (s.toList == (⟨#[]⟩ : ByteArray).toList) = false := by rw [show (⟨#[]⟩ : ByteArray).toList = [] from by rw [ByteArray.toList_eq]]; exact q
  by_cases h20 : 20 < s.size
  · have HE : Hid (refNumB s = (0, false)) := Lib.hid (by unfold refNumB; rw [if_pos (.inr h20)])
    have hd : (20 : Int) < (s.size : Int) := by omega
    go_enter Tryd.func25, Tryd.ntmps25
    go_wp2
    go_ret2
    exact ⟨by rw [HE.out]; rfl, Below.refl _ _⟩
  have hd20 : ¬ (20 : Int) < (s.size : Int) := by omega
  have hp0 : 0 < s.size := by omega
  have hhd : s.data.toList.head? = some s[0] := by
    have := get_list s 0 hp0
    rw [List.drop_zero] at this
    rw [this]
    rfl
  by_cases hneg : s[0].toNat = 45
  · have hh : s.data.toList.head? = some 45 := by rw [hhd]; congr 1; exact UInt8.toNat_inj.1 hneg
    have HN : Hid (refNumB s = match rdig 0 (s.data.toList.drop 1) with | none => (0, false) | some a => refTail s (-(a : Int))) := Lib.hid (by unfold refNumB; rw [if_neg (by omega), if_pos hh])
    have e45 : ((s[0].toNat : Int) == 45) = true := by simp; omega
    clear hh hhd hneg
    go_enter Tryd.func25, Tryd.ntmps25
    go_wp2_with fail
    go_loopw [4, 6] (fun v i wr => ∃ (k a : Nat), i = .int .i64 (k : Int) ∧ v = .int .i64 (a : Int) ∧ k ≤ s.size ∧ a ≤ 4611686018427387909 ∧ wr = w ∧ Hid (rdig 0 (s.data.toList.drop 1) = rdig a (s.data.toList.drop k))) (fun _ i _ => s.size - (RowKit.intOf i).toNat)
    case atStart => exact ⟨1, 0, rfl, rfl, by omega, by omega, rfl, Lib.hid rfl⟩
    case round =>
      obtain ⟨k, a, rfl, rfl, hk, ha, rfl, HR⟩ := hrel
      by_cases hlt : k < s.size
      · have hlt' : (k : Int) < (s.size : Int) := by omega
        have hgl := get_list s k hlt
        by_cases hbad : s[k].toNat < 48 ∨ 57 < s[k].toNat ∨ 461168601842738790 < a
        · have HE : Hid (refNumB s = (0, false)) := Lib.hid (by rw [HN.out, HR.out, hgl, rdig, if_pos hbad])
          clear hgl
          by_cases b1 : s[k].toNat < 48
          · have b1' : (s[k].toNat : Int) < 48 := by omega
            go_wp2
            go_ret2
            exact ⟨by rw [HE.out]; rfl, Below.refl _ _⟩
          · have b1' : ¬ (s[k].toNat : Int) < 48 := by omega
            by_cases b2 : 57 < s[k].toNat
            · have b2' : (57 : Int) < (s[k].toNat : Int) := by omega
              go_wp2
              go_ret2
              exact ⟨by rw [HE.out]; rfl, Below.refl _ _⟩
            · have b2' : ¬ (57 : Int) < (s[k].toNat : Int) := by omega
              have b3 : (461168601842738790 : Int) < (a : Int) := by omega
              go_wp2
              go_ret2
              exact ⟨by rw [HE.out]; rfl, Below.refl _ _⟩
        · have HS : Hid (rdig 0 (s.data.toList.drop 1) = rdig (10 * a + (s[k].toNat - 48)) (s.data.toList.drop (k + 1))) := Lib.hid (by rw [HR.out, hgl, rdig, if_neg hbad])
          have b1' : ¬ (s[k].toNat : Int) < 48 := by omega
          have b2' : ¬ (57 : Int) < (s[k].toNat : Int) := by omega
          have b3' : ¬ (461168601842738790 : Int) < (a : Int) := by omega
          have b4 : 48 ≤ s[k].toNat := by omega
          have b5 : s[k].toNat ≤ 57 := by omega
          clear hgl hbad
          go_wp2
          go_roundw
          case rel => exact ⟨k + 1, 10 * a + (s[k].toNat - 48), by go_num, by congr 1; omega, by omega, by omega, by simp, HS⟩
          case measure => simp [RowKit.intOf]; omega
      · have hlt' : ¬ (k : Int) < (s.size : Int) := by omega
        have HF : Hid (refNumB s = refTail s (-(a : Int))) := Lib.hid (by
          rw [HN.out, HR.out, List.drop_eq_nil_of_le (by rw [Array.length_toList]; show s.size ≤ k; omega), rdig])
        clear HN HR
        by_cases c1 : 4611686018427387904 < (-(a : Int)) ∨ (-(a : Int)) < -4611686018427387904
        · have HE : Hid (refNumB s = (0, false)) := Lib.hid (by rw [HF.out]; unfold refTail; rw [if_pos (by omega)])
          by_cases c2 : 4611686018427387904 < (-(a : Int))
          · go_wp2
            go_ret2
            exact ⟨by rw [HE.out]; rfl, Below.refl _ _⟩
          · have c3 : (-(a : Int)) < -4611686018427387904 := by omega
            go_wp2
            go_ret2
            exact ⟨by rw [HE.out]; rfl, Below.refl _ _⟩
        · have c2 : ¬ 4611686018427387904 < (-(a : Int)) := by omega
          have c3 : ¬ (-(a : Int)) < -4611686018427387904 := by omega
          have HD := Lib.hid (digits_any (-(a : Int)) wr (by omega) (by omega))
          cases hE : ((decT (-(a : Int))).toList == s.toList) with
          | true =>
            have HE : Hid (refNumB s = ((-(a : Int)), true)) := Lib.hid (by rw [HF.out]; unfold refTail; rw [if_neg (by intro h; rcases h with h | h | h <;> first | omega | (rw [hE] at h; cases h))])
            go_wp2_with (first
              | (go_at_call 36; refine HD.out.mono ?_; rintro e w2 ⟨rfl, hb2⟩; have HB2 := Lib.hid hb2; clear hb2)
              | fail)
            go_ret2
            exact ⟨by rw [HE.out]; rfl, HB2.out⟩
          | false =>
            have HE : Hid (refNumB s = (0, false)) := Lib.hid (by rw [HF.out]; unfold refTail; rw [if_pos (.inr (.inr hE))])
            go_wp2_with (first
              | (go_at_call 36; refine HD.out.mono ?_; rintro e w2 ⟨rfl, hb2⟩; have HB2 := Lib.hid hb2; clear hb2)
              | fail)
            go_ret2
            exact ⟨by rw [HE.out]; rfl, HB2.out⟩
  · have hh : s.data.toList.head? ≠ some 45 := by rw [hhd]; intro h; injection h with h; exact hneg (by rw [h]; rfl)
    have HN : Hid (refNumB s = match rdig 0 (s.data.toList.drop 0) with | none => (0, false) | some a => refTail s (a : Int)) := Lib.hid (by unfold refNumB; rw [if_neg (by omega), if_neg hh])
    have e45 : ((s[0].toNat : Int) == 45) = false := by rw [beq_eq_false_iff_ne]; omega
    clear hh hhd hneg
    go_enter Tryd.func25, Tryd.ntmps25
    go_wp2_with fail
    go_loopw [4, 6] (fun v i wr => ∃ (k a : Nat), i = .int .i64 (k : Int) ∧ v = .int .i64 (a : Int) ∧ k ≤ s.size ∧ a ≤ 4611686018427387909 ∧ wr = w ∧ Hid (rdig 0 (s.data.toList.drop 0) = rdig a (s.data.toList.drop k))) (fun _ i _ => s.size - (RowKit.intOf i).toNat)
    case atStart => exact ⟨0, 0, rfl, rfl, by omega, by omega, rfl, Lib.hid rfl⟩
    case round =>
      obtain ⟨k, a, rfl, rfl, hk, ha, rfl, HR⟩ := hrel
      by_cases hlt : k < s.size
      · have hlt' : (k : Int) < (s.size : Int) := by omega
        have hgl := get_list s k hlt
        by_cases hbad : s[k].toNat < 48 ∨ 57 < s[k].toNat ∨ 461168601842738790 < a
        · have HE : Hid (refNumB s = (0, false)) := Lib.hid (by rw [HN.out, HR.out, hgl, rdig, if_pos hbad])
          clear hgl
          by_cases b1 : s[k].toNat < 48
          · have b1' : (s[k].toNat : Int) < 48 := by omega
            go_wp2
            go_ret2
            exact ⟨by rw [HE.out]; rfl, Below.refl _ _⟩
          · have b1' : ¬ (s[k].toNat : Int) < 48 := by omega
            by_cases b2 : 57 < s[k].toNat
            · have b2' : (57 : Int) < (s[k].toNat : Int) := by omega
              go_wp2
              go_ret2
              exact ⟨by rw [HE.out]; rfl, Below.refl _ _⟩
            · have b2' : ¬ (57 : Int) < (s[k].toNat : Int) := by omega
              have b3 : (461168601842738790 : Int) < (a : Int) := by omega
              go_wp2
              go_ret2
              exact ⟨by rw [HE.out]; rfl, Below.refl _ _⟩
        · have HS : Hid (rdig 0 (s.data.toList.drop 0) = rdig (10 * a + (s[k].toNat - 48)) (s.data.toList.drop (k + 1))) := Lib.hid (by rw [HR.out, hgl, rdig, if_neg hbad])
          have b1' : ¬ (s[k].toNat : Int) < 48 := by omega
          have b2' : ¬ (57 : Int) < (s[k].toNat : Int) := by omega
          have b3' : ¬ (461168601842738790 : Int) < (a : Int) := by omega
          have b4 : 48 ≤ s[k].toNat := by omega
          have b5 : s[k].toNat ≤ 57 := by omega
          clear hgl hbad
          go_wp2
          go_roundw
          case rel => exact ⟨k + 1, 10 * a + (s[k].toNat - 48), by go_num, by congr 1; omega, by omega, by omega, by simp, HS⟩
          case measure => simp [RowKit.intOf]; omega
      · have hlt' : ¬ (k : Int) < (s.size : Int) := by omega
        have HF : Hid (refNumB s = refTail s (a : Int)) := Lib.hid (by
          rw [HN.out, HR.out, List.drop_eq_nil_of_le (by rw [Array.length_toList]; show s.size ≤ k; omega), rdig])
        clear HN HR
        by_cases c1 : 4611686018427387904 < (a : Int) ∨ (a : Int) < -4611686018427387904
        · have HE : Hid (refNumB s = (0, false)) := Lib.hid (by rw [HF.out]; unfold refTail; rw [if_pos (by omega)])
          by_cases c2 : 4611686018427387904 < (a : Int)
          · go_wp2
            go_ret2
            exact ⟨by rw [HE.out]; rfl, Below.refl _ _⟩
          · have c3 : (a : Int) < -4611686018427387904 := by omega
            go_wp2
            go_ret2
            exact ⟨by rw [HE.out]; rfl, Below.refl _ _⟩
        · have c2 : ¬ 4611686018427387904 < (a : Int) := by omega
          have c3 : ¬ (a : Int) < -4611686018427387904 := by omega
          have HD := Lib.hid (digits_any (a : Int) wr (by omega) (by omega))
          cases hE : ((decT (a : Int)).toList == s.toList) with
          | true =>
            have HE : Hid (refNumB s = ((a : Int), true)) := Lib.hid (by rw [HF.out]; unfold refTail; rw [if_neg (by intro h; rcases h with h | h | h <;> first | omega | (rw [hE] at h; cases h))])
            go_wp2_with (first
              | (go_at_call 36; refine HD.out.mono ?_; rintro e w2 ⟨rfl, hb2⟩; have HB2 := Lib.hid hb2; clear hb2)
              | fail)
            go_ret2
            exact ⟨by rw [HE.out]; rfl, HB2.out⟩
          | false =>
            have HE : Hid (refNumB s = (0, false)) := Lib.hid (by rw [HF.out]; unfold refTail; rw [if_pos (.inr (.inr hE))])
            go_wp2_with (first
              | (go_at_call 36; refine HD.out.mono ?_; rintro e w2 ⟨rfl, hb2⟩; have HB2 := Lib.hid hb2; clear hb2)
              | fail)
            go_ret2
            exact ⟨by rw [HE.out]; rfl, HB2.out⟩
end Go.Proofs.YtehjkgfdfihfmaaDoor
