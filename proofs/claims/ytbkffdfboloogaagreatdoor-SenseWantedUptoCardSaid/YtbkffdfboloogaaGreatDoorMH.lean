/- Of which kind a run is: a number, a word, a name; and what is wrong with it. mark.Name and the document's Name are one function of a text's bytes. -/
import Derived.Test.YtbkffdfboloogaaGreatDoorND
import Derived.Test.YtbkffdfboloogaaGreatDoorFShelf
import Derived.Laws.RangeString
import Derived.Test.YtbkffdfboloogaaGreatDoorMA
namespace Go.Proofs.YtbkffdfboloogaaGreatDoor
open Go.RowKit Go.Lib
set_option linter.unusedVariables false

theorem take_snoc (s : ByteArray) (k : Nat) (h : k < s.size) : s.data.toList.take (k + 1) = s.data.toList.take k ++ [s[k]] := by
  rw [List.take_succ_eq_append_getElem (by simpa using h)]; rfl
theorem num_snoc (t : Bs) (c : UInt8) : num (t ++ [c]) = num t * 10 + (c.toNat - 48) := by simp [num]
theorem num_fold (t : Bs) : ∀ n, n ≤ t.foldl (fun n c => n * 10 + (c.toNat - 48)) n := by
  induction t with
  | nil => intro n; exact Nat.le_refl _
  | cons c r ih => intro n; rw [List.foldl_cons]; exact Nat.le_trans (by omega) (ih _)
theorem num_le (a b : Bs) : num a ≤ num (a ++ b) := by unfold num; rw [List.foldl_append]; exact num_fold _ _
theorem num_take (t : Bs) (k : Nat) : num (t.take k) ≤ num t := by
  have := num_le (t.take k) (t.drop k)
  rwa [List.take_append_drop] at this
/-- what is wrong with a number's digits -/
def boundE (t : Bs) : Nat := if 1 < t.length ∧ t.head? = some 48 then 2 else if 1099511627776 < num t then 3 else 0
def rankK (t : Bs) : Nat := if t.all digit then 2 else if isWord t then 0 else 1
def rankE (t : Bs) : Nat := if t.all digit then boundE t else if isWord t then 0 else if 16 < t.length then 2 else 0
theorem ranked_eq (t : Bs) : ranked t = if rankE t = 0 then .tok (rankK t) t t.length else .bad (rankE t) := by
  unfold ranked rankE rankK boundE isWord
  by_cases h1 : t.all digit = true
  · by_cases h2 : 1 < t.length ∧ t.head? = some 48
    · simp only [h1, h2, and_self, if_true]; rfl
    · by_cases h3 : 1099511627776 < num t
      · simp only [h1, h2, h3, if_true, if_false]; rfl
      · simp only [h1, h2, h3, if_true, if_false]
  · by_cases h2 : words.contains t = true
    · simp only [h1, h2, if_true]; simp
    · by_cases h3 : 16 < t.length
      · simp only [h1, h2, h3, if_true]; simp
      · simp only [h1, h2, h3, if_false]; simp
theorem digits_at {s : ByteArray} (h : s.data.toList.all digit = true) (k : Nat) (hk : k < s.size) : 48 ≤ s[k].toNat ∧ s[k].toNat ≤ 57 := by
  have := List.all_eq_true.1 h s[k] (by show s.data[k] ∈ s.data.toList; simp)
  rw [digit_nat] at this
  simpa using this
theorem head_at {s : ByteArray} (h : 0 < s.size) : s.data.toList.head? = some s[0] := by
  have := drop_at s 0 h
  rw [List.drop_zero] at this
  rw [this]
  rfl
theorem eq48 (c : UInt8) : (some c = some (48 : UInt8)) ↔ c.toNat = 48 := by rw [Option.some.injEq, ← UInt8.toNat_inj]; rfl

set_option maxHeartbeats 1000000 in
set_option maxRecDepth 100000 in
theorem bounded_any (s : ByteArray) (w : World) (hs : s.size ≤ 140737488351232) (hd : s.data.toList.all digit = true) :
    Calls Tryz.prog 187 #[.string s] w fun e w' => e = .returned (.int .i64 (boundE s.data.toList : Nat)) ∧ w = w' := by
  have Hl := Lib.hid (show s.data.toList.length = s.size by simp)
  have Hd := Lib.hid hd
  clear hd
  by_cases h1 : 1 < s.size ∧ s.data.toList.head? = some 48
  · obtain ⟨h1, h2⟩ := h1
    have HE := Lib.hid (show boundE s.data.toList = 2 by unfold boundE; rw [if_pos ⟨by rw [Hl.out]; exact h1, h2⟩])
    rw [head_at (by omega), eq48] at h2
    have e48 : ((s[0].toNat : Int) == 48) = true := by simp; omega
    clear h2
    go_enter Tryz.func187, Tryz.ntmps187
    go_wp2
    go_ret
    exact ⟨by rw [HE.out]; rfl, rfl⟩
  · have hne : ¬ (1 < s.data.toList.length ∧ s.data.toList.head? = some 48) := by rw [Hl.out]; exact h1
    have HE3 := Lib.hid (show 1099511627776 < num s.data.toList → boundE s.data.toList = 3 from fun h => by unfold boundE; rw [if_neg hne, if_pos h])
    have HE0 := Lib.hid (show ¬ 1099511627776 < num s.data.toList → boundE s.data.toList = 0 from fun h => by unfold boundE; rw [if_neg hne, if_neg h])
    clear hne
    rcases (show (∃ h : 1 < s.size, ((s[0].toNat : Int) == 48) = false) ∨ ¬ 1 < s.size by
      by_cases h0 : 1 < s.size
      · refine .inl ⟨h0, ?_⟩
        have : ¬ s[0].toNat = 48 := fun h => h1 ⟨h0, by rw [head_at (by omega), eq48]; exact h⟩
        simp; omega
      · exact .inr h0) with ⟨h0, e48⟩ | h0
    all_goals
      clear h1
      go_enter Tryz.func187, Tryz.ntmps187
      go_wp2
      go_loop [3, 15] (fun n i => ∃ k : Nat, k ≤ s.size ∧ i = .int .i64 k ∧ n = .int .i64 (num (s.data.toList.take k) : Nat) ∧ num (s.data.toList.take k) ≤ 1099511627776) (fun _ i => s.size - (intOf i).toNat)
      case atStart => exact ⟨0, Nat.zero_le _, rfl, rfl, by simp [num]⟩
      case round =>
        obtain ⟨k, hk, rfl, rfl, hn⟩ := hrel
        by_cases hlt : k < s.size
        · have hb := digits_at Hd.out k hlt
          have HN := Lib.hid (show num (s.data.toList.take (k + 1)) = num (s.data.toList.take k) * 10 + (s[k].toNat - 48) by rw [take_snoc s k hlt, num_snoc])
          have HT := Lib.hid (num_take s.data.toList (k + 1))
          generalize num (s.data.toList.take k) = n at *
          go_wp2
          · go_ret
            have : 1099511627776 < num s.data.toList := by have := HN.out; have := HT.out; omega
            exact ⟨by rw [HE3.out this]; rfl, rfl⟩
          · go_round
            case rel => exact ⟨k + 1, by omega, by go_num, by rw [HN.out]; congr 1; omega, by rw [HN.out]; omega⟩
            case measure => simp [intOf]; omega
        · have ht : s.data.toList.take k = s.data.toList := List.take_of_length_le (by rw [Hl.out]; omega)
          rw [ht] at hn
          have H0 := Lib.hid (HE0.out (by omega))
          go_wp2
          go_ret
          exact ⟨by rw [H0.out]; rfl, rfl⟩

/-- 'no digit', on runes -/
def noDigit (r : Nat) : Bool := decide (r < 48) || decide (57 < r)
theorem noDigit_pays (w : World) : PredAt Tryz.prog 186 #[] encR noDigit w := fun W r _ => by
  unfold FnGives
  rcases (show r < 48 ∨ (48 ≤ r ∧ r ≤ 57) ∨ 57 < r by omega) with h | h | h
  all_goals
    first | have d0 : decide ((r : Int) < 48) = true := by simp; omega
          | have d0 : decide ((r : Int) < 48) = false := by simp; omega
    first | have d1 : decide (57 < (r : Int)) = true := by simp; omega
          | have d1 : decide (57 < (r : Int)) = false := by simp; omega
    go_enter Tryz.func186, Tryz.ntmps186
    go_wp2
    go_ret
    exact ⟨by simp [noDigit]; omega, 0, rfl⟩
theorem idx_no {s : ByteArray} (ha : ∀ k (h : k < s.size), s[k].toNat < 128) : ∀ f pos, s.size ≤ pos + f → (∀ k (h : k < s.size), pos ≤ k → noDigit s[k].toNat = false) → Lib.idxFuncFrom noDigit true s f pos = -1
  | 0, _, _, _ => rfl
  | f + 1, pos, hf, hn => by
    unfold Lib.idxFuncFrom
    by_cases hp : pos < s.size
    · rw [if_pos hp, decode_ascii s pos hp (ha pos hp), if_neg (by rw [hn pos hp (Nat.le_refl _)]; simp)]
      exact idx_no ha f (pos + 1) (by omega) (fun k h hk => hn k h (by omega))
    · rw [if_neg hp]
theorem idx_yes {s : ByteArray} (ha : ∀ k (h : k < s.size), s[k].toNat < 128) : ∀ f pos, s.size ≤ pos + f → (∃ k, ∃ h : k < s.size, pos ≤ k ∧ noDigit s[k].toNat = true) → 0 ≤ Lib.idxFuncFrom noDigit true s f pos
  | 0, pos, hf, ⟨k, h, hk, _⟩ => by omega
  | f + 1, pos, hf, ⟨k, h, hk, hn⟩ => by
    unfold Lib.idxFuncFrom
    have hp : pos < s.size := by omega
    rw [if_pos hp, decode_ascii s pos hp (ha pos hp)]
    by_cases hy : noDigit s[pos].toNat = true
    · rw [if_pos hy]; omega
    · rw [if_neg hy]
      refine idx_yes ha f (pos + 1) (by omega) ⟨k, h, ?_, hn⟩
      rcases Nat.lt_or_ge pos k with h' | h'
      · omega
      · obtain rfl : pos = k := by omega
        exact absurd hn hy
theorem small_ascii {s : ByteArray} (h : ∀ c ∈ s.data.toList, small c = true) : ∀ k (hk : k < s.size), s[k].toNat < 128 := fun k hk => by
  have := h s[k] (by show s.data[k] ∈ s.data.toList; simp)
  rw [small_nat] at this
  simp at this
  omega
theorem digit_no (c : UInt8) : noDigit c.toNat = !digit c := by
  rw [digit_nat, Bool.eq_iff_iff]
  simp [noDigit]
theorem idx_digits {s : ByteArray} (h : ∀ c ∈ s.data.toList, small c = true) : (s.data.toList.all digit = true → Lib.idxFunc noDigit true s = -1) ∧ (s.data.toList.all digit = false → 0 ≤ Lib.idxFunc noDigit true s) := by
  have ha := small_ascii h
  constructor
  · intro hd
    refine idx_no ha _ _ (by omega) (fun k hk _ => ?_)
    have := List.all_eq_true.1 hd s[k] (by show s.data[k] ∈ s.data.toList; simp)
    rw [digit_no, this]; rfl
  · intro hd
    rw [List.all_eq_false] at hd
    obtain ⟨c, hc, hn⟩ := hd
    obtain ⟨k, hk, rfl⟩ := List.getElem_of_mem hc
    refine idx_yes ha _ _ (by omega) ⟨k, by simpa using hk, by omega, ?_⟩
    have e : s[k]'(by simpa using hk) = s.data.toList[k] := rfl
    rw [digit_no, e]
    simpa using hn

theorem all_snoc (s : ByteArray) (k : Nat) (h : k < s.size) : (s.data.toList.take (k + 1)).all small = ((s.data.toList.take k).all small && small s[k]) := by
  rw [take_snoc s k h]; simp
theorem byte_ways (n : Nat) : n < 45 ∨ (45 ≤ n ∧ n ≤ 45) ∨ (45 < n ∧ n < 48) ∨ (48 ≤ n ∧ n ≤ 57) ∨ (57 < n ∧ n < 97) ∨ (97 ≤ n ∧ n ≤ 122) ∨ 122 < n := by omega

set_option maxHeartbeats 1000000 in
/-- a run as a name: its length alone decides -/
theorem markName_run (s : ByteArray) (w : World) (hs : s.size ≤ 140737488351232) (hne : 1 ≤ s.size) (hall : ∀ c ∈ s.data.toList, small c = true) :
    Calls Tryz.prog 115 #[.string s] w fun e w' => e = .returned (.bool (decide (s.size ≤ 16))) ∧ w = w' := by
  by_cases h2 : 16 < s.size
  · have Hd := Lib.hid (show decide (s.size ≤ 16) = false by simp; omega)
    go_enter Tryz.func115, Tryz.ntmps115
    go_wp2
    go_ret
    exact ⟨by rw [Hd.out]; rfl, rfl⟩
  have Hd := Lib.hid (show decide (s.size ≤ 16) = true by simp; omega)
  have Ha := Lib.hid hall
  clear hall
  go_enter Tryz.func115, Tryz.ntmps115
  go_wp2
  go_loop [14] (fun i => ∃ k : Nat, k ≤ s.size ∧ i = .int .i64 k) (fun i => s.size - (intOf i).toNat)
  case atStart => exact ⟨0, Nat.zero_le _, rfl⟩
  case round =>
    obtain ⟨k, hk, rfl⟩ := hrel
    by_cases hlt : k < s.size
    · have hc := Ha.out s[k] (by show s.data[k] ∈ s.data.toList; simp)
      rw [small_nat] at hc
      simp at hc
      rcases byte_ways s[k].toNat with h | h | h | h | h | h | h
      all_goals first
        | (exfalso; omega)
        | (first
            | have e45 : ((s[k].toNat : Int) != 45) = true := by simp; omega
            | have e45 : ((s[k].toNat : Int) != 45) = false := by simp; omega
           first
            | have d57 : decide ((s[k].toNat : Int) ≤ 57) = true := by simp; omega
            | have d57 : decide ((s[k].toNat : Int) ≤ 57) = false := by simp; omega
           first
            | have d122 : decide ((s[k].toNat : Int) ≤ 122) = true := by simp; omega
            | have d122 : decide ((s[k].toNat : Int) ≤ 122) = false := by simp; omega
           clear hc
           go_wp2
           go_round
           case rel => exact ⟨k + 1, by omega, by go_num⟩
           case measure => simp [intOf]; omega)
    · go_wp2
      go_ret
      exact ⟨by rw [Hd.out]; rfl, rfl⟩

set_option maxHeartbeats 1000000 in
set_option maxRecDepth 100000 in
theorem ranked_any (s : ByteArray) (w : World) (hW : Wd w) (hs : s.size ≤ 140737488351232) (hne : 1 ≤ s.size) (hall : ∀ c ∈ s.data.toList, small c = true) :
    Calls Tryz.prog 170 #[.string s] w fun e w' => e = .returned (.tuple #[.int .i64 (rankK s.data.toList : Nat), .int .i64 (rankE s.data.toList : Nat)]) ∧ Below w.heap.size w w' := by
  have hC := Tryz.strings_IndexFunc 186 #[] (enters_of Tryz.func186 (by kernel_rfl) rfl) noDigit s w (noDigit_pays w)
  have HC := Lib.hid hC
  have Hi := Lib.hid (idx_digits hall)
  have Hl := Lib.hid (show s.data.toList.length = s.size by simp)
  clear hC
  cases hd : s.data.toList.all digit
  · have hx := Hi.out.2 hd
    have HK := Lib.hid (show rankK s.data.toList = if isWord s.data.toList then 0 else 1 by unfold rankK; rw [hd]; rfl)
    have HE := Lib.hid (show rankE s.data.toList = if isWord s.data.toList then 0 else if 16 < s.data.toList.length then 2 else 0 by unfold rankE; rw [hd]; rfl)
    generalize Lib.idxFunc noDigit true s = x at *
    clear hd Hi
    cases hw : isWord s.data.toList
    · by_cases h16 : s.size ≤ 16
      · have H1 := Lib.hid (show rankK s.data.toList = 1 by rw [HK.out, hw]; rfl)
        have H2 := Lib.hid (show rankE s.data.toList = 0 by rw [HE.out, hw, Hl.out]; simp; omega)
        have HW := Lib.hid hw
        have Hd := Lib.hid (show decide (s.size ≤ 16) = true by simpa using h16)
        clear hw
        go_enter Tryz.func170, Tryz.ntmps170
        go_wp2_with fail
        refine HC.out.mono ?_
        rintro e w1 ⟨rfl, hb1⟩
        go_wp2_with fail
        refine (reserved_any s _ (hW.all hb1)).mono ?_
        rintro e w' ⟨rfl, rfl⟩
        rw [HW.out]
        go_wp2_with fail
        refine (markName_run s _ hs hne hall).mono ?_
        rintro e w' ⟨rfl, rfl⟩
        rw [Hd.out]
        go_wp2_with fail
        go_ret2
        exact ⟨by rw [H1.out, H2.out]; rfl, hb1⟩
      · have H1 := Lib.hid (show rankK s.data.toList = 1 by rw [HK.out, hw]; rfl)
        have H2 := Lib.hid (show rankE s.data.toList = 2 by rw [HE.out, hw, Hl.out]; simp; omega)
        have HW := Lib.hid hw
        have Hd := Lib.hid (show decide (s.size ≤ 16) = false by simpa using h16)
        clear hw
        go_enter Tryz.func170, Tryz.ntmps170
        go_wp2_with fail
        refine HC.out.mono ?_
        rintro e w1 ⟨rfl, hb1⟩
        go_wp2_with fail
        refine (reserved_any s _ (hW.all hb1)).mono ?_
        rintro e w' ⟨rfl, rfl⟩
        rw [HW.out]
        go_wp2_with fail
        refine (markName_run s _ hs hne hall).mono ?_
        rintro e w' ⟨rfl, rfl⟩
        rw [Hd.out]
        go_wp2_with fail
        go_ret2
        exact ⟨by rw [H1.out, H2.out]; rfl, hb1⟩
    · have H1 := Lib.hid (show rankK s.data.toList = 0 by rw [HK.out, hw]; rfl)
      have H2 := Lib.hid (show rankE s.data.toList = 0 by rw [HE.out, hw]; rfl)
      have HW := Lib.hid hw
      clear hw
      go_enter Tryz.func170, Tryz.ntmps170
      go_wp2_with fail
      refine HC.out.mono ?_
      rintro e w1 ⟨rfl, hb1⟩
      go_wp2_with fail
      refine (reserved_any s _ (hW.all hb1)).mono ?_
      rintro e w' ⟨rfl, rfl⟩
      rw [HW.out]
      go_wp2_with fail
      go_ret2
      exact ⟨by rw [H1.out, H2.out]; rfl, hb1⟩
  · have hx := Hi.out.1 hd
    have HX := Lib.hid hx
    have H1 := Lib.hid (show rankK s.data.toList = 2 by unfold rankK; rw [hd]; rfl)
    have H2 := Lib.hid (show rankE s.data.toList = boundE s.data.toList by unfold rankE; rw [hd]; rfl)
    have HD := Lib.hid hd
    clear hd hx Hi
    go_enter Tryz.func170, Tryz.ntmps170
    go_wp2_with fail
    refine HC.out.mono ?_
    rintro e w1 ⟨rfl, hb1⟩
    rw [HX.out]
    go_wp2_with fail
    refine (bounded_any s _ hs HD.out).mono ?_
    rintro e w' ⟨rfl, rfl⟩
    go_wp2_with fail
    go_ret2
    exact ⟨by rw [H1.out, H2.out]; rfl, hb1⟩
end Go.Proofs.YtbkffdfboloogaaGreatDoor
namespace Go.Proofs.YtbkffdfboloogaaGreatDoor
open Go.RowKit Go.Lib
set_option linter.unusedVariables false

theorem all_bad (s : ByteArray) (k : Nat) (h : k < s.size) (hn : small s[k] = false) : s.data.toList.all small = false := by
  rw [List.all_eq_false]
  exact ⟨s[k], by show s.data[k] ∈ s.data.toList; simp, by simp [hn]⟩
theorem all_whole (s : ByteArray) (k : Nat) (h : s.size ≤ k) : (s.data.toList.take k).all small = s.data.toList.all small := by
  rw [List.take_of_length_le (by simpa using h)]

set_option maxHeartbeats 800000 in
theorem markName_any (s : ByteArray) (w : World) (hs : s.size ≤ maxLen) :
    Calls Tryz.prog 115 #[.string s] w fun e w' => e = .returned (.bool (nameB s.data.toList)) ∧ w = w' := by
  unfold maxLen at hs
  have hlen : s.data.toList.length = s.size := by simp
  by_cases h1 : s.size < 1
  · go_enter Tryz.func115, Tryz.ntmps115
    go_wp2
    go_ret
    exact ⟨by simp [nameB]; omega, rfl⟩
  by_cases h2 : 16 < s.size
  · go_enter Tryz.func115, Tryz.ntmps115
    go_wp2
    go_ret
    exact ⟨by simp [nameB]; omega, rfl⟩
  have Hl := Lib.hid hlen
  clear hlen
  go_enter Tryz.func115, Tryz.ntmps115
  go_wp2
  go_loop [14] (fun i => ∃ k : Nat, k ≤ s.size ∧ i = .int .i64 k ∧ Hid ((s.data.toList.take k).all small = true)) (fun i => s.size - (intOf i).toNat)
  case atStart => exact ⟨0, Nat.zero_le _, rfl, Lib.hid (by simp)⟩
  case round =>
    obtain ⟨k, hk, rfl, Hk⟩ := hrel
    by_cases hlt : k < s.size
    · have HS := Lib.hid (all_snoc s k hlt)
      have HB := Lib.hid (all_bad s k hlt)
      have Hc := Lib.hid (small_nat s[k])
      rcases byte_ways s[k].toNat with h | h | h | h | h | h | h
      all_goals
        first
          | have e45 : ((s[k].toNat : Int) != 45) = true := by simp; omega
          | have e45 : ((s[k].toNat : Int) != 45) = false := by simp; omega
        first
          | have d57 : decide ((s[k].toNat : Int) ≤ 57) = true := by simp; omega
          | have d57 : decide ((s[k].toNat : Int) ≤ 57) = false := by simp; omega
        first
          | have d122 : decide ((s[k].toNat : Int) ≤ 122) = true := by simp; omega
          | have d122 : decide ((s[k].toNat : Int) ≤ 122) = false := by simp; omega
        go_wp2
        first
          | (go_round
             case rel => exact ⟨k + 1, by omega, by go_num, Lib.hid (by rw [HS.out, Hk.out, Hc.out]; simp; omega)⟩
             case measure => simp [intOf]; omega)
          | (go_ret
             exact ⟨by rw [nameB, HB.out (by rw [Hc.out]; simp; omega)]; simp, rfl⟩)
    · go_wp2
      go_ret
      exact ⟨by rw [nameB, ← all_whole s k (by omega), Hk.out, Hl.out]; simp; omega, rfl⟩

set_option maxHeartbeats 800000 in
theorem refName_any (s : ByteArray) (w : World) (hs : s.size ≤ maxLen) :
    Calls Tryz.prog 106 #[.string s] w fun e w' => e = .returned (.bool (nameB s.data.toList)) ∧ w = w' := by
  unfold maxLen at hs
  have Hl := Lib.hid (show s.data.toList.length = s.size by simp)
  go_enter Tryz.func106, Tryz.ntmps106
  go_wp2
  go_loop [3] (fun i => ∃ k : Nat, k ≤ s.size ∧ i = .int .i64 k ∧ Hid ((s.data.toList.take k).all small = true)) (fun i => s.size - (intOf i).toNat)
  case atStart => exact ⟨0, Nat.zero_le _, rfl, Lib.hid (by simp)⟩
  case round =>
    obtain ⟨k, hk, rfl, Hk⟩ := hrel
    by_cases hlt : k < s.size
    · have HS := Lib.hid (all_snoc s k hlt)
      have HB := Lib.hid (all_bad s k hlt)
      have Hc := Lib.hid (small_nat s[k])
      rcases byte_ways s[k].toNat with h | h | h | h | h | h | h
      all_goals
        first
          | have e45 : ((s[k].toNat : Int) != 45) = true := by simp; omega
          | have e45 : ((s[k].toNat : Int) != 45) = false := by simp; omega
        first
          | have d57 : decide ((s[k].toNat : Int) ≤ 57) = true := by simp; omega
          | have d57 : decide ((s[k].toNat : Int) ≤ 57) = false := by simp; omega
        first
          | have d122 : decide ((s[k].toNat : Int) ≤ 122) = true := by simp; omega
          | have d122 : decide ((s[k].toNat : Int) ≤ 122) = false := by simp; omega
        go_wp2
        first
          | (go_round
             case rel => exact ⟨k + 1, by omega, by go_num, Lib.hid (by rw [HS.out, Hk.out, Hc.out]; simp; omega)⟩
             case measure => simp [intOf]; omega)
          | (go_ret
             exact ⟨by rw [nameB, HB.out (by rw [Hc.out]; simp; omega)]; simp, rfl⟩)
    · have Hw := Lib.hid (all_whole s k (by omega))
      rcases (show s.size < 1 ∨ (1 ≤ s.size ∧ s.size ≤ 16) ∨ 16 < s.size by omega) with h1 | h1 | h1
      all_goals
        first
          | have d1 : decide ((s.size : Int) ≤ 16) = true := by simp; omega
          | have d1 : decide ((s.size : Int) ≤ 16) = false := by simp; omega
        go_wp2
        go_ret
        exact ⟨by rw [nameB, ← Hw.out, Hk.out, Hl.out]; simp; omega, rfl⟩
end Go.Proofs.YtbkffdfboloogaaGreatDoor
