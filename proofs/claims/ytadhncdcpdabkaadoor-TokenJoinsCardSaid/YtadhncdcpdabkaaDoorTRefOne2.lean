/- The document's 'one': large letters, quotes, signs; the whole. -/
import Derived.Test.YtadhncdcpdabkaaDoorTRefOne
import Derived.Lib.ConvBytes
namespace Go.Proofs.YtadhncdcpdabkaaDoor
open Go.RowKit Go.Lib
set_option linter.unusedVariables false

theorem Tb.new3 (w : World) (x y : Int) (z : ByteArray) (o1 o2 : Obj) : Tb (((w.alloc (.cells #[.int .i64 x, .int .i64 y, .string z] 31)).alloc o1).alloc o2) w.heap.size x y z :=
  ((Tb.new w x y z).kept (World.grownBy_alloc _ o1 none) (by simp)).kept (World.grownBy_alloc _ o2 none) (by simp)
theorem below3 (w : World) (o1 o2 o3 : Obj) : Below w.heap.size w (((w.alloc o1).alloc o2).alloc o3) := (((Below.refl _ _).alloc (Nat.le_refl _) _).alloc (by simp) _).alloc (by simp; omega) _
theorem NextIs.bad {s : ByteArray} {i j : Nat} {tv : Value} {code : Int} (h : NextIs s i tv code j) (hc : code ≠ 0) (j' : Nat) : NextIs s i tv code j' := by
  rcases h with ⟨k, t, m, h1, h2, h3, h4⟩ | h
  · exact absurd h3 hc
  · exact .inr h
set_option maxHeartbeats 2000000 in
set_option maxRecDepth 100000 in
theorem refOne_large (s : ByteArray) (i : Nat) (w : World) (hs : s.size ≤ 1000000000) (hi : i < s.size) (hp : small s[i] = false) (hq : large s[i] = true) :
    Calls Tryd.prog 26 #[.string s, .int .i64 (i : Int)] w (RefPost s i w) := by
  have HN := Lib.hid (next_large_is s i hi hp hq)
  have Hst := Lib.hid (runTo_step hi hq)
  rw [large_nat] at hq
  simp at hq
  have a1 : decide (65 ≤ (s[i].toNat : Int)) = true := by simp; omega
  have a2 : decide ((s[i].toNat : Int) ≤ 90) = true := by simp; omega
  have hi0 : (0 : Int) ≤ (i : Int) := by omega
  have hi1 : (i : Int) < (s.size : Int) := by omega
  have Hp := Lib.hid hp
  clear hp hq
  go_enter Tryd.func26, Tryd.ntmps26
  go_wp2_with fail
  refine (refRun_any s[i] _).mono ?_
  rintro e w' ⟨rfl, rfl⟩
  rw [Hp.out]
  go_wp2_with fail
  go_loop [8] (fun e => ∃ k : Nat, i + 1 ≤ k ∧ k ≤ s.size ∧ e = .int .i64 k ∧ Hid (runTo large s k = runTo large s i)) (fun e => s.size - (intOf e).toNat)
  case atStart => exact ⟨i + 1, Nat.le_refl _, by omega, by go_num, Hst⟩
  case round =>
    obtain ⟨k, hk1, hk2, rfl, Hk⟩ := hrel
    have hk0 : (0 : Int) ≤ (k : Int) := by omega
    by_cases hlt : k < s.size
    · have hk3 : (k : Int) < (s.size : Int) := by omega
      cases hl : large s[k]
      · have HR := Lib.hid (Hk.out.symm.trans (runTo_stop hlt hl))
        have hN := HN.out
        rw [HR.out] at hN
        have HN := Lib.hid hN
        clear hN
        rw [large_nat] at hl
        rcases (show s[k].toNat < 65 ∨ (65 ≤ s[k].toNat ∧ 90 < s[k].toNat) by
          simp only [Bool.and_eq_false_iff, decide_eq_false_iff_not] at hl
          omega) with hb | ⟨hb1, hb2⟩
        · have b1 : decide (65 ≤ (s[k].toNat : Int)) = false := by simp; omega
          clear hl hb
          by_cases h3 : k = i + 3
          · have d3 : ((k : Int) - (i : Int) != 3) = false := by simp; omega
            have HN2 := Lib.hid (HN.out.1 h3)
            clear h3
            go_wp2_with fail
            refine bodyPost_ret (ret_tok3 rfl rfl rfl rfl (Tb.new w _ _ _)) rfl ?_
            exact ⟨_, _, k, rfl, HN2.out, (Below.refl w.heap.size w).alloc (Nat.le_refl _) _⟩
          · have d3 : ((k : Int) - (i : Int) != 3) = true := by simp; omega
            have HN2 := Lib.hid (HN.out.2 h3)
            clear h3
            go_wp2_with fail
            refine bodyPost_ret (ret_tok3 rfl rfl rfl rfl (Tb.new w _ _ _)) rfl ?_
            exact ⟨_, _, i, rfl, HN2.out.bad (by decide) i, (Below.refl w.heap.size w).alloc (Nat.le_refl _) _⟩
        · have b1 : decide (65 ≤ (s[k].toNat : Int)) = true := by simp; omega
          have b2 : decide ((s[k].toNat : Int) ≤ 90) = false := by simp; omega
          clear hl hb1 hb2
          by_cases h3 : k = i + 3
          · have d3 : ((k : Int) - (i : Int) != 3) = false := by simp; omega
            have HN2 := Lib.hid (HN.out.1 h3)
            clear h3
            go_wp2_with fail
            refine bodyPost_ret (ret_tok3 rfl rfl rfl rfl (Tb.new w _ _ _)) rfl ?_
            exact ⟨_, _, k, rfl, HN2.out, (Below.refl w.heap.size w).alloc (Nat.le_refl _) _⟩
          · have d3 : ((k : Int) - (i : Int) != 3) = true := by simp; omega
            have HN2 := Lib.hid (HN.out.2 h3)
            clear h3
            go_wp2_with fail
            refine bodyPost_ret (ret_tok3 rfl rfl rfl rfl (Tb.new w _ _ _)) rfl ?_
            exact ⟨_, _, i, rfl, HN2.out.bad (by decide) i, (Below.refl w.heap.size w).alloc (Nat.le_refl _) _⟩
      · have Hs2 := Lib.hid ((runTo_step hlt hl).trans Hk.out)
        rw [large_nat] at hl
        simp at hl
        have b1 : decide (65 ≤ (s[k].toNat : Int)) = true := by simp; omega
        have b2 : decide ((s[k].toNat : Int) ≤ 90) = true := by simp; omega
        clear hl
        go_wp2_with fail
        go_round
        case rel => exact ⟨k + 1, by omega, by omega, by go_num, Hs2⟩
        case measure => simp [intOf]; omega
    · have HR := Lib.hid (Hk.out.symm.trans (runTo_end (p := large) (s := s) (k := k) (by omega)))
      have hN := HN.out
      rw [HR.out] at hN
      have HN := Lib.hid hN
      clear hN
      have hd : decide ((k : Int) < (s.size : Int)) = false := by simp; omega
      by_cases h3 : k = i + 3
      · have d3 : ((k : Int) - (i : Int) != 3) = false := by simp; omega
        have HN2 := Lib.hid (HN.out.1 h3)
        clear h3
        go_wp2_with fail
        refine bodyPost_ret (ret_tok3 rfl rfl rfl rfl (Tb.new w _ _ _)) rfl ?_
        exact ⟨_, _, k, rfl, HN2.out, (Below.refl w.heap.size w).alloc (Nat.le_refl _) _⟩
      · have d3 : ((k : Int) - (i : Int) != 3) = true := by simp; omega
        have HN2 := Lib.hid (HN.out.2 h3)
        clear h3
        go_wp2_with fail
        refine bodyPost_ret (ret_tok3 rfl rfl rfl rfl (Tb.new w _ _ _)) rfl ?_
        exact ⟨_, _, i, rfl, HN2.out.bad (by decide) i, (Below.refl w.heap.size w).alloc (Nat.le_refl _) _⟩
set_option maxHeartbeats 2000000 in
set_option maxRecDepth 100000 in
theorem refOne_quote (s : ByteArray) (i : Nat) (w : World) (hs : s.size ≤ 1000000000) (hi : i < s.size) (hp : small s[i] = false) (hq : large s[i] = false) (h3 : s[i].toNat = 34) :
    Calls Tryd.prog 26 #[.string s, .int .i64 (i : Int)] w (RefPost s i w) := by
  have HN := Lib.hid (next_quote_is s i hi hp hq h3)
  have hql := hq
  rw [large_nat] at hql
  simp only [Bool.and_eq_false_iff, decide_eq_false_iff_not] at hql
  have hi0 : (0 : Int) ≤ (i : Int) := by omega
  have hi1 : (i : Int) < (s.size : Int) := by omega
  have Hp := Lib.hid hp
  have a1 : decide (65 ≤ (s[i].toNat : Int)) = false := by simp; omega
  have e34 : ((s[i].toNat : Int) == 34) = true := by simp; omega
  clear hp hq hql h3
  go_enter Tryd.func26, Tryd.ntmps26
  go_wp2_with fail
  refine (refRun_any s[i] _).mono ?_
  rintro e w' ⟨rfl, rfl⟩
  rw [Hp.out]
  go_wp2_with fail
  go_loop [8] (fun e => ∃ k : Nat, i + 1 ≤ k ∧ k ≤ s.size ∧ e = .int .i64 k ∧ Hid (runTo quotd s k = runTo quotd s (i + 1))) (fun e => s.size - (intOf e).toNat)
  case atStart => exact ⟨i + 1, Nat.le_refl _, by omega, by go_num, Lib.hid rfl⟩
  case round =>
    obtain ⟨k, hk1, hk2, rfl, Hk⟩ := hrel
    have hk0 : (0 : Int) ≤ (k : Int) := by omega
    by_cases hlt : k < s.size
    · have hk3 : (k : Int) < (s.size : Int) := by omega
      have Hq := Lib.hid (quotd_nat s[k])
      rcases (show s[k].toNat = 34 ∨ (s[k].toNat ≠ 34 ∧ s[k].toNat < 32) ∨ (s[k].toNat ≠ 34 ∧ 32 ≤ s[k].toNat ∧ 126 < s[k].toNat) ∨ (s[k].toNat ≠ 34 ∧ 32 ≤ s[k].toNat ∧ s[k].toNat ≤ 126) by omega) with h | h | h | h
      · have HR := Lib.hid (Hk.out.symm.trans (runTo_stop hlt (by rw [Hq.out]; simp; omega)))
        have HN2 : Hid (NextIs s i (.agg #[.int .i64 3, .int .i64 (i : Nat), .string (s.extract (i + 1) k)]) 0 (k + 1)) := by
          have h1 := HN.out.1
          simp only [HR.out] at h1
          exact Lib.hid (h1 hlt h)
        have n34 : ((s[k].toNat : Int) != 34) = false := by simp; omega
        have nl : ((k : Int) == (s.size : Int)) = false := beq_eq_false_iff_ne.2 (by omega)
        clear h HN Hq
        go_wp2_with fail
        refine bodyPost_ret (ret_tok3 rfl rfl rfl rfl (Tb.new w _ _ _)) rfl ?_
        exact ⟨_, _, k + 1, by simp, HN2.out, (Below.refl w.heap.size w).alloc (Nat.le_refl _) _⟩
      · have HR := Lib.hid (Hk.out.symm.trans (runTo_stop hlt (by rw [Hq.out]; simp; omega)))
        have HN2 := Lib.hid (HN.out.2 (by rw [HR.out]; exact .inr ⟨hlt, h.1⟩))
        have n34 : ((s[k].toNat : Int) != 34) = true := by simp; omega
        have n32 : decide ((s[k].toNat : Int) < 32) = true := by simp; omega
        clear h HN Hq
        go_wp2_with fail
        refine bodyPost_ret (ret_tok3 rfl rfl rfl rfl (Tb.new w _ _ _)) rfl ?_
        exact ⟨_, _, i, rfl, HN2.out.bad (by decide) i, (Below.refl w.heap.size w).alloc (Nat.le_refl _) _⟩
      · have HR := Lib.hid (Hk.out.symm.trans (runTo_stop hlt (by rw [Hq.out]; simp; omega)))
        have HN2 := Lib.hid (HN.out.2 (by rw [HR.out]; exact .inr ⟨hlt, h.1⟩))
        have n34 : ((s[k].toNat : Int) != 34) = true := by simp; omega
        have n32 : decide ((s[k].toNat : Int) < 32) = false := by simp; omega
        have n126 : decide (126 < (s[k].toNat : Int)) = true := by simp; omega
        clear h HN Hq
        go_wp2_with fail
        refine bodyPost_ret (ret_tok3 rfl rfl rfl rfl (Tb.new w _ _ _)) rfl ?_
        exact ⟨_, _, i, rfl, HN2.out.bad (by decide) i, (Below.refl w.heap.size w).alloc (Nat.le_refl _) _⟩
      · have Hs2 := Lib.hid ((runTo_step hlt (by rw [Hq.out]; simp; omega)).trans Hk.out)
        have n34 : ((s[k].toNat : Int) != 34) = true := by simp; omega
        have n32 : decide ((s[k].toNat : Int) < 32) = false := by simp; omega
        have n126 : decide (126 < (s[k].toNat : Int)) = false := by simp; omega
        clear h Hq
        go_wp2_with fail
        go_round
        case rel => exact ⟨k + 1, by omega, by omega, by go_num, Hs2⟩
        case measure => simp [intOf]; omega
    · obtain rfl : k = s.size := by omega
      have HR := Lib.hid (Hk.out.symm.trans (runTo_end (p := quotd) (s := s) (k := s.size) (by omega)))
      have HN2 := Lib.hid (HN.out.2 (by rw [HR.out]; exact .inl (Nat.le_refl _)))
      clear HN
      go_wp2_with fail
      refine bodyPost_ret (ret_tok3 rfl rfl rfl rfl (Tb.new w _ _ _)) rfl ?_
      exact ⟨_, _, i, rfl, HN2.out.bad (by decide) i, (Below.refl w.heap.size w).alloc (Nat.le_refl _) _⟩
def signsB : List ByteArray := [⟨#[40]⟩, ⟨#[41]⟩, ⟨#[44]⟩, ⟨#[59]⟩, ⟨#[58]⟩, ⟨#[46]⟩, ⟨#[61]⟩, ⟨#[126]⟩]
theorem signs_in (c : UInt8) : inL signsB ⟨#[c]⟩ = signy c := by
  unfold inL signsB signy
  simp only [List.any_cons, List.any_nil, eqB, ByteArray.toList_eq]
  rw [Bool.eq_iff_iff]
  simp
  constructor
  · rintro (h | h | h | h | h | h | h | h) <;> simp [h]
  · rintro (h | h | h | h | h | h | h | h) <;> simp [h]
theorem conv_one (W : World) (c : UInt8) (n : Nat) (hn : W.heap.size = n) :
    (convert 29 9 (.slice (some ⟨n, 0, none⟩) 1 1)).run Tryd.prog (W.alloc (.cells #[.int .u8 (c.toNat : Int)] 5)) = .ok (.string ⟨#[c]⟩) (W.alloc (.cells #[.int .u8 (c.toNat : Int)] 5)) := by
  subst hn
  exact run_convert_bytes_back (P := Tryd.prog) _ _ _ 5 ⟨W.heap.size, 0, none⟩ 1 [c] Tryd.underlying29 Tryd.underlying5 Tryd.underlying9 (fun j hj => by
    have hj0 : j = 0 := by simpa using hj
    subst hj0
    simp [Addr.add])
def signCells : Array Value := #[.string ⟨#[40]⟩, .string ⟨#[41]⟩, .string ⟨#[44]⟩, .string ⟨#[59]⟩, .string ⟨#[58]⟩, .string ⟨#[46]⟩, .string ⟨#[61]⟩, .string ⟨#[126]⟩]
theorem signs_at (W : World) (o : Obj) (n : Nat) (hn : W.heap.size = n) : ∀ k x, signsB[k]? = some x → ((W.alloc (.cells signCells 9)).alloc o).cell? ⟨n, k, none⟩ = some (.string x) := by
  subst hn
  intro k x h
  have hb : ((W.alloc (.cells signCells 9)).alloc o).heap[W.heap.size]? = some (.cells signCells 9 (0, 0)) := heap_alloc2_old W _ _
  simp only [World.cell?, hb]
  show signCells[k]? = _
  have : signCells[k]? = (signsB.map Value.string)[k]? := by
    show _ = _
    rw [show signCells = (signsB.map Value.string).toArray from rfl, List.getElem?_toArray]
  rw [this, List.getElem?_map, h]
  rfl
theorem in_signs (W : World) (o : Obj) (c : UInt8) (n cap : Nat) (hn : W.heap.size = n) :
    Calls Tryd.prog 41 #[.slice (some ⟨n, 0, none⟩) 8 cap, .string ⟨#[c]⟩] ((W.alloc (.cells signCells 9)).alloc o) fun e w' => e = .returned (.bool (signy c)) ∧ (W.alloc (.cells signCells 9)).alloc o = w' := by
  have := in_any signsB ⟨#[c]⟩ n cap _ (by decide) (signs_at W o n hn)
  rw [signs_in] at this
  exact this
set_option maxHeartbeats 2000000 in
set_option maxRecDepth 100000 in
theorem refOne_sign (s : ByteArray) (i : Nat) (w : World) (hs : s.size ≤ 1000000000) (hi : i < s.size) (hp : small s[i] = false) (hq : large s[i] = false) (h3 : s[i].toNat ≠ 34) :
    Calls Tryd.prog 26 #[.string s, .int .i64 (i : Int)] w (RefPost s i w) := by
  have HN := Lib.hid (next_sign_is s i hi hp hq h3)
  have hql := hq
  rw [large_nat] at hql
  simp only [Bool.and_eq_false_iff, decide_eq_false_iff_not] at hql
  have hi0 : (0 : Int) ≤ (i : Int) := by omega
  have hi1 : (i : Int) < (s.size : Int) := by omega
  have Hp := Lib.hid hp
  have hcv := conv_one ((w.alloc (.cells #[.int .i64 0, .int .i64 0, .string ⟨#[]⟩] 31)).alloc (.cells #[.string ⟨#[40]⟩, .string ⟨#[41]⟩, .string ⟨#[44]⟩, .string ⟨#[59]⟩, .string ⟨#[58]⟩, .string ⟨#[46]⟩, .string ⟨#[61]⟩, .string ⟨#[126]⟩] 9)) s[i] (w.heap.size + 1 + 1) (by simp)
  have hin := in_signs (w.alloc (.cells #[.int .i64 0, .int .i64 0, .string ⟨#[]⟩] 31)) (.cells #[.int .u8 (s[i].toNat : Int)] 5) s[i] (w.heap.size + 1) 8 (by simp)
  unfold signCells at hin
  have Hin := Lib.hid hin
  clear hin
  have e34 : ((s[i].toNat : Int) == 34) = false := by simp; omega
  rcases (show s[i].toNat < 65 ∨ (65 ≤ s[i].toNat ∧ 90 < s[i].toNat) by omega) with hb | ⟨hb1, hb2⟩
  · have a1 : decide (65 ≤ (s[i].toNat : Int)) = false := by simp; omega
    have hno : (s[i].toNat = 60 ∨ s[i].toNat = 62) → signy s[i] = false := fun h => by
      cases hs : signy s[i]
      · rfl
      · have := (signy_nat _).1 hs; omega
    have Hno := Lib.hid hno
    clear hno hql
    by_cases h6 : s[i].toNat = 60 ∨ s[i].toNat = 62
    · have Hsg := Lib.hid (Hno.out h6)
      by_cases h61 : ∃ h : i + 1 < s.size, s[i + 1].toNat = 61
      · obtain ⟨hl, h61⟩ := h61
        have HN2 := Lib.hid (HN.out.2.1 h6 hl h61)
        have hl1 : (i : Int) + 1 < (s.size : Int) := by omega
        have e61 : ((s[i + 1].toNat : Int) == 61) = true := by simp; omega
        clear h61
        rcases h6 with h6 | h6
        all_goals
          first | have e60 : ((s[i].toNat : Int) == 60) = true := by simp; omega
                | have e60 : ((s[i].toNat : Int) == 60) = false := by simp; omega
          first | have e62 : ((s[i].toNat : Int) == 62) = true := by simp; omega
                | have e62 : ((s[i].toNat : Int) == 62) = false := by simp; omega
          clear h6 hp hq h3
          go_enter Tryd.func26, Tryd.ntmps26
          go_wp2_with fail
          refine (refRun_any s[i] _).mono ?_
          rintro e w' ⟨rfl, rfl⟩
          rw [Hp.out]
          go_wp2_with fail
          refine bodyPost_ret (ret_tok3 rfl rfl rfl rfl (Tb.new w _ _ _)) rfl ?_
          exact ⟨_, _, i + 2, by congr 1, HN2.out, (Below.refl w.heap.size w).alloc (Nat.le_refl _) _⟩
      · have hbad : s.size ≤ i + 1 ∨ ∃ h : i + 1 < s.size, s[i + 1].toNat ≠ 61 := by
          by_cases hl : i + 1 < s.size
          · exact .inr ⟨hl, fun h => h61 ⟨hl, h⟩⟩
          · exact .inl (by omega)
        have HN2 := Lib.hid (HN.out.2.2.1 h6 hbad)
        clear h61
        rcases hbad with hbad | ⟨hl, hbad⟩
        · have dl : decide ((i : Int) + 1 < (s.size : Int)) = false := by simp; omega
          rcases h6 with h6 | h6
          all_goals
            first | have e60 : ((s[i].toNat : Int) == 60) = true := by simp; omega
                  | have e60 : ((s[i].toNat : Int) == 60) = false := by simp; omega
            first | have e62 : ((s[i].toNat : Int) == 62) = true := by simp; omega
                  | have e62 : ((s[i].toNat : Int) == 62) = false := by simp; omega
            clear h6 hp hq h3
            go_enter Tryd.func26, Tryd.ntmps26
            go_wp2_with fail
            refine (refRun_any s[i] _).mono ?_
            rintro e w' ⟨rfl, rfl⟩
            rw [Hp.out]
            go_wp2_with fail
            refine Hin.out.mono ?_
            rintro e w' ⟨rfl, rfl⟩
            rw [Hsg.out]
            go_wp2_with fail
            refine bodyPost_ret (ret_tok3 rfl rfl rfl rfl (Tb.new3 w _ _ _ _ _)) rfl ?_
            exact ⟨_, _, i, rfl, HN2.out.bad (by decide) i, below3 w _ _ _⟩
        · have hl1 : (i : Int) + 1 < (s.size : Int) := by omega
          have e61 : ((s[i + 1].toNat : Int) == 61) = false := by simp; omega
          clear hbad
          rcases h6 with h6 | h6
          all_goals
            first | have e60 : ((s[i].toNat : Int) == 60) = true := by simp; omega
                  | have e60 : ((s[i].toNat : Int) == 60) = false := by simp; omega
            first | have e62 : ((s[i].toNat : Int) == 62) = true := by simp; omega
                  | have e62 : ((s[i].toNat : Int) == 62) = false := by simp; omega
            clear h6 hp hq h3
            go_enter Tryd.func26, Tryd.ntmps26
            go_wp2_with fail
            refine (refRun_any s[i] _).mono ?_
            rintro e w' ⟨rfl, rfl⟩
            rw [Hp.out]
            go_wp2_with fail
            refine Hin.out.mono ?_
            rintro e w' ⟨rfl, rfl⟩
            rw [Hsg.out]
            go_wp2_with fail
            refine bodyPost_ret (ret_tok3 rfl rfl rfl rfl (Tb.new3 w _ _ _ _ _)) rfl ?_
            exact ⟨_, _, i, rfl, HN2.out.bad (by decide) i, below3 w _ _ _⟩
    · have e60 : ((s[i].toNat : Int) == 60) = false := by simp; omega
      have e62 : ((s[i].toNat : Int) == 62) = false := by simp; omega
      cases hsg : signy s[i]
      · have Hsg := Lib.hid hsg
        have HN2 := Lib.hid (HN.out.2.2.2 hsg h6)
        clear hsg h6 hp hq h3
        go_enter Tryd.func26, Tryd.ntmps26
        go_wp2_with fail
        refine (refRun_any s[i] _).mono ?_
        rintro e w' ⟨rfl, rfl⟩
        rw [Hp.out]
        go_wp2_with fail
        refine Hin.out.mono ?_
        rintro e w' ⟨rfl, rfl⟩
        rw [Hsg.out]
        go_wp2_with fail
        refine bodyPost_ret (ret_tok3 rfl rfl rfl rfl (Tb.new3 w _ _ _ _ _)) rfl ?_
        exact ⟨_, _, i, rfl, HN2.out.bad (by decide) i, below3 w _ _ _⟩
      · have Hsg := Lib.hid hsg
        have HN2 := Lib.hid (HN.out.1 hsg)
        clear hsg h6 hp hq h3
        go_enter Tryd.func26, Tryd.ntmps26
        go_wp2_with fail
        refine (refRun_any s[i] _).mono ?_
        rintro e w' ⟨rfl, rfl⟩
        rw [Hp.out]
        go_wp2_with fail
        refine Hin.out.mono ?_
        rintro e w' ⟨rfl, rfl⟩
        rw [Hsg.out]
        go_wp2_with fail
        refine bodyPost_ret (ret_tok3 rfl rfl rfl rfl (Tb.new3 w _ _ _ _ _)) rfl ?_
        exact ⟨_, _, i + 1, by simp, HN2.out, below3 w _ _ _⟩
  · have a1 : decide (65 ≤ (s[i].toNat : Int)) = true := by simp; omega
    have a2 : decide ((s[i].toNat : Int) ≤ 90) = false := by simp; omega
    have hno : (s[i].toNat = 60 ∨ s[i].toNat = 62) → signy s[i] = false := fun h => by
      cases hs : signy s[i]
      · rfl
      · have := (signy_nat _).1 hs; omega
    have Hno := Lib.hid hno
    clear hno hql
    by_cases h6 : s[i].toNat = 60 ∨ s[i].toNat = 62
    · have Hsg := Lib.hid (Hno.out h6)
      by_cases h61 : ∃ h : i + 1 < s.size, s[i + 1].toNat = 61
      · obtain ⟨hl, h61⟩ := h61
        have HN2 := Lib.hid (HN.out.2.1 h6 hl h61)
        have hl1 : (i : Int) + 1 < (s.size : Int) := by omega
        have e61 : ((s[i + 1].toNat : Int) == 61) = true := by simp; omega
        clear h61
        rcases h6 with h6 | h6
        all_goals
          first | have e60 : ((s[i].toNat : Int) == 60) = true := by simp; omega
                | have e60 : ((s[i].toNat : Int) == 60) = false := by simp; omega
          first | have e62 : ((s[i].toNat : Int) == 62) = true := by simp; omega
                | have e62 : ((s[i].toNat : Int) == 62) = false := by simp; omega
          clear h6 hp hq h3
          go_enter Tryd.func26, Tryd.ntmps26
          go_wp2_with fail
          refine (refRun_any s[i] _).mono ?_
          rintro e w' ⟨rfl, rfl⟩
          rw [Hp.out]
          go_wp2_with fail
          refine bodyPost_ret (ret_tok3 rfl rfl rfl rfl (Tb.new w _ _ _)) rfl ?_
          exact ⟨_, _, i + 2, by congr 1, HN2.out, (Below.refl w.heap.size w).alloc (Nat.le_refl _) _⟩
      · have hbad : s.size ≤ i + 1 ∨ ∃ h : i + 1 < s.size, s[i + 1].toNat ≠ 61 := by
          by_cases hl : i + 1 < s.size
          · exact .inr ⟨hl, fun h => h61 ⟨hl, h⟩⟩
          · exact .inl (by omega)
        have HN2 := Lib.hid (HN.out.2.2.1 h6 hbad)
        clear h61
        rcases hbad with hbad | ⟨hl, hbad⟩
        · have dl : decide ((i : Int) + 1 < (s.size : Int)) = false := by simp; omega
          rcases h6 with h6 | h6
          all_goals
            first | have e60 : ((s[i].toNat : Int) == 60) = true := by simp; omega
                  | have e60 : ((s[i].toNat : Int) == 60) = false := by simp; omega
            first | have e62 : ((s[i].toNat : Int) == 62) = true := by simp; omega
                  | have e62 : ((s[i].toNat : Int) == 62) = false := by simp; omega
            clear h6 hp hq h3
            go_enter Tryd.func26, Tryd.ntmps26
            go_wp2_with fail
            refine (refRun_any s[i] _).mono ?_
            rintro e w' ⟨rfl, rfl⟩
            rw [Hp.out]
            go_wp2_with fail
            refine Hin.out.mono ?_
            rintro e w' ⟨rfl, rfl⟩
            rw [Hsg.out]
            go_wp2_with fail
            refine bodyPost_ret (ret_tok3 rfl rfl rfl rfl (Tb.new3 w _ _ _ _ _)) rfl ?_
            exact ⟨_, _, i, rfl, HN2.out.bad (by decide) i, below3 w _ _ _⟩
        · have hl1 : (i : Int) + 1 < (s.size : Int) := by omega
          have e61 : ((s[i + 1].toNat : Int) == 61) = false := by simp; omega
          clear hbad
          rcases h6 with h6 | h6
          all_goals
            first | have e60 : ((s[i].toNat : Int) == 60) = true := by simp; omega
                  | have e60 : ((s[i].toNat : Int) == 60) = false := by simp; omega
            first | have e62 : ((s[i].toNat : Int) == 62) = true := by simp; omega
                  | have e62 : ((s[i].toNat : Int) == 62) = false := by simp; omega
            clear h6 hp hq h3
            go_enter Tryd.func26, Tryd.ntmps26
            go_wp2_with fail
            refine (refRun_any s[i] _).mono ?_
            rintro e w' ⟨rfl, rfl⟩
            rw [Hp.out]
            go_wp2_with fail
            refine Hin.out.mono ?_
            rintro e w' ⟨rfl, rfl⟩
            rw [Hsg.out]
            go_wp2_with fail
            refine bodyPost_ret (ret_tok3 rfl rfl rfl rfl (Tb.new3 w _ _ _ _ _)) rfl ?_
            exact ⟨_, _, i, rfl, HN2.out.bad (by decide) i, below3 w _ _ _⟩
    · have e60 : ((s[i].toNat : Int) == 60) = false := by simp; omega
      have e62 : ((s[i].toNat : Int) == 62) = false := by simp; omega
      cases hsg : signy s[i]
      · have Hsg := Lib.hid hsg
        have HN2 := Lib.hid (HN.out.2.2.2 hsg h6)
        clear hsg h6 hp hq h3
        go_enter Tryd.func26, Tryd.ntmps26
        go_wp2_with fail
        refine (refRun_any s[i] _).mono ?_
        rintro e w' ⟨rfl, rfl⟩
        rw [Hp.out]
        go_wp2_with fail
        refine Hin.out.mono ?_
        rintro e w' ⟨rfl, rfl⟩
        rw [Hsg.out]
        go_wp2_with fail
        refine bodyPost_ret (ret_tok3 rfl rfl rfl rfl (Tb.new3 w _ _ _ _ _)) rfl ?_
        exact ⟨_, _, i, rfl, HN2.out.bad (by decide) i, below3 w _ _ _⟩
      · have Hsg := Lib.hid hsg
        have HN2 := Lib.hid (HN.out.1 hsg)
        clear hsg h6 hp hq h3
        go_enter Tryd.func26, Tryd.ntmps26
        go_wp2_with fail
        refine (refRun_any s[i] _).mono ?_
        rintro e w' ⟨rfl, rfl⟩
        rw [Hp.out]
        go_wp2_with fail
        refine Hin.out.mono ?_
        rintro e w' ⟨rfl, rfl⟩
        rw [Hsg.out]
        go_wp2_with fail
        refine bodyPost_ret (ret_tok3 rfl rfl rfl rfl (Tb.new3 w _ _ _ _ _)) rfl ?_
        exact ⟨_, _, i + 1, by simp, HN2.out, below3 w _ _ _⟩

theorem refOne_any (s : ByteArray) (i : Nat) (w : World) (hs : s.size ≤ 1000000000) (hi : i < s.size) :
    Calls Tryd.prog 26 #[.string s, .int .i64 (i : Int)] w (RefPost s i w) := by
  cases hp : small s[i]
  · cases hq : large s[i]
    · by_cases h3 : s[i].toNat = 34
      · exact refOne_quote s i w hs hi hp hq h3
      · exact refOne_sign s i w hs hi hp hq h3
    · exact refOne_large s i w hs hi hp hq
  · exact refOne_small s i w hs hi hp
end Go.Proofs.YtadhncdcpdabkaaDoor
