/- The document's 'one': large letters, quotes, signs; the whole. The document's Scan. isName, isCode, the document's Name: what they answer. -/
import Derived.Test.YtbkffdfboloogaaGreatDoorMJ
import Derived.Lib.ConvBytes
import Derived.Test.YtbkffdfboloogaaGreatDoorMH
namespace Go.Proofs.YtbkffdfboloogaaGreatDoor
open Go.RowKit Go.Lib
set_option linter.unusedVariables false

theorem Tb.new3 (w : World) (x y : Int) (z : ByteArray) (o1 o2 : Obj) : Tb (((w.alloc (.cells #[.int .i64 x, .int .i64 y, .string z] 142)).alloc o1).alloc o2) w.heap.size x y z :=
  ((Tb.new w x y z).kept (World.grownBy_alloc _ o1 none) (by simp)).kept (World.grownBy_alloc _ o2 none) (by simp)
theorem below3 (w : World) (o1 o2 o3 : Obj) : Below w.heap.size w (((w.alloc o1).alloc o2).alloc o3) := (((Below.refl _ _).alloc (Nat.le_refl _) _).alloc (by simp) _).alloc (by simp; omega) _
theorem NextIs.bad {s : ByteArray} {i j : Nat} {tv : Value} {code : Int} (h : NextIs s i tv code j) (hc : code ≠ 0) (j' : Nat) : NextIs s i tv code j' := by
  rcases h with ⟨k, t, m, h1, h2, h3, h4⟩ | h
  · exact absurd h3 hc
  · exact .inr h
set_option maxHeartbeats 2000000 in
set_option maxRecDepth 100000 in
theorem refOne_large (s : ByteArray) (i : Nat) (w : World) (hs : s.size ≤ 140737488351232) (hi : i < s.size) (hp : small s[i] = false) (hq : large s[i] = true) :
    Calls Tryz.prog 133 #[.string s, .int .i64 (i : Int)] w (RefPost s i w) := by
  have HN := Lib.hid (next_large_is s i hi hp hq)
  have Hst := Lib.hid (runTo_step hi hq)
  rw [large_nat] at hq
  simp at hq
  have a1 : decide (65 ≤ (s[i].toNat : Int)) = true := by simp; omega
  have a2 : decide ((s[i].toNat : Int) ≤ 90) = true := by simp; omega
  have hi0 : (0 : Int) ≤ (i : Int) := by omega
  have hi1 : (i : Int) < (s.size : Int) := by omega
  have Hp := Lib.hid hp
  clear hp hq
  go_enter Tryz.func133, Tryz.ntmps133
  go_wp2_with fail
  refine (refRun_any s[i] _).mono ?_
  rintro e w' ⟨rfl, rfl⟩
  rw [Hp.out]
  go_wp2_with fail
  go_loop [8] (fun e => ∃ k : Nat, i + 1 ≤ k ∧ k ≤ s.size ∧ e = .int .i64 k ∧ Hid (runTo large s k = runTo large s i)) (fun e => s.size - (intOf e).toNat)
  case atStart => exact ⟨i + 1, Nat.le_refl _, by omega, by go_num, Hst⟩
  case round =>
    obtain ⟨k, hk1, hk2, rfl, Hk⟩ := hrel
    have hk0 : (0 : Int) ≤ (k : Int) := by omega
    by_cases hlt : k < s.size
    · have hk3 : (k : Int) < (s.size : Int) := by omega
      cases hl : large s[k]
      · have HR := Lib.hid (Hk.out.symm.trans (runTo_stop hlt hl))
        have hN := HN.out
        rw [HR.out] at hN
        have HN := Lib.hid hN
        clear hN
        rw [large_nat] at hl
        rcases (show s[k].toNat < 65 ∨ (65 ≤ s[k].toNat ∧ 90 < s[k].toNat) by
          simp only [Bool.and_eq_false_iff, decide_eq_false_iff_not] at hl
          omega) with hb | ⟨hb1, hb2⟩
        · have b1 : decide (65 ≤ (s[k].toNat : Int)) = false := by simp; omega
          clear hl hb
          by_cases h3 : k = i + 3
          · have d3 : ((k : Int) - (i : Int) != 3) = false := by simp; omega
            have HN2 := Lib.hid (HN.out.1 h3)
            clear h3
            go_wp2_with fail
            refine bodyPost_ret (ret_tok3 rfl rfl rfl rfl (Tb.new w _ _ _)) rfl ?_
            exact ⟨_, _, k, rfl, HN2.out, (Below.refl w.heap.size w).alloc (Nat.le_refl _) _⟩
          · have d3 : ((k : Int) - (i : Int) != 3) = true := by simp; omega
            have HN2 := Lib.hid (HN.out.2 h3)
            clear h3
            go_wp2_with fail
            refine bodyPost_ret (ret_tok3 rfl rfl rfl rfl (Tb.new w _ _ _)) rfl ?_
            exact ⟨_, _, i, rfl, HN2.out.bad (by decide) i, (Below.refl w.heap.size w).alloc (Nat.le_refl _) _⟩
        · have b1 : decide (65 ≤ (s[k].toNat : Int)) = true := by simp; omega
          have b2 : decide ((s[k].toNat : Int) ≤ 90) = false := by simp; omega
          clear hl hb1 hb2
          by_cases h3 : k = i + 3
          · have d3 : ((k : Int) - (i : Int) != 3) = false := by simp; omega
            have HN2 := Lib.hid (HN.out.1 h3)
            clear h3
            go_wp2_with fail
            refine bodyPost_ret (ret_tok3 rfl rfl rfl rfl (Tb.new w _ _ _)) rfl ?_
            exact ⟨_, _, k, rfl, HN2.out, (Below.refl w.heap.size w).alloc (Nat.le_refl _) _⟩
          · have d3 : ((k : Int) - (i : Int) != 3) = true := by simp; omega
            have HN2 := Lib.hid (HN.out.2 h3)
            clear h3
            go_wp2_with fail
            refine bodyPost_ret (ret_tok3 rfl rfl rfl rfl (Tb.new w _ _ _)) rfl ?_
            exact ⟨_, _, i, rfl, HN2.out.bad (by decide) i, (Below.refl w.heap.size w).alloc (Nat.le_refl _) _⟩
      · have Hs2 := Lib.hid ((runTo_step hlt hl).trans Hk.out)
        rw [large_nat] at hl
        simp at hl
        have b1 : decide (65 ≤ (s[k].toNat : Int)) = true := by simp; omega
        have b2 : decide ((s[k].toNat : Int) ≤ 90) = true := by simp; omega
        clear hl
        go_wp2_with fail
        go_round
        case rel => exact ⟨k + 1, by omega, by omega, by go_num, Hs2⟩
        case measure => simp [intOf]; omega
    · have HR := Lib.hid (Hk.out.symm.trans (runTo_end (p := large) (s := s) (k := k) (by omega)))
      have hN := HN.out
      rw [HR.out] at hN
      have HN := Lib.hid hN
      clear hN
      have hd : decide ((k : Int) < (s.size : Int)) = false := by simp; omega
      by_cases h3 : k = i + 3
      · have d3 : ((k : Int) - (i : Int) != 3) = false := by simp; omega
        have HN2 := Lib.hid (HN.out.1 h3)
        clear h3
        go_wp2_with fail
        refine bodyPost_ret (ret_tok3 rfl rfl rfl rfl (Tb.new w _ _ _)) rfl ?_
        exact ⟨_, _, k, rfl, HN2.out, (Below.refl w.heap.size w).alloc (Nat.le_refl _) _⟩
      · have d3 : ((k : Int) - (i : Int) != 3) = true := by simp; omega
        have HN2 := Lib.hid (HN.out.2 h3)
        clear h3
        go_wp2_with fail
        refine bodyPost_ret (ret_tok3 rfl rfl rfl rfl (Tb.new w _ _ _)) rfl ?_
        exact ⟨_, _, i, rfl, HN2.out.bad (by decide) i, (Below.refl w.heap.size w).alloc (Nat.le_refl _) _⟩
set_option maxHeartbeats 2000000 in
set_option maxRecDepth 100000 in
theorem refOne_quote (s : ByteArray) (i : Nat) (w : World) (hs : s.size ≤ 140737488351232) (hi : i < s.size) (hp : small s[i] = false) (hq : large s[i] = false) (h3 : s[i].toNat = 34) :
    Calls Tryz.prog 133 #[.string s, .int .i64 (i : Int)] w (RefPost s i w) := by
  have HN := Lib.hid (next_quote_is s i hi hp hq h3)
  have hql := hq
  rw [large_nat] at hql
  simp only [Bool.and_eq_false_iff, decide_eq_false_iff_not] at hql
  have hi0 : (0 : Int) ≤ (i : Int) := by omega
  have hi1 : (i : Int) < (s.size : Int) := by omega
  have Hp := Lib.hid hp
  have a1 : decide (65 ≤ (s[i].toNat : Int)) = false := by simp; omega
  have e34 : ((s[i].toNat : Int) == 34) = true := by simp; omega
  clear hp hq hql h3
  go_enter Tryz.func133, Tryz.ntmps133
  go_wp2_with fail
  refine (refRun_any s[i] _).mono ?_
  rintro e w' ⟨rfl, rfl⟩
  rw [Hp.out]
  go_wp2_with fail
  go_loop [8] (fun e => ∃ k : Nat, i + 1 ≤ k ∧ k ≤ s.size ∧ e = .int .i64 k ∧ Hid (runTo quotd s k = runTo quotd s (i + 1))) (fun e => s.size - (intOf e).toNat)
  case atStart => exact ⟨i + 1, Nat.le_refl _, by omega, by go_num, Lib.hid rfl⟩
  case round =>
    obtain ⟨k, hk1, hk2, rfl, Hk⟩ := hrel
    have hk0 : (0 : Int) ≤ (k : Int) := by omega
    by_cases hlt : k < s.size
    · have hk3 : (k : Int) < (s.size : Int) := by omega
      have Hq := Lib.hid (quotd_nat s[k])
      rcases (show s[k].toNat = 34 ∨ (s[k].toNat ≠ 34 ∧ s[k].toNat < 32) ∨ (s[k].toNat ≠ 34 ∧ 32 ≤ s[k].toNat ∧ 126 < s[k].toNat) ∨ (s[k].toNat ≠ 34 ∧ 32 ≤ s[k].toNat ∧ s[k].toNat ≤ 126) by omega) with h | h | h | h
      · have HR := Lib.hid (Hk.out.symm.trans (runTo_stop hlt (by rw [Hq.out]; simp; omega)))
        have HN2 : Hid (NextIs s i (.agg #[.int .i64 3, .int .i64 (i : Nat), .string (s.extract (i + 1) k)]) 0 (k + 1)) := by
          have h1 := HN.out.1
          simp only [HR.out] at h1
          exact Lib.hid (h1 hlt h)
        have n34 : ((s[k].toNat : Int) != 34) = false := by simp; omega
        have nl : ((k : Int) == (s.size : Int)) = false := beq_eq_false_iff_ne.2 (by omega)
        clear h HN Hq
        go_wp2_with fail
        refine bodyPost_ret (ret_tok3 rfl rfl rfl rfl (Tb.new w _ _ _)) rfl ?_
        exact ⟨_, _, k + 1, by simp, HN2.out, (Below.refl w.heap.size w).alloc (Nat.le_refl _) _⟩
      · have HR := Lib.hid (Hk.out.symm.trans (runTo_stop hlt (by rw [Hq.out]; simp; omega)))
        have HN2 := Lib.hid (HN.out.2 (by rw [HR.out]; exact .inr ⟨hlt, h.1⟩))
        have n34 : ((s[k].toNat : Int) != 34) = true := by simp; omega
        have n32 : decide ((s[k].toNat : Int) < 32) = true := by simp; omega
        clear h HN Hq
        go_wp2_with fail
        refine bodyPost_ret (ret_tok3 rfl rfl rfl rfl (Tb.new w _ _ _)) rfl ?_
        exact ⟨_, _, i, rfl, HN2.out.bad (by decide) i, (Below.refl w.heap.size w).alloc (Nat.le_refl _) _⟩
      · have HR := Lib.hid (Hk.out.symm.trans (runTo_stop hlt (by rw [Hq.out]; simp; omega)))
        have HN2 := Lib.hid (HN.out.2 (by rw [HR.out]; exact .inr ⟨hlt, h.1⟩))
        have n34 : ((s[k].toNat : Int) != 34) = true := by simp; omega
        have n32 : decide ((s[k].toNat : Int) < 32) = false := by simp; omega
        have n126 : decide (126 < (s[k].toNat : Int)) = true := by simp; omega
        clear h HN Hq
        go_wp2_with fail
        refine bodyPost_ret (ret_tok3 rfl rfl rfl rfl (Tb.new w _ _ _)) rfl ?_
        exact ⟨_, _, i, rfl, HN2.out.bad (by decide) i, (Below.refl w.heap.size w).alloc (Nat.le_refl _) _⟩
      · have Hs2 := Lib.hid ((runTo_step hlt (by rw [Hq.out]; simp; omega)).trans Hk.out)
        have n34 : ((s[k].toNat : Int) != 34) = true := by simp; omega
        have n32 : decide ((s[k].toNat : Int) < 32) = false := by simp; omega
        have n126 : decide (126 < (s[k].toNat : Int)) = false := by simp; omega
        clear h Hq
        go_wp2_with fail
        go_round
        case rel => exact ⟨k + 1, by omega, by omega, by go_num, Hs2⟩
        case measure => simp [intOf]; omega
    · obtain rfl : k = s.size := by omega
      have HR := Lib.hid (Hk.out.symm.trans (runTo_end (p := quotd) (s := s) (k := s.size) (by omega)))
      have HN2 := Lib.hid (HN.out.2 (by rw [HR.out]; exact .inl (Nat.le_refl _)))
      clear HN
      go_wp2_with fail
      refine bodyPost_ret (ret_tok3 rfl rfl rfl rfl (Tb.new w _ _ _)) rfl ?_
      exact ⟨_, _, i, rfl, HN2.out.bad (by decide) i, (Below.refl w.heap.size w).alloc (Nat.le_refl _) _⟩
def signsB : List ByteArray := [⟨#[40]⟩, ⟨#[41]⟩, ⟨#[44]⟩, ⟨#[59]⟩, ⟨#[58]⟩, ⟨#[46]⟩, ⟨#[61]⟩, ⟨#[126]⟩]
theorem signs_in (c : UInt8) : inW signsB ⟨#[c]⟩ = signy c := by
  unfold inW signsB signy
  simp only [List.any_cons, List.any_nil, eqB, ByteArray.toList_eq]
  rw [Bool.eq_iff_iff]
  simp
  constructor
  · rintro (h | h | h | h | h | h | h | h) <;> simp [h]
  · rintro (h | h | h | h | h | h | h | h) <;> simp [h]
theorem conv_one (W : World) (c : UInt8) (n : Nat) (hn : W.heap.size = n) :
    (convert 114 9 (.slice (some ⟨n, 0, none⟩) 1 1)).run Tryz.prog (W.alloc (.cells #[.int .u8 (c.toNat : Int)] 5)) = .ok (.string ⟨#[c]⟩) (W.alloc (.cells #[.int .u8 (c.toNat : Int)] 5)) := by
  subst hn
  exact run_convert_bytes_back (P := Tryz.prog) _ _ _ 5 ⟨W.heap.size, 0, none⟩ 1 [c] Tryz.underlying114 Tryz.underlying5 Tryz.underlying9 (fun j hj => by
    have hj0 : j = 0 := by simpa using hj
    subst hj0
    simp [Addr.add])
def signCells : Array Value := #[.string ⟨#[40]⟩, .string ⟨#[41]⟩, .string ⟨#[44]⟩, .string ⟨#[59]⟩, .string ⟨#[58]⟩, .string ⟨#[46]⟩, .string ⟨#[61]⟩, .string ⟨#[126]⟩]
theorem signs_at (W : World) (o : Obj) (n : Nat) (hn : W.heap.size = n) : ∀ k x, signsB[k]? = some x → ((W.alloc (.cells signCells 9)).alloc o).cell? ⟨n, k, none⟩ = some (.string x) := by
  subst hn
  intro k x h
  have hb : ((W.alloc (.cells signCells 9)).alloc o).heap[W.heap.size]? = some (.cells signCells 9 (0, 0)) := heap_alloc2_old W _ _
  simp only [World.cell?, hb]
  show signCells[k]? = _
  have : signCells[k]? = (signsB.map Value.string)[k]? := by
    show _ = _
    rw [show signCells = (signsB.map Value.string).toArray from rfl, List.getElem?_toArray]
  rw [this, List.getElem?_map, h]
  rfl
theorem in_signs (W : World) (o : Obj) (c : UInt8) (n cap : Nat) (hn : W.heap.size = n) :
    Calls Tryz.prog 164 #[.slice (some ⟨n, 0, none⟩) 8 cap, .string ⟨#[c]⟩] ((W.alloc (.cells signCells 9)).alloc o) fun e w' => e = .returned (.bool (signy c)) ∧ (W.alloc (.cells signCells 9)).alloc o = w' := by
  have := inW_any signsB ⟨#[c]⟩ n cap _ (by decide) (signs_at W o n hn)
  rw [signs_in] at this
  exact this
set_option maxHeartbeats 2000000 in
set_option maxRecDepth 100000 in
theorem refOne_sign (s : ByteArray) (i : Nat) (w : World) (hs : s.size ≤ 140737488351232) (hi : i < s.size) (hp : small s[i] = false) (hq : large s[i] = false) (h3 : s[i].toNat ≠ 34) :
    Calls Tryz.prog 133 #[.string s, .int .i64 (i : Int)] w (RefPost s i w) := by
  have HN := Lib.hid (next_sign_is s i hi hp hq h3)
  have hql := hq
  rw [large_nat] at hql
  simp only [Bool.and_eq_false_iff, decide_eq_false_iff_not] at hql
  have hi0 : (0 : Int) ≤ (i : Int) := by omega
  have hi1 : (i : Int) < (s.size : Int) := by omega
  have Hp := Lib.hid hp
  have hcv := conv_one ((w.alloc (.cells #[.int .i64 0, .int .i64 0, .string ⟨#[]⟩] 142)).alloc (.cells #[.string ⟨#[40]⟩, .string ⟨#[41]⟩, .string ⟨#[44]⟩, .string ⟨#[59]⟩, .string ⟨#[58]⟩, .string ⟨#[46]⟩, .string ⟨#[61]⟩, .string ⟨#[126]⟩] 9)) s[i] (w.heap.size + 1 + 1) (by simp)
  have hin := in_signs (w.alloc (.cells #[.int .i64 0, .int .i64 0, .string ⟨#[]⟩] 142)) (.cells #[.int .u8 (s[i].toNat : Int)] 5) s[i] (w.heap.size + 1) 8 (by simp)
  unfold signCells at hin
  have Hin := Lib.hid hin
  clear hin
  have e34 : ((s[i].toNat : Int) == 34) = false := by simp; omega
  rcases (show s[i].toNat < 65 ∨ (65 ≤ s[i].toNat ∧ 90 < s[i].toNat) by omega) with hb | ⟨hb1, hb2⟩
  · have a1 : decide (65 ≤ (s[i].toNat : Int)) = false := by simp; omega
    have hno : (s[i].toNat = 60 ∨ s[i].toNat = 62) → signy s[i] = false := fun h => by
      cases hs : signy s[i]
      · rfl
      · have := (signy_nat _).1 hs; omega
    have Hno := Lib.hid hno
    clear hno hql
    by_cases h6 : s[i].toNat = 60 ∨ s[i].toNat = 62
    · have Hsg := Lib.hid (Hno.out h6)
      by_cases h61 : ∃ h : i + 1 < s.size, s[i + 1].toNat = 61
      · obtain ⟨hl, h61⟩ := h61
        have HN2 := Lib.hid (HN.out.2.1 h6 hl h61)
        have hl1 : (i : Int) + 1 < (s.size : Int) := by omega
        have e61 : ((s[i + 1].toNat : Int) == 61) = true := by simp; omega
        clear h61
        rcases h6 with h6 | h6
        all_goals
          first | have e60 : ((s[i].toNat : Int) == 60) = true := by simp; omega
                | have e60 : ((s[i].toNat : Int) == 60) = false := by simp; omega
          first | have e62 : ((s[i].toNat : Int) == 62) = true := by simp; omega
                | have e62 : ((s[i].toNat : Int) == 62) = false := by simp; omega
          clear h6 hp hq h3
          go_enter Tryz.func133, Tryz.ntmps133
          go_wp2_with fail
          refine (refRun_any s[i] _).mono ?_
          rintro e w' ⟨rfl, rfl⟩
          rw [Hp.out]
          go_wp2_with fail
          refine bodyPost_ret (ret_tok3 rfl rfl rfl rfl (Tb.new w _ _ _)) rfl ?_
          exact ⟨_, _, i + 2, by congr 1, HN2.out, (Below.refl w.heap.size w).alloc (Nat.le_refl _) _⟩
      · have hbad : s.size ≤ i + 1 ∨ ∃ h : i + 1 < s.size, s[i + 1].toNat ≠ 61 := by
          by_cases hl : i + 1 < s.size
          · exact .inr ⟨hl, fun h => h61 ⟨hl, h⟩⟩
          · exact .inl (by omega)
        have HN2 := Lib.hid (HN.out.2.2.1 h6 hbad)
        clear h61
        rcases hbad with hbad | ⟨hl, hbad⟩
        · have dl : decide ((i : Int) + 1 < (s.size : Int)) = false := by simp; omega
          rcases h6 with h6 | h6
          all_goals
            first | have e60 : ((s[i].toNat : Int) == 60) = true := by simp; omega
                  | have e60 : ((s[i].toNat : Int) == 60) = false := by simp; omega
            first | have e62 : ((s[i].toNat : Int) == 62) = true := by simp; omega
                  | have e62 : ((s[i].toNat : Int) == 62) = false := by simp; omega
            clear h6 hp hq h3
            go_enter Tryz.func133, Tryz.ntmps133
            go_wp2_with fail
            refine (refRun_any s[i] _).mono ?_
            rintro e w' ⟨rfl, rfl⟩
            rw [Hp.out]
            go_wp2_with fail
            refine Hin.out.mono ?_
            rintro e w' ⟨rfl, rfl⟩
            rw [Hsg.out]
            go_wp2_with fail
            refine bodyPost_ret (ret_tok3 rfl rfl rfl rfl (Tb.new3 w _ _ _ _ _)) rfl ?_
            exact ⟨_, _, i, rfl, HN2.out.bad (by decide) i, below3 w _ _ _⟩
        · have hl1 : (i : Int) + 1 < (s.size : Int) := by omega
          have e61 : ((s[i + 1].toNat : Int) == 61) = false := by simp; omega
          clear hbad
          rcases h6 with h6 | h6
          all_goals
            first | have e60 : ((s[i].toNat : Int) == 60) = true := by simp; omega
                  | have e60 : ((s[i].toNat : Int) == 60) = false := by simp; omega
            first | have e62 : ((s[i].toNat : Int) == 62) = true := by simp; omega
                  | have e62 : ((s[i].toNat : Int) == 62) = false := by simp; omega
            clear h6 hp hq h3
            go_enter Tryz.func133, Tryz.ntmps133
            go_wp2_with fail
            refine (refRun_any s[i] _).mono ?_
            rintro e w' ⟨rfl, rfl⟩
            rw [Hp.out]
            go_wp2_with fail
            refine Hin.out.mono ?_
            rintro e w' ⟨rfl, rfl⟩
            rw [Hsg.out]
            go_wp2_with fail
            refine bodyPost_ret (ret_tok3 rfl rfl rfl rfl (Tb.new3 w _ _ _ _ _)) rfl ?_
            exact ⟨_, _, i, rfl, HN2.out.bad (by decide) i, below3 w _ _ _⟩
    · have e60 : ((s[i].toNat : Int) == 60) = false := by simp; omega
      have e62 : ((s[i].toNat : Int) == 62) = false := by simp; omega
      cases hsg : signy s[i]
      · have Hsg := Lib.hid hsg
        have HN2 := Lib.hid (HN.out.2.2.2 hsg h6)
        clear hsg h6 hp hq h3
        go_enter Tryz.func133, Tryz.ntmps133
        go_wp2_with fail
        refine (refRun_any s[i] _).mono ?_
        rintro e w' ⟨rfl, rfl⟩
        rw [Hp.out]
        go_wp2_with fail
        refine Hin.out.mono ?_
        rintro e w' ⟨rfl, rfl⟩
        rw [Hsg.out]
        go_wp2_with fail
        refine bodyPost_ret (ret_tok3 rfl rfl rfl rfl (Tb.new3 w _ _ _ _ _)) rfl ?_
        exact ⟨_, _, i, rfl, HN2.out.bad (by decide) i, below3 w _ _ _⟩
      · have Hsg := Lib.hid hsg
        have HN2 := Lib.hid (HN.out.1 hsg)
        clear hsg h6 hp hq h3
        go_enter Tryz.func133, Tryz.ntmps133
        go_wp2_with fail
        refine (refRun_any s[i] _).mono ?_
        rintro e w' ⟨rfl, rfl⟩
        rw [Hp.out]
        go_wp2_with fail
        refine Hin.out.mono ?_
        rintro e w' ⟨rfl, rfl⟩
        rw [Hsg.out]
        go_wp2_with fail
        refine bodyPost_ret (ret_tok3 rfl rfl rfl rfl (Tb.new3 w _ _ _ _ _)) rfl ?_
        exact ⟨_, _, i + 1, by simp, HN2.out, below3 w _ _ _⟩
  · have a1 : decide (65 ≤ (s[i].toNat : Int)) = true := by simp; omega
    have a2 : decide ((s[i].toNat : Int) ≤ 90) = false := by simp; omega
    have hno : (s[i].toNat = 60 ∨ s[i].toNat = 62) → signy s[i] = false := fun h => by
      cases hs : signy s[i]
      · rfl
      · have := (signy_nat _).1 hs; omega
    have Hno := Lib.hid hno
    clear hno hql
    by_cases h6 : s[i].toNat = 60 ∨ s[i].toNat = 62
    · have Hsg := Lib.hid (Hno.out h6)
      by_cases h61 : ∃ h : i + 1 < s.size, s[i + 1].toNat = 61
      · obtain ⟨hl, h61⟩ := h61
        have HN2 := Lib.hid (HN.out.2.1 h6 hl h61)
        have hl1 : (i : Int) + 1 < (s.size : Int) := by omega
        have e61 : ((s[i + 1].toNat : Int) == 61) = true := by simp; omega
        clear h61
        rcases h6 with h6 | h6
        all_goals
          first | have e60 : ((s[i].toNat : Int) == 60) = true := by simp; omega
                | have e60 : ((s[i].toNat : Int) == 60) = false := by simp; omega
          first | have e62 : ((s[i].toNat : Int) == 62) = true := by simp; omega
                | have e62 : ((s[i].toNat : Int) == 62) = false := by simp; omega
          clear h6 hp hq h3
          go_enter Tryz.func133, Tryz.ntmps133
          go_wp2_with fail
          refine (refRun_any s[i] _).mono ?_
          rintro e w' ⟨rfl, rfl⟩
          rw [Hp.out]
          go_wp2_with fail
          refine bodyPost_ret (ret_tok3 rfl rfl rfl rfl (Tb.new w _ _ _)) rfl ?_
          exact ⟨_, _, i + 2, by congr 1, HN2.out, (Below.refl w.heap.size w).alloc (Nat.le_refl _) _⟩
      · have hbad : s.size ≤ i + 1 ∨ ∃ h : i + 1 < s.size, s[i + 1].toNat ≠ 61 := by
          by_cases hl : i + 1 < s.size
          · exact .inr ⟨hl, fun h => h61 ⟨hl, h⟩⟩
          · exact .inl (by omega)
        have HN2 := Lib.hid (HN.out.2.2.1 h6 hbad)
        clear h61
        rcases hbad with hbad | ⟨hl, hbad⟩
        · have dl : decide ((i : Int) + 1 < (s.size : Int)) = false := by simp; omega
          rcases h6 with h6 | h6
          all_goals
            first | have e60 : ((s[i].toNat : Int) == 60) = true := by simp; omega
                  | have e60 : ((s[i].toNat : Int) == 60) = false := by simp; omega
            first | have e62 : ((s[i].toNat : Int) == 62) = true := by simp; omega
                  | have e62 : ((s[i].toNat : Int) == 62) = false := by simp; omega
            clear h6 hp hq h3
            go_enter Tryz.func133, Tryz.ntmps133
            go_wp2_with fail
            refine (refRun_any s[i] _).mono ?_
            rintro e w' ⟨rfl, rfl⟩
            rw [Hp.out]
            go_wp2_with fail
            refine Hin.out.mono ?_
            rintro e w' ⟨rfl, rfl⟩
            rw [Hsg.out]
            go_wp2_with fail
            refine bodyPost_ret (ret_tok3 rfl rfl rfl rfl (Tb.new3 w _ _ _ _ _)) rfl ?_
            exact ⟨_, _, i, rfl, HN2.out.bad (by decide) i, below3 w _ _ _⟩
        · have hl1 : (i : Int) + 1 < (s.size : Int) := by omega
          have e61 : ((s[i + 1].toNat : Int) == 61) = false := by simp; omega
          clear hbad
          rcases h6 with h6 | h6
          all_goals
            first | have e60 : ((s[i].toNat : Int) == 60) = true := by simp; omega
                  | have e60 : ((s[i].toNat : Int) == 60) = false := by simp; omega
            first | have e62 : ((s[i].toNat : Int) == 62) = true := by simp; omega
                  | have e62 : ((s[i].toNat : Int) == 62) = false := by simp; omega
            clear h6 hp hq h3
            go_enter Tryz.func133, Tryz.ntmps133
            go_wp2_with fail
            refine (refRun_any s[i] _).mono ?_
            rintro e w' ⟨rfl, rfl⟩
            rw [Hp.out]
            go_wp2_with fail
            refine Hin.out.mono ?_
            rintro e w' ⟨rfl, rfl⟩
            rw [Hsg.out]
            go_wp2_with fail
            refine bodyPost_ret (ret_tok3 rfl rfl rfl rfl (Tb.new3 w _ _ _ _ _)) rfl ?_
            exact ⟨_, _, i, rfl, HN2.out.bad (by decide) i, below3 w _ _ _⟩
    · have e60 : ((s[i].toNat : Int) == 60) = false := by simp; omega
      have e62 : ((s[i].toNat : Int) == 62) = false := by simp; omega
      cases hsg : signy s[i]
      · have Hsg := Lib.hid hsg
        have HN2 := Lib.hid (HN.out.2.2.2 hsg h6)
        clear hsg h6 hp hq h3
        go_enter Tryz.func133, Tryz.ntmps133
        go_wp2_with fail
        refine (refRun_any s[i] _).mono ?_
        rintro e w' ⟨rfl, rfl⟩
        rw [Hp.out]
        go_wp2_with fail
        refine Hin.out.mono ?_
        rintro e w' ⟨rfl, rfl⟩
        rw [Hsg.out]
        go_wp2_with fail
        refine bodyPost_ret (ret_tok3 rfl rfl rfl rfl (Tb.new3 w _ _ _ _ _)) rfl ?_
        exact ⟨_, _, i, rfl, HN2.out.bad (by decide) i, below3 w _ _ _⟩
      · have Hsg := Lib.hid hsg
        have HN2 := Lib.hid (HN.out.1 hsg)
        clear hsg h6 hp hq h3
        go_enter Tryz.func133, Tryz.ntmps133
        go_wp2_with fail
        refine (refRun_any s[i] _).mono ?_
        rintro e w' ⟨rfl, rfl⟩
        rw [Hp.out]
        go_wp2_with fail
        refine Hin.out.mono ?_
        rintro e w' ⟨rfl, rfl⟩
        rw [Hsg.out]
        go_wp2_with fail
        refine bodyPost_ret (ret_tok3 rfl rfl rfl rfl (Tb.new3 w _ _ _ _ _)) rfl ?_
        exact ⟨_, _, i + 1, by simp, HN2.out, below3 w _ _ _⟩

theorem refOne_any (s : ByteArray) (i : Nat) (w : World) (hs : s.size ≤ 140737488351232) (hi : i < s.size) :
    Calls Tryz.prog 133 #[.string s, .int .i64 (i : Int)] w (RefPost s i w) := by
  cases hp : small s[i]
  · cases hq : large s[i]
    · by_cases h3 : s[i].toNat = 34
      · exact refOne_quote s i w hs hi hp hq h3
      · exact refOne_sign s i w hs hi hp hq h3
    · exact refOne_large s i w hs hi hp hq
  · exact refOne_small s i w hs hi hp
end Go.Proofs.YtbkffdfboloogaaGreatDoor
namespace Go.Proofs.YtbkffdfboloogaaGreatDoor
open Go.RowKit Go.Lib
set_option linter.unusedVariables false

set_option maxHeartbeats 4000000 in
set_option maxRecDepth 100000 in
theorem refScan_any (s : ByteArray) (w : World) (hs : s.size ≤ 140737488351232) : Calls Tryz.prog 105 #[.string s] w (ScanPost s w) := by
  obtain ⟨i0, hi0, hz0, hz1, hz2⟩ := info_parts tok_info
  go_enter Tryz.func105, Tryz.ntmps105
  go_wp2_with fail
  go_loopg [5, 6] (s.size + 1) (fun n v x wr => ∃ T i A c, n = s.size + 1 - i ∧ i ≤ s.size ∧ x = .int .i64 (i : Int) ∧ v = .slice A T.length c ∧ wr.ownsRow w.heap.size 142 3 (.slice A T.length c) T.length (cellsT T) ∧ Hid (Sofar s T i) ∧ T.length ≤ 4096 ∧ Hid (Below w.heap.size w wr))
  case atStart => exact ⟨[], 0, some ⟨w.heap.size, 0, none⟩, 0, by omega, Nat.zero_le _, rfl, rfl, World.ownsRow_made w #[] 0 (Nat.le_refl _) (by decide) rfl, Lib.hid (sofar_start s), by simp, Lib.hid ((Below.refl _ _).alloc (Nat.le_refl _) _)⟩
  case round =>
    obtain ⟨T, i, A, c, rfl, hi, rfl, rfl, hown, HF, hT, Hb⟩ := hrel
    have hzr : w.heap.size ≤ wr.heap.size := Hb.out.size
    go_wp2_with fail
    go_loop [6] (fun x => ∃ k : Nat, i ≤ k ∧ k ≤ s.size ∧ x = .int .i64 k ∧ Hid (runTo blank s k = runTo blank s i)) (fun x => s.size - (intOf x).toNat)
    case atStart => exact ⟨i, Nat.le_refl _, hi, rfl, Lib.hid rfl⟩
    case round =>
      obtain ⟨j, hj1, hj2, rfl, Hj⟩ := hrel
      have hj0 : (0 : Int) ≤ (j : Int) := by omega
      by_cases hlt : j < s.size
      · have hj3 : (j : Int) < (s.size : Int) := by omega
        cases hbl : blank s[j]
        · have HR := Lib.hid (Hj.out.symm.trans (runTo_stop hlt hbl))
          rw [blank_nat] at hbl
          simp at hbl
          have e32 : ((s[j].toNat : Int) == 32) = false := by simp; omega
          have e10 : ((s[j].toNat : Int) == 10) = false := by simp; omega
          have nl : ((j : Int) == (s.size : Int)) = false := beq_eq_false_iff_ne.2 (by omega)
          clear hbl
          by_cases hfull : 4096 ≤ T.length
          · have HD := Lib.hid (show scan 0 0 s.data.toList = .error (j, 7) by have := sofar_err HF.out (step_full (by rw [HR.out]; omega) hfull); rwa [HR.out] at this)
            go_wp2_with fail
            go_ret3
            exact ⟨Hb.out, .inr ⟨_, _, HD.out, rfl⟩⟩
          · have HB := Lib.hid (show ∀ e, one (s.data.toList.drop j) = .bad e → scan 0 0 s.data.toList = .error (j, e) from fun e ho => by have := sofar_err HF.out (step_bad (e := e) (by rw [HR.out]; omega) (by omega) (by rw [HR.out]; exact ho)); rwa [HR.out] at this)
            have HT := Lib.hid (show ∀ k m t, one (s.data.toList.drop j) = .tok k t m → Sofar s (T ++ [⟨k, j, t⟩]) (j + m) from fun k m t ho => by have := sofar_tok (k := k) (m := m) (t := t) HF.out (by omega) (by rw [HR.out]; exact ho); rwa [HR.out] at this)
            clear HF HR Hj
            go_wp2_with fail
            refine (refOne_any s j _ hs hlt).mono ?_
            rintro e w2 ⟨tv, code, j', rfl, hN, hb2⟩
            have hown2 := hown.kept (grown_of_below hb2 none) (by cases hv : (Value.slice A T.length c).ownBlock <;> simp)
            have hz2' : wr.heap.size ≤ w2.heap.size := hb2.size
            have Hb2 := Lib.hid (below_trans' (Nat.le_refl _) Hb.out hb2)
            clear hown hb2 Hb
            rcases hN with ⟨k, t, m, ho, rfl, rfl, rfl⟩ | ⟨er, ho, rfl, hne0, x, y, z, rfl⟩
            · have HD := Lib.hid (HT.out k m t ho)
              have hm := one_len ho
              have hlen : (s.data.toList.drop j).length = s.size - j := by simp
              rw [hlen] at hm
              clear HB HT ho hlen
              have hnew : ((w2.alloc (.cells #[.int .i64 (k : Int), .int .i64 (j : Int), .string ⟨t.toArray⟩] 142)).alloc (.cells #[.int .i64 (k : Int), .int .i64 (j : Int), .string ⟨t.toArray⟩] 142)).heap[w2.heap.size + 1]? = some (.cells #[.int .i64 (k : Int), .int .i64 (j : Int), .string ⟨t.toArray⟩] 142 (0, 0)) := heap_alloc2_new w2 _ _
              have Hnew := Lib.hid hnew
              clear hnew
              go_wp2_with (first
                | (at_builtin; refine wpList_append_own _ rfl _ _ 138 rfl w.heap.size 142 i0 _ 3 32 Tryz.underlying138 hi0 hz0 hz1 hz2 rfl (by decide) _ _ _ rfl ((hown2.alloc _).alloc _) ⟨w2.heap.size + 1, 0, none⟩ 1 1 [.int .i64 (k : Int), .int .i64 (j : Int), .string ⟨t.toArray⟩] rfl rfl (World.news_of_block (cs := #[.int .i64 (k : Int), .int .i64 (j : Int), .string ⟨t.toArray⟩]) (t := 142) (fr := (0, 0)) Hnew.out) (by simp [Value.oneCell']) (by unfold maxLen; omega) (by omega) (by simp; omega) ?_; intro v3 w3 hown3 hg3 hnil3))
              obtain ⟨A3, c3, rfl⟩ : ∃ A3 c3, v3 = .slice A3 (T.length + 1) c3 := by
                rcases hown3.2 with ⟨h0, hn⟩ | ⟨g, cap, cur, he, _⟩
                · omega
                · exact ⟨_, _, he⟩
              go_roundg (s.size + 1 - (j + m))
              case measure => omega
              case rel =>
                have hb3 : Below w.heap.size w ((w2.alloc (.cells #[.int .i64 (k : Int), .int .i64 (j : Int), .string ⟨t.toArray⟩] 142)).alloc (.cells #[.int .i64 (k : Int), .int .i64 (j : Int), .string ⟨t.toArray⟩] 142)) := (Hb2.out.alloc (by omega) _).alloc (by simp; omega) _
                refine ⟨T ++ [⟨k, j, t⟩], j + m, A3, c3, rfl, by omega, by go_num, by simp, ?_, HD, by simp; omega, Lib.hid (hb3.grown hg3 (by simp; omega) (fun q hq => by have := (hown2.lt q hq).1; omega))⟩
                rw [cellsT_snoc, List.length_append]; exact hown3
            · have HD := Lib.hid (HB.out er ho)
              have hc : ((er : Int) != 0) = true := by simp; omega
              clear HB HT ho
              go_wp2_with fail
              go_ret3
              exact ⟨Hb2.out.alloc (by omega) _, .inr ⟨_, _, HD.out, rfl⟩⟩
        · have Hs2 := Lib.hid ((runTo_step hlt hbl).trans Hj.out)
          rw [blank_nat] at hbl
          simp at hbl
          rcases (show s[j].toNat = 32 ∨ (s[j].toNat ≠ 32 ∧ s[j].toNat = 10) by omega) with h | ⟨h, h'⟩
          · have e32 : ((s[j].toNat : Int) == 32) = true := by simp; omega
            clear hbl h
            go_wp2_with fail
            go_round
            case rel => exact ⟨j + 1, by omega, by omega, by go_num, Hs2⟩
            case measure => simp [intOf]; omega
          · have e32 : ((s[j].toNat : Int) == 32) = false := by simp; omega
            have e10 : ((s[j].toNat : Int) == 10) = true := by simp; omega
            clear hbl h h'
            go_wp2_with fail
            go_round
            case rel => exact ⟨j + 1, by omega, by omega, by go_num, Hs2⟩
            case measure => simp [intOf]; omega
      · obtain rfl : j = s.size := by omega
        have HR := Lib.hid (Hj.out.symm.trans (runTo_end (p := blank) (s := s) (k := s.size) (by omega)))
        have HD := Lib.hid (sofar_end HF.out (by rw [HR.out]; exact Nat.le_refl _))
        go_wp2_with fail
        go_ret3
        exact ⟨Hb.out, .inl ⟨T, A, c, HD.out, rfl, Rt.of_row hown⟩⟩
end Go.Proofs.YtbkffdfboloogaaGreatDoor
namespace Go.Proofs.YtbkffdfboloogaaGreatDoor
open Go.RowKit Go.Lib
set_option linter.unusedVariables false
set_option maxRecDepth 100000

/-- the words stand: a name's walks lean on it -/
theorem rt_one {w : World} {B : Nat} {A : Option Addr} {t : Tok} (h : Rt w B A [t]) : ∃ g off, A = some ⟨g, off, none⟩ ∧ g < B ∧ w.cell? ⟨g, off, none⟩ = some (.int .i64 (t.kind : Int)) ∧ w.cell? ⟨g, off + 1, none⟩ = some (.int .i64 (t.place : Int)) ∧ w.cell? ⟨g, off + 2, none⟩ = some (.string ⟨t.text.toArray⟩) := by
  obtain ⟨g, off, e, hg, h1, h2, h3⟩ := h.at_ (k := 0) (by simp)
  simp only [Nat.zero_mul, Nat.add_zero] at h1 h2 h3
  exact ⟨g, off, e, hg, h1, h2, h3⟩
set_option maxHeartbeats 400000 in
theorem named_any (k p : Int) (x : ByteArray) (hk : 0 ≤ k) (w : World) : Calls Tryz.prog 117 #[.agg #[.int .i64 k, .int .i64 p, .string x]] w fun e w' => e = .returned (.bool (decide (k ≤ 2))) ∧ Below w.heap.size w w' := by
  have hb1 : Hid (Below w.heap.size w (w.alloc (.cells #[.int .i64 k, .int .i64 p, .string x] 142))) := Lib.hid ((Below.refl _ _).alloc (Nat.le_refl _) _)
  rcases (show k = 0 ∨ k = 1 ∨ k = 2 ∨ 2 < k by omega) with rfl | rfl | rfl | h
  · go_enter Tryz.func117, Tryz.ntmps117
    go_wp2
    go_ret
    exact ⟨rfl, hb1.out⟩
  · go_enter Tryz.func117, Tryz.ntmps117
    go_wp2
    go_ret
    exact ⟨rfl, hb1.out⟩
  · go_enter Tryz.func117, Tryz.ntmps117
    go_wp2
    go_ret
    exact ⟨rfl, hb1.out⟩
  · have b0 : (k == 0) = false := by rw [beq_eq_false_iff_ne]; omega
    have b1 : (k == 1) = false := by rw [beq_eq_false_iff_ne]; omega
    have b2 : (k == 2) = false := by rw [beq_eq_false_iff_ne]; omega
    have HE : Hid (decide (k ≤ 2) = false) := Lib.hid (by rw [decide_eq_false_iff_not]; omega)
    go_enter Tryz.func117, Tryz.ntmps117
    go_wp2
    go_ret
    exact ⟨by rw [HE.out]; rfl, hb1.out⟩
set_option maxHeartbeats 2000000 in
theorem isName_any (s : ByteArray) (w : World) (hW : Wd w) (hs : s.size ≤ 140737488351232) : Calls Tryz.prog 88 #[.string s] w fun e w' => e = .returned (.bool (nmB s)) ∧ Below w.heap.size w w' := by
  have HM := Lib.hid (markName_any s w (by unfold maxLen; omega))
  have HS := Lib.hid (scan_any s w hW hs)
  have HE : Hid (nmB s = (nameB s.data.toList && soleB s.data.toList)) := Lib.hid rfl
  cases hn : nameB s.data.toList with
  | false =>
    rw [hn] at HM
    have HE2 : Hid (nmB s = false) := Lib.hid (by rw [HE.out, hn]; rfl)
    clear HS HE hn
    go_enter Tryz.func88, Tryz.ntmps88
    go_wp2_with (first
      | (go_at_call 115; refine HM.out.mono ?_; rintro e w2 ⟨rfl, rfl⟩)
      | fail)
    go_ret
    exact ⟨by rw [HE2.out]; rfl, Below.refl _ _⟩
  | true =>
    rw [hn] at HM
    have HE2 : Hid (nmB s = soleB s.data.toList) := Lib.hid (by rw [HE.out, hn]; rfl)
    clear HE hn
    go_enter Tryz.func88, Tryz.ntmps88
    go_wp2_with (first
      | (go_at_call 115; refine HM.out.mono ?_; rintro e w2 ⟨rfl, rfl⟩)
      | fail)
    refine HS.out.mono ?_
    rintro e w2 ⟨hb, hp⟩
    have HB := Lib.hid hb
    clear hb HS HM
    rcases hp with ⟨T, A, c, hT, rfl, hR⟩ | ⟨a, er, hT, rfl⟩
    · by_cases h1 : T.length = 1
      · obtain ⟨t, rfl⟩ : ∃ t, T = [t] := List.length_eq_one_iff.1 h1
        obtain ⟨g, off, rfl, hg, c0, c1, c2⟩ := rt_one hR
        have HV : Hid (soleB s.data.toList = decide ((t.kind : Int) ≤ 2)) := Lib.hid (by rw [sole_one hT]; simp only [decide_eq_decide]; omega)
        have hk0 : (0 : Int) ≤ (t.kind : Int) := by omega
        clear hR hT h1
        generalize (t.kind : Int) = k at *
        generalize (t.place : Int) = p at *
        generalize (⟨t.text.toArray⟩ : ByteArray) = x at *
        go_wp2_with (first
          | (go_at_call 117; refine (named_any k p x hk0 _).mono ?_; rintro e w3 ⟨rfl, hb3⟩; have HB3 := Lib.hid (HB.out.trans (hb3.mono HB.out.size)); clear hb3)
          | fail)
        go_ret
        exact ⟨by rw [HE2.out, HV.out]; rfl, HB3.out⟩
      · have HV := Lib.hid (sole_many hT h1)
        have n1 : ((T.length : Int) == 1) = false := by rw [beq_eq_false_iff_ne]; omega
        clear hT h1 hR
        generalize T.length = tl at *
        go_wp2
        go_ret
        exact ⟨by rw [HE2.out, HV.out]; rfl, HB.out⟩
    · have HV := Lib.hid (sole_bad hT)
      have hn := scan_error hT
      have n1 : ((er : Int) == 0) = false := by rw [beq_eq_false_iff_ne]; omega
      clear hT hn
      go_wp2
      go_ret
      exact ⟨by rw [HE2.out, HV.out]; rfl, HB.out⟩
set_option maxHeartbeats 2000000 in
theorem isCode_any (s : ByteArray) (w : World) (hW : Wd w) (hs : s.size ≤ 140737488351232) : Calls Tryz.prog 89 #[.string s] w fun e w' => e = .returned (.bool (codeB s)) ∧ Below w.heap.size w w' := by
  have HS := Lib.hid (scan_any s w hW hs)
  go_enter Tryz.func89, Tryz.ntmps89
  go_wp2_with fail
  refine HS.out.mono ?_
  rintro e w2 ⟨hb, hp⟩
  have HB := Lib.hid hb
  clear hb HS
  rcases hp with ⟨T, A, c, hT, rfl, hR⟩ | ⟨a, er, hT, rfl⟩
  · have HC := Lib.hid (code_is hT)
    by_cases h1 : T.length = 1
    · obtain ⟨t, rfl⟩ : ∃ t, T = [t] := List.length_eq_one_iff.1 h1
      obtain ⟨g, off, rfl, hg, c0, c1, c2⟩ := rt_one hR
      have HC2 : Hid ((t.kind = 4 ∧ t.text = s.data.toList) ↔ codeB s = true) := Lib.hid (by
        rw [← HC.out]
        constructor
        · intro h; exact ⟨t, rfl, h⟩
        · rintro ⟨u, e, h⟩
          cases e
          exact h)
      have Hx : Hid ((⟨t.text.toArray⟩ : ByteArray) = s ↔ t.text = s.data.toList) := Lib.hid ⟨fun h => by rw [← h], fun h => by rw [h]⟩
      clear hR hT h1 HC
      generalize hx : (⟨t.text.toArray⟩ : ByteArray) = x at *
      clear hx
      by_cases h4 : t.kind = 4
      · have b4 : ((t.kind : Int) == 4) = true := by rw [beq_iff_eq]; omega
        have HV : Hid (codeB s = (x.toList == s.toList)) := Lib.hid (by
          rw [Bool.eq_iff_iff, ← HC2.out, ← Hx.out]
          have := eqB_iff x s
          unfold eqB at this
          rw [this]
          exact ⟨fun h => h.2, fun h => ⟨h4, h⟩⟩)
        clear HC2 Hx h4
        generalize (t.kind : Int) = k at *
        generalize (t.place : Int) = p at *
        go_wp2
        go_ret
        exact ⟨by rw [HV.out]; rfl, HB.out⟩
      · have b4 : ((t.kind : Int) == 4) = false := by rw [beq_eq_false_iff_ne]; omega
        have HV : Hid (codeB s = false) := Lib.hid (by
          cases hr : codeB s with
          | false => rfl
          | true => exact absurd (HC2.out.2 hr).1 h4)
        clear HC2 Hx h4
        generalize (t.kind : Int) = k at *
        generalize (t.place : Int) = p at *
        go_wp2
        go_ret
        exact ⟨by rw [HV.out]; rfl, HB.out⟩
    · have HV : Hid (codeB s = false) := Lib.hid (by
        cases h : codeB s with
        | false => rfl
        | true =>
          obtain ⟨t, rfl, _⟩ := HC.out.2 h
          exact absurd rfl h1)
      have n1 : ((T.length : Int) == 1) = false := by rw [beq_eq_false_iff_ne]; omega
      clear hT h1 hR HC
      generalize T.length = tl at *
      go_wp2
      go_ret
      exact ⟨by rw [HV.out]; rfl, HB.out⟩
  · have HV := Lib.hid (code_bad hT)
    have hn := scan_error hT
    have n1 : ((er : Int) == 0) = false := by rw [beq_eq_false_iff_ne]; omega
    clear hT hn
    go_wp2
    go_ret
    exact ⟨by rw [HV.out]; rfl, HB.out⟩
set_option maxHeartbeats 2000000 in
theorem refNm_any (s : ByteArray) (w : World) (hs : s.size ≤ 140737488351232) : Calls Tryz.prog 74 #[.string s] w fun e w' => e = .returned (.bool (nmB s)) ∧ Below w.heap.size w w' := by
  have HS := Lib.hid (refScan_any s w hs)
  have HE : Hid (nmB s = (nameB s.data.toList && soleB s.data.toList)) := Lib.hid rfl
  have HM : Hid (∀ W : World, Calls Tryz.prog 106 #[.string s] W fun e w' => e = .returned (.bool (nameB s.data.toList)) ∧ W = w') := Lib.hid (fun W => refName_any s W (by unfold maxLen; omega))
  go_enter Tryz.func74, Tryz.ntmps74
  go_wp2_with fail
  refine HS.out.mono ?_
  rintro e w2 ⟨hb, hp⟩
  have HB := Lib.hid hb
  clear hb HS
  cases hn : nameB s.data.toList with
  | false =>
    rw [hn] at HM
    have HE2 : Hid (nmB s = false) := Lib.hid (by rw [HE.out, hn]; rfl)
    clear HE hn
    rcases hp with ⟨T, A, c, hT, rfl, hR⟩ | ⟨a, er, hT, rfl⟩
    all_goals
      clear hT
      go_wp2_with (first
        | (go_at_call 106; refine (HM.out _).mono ?_; rintro e w3 ⟨rfl, rfl⟩)
        | fail)
      go_ret
      exact ⟨by rw [HE2.out]; rfl, HB.out⟩
  | true =>
    rw [hn] at HM
    have HE2 : Hid (nmB s = soleB s.data.toList) := Lib.hid (by rw [HE.out, hn]; rfl)
    have Hnm := Lib.hid hn
    clear HE hn
    rcases hp with ⟨T, A, c, hT, rfl, hR⟩ | ⟨a, er, hT, rfl⟩
    · by_cases h1 : T.length = 1
      · obtain ⟨t, rfl⟩ : ∃ t, T = [t] := List.length_eq_one_iff.1 h1
        obtain ⟨g, off, rfl, hg, c0, c1, c2⟩ := rt_one hR
        have Hx : Hid ((⟨t.text.toArray⟩ : ByteArray) = s) := Lib.hid (by rw [name_text Hnm.out hT])
        rw [Hx.out] at c2
        by_cases h2 : t.kind ≤ 2
        · have HV : Hid (soleB s.data.toList = true) := Lib.hid (by rw [sole_one hT]; exact decide_eq_true h2)
          have hk : (t.kind : Int) ≤ 2 := by omega
          have hss : (s.toList == s.toList) = true := beq_self_eq_true _
          clear hR hT h1 Hx h2 Hnm
          generalize (t.kind : Int) = k at *
          generalize (t.place : Int) = p at *
          go_wp2_with (first
            | (go_at_call 106; refine (HM.out _).mono ?_; rintro e w3 ⟨rfl, rfl⟩)
            | fail)
          go_ret
          exact ⟨by rw [HE2.out, HV.out]; first | rfl | simp, HB.out⟩
        · have HV : Hid (soleB s.data.toList = false) := Lib.hid (by rw [sole_one hT]; exact decide_eq_false h2)
          have hk : ¬ (t.kind : Int) ≤ 2 := by omega
          clear hR hT h1 Hx h2 Hnm
          generalize (t.kind : Int) = k at *
          generalize (t.place : Int) = p at *
          go_wp2_with (first
            | (go_at_call 106; refine (HM.out _).mono ?_; rintro e w3 ⟨rfl, rfl⟩)
            | fail)
          go_ret
          exact ⟨by rw [HE2.out, HV.out]; rfl, HB.out⟩
      · have HV := Lib.hid (sole_many hT h1)
        have n1 : ((T.length : Int) == 1) = false := by rw [beq_eq_false_iff_ne]; omega
        clear hT h1 hR
        generalize T.length = tl at *
        go_wp2_with (first
          | (go_at_call 106; refine (HM.out _).mono ?_; rintro e w3 ⟨rfl, rfl⟩)
          | fail)
        go_ret
        exact ⟨by rw [HE2.out, HV.out]; rfl, HB.out⟩
    · have HV := Lib.hid (sole_bad hT)
      have hn := scan_error hT
      have n1 : ((er : Int) == 0) = false := by rw [beq_eq_false_iff_ne]; omega
      clear hT hn
      go_wp2_with (first
        | (go_at_call 106; refine (HM.out _).mono ?_; rintro e w3 ⟨rfl, rfl⟩)
        | fail)
      go_ret
      exact ⟨by rw [HE2.out, HV.out]; rfl, HB.out⟩
end Go.Proofs.YtbkffdfboloogaaGreatDoor
