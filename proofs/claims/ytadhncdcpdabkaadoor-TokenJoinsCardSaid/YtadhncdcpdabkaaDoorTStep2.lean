/- The scanner's next token, whatever it is: the whole. -/
import Derived.Test.YtadhncdcpdabkaaDoorTStep
namespace Go.Proofs.YtadhncdcpdabkaaDoor
open Go.RowKit Go.Lib
set_option linter.unusedVariables false

theorem signy_nat (c : UInt8) : signy c = true ↔ (c.toNat = 40 ∨ c.toNat = 41 ∨ c.toNat = 44 ∨ c.toNat = 59 ∨ c.toNat = 58 ∨ c.toNat = 46 ∨ c.toNat = 61 ∨ c.toNat = 126) := by
  simp [signy, ← UInt8.toNat_inj]
theorem two_nat (c : UInt8) : (c == 60 || c == 62) = true ↔ (c.toNat = 60 ∨ c.toNat = 62) := by
  simp [← UInt8.toNat_inj]
theorem next_sign_is (s : ByteArray) (i : Nat) (hi : i < s.size) (h1 : small s[i] = false) (h2 : large s[i] = false) (h3 : s[i].toNat ≠ 34) :
    (signy s[i] = true → NextIs s i (.agg #[.int .i64 5, .int .i64 (i : Nat), .string (s.extract i (i + 1))]) 0 (i + 1)) ∧
    ((s[i].toNat = 60 ∨ s[i].toNat = 62) → ∀ h : i + 1 < s.size, s[i + 1].toNat = 61 → NextIs s i (.agg #[.int .i64 5, .int .i64 (i : Nat), .string (s.extract i (i + 2))]) 0 (i + 2)) ∧
    ((s[i].toNat = 60 ∨ s[i].toNat = 62) → (s.size ≤ i + 1 ∨ ∃ h : i + 1 < s.size, s[i + 1].toNat ≠ 61) → NextIs s i (.agg #[.int .i64 0, .int .i64 0, .string ⟨#[]⟩]) 2 i) ∧
    (signy s[i] = false → ¬ (s[i].toNat = 60 ∨ s[i].toNat = 62) → NextIs s i (.agg #[.int .i64 0, .int .i64 0, .string ⟨#[]⟩]) 2 i) := by
  have h34 : ¬ (s[i] == 34) = true := by rw [beq_iff_eq, ← UInt8.toNat_inj]; exact h3
  have e : one (s.data.toList.drop i) = if signy s[i] then .tok 5 [s[i]] 1 else if (s[i] == 60 || s[i] == 62) ∧ (s.data.toList.drop (i + 1)).head? = some 61 then .tok 5 [s[i], 61] 2 else .bad 2 := by
    rw [one_at s i hi, one_cons, if_neg (by simp [h1]), if_neg (by simp [h2]), if_neg h34]
  have x1 : s.extract i (i + 1) = ⟨[s[i]].toArray⟩ := by
    rw [ba_eq, ByteArray.data_extract, Array.toList_extract, List.extract_eq_take_drop, drop_at s i hi]
    simp
  have hno : (s[i].toNat = 60 ∨ s[i].toNat = 62) → signy s[i] = false := by
    intro h
    cases hs : signy s[i]
    · rfl
    · have := (signy_nat _).1 hs; omega
  refine ⟨fun h => ?_, fun h hl h61 => ?_, fun h hb => ?_, fun h hn => ?_⟩
  · rw [if_pos h] at e
    exact .inl ⟨_, _, _, e, by rw [x1]; rfl, rfl, rfl⟩
  · have hh : (s.data.toList.drop (i + 1)).head? = some 61 := by
      rw [drop_at s _ hl, List.head?_cons, Option.some.injEq, ← UInt8.toNat_inj]; exact h61
    rw [if_neg (by rw [hno h]; simp), if_pos ⟨(two_nat _).2 h, hh⟩] at e
    have x2 : s.extract i (i + 2) = ⟨[s[i], 61].toArray⟩ := by
      have h' : s[i + 1] = 61 := by rw [← UInt8.toNat_inj]; exact h61
      rw [ba_eq, ByteArray.data_extract, Array.toList_extract, List.extract_eq_take_drop, drop_at s i hi, drop_at s _ hl, h']
      have : i + 2 - i = 2 := by omega
      rw [this]
      rfl
    exact .inl ⟨_, _, _, e, by rw [x2]; rfl, rfl, rfl⟩
  · have hh : ¬ (s.data.toList.drop (i + 1)).head? = some 61 := by
      rcases hb with hb | ⟨hl, hb⟩
      · rw [List.drop_eq_nil_of_le (by simpa using hb)]; simp
      · rw [drop_at s _ hl, List.head?_cons, Option.some.injEq, ← UInt8.toNat_inj]; exact hb
    rw [if_neg (by rw [hno h]; simp), if_neg (fun h => hh h.2)] at e
    exact .inr ⟨_, e, rfl, by decide, _, _, _, rfl⟩
  · rw [if_neg (by rw [h]; simp), if_neg (fun h => hn ((two_nat _).1 h.1))] at e
    exact .inr ⟨_, e, rfl, by decide, _, _, _, rfl⟩
set_option maxHeartbeats 1000000 in
set_option maxRecDepth 100000 in
theorem next_quote_yes (s : ByteArray) (b i : Nat) (w : World) (hs : s.size ≤ 1000000000) (hi : i < s.size) (hS : Sc w b s i) (hp : small s[i] = false) (hq : large s[i] = false) (h3 : s[i].toNat = 34) (he : runTo quotd s (i + 1) < s.size) (h34 : s[runTo quotd s (i + 1)].toNat = 34) :
    Calls Tryd.prog 25 #[.pointer (some ⟨b, 0, none⟩)] w (NextPost s b i w) := by
  have HN := Lib.hid ((next_quote_is s i hi hp hq h3).1 he h34)
  have e3 : ((s[i].toNat : Int) == 34) = true := by simp; omega
  have H34 := Lib.hid h34
  clear h3 h34
  have c0 := hS.c0
  have c1 := hS.c1
  have hb := hS.lt
  have hi0 : (0 : Int) ≤ (i : Int) := by omega
  have hi1 : (i : Int) < (s.size : Int) := by omega
  have Hp := Lib.hid hp
  have Hq := Lib.hid hq
  clear hp hq
  go_enter Tryd.func25, Tryd.ntmps25
  go_wp2_with fail
  refine (isSmall_any s[i] _).mono ?_
  rintro e w' ⟨rfl, rfl⟩
  rw [Hp.out]
  go_wp2_with fail
  refine (isLarge_any s[i] _).mono ?_
  rintro e w' ⟨rfl, rfl⟩
  rw [Hq.out]
  go_wp2_with fail
  refine (quoted_yes s b i _ hs hi (hS.alloc _) he H34.out).mono ?_
  rintro e w1 ⟨rfl, hS1, hg1⟩
  have hT1 := (Tb.new w 0 0 ⟨#[]⟩).kept hg1 (by simp; omega)
  have hG1 := (World.grownBy_alloc w (.cells #[.int .i64 0, .int .i64 0, .string ⟨#[]⟩] 31) (some b)).trans hg1
  clear hg1 c0 c1 hS
  have t0 := hT1.c0
  have t1 := hT1.c1
  have t2 := hT1.c2
  have g0 := hT1.f0
  have g1 := hT1.f1
  have g2 := hT1.f2
  go_wp2_with fail
  refine bodyPost_ret (ret_tok rfl rfl rfl (hT1.set3 _ _ _)) rfl ?_
  exact ⟨_, _, _, rfl, HN.out, hS1.set3 (by omega) _ _ _, grown_new3 hG1 (Nat.le_refl _) _ _ _⟩
set_option maxHeartbeats 1000000 in
set_option maxRecDepth 100000 in
theorem next_quote_no (s : ByteArray) (b i : Nat) (w : World) (hs : s.size ≤ 1000000000) (hi : i < s.size) (hS : Sc w b s i) (hp : small s[i] = false) (hq : large s[i] = false) (h3 : s[i].toNat = 34) (hbad : badQ s (runTo quotd s (i + 1))) :
    Calls Tryd.prog 25 #[.pointer (some ⟨b, 0, none⟩)] w (NextPost s b i w) := by
  have HN := Lib.hid ((next_quote_is s i hi hp hq h3).2 hbad)
  have e3 : ((s[i].toNat : Int) == 34) = true := by simp; omega
  clear h3
  have c0 := hS.c0
  have c1 := hS.c1
  have hb := hS.lt
  have hi0 : (0 : Int) ≤ (i : Int) := by omega
  have hi1 : (i : Int) < (s.size : Int) := by omega
  have Hp := Lib.hid hp
  have Hq := Lib.hid hq
  clear hp hq
  go_enter Tryd.func25, Tryd.ntmps25
  go_wp2_with fail
  refine (isSmall_any s[i] _).mono ?_
  rintro e w' ⟨rfl, rfl⟩
  rw [Hp.out]
  go_wp2_with fail
  refine (isLarge_any s[i] _).mono ?_
  rintro e w' ⟨rfl, rfl⟩
  rw [Hq.out]
  go_wp2_with fail
  refine (quoted_no s b i _ hs hi (hS.alloc _) hbad).mono ?_
  rintro e w1 ⟨rfl, hS1, hg1⟩
  have hT1 := (Tb.new w 0 0 ⟨#[]⟩).kept hg1 (by simp; omega)
  have hG1 := (World.grownBy_alloc w (.cells #[.int .i64 0, .int .i64 0, .string ⟨#[]⟩] 31) (some b)).trans hg1
  clear hg1 c0 c1 hS
  have t0 := hT1.c0
  have t1 := hT1.c1
  have t2 := hT1.c2
  have g0 := hT1.f0
  have g1 := hT1.f1
  have g2 := hT1.f2
  go_wp2_with fail
  refine bodyPost_ret (ret_tok rfl rfl rfl (hT1.set3 _ _ _)) rfl ?_
  exact ⟨_, _, _, rfl, HN.out, hS1.set3 (by omega) _ _ _, grown_new3 hG1 (Nat.le_refl _) _ _ _⟩
set_option maxHeartbeats 1000000 in
set_option maxRecDepth 100000 in
theorem next_sign_one (s : ByteArray) (b i : Nat) (w : World) (hs : s.size ≤ 1000000000) (hi : i < s.size) (hS : Sc w b s i) (hp : small s[i] = false) (hq : large s[i] = false) (h3 : s[i].toNat ≠ 34) (h4 : signy s[i] = true) :
    Calls Tryd.prog 25 #[.pointer (some ⟨b, 0, none⟩)] w (NextPost s b i w) := by
  have HN := Lib.hid ((next_sign_is s i hi hp hq h3).1 h4)
  have e3 : ((s[i].toNat : Int) == 34) = false := by simp; omega
  have Hh4 := Lib.hid h4
  clear h4
  have c0 := hS.c0
  have c1 := hS.c1
  have hb := hS.lt
  have hi0 : (0 : Int) ≤ (i : Int) := by omega
  have hi1 : (i : Int) < (s.size : Int) := by omega
  have Hp := Lib.hid hp
  have Hq := Lib.hid hq
  clear hp hq
  go_enter Tryd.func25, Tryd.ntmps25
  go_wp2_with fail
  refine (isSmall_any s[i] _).mono ?_
  rintro e w' ⟨rfl, rfl⟩
  rw [Hp.out]
  go_wp2_with fail
  refine (isLarge_any s[i] _).mono ?_
  rintro e w' ⟨rfl, rfl⟩
  rw [Hq.out]
  go_wp2_with fail
  refine (sign_one s b i _ hs hi (hS.alloc _) ((signy_nat _).1 Hh4.out)).mono ?_
  rintro e w1 ⟨rfl, hS1, hg1⟩
  have hT1 := (Tb.new w 0 0 ⟨#[]⟩).kept hg1 (by simp; omega)
  have hG1 := (World.grownBy_alloc w (.cells #[.int .i64 0, .int .i64 0, .string ⟨#[]⟩] 31) (some b)).trans hg1
  clear hg1 c0 c1 hS
  have t0 := hT1.c0
  have t1 := hT1.c1
  have t2 := hT1.c2
  have g0 := hT1.f0
  have g1 := hT1.f1
  have g2 := hT1.f2
  go_wp2_with fail
  refine bodyPost_ret (ret_tok rfl rfl rfl (hT1.set3 _ _ _)) rfl ?_
  exact ⟨_, _, _, rfl, HN.out, hS1.set3 (by omega) _ _ _, grown_new3 hG1 (Nat.le_refl _) _ _ _⟩
set_option maxHeartbeats 1000000 in
set_option maxRecDepth 100000 in
theorem next_sign_two (s : ByteArray) (b i : Nat) (w : World) (hs : s.size ≤ 1000000000) (hi : i < s.size) (hS : Sc w b s i) (hp : small s[i] = false) (hq : large s[i] = false) (h3 : s[i].toNat ≠ 34) (h4 : s[i].toNat = 60 ∨ s[i].toNat = 62) (h5 : i + 1 < s.size) (h6 : s[i + 1].toNat = 61) :
    Calls Tryd.prog 25 #[.pointer (some ⟨b, 0, none⟩)] w (NextPost s b i w) := by
  have HN := Lib.hid ((next_sign_is s i hi hp hq h3).2.1 h4 h5 h6)
  have e3 : ((s[i].toNat : Int) == 34) = false := by simp; omega
  have Hh4 := Lib.hid h4
  have Hh5 := Lib.hid h5
  have Hh6 := Lib.hid h6
  clear h6 h4
  have c0 := hS.c0
  have c1 := hS.c1
  have hb := hS.lt
  have hi0 : (0 : Int) ≤ (i : Int) := by omega
  have hi1 : (i : Int) < (s.size : Int) := by omega
  have Hp := Lib.hid hp
  have Hq := Lib.hid hq
  clear hp hq
  go_enter Tryd.func25, Tryd.ntmps25
  go_wp2_with fail
  refine (isSmall_any s[i] _).mono ?_
  rintro e w' ⟨rfl, rfl⟩
  rw [Hp.out]
  go_wp2_with fail
  refine (isLarge_any s[i] _).mono ?_
  rintro e w' ⟨rfl, rfl⟩
  rw [Hq.out]
  go_wp2_with fail
  refine (sign_two s b i _ hs hi (hS.alloc _) Hh4.out Hh5.out Hh6.out).mono ?_
  rintro e w1 ⟨rfl, hS1, hg1⟩
  have hT1 := (Tb.new w 0 0 ⟨#[]⟩).kept hg1 (by simp; omega)
  have hG1 := (World.grownBy_alloc w (.cells #[.int .i64 0, .int .i64 0, .string ⟨#[]⟩] 31) (some b)).trans hg1
  clear hg1 c0 c1 hS
  have t0 := hT1.c0
  have t1 := hT1.c1
  have t2 := hT1.c2
  have g0 := hT1.f0
  have g1 := hT1.f1
  have g2 := hT1.f2
  go_wp2_with fail
  refine bodyPost_ret (ret_tok rfl rfl rfl (hT1.set3 _ _ _)) rfl ?_
  exact ⟨_, _, _, rfl, HN.out, hS1.set3 (by omega) _ _ _, grown_new3 hG1 (Nat.le_refl _) _ _ _⟩
set_option maxHeartbeats 1000000 in
set_option maxRecDepth 100000 in
theorem next_sign_half (s : ByteArray) (b i : Nat) (w : World) (hs : s.size ≤ 1000000000) (hi : i < s.size) (hS : Sc w b s i) (hp : small s[i] = false) (hq : large s[i] = false) (h3 : s[i].toNat ≠ 34) (h4 : s[i].toNat = 60 ∨ s[i].toNat = 62) (h5 : s.size ≤ i + 1 ∨ ∃ h : i + 1 < s.size, s[i + 1].toNat ≠ 61) :
    Calls Tryd.prog 25 #[.pointer (some ⟨b, 0, none⟩)] w (NextPost s b i w) := by
  have HN := Lib.hid ((next_sign_is s i hi hp hq h3).2.2.1 h4 h5)
  have e3 : ((s[i].toNat : Int) == 34) = false := by simp; omega
  have Hh4 := Lib.hid h4
  have Hh5 := Lib.hid h5
  clear h5 h4
  have c0 := hS.c0
  have c1 := hS.c1
  have hb := hS.lt
  have hi0 : (0 : Int) ≤ (i : Int) := by omega
  have hi1 : (i : Int) < (s.size : Int) := by omega
  have Hp := Lib.hid hp
  have Hq := Lib.hid hq
  clear hp hq
  go_enter Tryd.func25, Tryd.ntmps25
  go_wp2_with fail
  refine (isSmall_any s[i] _).mono ?_
  rintro e w' ⟨rfl, rfl⟩
  rw [Hp.out]
  go_wp2_with fail
  refine (isLarge_any s[i] _).mono ?_
  rintro e w' ⟨rfl, rfl⟩
  rw [Hq.out]
  go_wp2_with fail
  refine (sign_half s b i _ hs hi (hS.alloc _) Hh4.out Hh5.out).mono ?_
  rintro e w1 ⟨rfl, hS1, hg1⟩
  have hT1 := (Tb.new w 0 0 ⟨#[]⟩).kept hg1 (by simp; omega)
  have hG1 := (World.grownBy_alloc w (.cells #[.int .i64 0, .int .i64 0, .string ⟨#[]⟩] 31) (some b)).trans hg1
  clear hg1 c0 c1 hS
  have t0 := hT1.c0
  have t1 := hT1.c1
  have t2 := hT1.c2
  have g0 := hT1.f0
  have g1 := hT1.f1
  have g2 := hT1.f2
  go_wp2_with fail
  refine bodyPost_ret (ret_tok rfl rfl rfl (hT1.set3 _ _ _)) rfl ?_
  exact ⟨_, _, _, rfl, HN.out, hS1.set3 (by omega) _ _ _, grown_new3 hG1 (Nat.le_refl _) _ _ _⟩
set_option maxHeartbeats 1000000 in
set_option maxRecDepth 100000 in
theorem next_sign_bad (s : ByteArray) (b i : Nat) (w : World) (hs : s.size ≤ 1000000000) (hi : i < s.size) (hS : Sc w b s i) (hp : small s[i] = false) (hq : large s[i] = false) (h3 : s[i].toNat ≠ 34) (h4 : signy s[i] = false) (h5 : ¬ (s[i].toNat = 60 ∨ s[i].toNat = 62)) :
    Calls Tryd.prog 25 #[.pointer (some ⟨b, 0, none⟩)] w (NextPost s b i w) := by
  have HN := Lib.hid ((next_sign_is s i hi hp hq h3).2.2.2 h4 h5)
  have e3 : ((s[i].toNat : Int) == 34) = false := by simp; omega
  have HB := Lib.hid (show s[i].toNat ≠ 40 ∧ s[i].toNat ≠ 41 ∧ s[i].toNat ≠ 44 ∧ s[i].toNat ≠ 59 ∧ s[i].toNat ≠ 58 ∧ s[i].toNat ≠ 46 ∧ s[i].toNat ≠ 61 ∧ s[i].toNat ≠ 126 ∧ s[i].toNat ≠ 60 ∧ s[i].toNat ≠ 62 by
    have : ¬ signy s[i] = true := by simp [h4]
    rw [signy_nat] at this
    omega)
  have Hh4 := Lib.hid h4
  have Hh5 := Lib.hid h5
  clear h5 h4
  have c0 := hS.c0
  have c1 := hS.c1
  have hb := hS.lt
  have hi0 : (0 : Int) ≤ (i : Int) := by omega
  have hi1 : (i : Int) < (s.size : Int) := by omega
  have Hp := Lib.hid hp
  have Hq := Lib.hid hq
  clear hp hq
  go_enter Tryd.func25, Tryd.ntmps25
  go_wp2_with fail
  refine (isSmall_any s[i] _).mono ?_
  rintro e w' ⟨rfl, rfl⟩
  rw [Hp.out]
  go_wp2_with fail
  refine (isLarge_any s[i] _).mono ?_
  rintro e w' ⟨rfl, rfl⟩
  rw [Hq.out]
  go_wp2_with fail
  refine (sign_bad s b i _ hs hi (hS.alloc _) HB.out).mono ?_
  rintro e w1 ⟨rfl, hS1, hg1⟩
  have hT1 := (Tb.new w 0 0 ⟨#[]⟩).kept hg1 (by simp; omega)
  have hG1 := (World.grownBy_alloc w (.cells #[.int .i64 0, .int .i64 0, .string ⟨#[]⟩] 31) (some b)).trans hg1
  clear hg1 c0 c1 hS
  have t0 := hT1.c0
  have t1 := hT1.c1
  have t2 := hT1.c2
  have g0 := hT1.f0
  have g1 := hT1.f1
  have g2 := hT1.f2
  go_wp2_with fail
  refine bodyPost_ret (ret_tok rfl rfl rfl (hT1.set3 _ _ _)) rfl ?_
  exact ⟨_, _, _, rfl, HN.out, hS1.set3 (by omega) _ _ _, grown_new3 hG1 (Nat.le_refl _) _ _ _⟩

theorem next_any (s : ByteArray) (b i : Nat) (w : World) (hW : Wd w) (hb0 : 0 < b) (hs : s.size ≤ 1000000000) (hi : i < s.size) (hS : Sc w b s i) :
    Calls Tryd.prog 25 #[.pointer (some ⟨b, 0, none⟩)] w (NextPost s b i w) := by
  cases hp : small s[i]
  · cases hq : large s[i]
    · by_cases h3 : s[i].toNat = 34
      · by_cases he : ∃ he : runTo quotd s (i + 1) < s.size, s[runTo quotd s (i + 1)].toNat = 34
        · obtain ⟨he, h34⟩ := he
          exact next_quote_yes s b i w hs hi hS hp hq h3 he h34
        · refine next_quote_no s b i w hs hi hS hp hq h3 ?_
          by_cases hl : runTo quotd s (i + 1) < s.size
          · exact .inr ⟨hl, fun h => he ⟨hl, h⟩⟩
          · exact .inl (by omega)
      · cases h4 : signy s[i]
        · by_cases h5 : s[i].toNat = 60 ∨ s[i].toNat = 62
          · by_cases h6 : ∃ h : i + 1 < s.size, s[i + 1].toNat = 61
            · obtain ⟨h6, h7⟩ := h6
              exact next_sign_two s b i w hs hi hS hp hq h3 h5 h6 h7
            · refine next_sign_half s b i w hs hi hS hp hq h3 h5 ?_
              by_cases hl : i + 1 < s.size
              · exact .inr ⟨hl, fun h => h6 ⟨hl, h⟩⟩
              · exact .inl (by omega)
          · exact next_sign_bad s b i w hs hi hS hp hq h3 h4 h5
        · exact next_sign_one s b i w hs hi hS hp hq h3 h4
    · exact next_large s b i w hs hi hS hp hq
  · exact next_small s b i w hW hb0 hs hi hS hp
end Go.Proofs.YtadhncdcpdabkaaDoor
