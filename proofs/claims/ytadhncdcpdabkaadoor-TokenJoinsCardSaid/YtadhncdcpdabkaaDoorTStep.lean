/- The scanner's next token, whatever it is. -/
import Derived.Test.YtadhncdcpdabkaaDoorTSign
namespace Go.Proofs.YtadhncdcpdabkaaDoor
open Go.RowKit Go.Lib
set_option linter.unusedVariables false

def NextPost (s : ByteArray) (b i : Nat) (w : World) (e : Ending) (w' : World) : Prop :=
  ∃ (tv : Value) (code : Int) (j : Nat), e = .returned (.tuple #[tv, .int .i64 code]) ∧ NextIs s i tv code j ∧ Sc w' b s j ∧ w.grownBy w' (some b)
theorem one_at (s : ByteArray) (i : Nat) (hi : i < s.size) : one (s.data.toList.drop i) = one (s[i] :: s.data.toList.drop (i + 1)) := by rw [drop_at s i hi]
theorem run_ne (p : UInt8 → Bool) (s : ByteArray) (i : Nat) (hi : i < s.size) (hp : p s[i] = true) : (s.data.toList.drop i).takeWhile p ≠ [] := by
  rw [drop_at s i hi, List.takeWhile_cons, if_pos hp]; simp
theorem run_len (p : UInt8 → Bool) (s : ByteArray) (i : Nat) : runTo p s i = i + ((s.data.toList.drop i).takeWhile p).length := rfl
theorem ext_size (s : ByteArray) (i j : Nat) (h : j ≤ s.size) : (s.extract i j).size = j - i := by
  rw [ByteArray.size_extract]; omega
theorem next_small_is (s : ByteArray) (i : Nat) (hi : i < s.size) (hp : small s[i] = true) :
    NextIs s i (.agg #[.int .i64 (rankK ((s.data.toList.drop i).takeWhile small) : Nat), .int .i64 (i : Nat), .string (s.extract i (runTo small s i))]) (rankE ((s.data.toList.drop i).takeWhile small) : Nat) (runTo small s i) := by
  have h1 : one (s.data.toList.drop i) = ranked ((s.data.toList.drop i).takeWhile small) := by
    rw [one_at s i hi, one_cons, if_pos hp, ← drop_at s i hi]
  rw [ranked_eq] at h1
  by_cases h0 : rankE ((s.data.toList.drop i).takeWhile small) = 0
  · rw [if_pos h0] at h1
    exact .inl ⟨_, _, _, h1, by rw [ext_eq], by rw [h0]; rfl, rfl⟩
  · rw [if_neg h0] at h1
    exact .inr ⟨_, h1, rfl, h0, _, _, _, rfl⟩

set_option maxHeartbeats 1000000 in
set_option maxRecDepth 100000 in
theorem next_small (s : ByteArray) (b i : Nat) (w : World) (hW : Wd w) (hb0 : 0 < b) (hs : s.size ≤ 1000000000) (hi : i < s.size) (hS : Sc w b s i) (hp : small s[i] = true) :
    Calls Tryd.prog 25 #[.pointer (some ⟨b, 0, none⟩)] w (NextPost s b i w) := by
  have c0 := hS.c0
  have c1 := hS.c1
  have hb := hS.lt
  have hi0 : (0 : Int) ≤ (i : Int) := by omega
  have hi1 : (i : Int) < (s.size : Int) := by omega
  have Hp := Lib.hid hp
  have HN := Lib.hid (next_small_is s i hi hp)
  have Hne := Lib.hid (run_ne small s i hi hp)
  have Hex := Lib.hid (ext_run small s i)
  have hge := runTo_ge small s i
  have hle := runTo_le small (Nat.le_of_lt hi)
  have hz := ext_size s i _ hle
  have hz1 : 1 ≤ (s.extract i (runTo small s i)).size := by
    rw [hz, run_len]; have := List.length_pos_iff.2 Hne.out; omega
  have hz2 : (s.extract i (runTo small s i)).size ≤ 1000000000 := by rw [hz]; omega
  clear hp hz
  go_enter Tryd.func25, Tryd.ntmps25
  go_wp2_with fail
  refine (isSmall_any s[i] _).mono ?_
  rintro e w' ⟨rfl, rfl⟩
  rw [Hp.out]
  go_wp2_with fail
  refine (run_any 33 small (enters_of Tryd.func33 (by kernel_rfl) rfl) isSmall_any s b i _ hs (by omega) (hS.alloc _)).mono ?_
  rintro e w1 ⟨rfl, hS1, hg1⟩
  have hT1 := (Tb.new w 0 0 ⟨#[]⟩).kept hg1 (by simp; omega)
  have hG1 := (World.grownBy_alloc w (.cells #[.int .i64 0, .int .i64 0, .string ⟨#[]⟩] 31) (some b)).trans hg1
  have hW1 := hW.kept hG1 (by simp; omega)
  clear hg1 c0 c1 hS hW
  generalize runTo small s i = r at *
  generalize hx : s.extract i r = x at *
  have HX := Lib.hid hx
  clear hx
  go_wp2_with fail
  refine (ranked_any x _ hW1 hz2 hz1 (fun c hc => tw_all (l := s.data.toList.drop i) (by rw [← Hex.out]; exact hc))).mono ?_
  rintro e w2 ⟨rfl, hb2⟩
  have hS2 := hS1.below hb2 hS1.lt
  have hT2 := hT1.below hb2 hT1.lt
  have hG2 := grownBy_below hG1 hb2
  clear hb2 hS1 hT1 hG1 hW1
  have c0 := hS2.c0
  have c1 := hS2.c1
  have t0 := hT2.c0
  have t1 := hT2.c1
  have t2 := hT2.c2
  have g0 := hT2.f0
  have g1 := hT2.f1
  have g2 := hT2.f2
  go_wp2_with fail
  go_region
  go_wp2_with fail
  refine bodyPost_ret (ret_tok rfl rfl rfl (hT2.drew.set3 _ _ _)) rfl ?_
  have hN := HN.out
  rw [← Hex.out] at hN
  rw [HX.out]
  exact ⟨_, _, _, rfl, hN, hS2.drew.set3 (by omega) _ _ _, grown_new3 (grown_drew hG2) (Nat.le_refl _) _ _ _⟩

theorem next_large_is (s : ByteArray) (i : Nat) (hi : i < s.size) (h1 : small s[i] = false) (h2 : large s[i] = true) :
    (runTo large s i = i + 3 → NextIs s i (.agg #[.int .i64 4, .int .i64 (i : Nat), .string (s.extract i (runTo large s i))]) 0 (runTo large s i)) ∧
    (runTo large s i ≠ i + 3 → NextIs s i (.agg #[.int .i64 0, .int .i64 0, .string ⟨#[]⟩]) 2 (runTo large s i)) := by
  have e : one (s.data.toList.drop i) = if ((s.data.toList.drop i).takeWhile large).length = 3 then .tok 4 ((s.data.toList.drop i).takeWhile large) 3 else .bad 2 := by
    rw [one_at s i hi, one_cons, if_neg (by simp [h1]), if_pos h2, ← drop_at s i hi]
  constructor
  · intro h
    rw [run_len] at h
    rw [if_pos (by omega)] at e
    exact .inl ⟨_, _, _, e, by rw [ext_eq]; rfl, rfl, by rw [run_len]; omega⟩
  · intro h
    rw [run_len] at h
    rw [if_neg (by omega)] at e
    exact .inr ⟨_, e, rfl, by decide, _, _, _, rfl⟩

set_option maxHeartbeats 1000000 in
set_option maxRecDepth 100000 in
theorem next_large (s : ByteArray) (b i : Nat) (w : World) (hs : s.size ≤ 1000000000) (hi : i < s.size) (hS : Sc w b s i) (hp : small s[i] = false) (hq : large s[i] = true) :
    Calls Tryd.prog 25 #[.pointer (some ⟨b, 0, none⟩)] w (NextPost s b i w) := by
  have c0 := hS.c0
  have c1 := hS.c1
  have hb := hS.lt
  have hi0 : (0 : Int) ≤ (i : Int) := by omega
  have hi1 : (i : Int) < (s.size : Int) := by omega
  have Hp := Lib.hid hp
  have Hq := Lib.hid hq
  have HN := Lib.hid (next_large_is s i hi hp hq)
  have hge := runTo_ge large s i
  have hle := runTo_le large (Nat.le_of_lt hi)
  have Hz := Lib.hid (ext_size s i _ hle)
  clear hp hq
  go_enter Tryd.func25, Tryd.ntmps25
  go_wp2_with fail
  refine (isSmall_any s[i] _).mono ?_
  rintro e w' ⟨rfl, rfl⟩
  rw [Hp.out]
  go_wp2_with fail
  refine (isLarge_any s[i] _).mono ?_
  rintro e w' ⟨rfl, rfl⟩
  rw [Hq.out]
  go_wp2_with fail
  refine (run_any 35 large (enters_of Tryd.func35 (by kernel_rfl) rfl) isLarge_any s b i _ hs (by omega) (hS.alloc _)).mono ?_
  rintro e w1 ⟨rfl, hS1, hg1⟩
  have hT1 := (Tb.new w 0 0 ⟨#[]⟩).kept hg1 (by simp; omega)
  have hG1 := (World.grownBy_alloc w (.cells #[.int .i64 0, .int .i64 0, .string ⟨#[]⟩] 31) (some b)).trans hg1
  clear hg1 c0 c1 hS
  generalize runTo large s i = r at *
  have c0 := hS1.c0
  have c1 := hS1.c1
  have t0 := hT1.c0
  have t1 := hT1.c1
  have t2 := hT1.c2
  have g0 := hT1.f0
  have g1 := hT1.f1
  have g2 := hT1.f2
  by_cases h3 : r = i + 3
  · have d3 : (((s.extract i r).size : Int) != 3) = false := by rw [Hz.out]; simp; omega
    have HN1 := Lib.hid (HN.out.1 h3)
    clear h3
    generalize s.extract i r = x at *
    go_wp2_with fail
    refine bodyPost_ret (ret_tok rfl rfl rfl (hT1.set3 _ _ _)) rfl ?_
    exact ⟨_, _, _, rfl, HN1.out, hS1.set3 (by omega) _ _ _, grown_new3 hG1 (Nat.le_refl _) _ _ _⟩
  · have d3 : (((s.extract i r).size : Int) != 3) = true := by rw [Hz.out]; simp; omega
    have HN1 := Lib.hid (HN.out.2 h3)
    clear h3
    generalize s.extract i r = x at *
    go_wp2_with fail
    refine bodyPost_ret (ret_tok rfl rfl rfl (hT1.set3 _ _ _)) rfl ?_
    exact ⟨_, _, _, rfl, HN1.out, hS1.set3 (by omega) _ _ _, grown_new3 hG1 (Nat.le_refl _) _ _ _⟩

theorem next_quote_is (s : ByteArray) (i : Nat) (hi : i < s.size) (h1 : small s[i] = false) (h2 : large s[i] = false) (h3 : s[i].toNat = 34) :
    (∀ he : runTo quotd s (i + 1) < s.size, s[runTo quotd s (i + 1)].toNat = 34 → NextIs s i (.agg #[.int .i64 3, .int .i64 (i : Nat), .string (s.extract (i + 1) (runTo quotd s (i + 1)))]) 0 (runTo quotd s (i + 1) + 1)) ∧
    (badQ s (runTo quotd s (i + 1)) → NextIs s i (.agg #[.int .i64 0, .int .i64 0, .string ⟨#[]⟩]) 2 (runTo quotd s (i + 1))) := by
  have h34 : (s[i] == 34) = true := by rw [beq_iff_eq, ← UInt8.toNat_inj]; exact h3
  have e : one (s.data.toList.drop i) = if ((s.data.toList.drop (i + 1)).drop ((s.data.toList.drop (i + 1)).takeWhile quotd).length).head? = some 34 then .tok 3 ((s.data.toList.drop (i + 1)).takeWhile quotd) (((s.data.toList.drop (i + 1)).takeWhile quotd).length + 2) else .bad 2 := by
    rw [one_at s i hi, one_cons, if_neg (by simp [h1]), if_neg (by simp [h2]), if_pos h34]
  rw [List.drop_drop, ← run_len] at e
  constructor
  · intro he h
    rw [drop_at s _ he, if_pos (by rw [List.head?_cons, Option.some.injEq, ← UInt8.toNat_inj]; exact h)] at e
    exact .inl ⟨_, _, _, e, by rw [ext_eq]; rfl, rfl, by rw [run_len]; omega⟩
  · intro hbad
    have : ¬ ((s.data.toList.drop (runTo quotd s (i + 1))).head? = some 34) := by
      rcases hbad with h | ⟨h, hn⟩
      · rw [List.drop_eq_nil_of_le (by simpa using h)]; simp
      · rw [drop_at s _ h, List.head?_cons, Option.some.injEq, ← UInt8.toNat_inj]; exact hn
    rw [if_neg this] at e
    exact .inr ⟨_, e, rfl, by decide, _, _, _, rfl⟩
end Go.Proofs.YtadhncdcpdabkaaDoor
