/- The scanner's sign. -/
import Derived.Test.YtadhncdcpdabkaaDoorTNext
namespace Go.Proofs.YtadhncdcpdabkaaDoor
open Go.RowKit Go.Lib
set_option linter.unusedVariables false
theorem Tb.drew {w : World} {b : Nat} {x y : Int} {z : ByteArray} (h : Tb w b x y z) : Tb w.drew b x y z := ⟨h.blk⟩
theorem grown_drew {a w : World} {row : Option Nat} (h : a.grownBy w row) : a.grownBy w.drew row := ⟨h.os, h.tape, h.output, h.size, h.block⟩
set_option maxHeartbeats 2000000 in
set_option maxRecDepth 100000 in
theorem sign_one (s : ByteArray) (b i : Nat) (w : World) (hs : s.size ≤ 1000000000) (hi : i < s.size) (hS : Sc w b s i) (hc : s[i].toNat = 40 ∨ s[i].toNat = 41 ∨ s[i].toNat = 44 ∨ s[i].toNat = 59 ∨ s[i].toNat = 58 ∨ s[i].toNat = 46 ∨ s[i].toNat = 61 ∨ s[i].toNat = 126) :
    Calls Tryd.prog 37 #[.pointer (some ⟨b, 0, none⟩), .int .i64 (i : Int)] w fun e w' => e = .returned (.tuple #[.agg #[.int .i64 5, .int .i64 (i : Int), .string (s.extract i (i + 1))], .int .i64 0]) ∧ Sc w' b s (i + 1) ∧ w.grownBy w' (some b) := by
  have c0 := hS.c0
  have c1 := hS.c1
  have f1 := hS.f1
  have hb := hS.lt
  have hi0 : (0 : Int) ≤ (i : Int) := by omega
  have hi1 : (i : Int) < (s.size : Int) := by omega
  rcases hc with h | h | h | h | h | h | h | h
  all_goals
    first | have e40 : ((s[i].toNat : Int) == 40) = true := by simp; omega
          | have e40 : ((s[i].toNat : Int) == 40) = false := by simp; omega
    first | have e41 : ((s[i].toNat : Int) == 41) = true := by simp; omega
          | have e41 : ((s[i].toNat : Int) == 41) = false := by simp; omega
    first | have e44 : ((s[i].toNat : Int) == 44) = true := by simp; omega
          | have e44 : ((s[i].toNat : Int) == 44) = false := by simp; omega
    first | have e59 : ((s[i].toNat : Int) == 59) = true := by simp; omega
          | have e59 : ((s[i].toNat : Int) == 59) = false := by simp; omega
    first | have e58 : ((s[i].toNat : Int) == 58) = true := by simp; omega
          | have e58 : ((s[i].toNat : Int) == 58) = false := by simp; omega
    first | have e46 : ((s[i].toNat : Int) == 46) = true := by simp; omega
          | have e46 : ((s[i].toNat : Int) == 46) = false := by simp; omega
    first | have e61 : ((s[i].toNat : Int) == 61) = true := by simp; omega
          | have e61 : ((s[i].toNat : Int) == 61) = false := by simp; omega
    first | have e126 : ((s[i].toNat : Int) == 126) = true := by simp; omega
          | have e126 : ((s[i].toNat : Int) == 126) = false := by simp; omega
    first | have e60 : ((s[i].toNat : Int) == 60) = true := by simp; omega
          | have e60 : ((s[i].toNat : Int) == 60) = false := by simp; omega
    first | have e62 : ((s[i].toNat : Int) == 62) = true := by simp; omega
          | have e62 : ((s[i].toNat : Int) == 62) = false := by simp; omega
    clear h
    go_enter Tryd.func37, Tryd.ntmps37
    go_upto_region 17 with (fail)
    have hT1 : Tb ((w.setCell ⟨b, 1, none⟩ (.int .i64 ((i : Int) + 1))).alloc (.cells #[.int .i64 0, .int .i64 0, .string ⟨#[]⟩] 31)) w.heap.size 0 0 ⟨#[]⟩ := by
      have h := Tb.new (w.setCell ⟨b, 1, none⟩ (.int .i64 ((i : Int) + 1))) 0 0 ⟨#[]⟩
      rwa [size_setCell] at h
    have hS1 := (hS.setv ((i : Int) + 1) (i + 1) (by omega)).alloc (.cells #[.int .i64 0, .int .i64 0, .string ⟨#[]⟩] 31)
    have hG1 := (grownBy_setB (World.grownBy.refl w (some b)) 1 (.int .i64 ((i : Int) + 1))).trans (World.grownBy_alloc _ (.cells #[.int .i64 0, .int .i64 0, .string ⟨#[]⟩] 31) _)
    clear c0 c1 f1 hS
    generalize (w.setCell ⟨b, 1, none⟩ (.int .i64 ((i : Int) + 1))).alloc (.cells #[.int .i64 0, .int .i64 0, .string ⟨#[]⟩] 31) = w1 at *
    have c0 := hS1.c0
    have c1 := hS1.c1
    have t0 := hT1.c0
    have t1 := hT1.c1
    have t2 := hT1.c2
    have g0 := hT1.f0
    have g1 := hT1.f1
    have g2 := hT1.f2
    go_wp2_with fail
    go_region
    go_wp2_with fail
    refine bodyPost_ret (ret_tok rfl rfl rfl (hT1.drew.set3 _ _ _)) rfl ?_
    exact ⟨rfl, hS1.drew.set3 (by omega) _ _ _, grown_new3 (grown_drew hG1) (Nat.le_refl _) _ _ _⟩
set_option maxHeartbeats 2000000 in
set_option maxRecDepth 100000 in
theorem sign_two (s : ByteArray) (b i : Nat) (w : World) (hs : s.size ≤ 1000000000) (hi : i < s.size) (hS : Sc w b s i) (hc : s[i].toNat = 60 ∨ s[i].toNat = 62) (h1 : i + 1 < s.size) (h61 : s[i + 1].toNat = 61) :
    Calls Tryd.prog 37 #[.pointer (some ⟨b, 0, none⟩), .int .i64 (i : Int)] w fun e w' => e = .returned (.tuple #[.agg #[.int .i64 5, .int .i64 (i : Int), .string (s.extract i (i + 2))], .int .i64 0]) ∧ Sc w' b s (i + 2) ∧ w.grownBy w' (some b) := by
  have c0 := hS.c0
  have c1 := hS.c1
  have f1 := hS.f1
  have hb := hS.lt
  have hi0 : (0 : Int) ≤ (i : Int) := by omega
  have hi1 : (i : Int) < (s.size : Int) := by omega
  have h2 : (i : Int) + 1 < (s.size : Int) := by omega
  have hd : decide ((s.size : Int) ≤ (i : Int) + 1) = false := by simp; omega
  have e61' : ((s[i + 1].toNat : Int) != 61) = false := by simp; omega
  clear h61
  rcases hc with h | h
  all_goals
    first | have e40 : ((s[i].toNat : Int) == 40) = true := by simp; omega
          | have e40 : ((s[i].toNat : Int) == 40) = false := by simp; omega
    first | have e41 : ((s[i].toNat : Int) == 41) = true := by simp; omega
          | have e41 : ((s[i].toNat : Int) == 41) = false := by simp; omega
    first | have e44 : ((s[i].toNat : Int) == 44) = true := by simp; omega
          | have e44 : ((s[i].toNat : Int) == 44) = false := by simp; omega
    first | have e59 : ((s[i].toNat : Int) == 59) = true := by simp; omega
          | have e59 : ((s[i].toNat : Int) == 59) = false := by simp; omega
    first | have e58 : ((s[i].toNat : Int) == 58) = true := by simp; omega
          | have e58 : ((s[i].toNat : Int) == 58) = false := by simp; omega
    first | have e46 : ((s[i].toNat : Int) == 46) = true := by simp; omega
          | have e46 : ((s[i].toNat : Int) == 46) = false := by simp; omega
    first | have e61 : ((s[i].toNat : Int) == 61) = true := by simp; omega
          | have e61 : ((s[i].toNat : Int) == 61) = false := by simp; omega
    first | have e126 : ((s[i].toNat : Int) == 126) = true := by simp; omega
          | have e126 : ((s[i].toNat : Int) == 126) = false := by simp; omega
    first | have e60 : ((s[i].toNat : Int) == 60) = true := by simp; omega
          | have e60 : ((s[i].toNat : Int) == 60) = false := by simp; omega
    first | have e62 : ((s[i].toNat : Int) == 62) = true := by simp; omega
          | have e62 : ((s[i].toNat : Int) == 62) = false := by simp; omega
    clear h
    go_enter Tryd.func37, Tryd.ntmps37
    go_upto_region 17 with (fail)
    have hT1 : Tb ((w.setCell ⟨b, 1, none⟩ (.int .i64 ((i : Int) + 2))).alloc (.cells #[.int .i64 0, .int .i64 0, .string ⟨#[]⟩] 31)) w.heap.size 0 0 ⟨#[]⟩ := by
      have h := Tb.new (w.setCell ⟨b, 1, none⟩ (.int .i64 ((i : Int) + 2))) 0 0 ⟨#[]⟩
      rwa [size_setCell] at h
    have hS1 := (hS.setv ((i : Int) + 2) (i + 2) (by omega)).alloc (.cells #[.int .i64 0, .int .i64 0, .string ⟨#[]⟩] 31)
    have hG1 := (grownBy_setB (World.grownBy.refl w (some b)) 1 (.int .i64 ((i : Int) + 2))).trans (World.grownBy_alloc _ (.cells #[.int .i64 0, .int .i64 0, .string ⟨#[]⟩] 31) _)
    clear c0 c1 f1 hS
    generalize (w.setCell ⟨b, 1, none⟩ (.int .i64 ((i : Int) + 2))).alloc (.cells #[.int .i64 0, .int .i64 0, .string ⟨#[]⟩] 31) = w1 at *
    have c0 := hS1.c0
    have c1 := hS1.c1
    have t0 := hT1.c0
    have t1 := hT1.c1
    have t2 := hT1.c2
    have g0 := hT1.f0
    have g1 := hT1.f1
    have g2 := hT1.f2
    go_wp2_with fail
    go_region
    go_wp2_with fail
    refine bodyPost_ret (ret_tok rfl rfl rfl (hT1.drew.set3 _ _ _)) rfl ?_
    exact ⟨rfl, hS1.drew.set3 (by omega) _ _ _, grown_new3 (grown_drew hG1) (Nat.le_refl _) _ _ _⟩
set_option maxHeartbeats 2000000 in
set_option maxRecDepth 100000 in
theorem sign_half (s : ByteArray) (b i : Nat) (w : World) (hs : s.size ≤ 1000000000) (hi : i < s.size) (hS : Sc w b s i) (hc : s[i].toNat = 60 ∨ s[i].toNat = 62) (hbad : s.size ≤ i + 1 ∨ ∃ h : i + 1 < s.size, s[i + 1].toNat ≠ 61) :
    Calls Tryd.prog 37 #[.pointer (some ⟨b, 0, none⟩), .int .i64 (i : Int)] w fun e w' => e = .returned (.tuple #[.agg #[.int .i64 0, .int .i64 0, .string ⟨#[]⟩], .int .i64 2]) ∧ Sc w' b s i ∧ w.grownBy w' (some b) := by
  have c0 := hS.c0
  have c1 := hS.c1
  have f1 := hS.f1
  have hb := hS.lt
  have hi0 : (0 : Int) ≤ (i : Int) := by omega
  have hi1 : (i : Int) < (s.size : Int) := by omega
  rcases hbad with hx | ⟨h1, h61⟩
  · have hd : decide ((s.size : Int) ≤ (i : Int) + 1) = true := by simp; omega
    rcases hc with h | h
    all_goals
      first | have e40 : ((s[i].toNat : Int) == 40) = true := by simp; omega
            | have e40 : ((s[i].toNat : Int) == 40) = false := by simp; omega
      first | have e41 : ((s[i].toNat : Int) == 41) = true := by simp; omega
            | have e41 : ((s[i].toNat : Int) == 41) = false := by simp; omega
      first | have e44 : ((s[i].toNat : Int) == 44) = true := by simp; omega
            | have e44 : ((s[i].toNat : Int) == 44) = false := by simp; omega
      first | have e59 : ((s[i].toNat : Int) == 59) = true := by simp; omega
            | have e59 : ((s[i].toNat : Int) == 59) = false := by simp; omega
      first | have e58 : ((s[i].toNat : Int) == 58) = true := by simp; omega
            | have e58 : ((s[i].toNat : Int) == 58) = false := by simp; omega
      first | have e46 : ((s[i].toNat : Int) == 46) = true := by simp; omega
            | have e46 : ((s[i].toNat : Int) == 46) = false := by simp; omega
      first | have e61 : ((s[i].toNat : Int) == 61) = true := by simp; omega
            | have e61 : ((s[i].toNat : Int) == 61) = false := by simp; omega
      first | have e126 : ((s[i].toNat : Int) == 126) = true := by simp; omega
            | have e126 : ((s[i].toNat : Int) == 126) = false := by simp; omega
      first | have e60 : ((s[i].toNat : Int) == 60) = true := by simp; omega
            | have e60 : ((s[i].toNat : Int) == 60) = false := by simp; omega
      first | have e62 : ((s[i].toNat : Int) == 62) = true := by simp; omega
            | have e62 : ((s[i].toNat : Int) == 62) = false := by simp; omega
      clear h
      go_enter Tryd.func37, Tryd.ntmps37
      go_wp2_with fail
      refine bodyPost_ret (ret_tok rfl rfl rfl (Tb.new w 0 0 ⟨#[]⟩)) rfl ?_
      exact ⟨rfl, hS.alloc _, World.grownBy_alloc _ _ _⟩
  · have h2 : (i : Int) + 1 < (s.size : Int) := by omega
    have hd : decide ((s.size : Int) ≤ (i : Int) + 1) = false := by simp; omega
    have e61' : ((s[i + 1].toNat : Int) != 61) = true := by simp; omega
    clear h61
    rcases hc with h | h
    all_goals
      first | have e40 : ((s[i].toNat : Int) == 40) = true := by simp; omega
            | have e40 : ((s[i].toNat : Int) == 40) = false := by simp; omega
      first | have e41 : ((s[i].toNat : Int) == 41) = true := by simp; omega
            | have e41 : ((s[i].toNat : Int) == 41) = false := by simp; omega
      first | have e44 : ((s[i].toNat : Int) == 44) = true := by simp; omega
            | have e44 : ((s[i].toNat : Int) == 44) = false := by simp; omega
      first | have e59 : ((s[i].toNat : Int) == 59) = true := by simp; omega
            | have e59 : ((s[i].toNat : Int) == 59) = false := by simp; omega
      first | have e58 : ((s[i].toNat : Int) == 58) = true := by simp; omega
            | have e58 : ((s[i].toNat : Int) == 58) = false := by simp; omega
      first | have e46 : ((s[i].toNat : Int) == 46) = true := by simp; omega
            | have e46 : ((s[i].toNat : Int) == 46) = false := by simp; omega
      first | have e61 : ((s[i].toNat : Int) == 61) = true := by simp; omega
            | have e61 : ((s[i].toNat : Int) == 61) = false := by simp; omega
      first | have e126 : ((s[i].toNat : Int) == 126) = true := by simp; omega
            | have e126 : ((s[i].toNat : Int) == 126) = false := by simp; omega
      first | have e60 : ((s[i].toNat : Int) == 60) = true := by simp; omega
            | have e60 : ((s[i].toNat : Int) == 60) = false := by simp; omega
      first | have e62 : ((s[i].toNat : Int) == 62) = true := by simp; omega
            | have e62 : ((s[i].toNat : Int) == 62) = false := by simp; omega
      clear h
      go_enter Tryd.func37, Tryd.ntmps37
      go_wp2_with fail
      refine bodyPost_ret (ret_tok rfl rfl rfl (Tb.new w 0 0 ⟨#[]⟩)) rfl ?_
      exact ⟨rfl, hS.alloc _, World.grownBy_alloc _ _ _⟩
set_option maxHeartbeats 2000000 in
set_option maxRecDepth 100000 in
theorem sign_bad (s : ByteArray) (b i : Nat) (w : World) (hs : s.size ≤ 1000000000) (hi : i < s.size) (hS : Sc w b s i) (h : s[i].toNat ≠ 40 ∧ s[i].toNat ≠ 41 ∧ s[i].toNat ≠ 44 ∧ s[i].toNat ≠ 59 ∧ s[i].toNat ≠ 58 ∧ s[i].toNat ≠ 46 ∧ s[i].toNat ≠ 61 ∧ s[i].toNat ≠ 126 ∧ s[i].toNat ≠ 60 ∧ s[i].toNat ≠ 62) :
    Calls Tryd.prog 37 #[.pointer (some ⟨b, 0, none⟩), .int .i64 (i : Int)] w fun e w' => e = .returned (.tuple #[.agg #[.int .i64 0, .int .i64 0, .string ⟨#[]⟩], .int .i64 2]) ∧ Sc w' b s i ∧ w.grownBy w' (some b) := by
  have c0 := hS.c0
  have c1 := hS.c1
  have f1 := hS.f1
  have hb := hS.lt
  have hi0 : (0 : Int) ≤ (i : Int) := by omega
  have hi1 : (i : Int) < (s.size : Int) := by omega
  first | have e40 : ((s[i].toNat : Int) == 40) = true := by simp; omega
        | have e40 : ((s[i].toNat : Int) == 40) = false := by simp; omega
  first | have e41 : ((s[i].toNat : Int) == 41) = true := by simp; omega
        | have e41 : ((s[i].toNat : Int) == 41) = false := by simp; omega
  first | have e44 : ((s[i].toNat : Int) == 44) = true := by simp; omega
        | have e44 : ((s[i].toNat : Int) == 44) = false := by simp; omega
  first | have e59 : ((s[i].toNat : Int) == 59) = true := by simp; omega
        | have e59 : ((s[i].toNat : Int) == 59) = false := by simp; omega
  first | have e58 : ((s[i].toNat : Int) == 58) = true := by simp; omega
        | have e58 : ((s[i].toNat : Int) == 58) = false := by simp; omega
  first | have e46 : ((s[i].toNat : Int) == 46) = true := by simp; omega
        | have e46 : ((s[i].toNat : Int) == 46) = false := by simp; omega
  first | have e61 : ((s[i].toNat : Int) == 61) = true := by simp; omega
        | have e61 : ((s[i].toNat : Int) == 61) = false := by simp; omega
  first | have e126 : ((s[i].toNat : Int) == 126) = true := by simp; omega
        | have e126 : ((s[i].toNat : Int) == 126) = false := by simp; omega
  first | have e60 : ((s[i].toNat : Int) == 60) = true := by simp; omega
        | have e60 : ((s[i].toNat : Int) == 60) = false := by simp; omega
  first | have e62 : ((s[i].toNat : Int) == 62) = true := by simp; omega
        | have e62 : ((s[i].toNat : Int) == 62) = false := by simp; omega
  clear h
  go_enter Tryd.func37, Tryd.ntmps37
  go_wp2_with fail
  refine bodyPost_ret (ret_tok rfl rfl rfl (Tb.new w 0 0 ⟨#[]⟩)) rfl ?_
  exact ⟨rfl, hS.alloc _, World.grownBy_alloc _ _ _⟩
end Go.Proofs.YtadhncdcpdabkaaDoor
