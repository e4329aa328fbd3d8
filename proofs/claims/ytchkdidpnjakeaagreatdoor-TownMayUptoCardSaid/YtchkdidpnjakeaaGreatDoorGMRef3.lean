/- The document's Sum and Right of a mark. The document's Right of a mark. ref54.box: may a box be, by itself? Deals as far as they were gone through, in plain. -/
import Derived.Test.YtchkdidpnjakeaaGreatDoorGMSum
import Derived.Test.YtchkdidpnjakeaaGreatDoorGMHeavy2
import Derived.Test.YtchkdidpnjakeaaGreatDoorMDealD
namespace Go.Proofs.YtchkdidpnjakeaaGreatDoor
open Go.RowKit Go.Lib
set_option linter.unusedVariables false
set_option maxRecDepth 100000

set_option maxHeartbeats 4000000 in
theorem refSum_m (s : ByteArray) (w : World) (hs : s.size = 12) (hh : headOk s 10) : Calls Tryz.prog 126 #[.string s] w fun e w' => e = .returned (.int .i64 ((sumTo s 10 % 97 : Nat) : Int)) ∧ w' = w := by
  have HY : Hid ((.returned (.int .i64 (((sumTo s 10 : Nat) : Int) % 97)) : Ending) = .returned (.int .i64 ((sumTo s 10 % 97 : Nat) : Int))) := Lib.hid (by rw [Int.natCast_emod]; rfl)
  have HL := Lib.hid (fun k (h : k ≤ 10) => sumTo_le (s := s) h)
  have HS : Hid (∀ k, sumTo s (k + 1) = sumTo s k + mkV k (bt s k) * (k + 1)) := Lib.hid fun _ => rfl
  have HH := Lib.hid hh
  have H1 := Lib.hid (head_m s w hs)
  clear hh
  generalize ((.returned (.int .i64 ((sumTo s 10 % 97 : Nat) : Int)) : Ending)) = en at *
  go_enter Tryz.func126, Tryz.ntmps126
  go_wp2_with fail
  refine H1.out.mono ?_
  rintro e w1 ⟨rfl, ⟨_, rfl⟩ | ⟨h, rfl⟩⟩
  case inr => exact absurd HH.out h
  go_wp2_with fail
  go_loop [3, 4, 5] (fun v i _ => ∃ k n : Nat, k ≤ 10 ∧ Hid (n = sumTo s k) ∧ i = .int .i64 (k : Int) ∧ v = .int .i64 (n : Int)) (fun _ i _ => 10 - (RowKit.intOf i).toNat)
  case atStart => exact ⟨0, 0, by omega, Lib.hid rfl, rfl, rfl⟩
  case round =>
    obtain ⟨k, n, hk, HK, rfl, rfl⟩ := hrel
    have hn : n ≤ 3000 * k := by rw [HK.out]; exact HL.out k hk
    by_cases hlt : k < 10
    · have hks : k < s.size := by omega
      have b1 : (k : Int) < 10 := by omega
      have b2 : (k : Int) < (s.size : Int) := by omega
      have b0 : (0 : Int) ≤ (k : Int) := by omega
      have hc : s[k].toNat < 256 := s[k].toNat_lt
      have HB := Lib.hid (bt_eq hks)
      have hm := HH.out k hlt
      rw [HB.out] at hm
      unfold mkH at hm
      by_cases h4 : k < 4
      · rw [if_pos h4] at hm
        have b4 : (k : Int) < 4 := by omega
        have HM : Hid (mkV k (bt s k) = s[k].toNat - 96) := Lib.hid (by rw [HB.out]; unfold mkV; rw [if_pos h4])
        go_wp2_with fail
        have m1 : (s[k].toNat - 96) * (k + 1) ≤ 26 * 10 := Nat.mul_le_mul (by omega) (by omega)
        have e1 : ((s[k].toNat : Int) - 96) * ((k : Int) + 1) = (((s[k].toNat - 96) * (k + 1) : Nat) : Int) := by
          rw [Int.natCast_mul]
          congr 1
          omega
        refine ⟨⟨k + 1, n + (s[k].toNat - 96) * (k + 1), by omega, Lib.hid (by rw [HS.out, ← HK.out, HM.out]), by simp, ?_⟩, by simp [RowKit.intOf]; omega⟩
        generalize (s[k].toNat - 96) * (k + 1) = m at *
        rw [e1, wr64M (m : Int) (by omega) (by omega), wr64M ((n : Int) + (m : Int)) (by omega) (by omega)]
        rfl
      · rw [if_neg h4] at hm
        have b4 : ¬ (k : Int) < 4 := by omega
        have HM : Hid (mkV k (bt s k) = s[k].toNat - 48) := Lib.hid (by rw [HB.out]; unfold mkV; rw [if_neg h4])
        go_wp2_with fail
        have m1 : (s[k].toNat - 48) * (k + 1) ≤ 9 * 10 := Nat.mul_le_mul (by omega) (by omega)
        have e1 : ((s[k].toNat : Int) - 48) * ((k : Int) + 1) = (((s[k].toNat - 48) * (k + 1) : Nat) : Int) := by
          rw [Int.natCast_mul]
          congr 1
          omega
        refine ⟨⟨k + 1, n + (s[k].toNat - 48) * (k + 1), by omega, Lib.hid (by rw [HS.out, ← HK.out, HM.out]), by simp, ?_⟩, by simp [RowKit.intOf]; omega⟩
        generalize (s[k].toNat - 48) * (k + 1) = m at *
        rw [e1, wr64M (m : Int) (by omega) (by omega), wr64M ((n : Int) + (m : Int)) (by omega) (by omega)]
        rfl
    · have b1 : ¬ (k : Int) < 10 := by omega
      obtain rfl : k = 10 := by omega
      have HX := HY.out
      rw [← HK.out] at HX
      go_wp2_with fail
      first
        | exact ⟨HX, rfl⟩
        | (go_ret; exact ⟨HX, rfl⟩)
set_option maxHeartbeats 4000000 in
theorem digit3_m (c : UInt8) (w : World) : Calls Tryz.prog 125 #[.int .u8 (c.toNat : Int)] w fun e w' => e = .returned (.bool (decide (48 ≤ c.toNat ∧ c.toNat ≤ 57))) ∧ w' = w := by
  by_cases h1 : 48 ≤ c.toNat <;> by_cases h2 : c.toNat ≤ 57
  all_goals
    have D : Hid (∀ b : Bool, (b = true ↔ 48 ≤ c.toNat ∧ c.toNat ≤ 57) → (.returned (.bool b) : Ending) = .returned (.bool (decide (48 ≤ c.toNat ∧ c.toNat ≤ 57)))) := Lib.hid fun b hb => by congr 2; rw [Bool.eq_iff_iff, hb, decide_eq_true_eq]
    have HB := Lib.hid (And.intro h1 h2)
    clear h2
    try (have l1 : (48 : Int) ≤ (c.toNat : Int) := by omega)
    go_enter Tryz.func125, Tryz.ntmps125
    go_wp2_with fail
    go_ret
    first
      | exact ⟨rfl, rfl⟩
      | (refine ⟨D.out _ ?_, rfl⟩
         have := HB.out
         simp only [decide_eq_true_eq]
         omega)
end Go.Proofs.YtchkdidpnjakeaaGreatDoor
namespace Go.Proofs.YtchkdidpnjakeaaGreatDoor
open Go.RowKit Go.Lib
set_option linter.unusedVariables false
set_option maxRecDepth 100000

set_option maxHeartbeats 4000000 in
theorem refRight_m (s : ByteArray) (w : World) (hs : s.size ≤ maxLen) : Calls Tryz.prog 86 #[.string s] w fun e w' => BoolQ (MkOk s) w e w' := by
  unfold maxLen at hs
  have HN : Hid (¬ MkOk s → ∀ W, Below w.heap.size w W → BoolQ (MkOk s) w (.returned (.bool false)) W) := Lib.hid (fun h W hb => BoolQ.no h hb)
  have HY : Hid (∀ (r : Bool) W, (r = true ↔ MkOk s) → Below w.heap.size w W → BoolQ (MkOk s) w (.returned (.bool r)) W) := Lib.hid (fun r W h hb => ⟨r, rfl, h, hb⟩)
  generalize BoolQ (MkOk s) w = CP at *
  by_cases h12 : s.size = 12
  · have b1 : ((s.size : Int) == 12) = true := by simp; omega
    by_cases hh : headOk s 10
    · have HHd : Hid (∀ X, Calls Tryz.prog 124 #[.string s] X fun e w' => e = .returned (.bool true) ∧ w' = X) := Lib.hid fun X => (head_m s X h12).mono fun _ _ ⟨h1, h2⟩ => ⟨h2.elim (·.2) (fun h => absurd hh h.1), h1⟩
      have HD0 : Hid (∀ X, Calls Tryz.prog 125 #[.int .u8 (s[10].toNat : Int)] X fun e w' => e = .returned (.bool (decide (48 ≤ s[10].toNat ∧ s[10].toNat ≤ 57))) ∧ w' = X) := Lib.hid fun X => digit3_m _ X
      have HD1 : Hid (∀ X, Calls Tryz.prog 125 #[.int .u8 (s[11].toNat : Int)] X fun e w' => e = .returned (.bool (decide (48 ≤ s[11].toNat ∧ s[11].toNat ≤ 57))) ∧ w' = X) := Lib.hid fun X => digit3_m _ X
      have HSm := Lib.hid (fun X => refSum_m s X h12 hh)
      have c0 : s[10].toNat < 256 := s[10].toNat_lt
      have c1 : s[11].toNat < 256 := s[11].toNat_lt
      have i0 : (10 : Int) < (s.size : Int) := by omega
      have i1 : (11 : Int) < (s.size : Int) := by omega
      have E0 := Lib.hid (bt_eq (s := s) (k := 10) (by omega))
      have E1 := Lib.hid (bt_eq (s := s) (k := 11) (by omega))
      by_cases d0 : 48 ≤ s[10].toNat ∧ s[10].toNat ≤ 57
      · rw [decide_eq_true d0] at HD0
        by_cases d1 : 48 ≤ s[11].toNat ∧ s[11].toNat ≤ 57
        · rw [decide_eq_true d1] at HD1
          have HH := Lib.hid hh
          clear HN hh
          go_enter Tryz.func86, Tryz.ntmps86
          go_wp2_with fail
          go_quiet ((first
            | (go_at_call 124; exact quiet_sameM (HHd.out _))
            | (go_at_call 125; exact quiet_sameM (HD0.out _))
            | (go_at_call 125; exact quiet_sameM (HD1.out _))
            | (go_at_call 126; exact quiet_sameM (HSm.out _))))
          go_wp2_with fail
          have HX := Lib.hid (HY.out (((sumTo s 10 : Nat) : Int) % 97 == 10 * ((s[10].toNat : Int) - 48) + (s[11].toNat : Int) - 48) (w.drewN nq) (by
            rw [beq_iff_eq]
            constructor
            · intro e
              exact ⟨h12, HH.out, by unfold digB; rw [E0.out]; exact d0, by unfold digB; rw [E1.out]; exact d1, by rw [E0.out, E1.out]; omega⟩
            · intro h
              have := h.sum
              rw [E0.out, E1.out] at this
              omega) (below_drewM (Below.refl _ _) nq))
          first
            | exact HX.out
            | (go_ret; exact HX.out)
        · rw [decide_eq_false d1] at HD1
          have HX := Lib.hid (HN.out (fun h => d1 (by have := h.d11; rw [E1.out] at this; exact this)))
          clear HN HY hh
          go_enter Tryz.func86, Tryz.ntmps86
          go_wp2_with fail
          go_quiet ((first
            | (go_at_call 124; exact quiet_sameM (HHd.out _))
            | (go_at_call 125; exact quiet_sameM (HD0.out _))
            | (go_at_call 125; exact quiet_sameM (HD1.out _))
            | (go_at_call 126; exact quiet_sameM (HSm.out _))))
          go_wp2_with fail
          first
            | exact HX.out _ (below_drewM (Below.refl _ _) nq)
            | (go_ret; exact HX.out _ (below_drewM (Below.refl _ _) nq))
      · rw [decide_eq_false d0] at HD0
        have HX := Lib.hid (HN.out (fun h => d0 (by have := h.d10; rw [E0.out] at this; exact this)))
        clear HN HY hh
        go_enter Tryz.func86, Tryz.ntmps86
        go_wp2_with fail
        go_quiet ((first
          | (go_at_call 124; exact quiet_sameM (HHd.out _))
          | (go_at_call 125; exact quiet_sameM (HD0.out _))
          | (go_at_call 125; exact quiet_sameM (HD1.out _))
          | (go_at_call 126; exact quiet_sameM (HSm.out _))))
        go_wp2_with fail
        first
          | exact HX.out _ (below_drewM (Below.refl _ _) nq)
          | (go_ret; exact HX.out _ (below_drewM (Below.refl _ _) nq))
    · have HHd : Hid (∀ X, Calls Tryz.prog 124 #[.string s] X fun e w' => e = .returned (.bool false) ∧ w' = X) := Lib.hid fun X => (head_m s X h12).mono fun _ _ ⟨h1, h2⟩ => ⟨h2.elim (fun h => absurd h.1 hh) (·.2), h1⟩
      have HX := Lib.hid (HN.out (fun h => hh h.head))
      clear HN HY hh
      go_enter Tryz.func86, Tryz.ntmps86
      go_wp2_with fail
      go_quiet ((go_at_call 124; exact quiet_sameM (HHd.out _)))
      go_wp2_with fail
      first
        | exact HX.out _ (below_drewM (Below.refl _ _) nq)
        | (go_ret; exact HX.out _ (below_drewM (Below.refl _ _) nq))
  · have b1 : ((s.size : Int) == 12) = false := by simp; omega
    have HX := Lib.hid (HN.out (fun h => h12 h.size))
    clear HN HY
    go_enter Tryz.func86, Tryz.ntmps86
    go_wp2_with fail
    go_quiet (fail)
    go_wp2_with fail
    first
      | exact HX.out _ (below_drewM (Below.refl _ _) nq)
      | (go_ret; exact HX.out _ (below_drewM (Below.refl _ _) nq))
end Go.Proofs.YtchkdidpnjakeaaGreatDoor
namespace Go.Proofs.YtchkdidpnjakeaaGreatDoor
open Go.RowKit Go.Maps Go.Lib
set_option linter.unusedVariables false
set_option maxRecDepth 100000

structure BxSz (b : Bx) : Prop where
  m : b.m.size ≤ maxLen
  few : b.l.length ≤ 100000000
  g : ∀ x ∈ b.l, x.g.size ≤ maxLen
def LotOk (x : Lt) : Prop := nmOk x.g ∧ 1 ≤ x.c ∧ x.c ≤ 1048576
def LtTo (l : List Lt) (k : Nat) : Prop := ∀ i x, i < k → l[i]? = some x → LotOk x
theorem LtTo.step {l : List Lt} {k : Nat} {x : Lt} (h : LtTo l k) (hx : l[k]? = some x) (h1 : LotOk x) : LtTo l (k + 1) := fun i y hi hy => by
  by_cases e : i = k
  · subst e
    rw [hx] at hy
    cases hy
    exact h1
  · exact h i y (by omega) hy
theorem BoxOk.of {b : Bx} (h1 : MkOk b.m) (h2 : 0 ≤ b.k ∧ b.k ≤ 1) (h3 : (1 : Int) ≤ (b.l.length : Int) ∧ (b.l.length : Int) ≤ 2) (h4 : LtTo b.l b.l.length) : BoxOk b :=
  ⟨h1, h2, by omega, fun x hx => by
    obtain ⟨i, hi⟩ := List.mem_iff_getElem?.1 hx
    exact h4 i x (List.getElem?_eq_some_iff.1 hi).1 hi⟩
theorem Lts.at_ {w : World} {B : Nat} {A : Option Addr} {l : List Lt} (h : Lts w B A l) {k : Nat} {x : Lt} (hx : l[k]? = some x) : ∃ g off, A = some ⟨g, off, none⟩ ∧ g < B ∧ w.cell? ⟨g, off + k * 2, none⟩ = some (.string x.g) ∧ w.cell? ⟨g, off + k * 2 + 1, none⟩ = some (.int .i64 x.c) := by
  obtain ⟨g, off, e, hg, hc⟩ := h (by have := (List.getElem?_eq_some_iff.1 hx).1; omega)
  exact ⟨g, off, e, hg, hc k x hx⟩
set_option maxHeartbeats 8000000 in
theorem box_d {w : World} {b : Bx} {A : Option Addr} {c B : Nat} (hL : Lts w B A b.l) (hB : B ≤ w.heap.size) (hz : BxSz b) :
    Calls Tryz.prog 37 #[.agg #[.string b.m, .int .i64 b.k, .slice A b.l.length c]] w fun e w' => BoolQ (BoxOk b) w e w' := by
  obtain ⟨W1, hW1⟩ : ∃ W1, W1 = w.alloc (.cells #[.string b.m, .int .i64 b.k, .slice A b.l.length c] 89) := ⟨_, rfl⟩
  have hb1 : Below w.heap.size w W1 := by rw [hW1]; exact (Below.refl _ _).alloc (Nat.le_refl _) _
  have hst : W1.heap[w.heap.size]? = some (.cells #[.string b.m, .int .i64 b.k, .slice A b.l.length c] 89 (0, 0)) := by rw [hW1]; exact heap_alloc_new _ _
  have hsl : w.heap.size < W1.heap.size := (Array.getElem?_eq_some_iff.1 hst).1
  have HBc : Hid (∀ X, Below W1.heap.size W1 X → X.cell? ⟨w.heap.size, 0, none⟩ = some (.string b.m) ∧ X.cell? ⟨w.heap.size, 1, none⟩ = some (.int .i64 b.k) ∧ X.cell? ⟨w.heap.size, 2, none⟩ = some (.slice A b.l.length c) ∧ w.heap.size < X.heap.size ∧ Lts X B A b.l) := Lib.hid fun X hX => by
    have h := (hX.block _ hsl).trans hst
    exact ⟨by simp [World.cell?, h], by simp [World.cell?, h], by simp [World.cell?, h], Nat.lt_of_lt_of_le hsl hX.size, hL.kept ((hb1.trans (hX.mono hb1.size)).mono hB)⟩
  have HBw : Hid (∀ X, Below W1.heap.size W1 X → Below w.heap.size w X) := Lib.hid fun X hX => hb1.trans (hX.mono hb1.size)
  have HN : Hid (¬ BoxOk b → ∀ X, Below W1.heap.size W1 X → BoolQ (BoxOk b) w (.returned (.bool false)) X) := Lib.hid fun h X hX => BoolQ.no h (HBw.out X hX)
  have HY : Hid (BoxOk b → ∀ X, Below W1.heap.size W1 X → BoolQ (BoxOk b) w (.returned (.bool true)) X) := Lib.hid fun h X hX => BoolQ.yes h (HBw.out X hX)
  generalize BoolQ (BoxOk b) w = CP at *
  have HZ := Lib.hid hz
  have hfew := hz.few
  have HMk := Lib.hid (refRight_m b.m W1 hz.m)
  have HI1 := Lib.hid (in_m b.k 0 1)
  have HI2 := Lib.hid (in_m (b.l.length : Int) 1 2)
  have HW := Lib.hid hW1
  obtain ⟨c0, c1, c2, hl, _⟩ := HBc.out W1 (Below.refl _ _)
  clear hW1 hb1 hst hsl hL hz
  go_enter Tryz.func37, Tryz.ntmps37
  go_upto_region 1 with fail
  rw [← HW.out]
  clear HW
  go_wp2_with fail
  refine HMk.out.mono ?_
  rintro e w2 ⟨r, rfl, hr, hb⟩
  have HB2 := Lib.hid hb
  have HR := Lib.hid hr
  clear hr hb HMk c0 c1 c2 hl
  obtain ⟨c0, c1, c2, hl, _⟩ := HBc.out w2 HB2.out
  cases r with
  | false =>
    have HX := Lib.hid (HN.out (fun h => by have := HR.out.2 h.mark; cases this) w2 HB2.out)
    clear HN HY
    go_wp2_with fail
    first
      | exact HX.out
      | (go_ret; exact HX.out)
  | true =>
    by_cases h1 : 0 ≤ b.k ∧ b.k ≤ 1
    · rw [decide_eq_true h1] at HI1
      by_cases h2 : (1 : Int) ≤ (b.l.length : Int) ∧ (b.l.length : Int) ≤ 2
      · rw [decide_eq_true h2] at HI2
        have HOk : Hid (LtTo b.l b.l.length → BoxOk b) := Lib.hid fun h => BoxOk.of (HR.out.1 rfl) h1 h2 h
        clear h1 h2 HR
        go_wp2_with (first
          | (go_at_call 34; (with_reducible refine (HI1.out _).mono ?_); rintro e w' ⟨rfl, h⟩; subst h)
          | (go_at_call 34; (with_reducible refine (HI2.out _).mono ?_); rintro e w' ⟨rfl, h⟩; subst h)
          | fail)
        clear c0 c1 c2 HI1 HI2
        rename World => w3
        go_loopw [3] (fun i wr => ∃ k : Nat, k ≤ b.l.length ∧ i = .int .i64 (k : Int) ∧ Hid (LtTo b.l k) ∧ w3 = wr) (fun i _ => b.l.length - (RowKit.intOf i).toNat)
        case atStart => exact ⟨0, Nat.zero_le _, rfl, Lib.hid (fun i x hi => by omega), rfl⟩
        case round =>
          obtain ⟨k, hk, rfl, HL, rfl⟩ := hrel
          obtain ⟨c0, c1, c2, hl, hlt⟩ := HBc.out w3 HB2.out
          by_cases hlk : k < b.l.length
          · have b1 : (k : Int) < (b.l.length : Int) := by omega
            obtain ⟨x, hx⟩ : ∃ x, b.l[k]? = some x := ⟨b.l[k], List.getElem?_eq_getElem hlk⟩
            obtain ⟨g, off, hA, hg, n0, n1⟩ := hlt.at_ hx
            have hgw : g < w3.heap.size := by omega
            rw [hA] at c2
            have HNm := Lib.hid (fun X => ref6Name_any x.g X (HZ.out.g x (List.mem_of_getElem? hx)))
            have HIn := Lib.hid (in_m x.c 1 1048576)
            have HNo : Hid (¬ LotOk x → CP (.returned (.bool false)) w3) := Lib.hid fun h => HN.out (fun h2 => h (h2.lots x (List.mem_of_getElem? hx))) w3 HB2.out
            have HSt : Hid (LotOk x → LtTo b.l (k + 1)) := Lib.hid fun h => HL.out.step hx h
            clear hA hlt hx HL HN HY HOk
            by_cases h1 : nameB x.g.data.toList = true
            · rw [h1] at HNm
              by_cases h2 : 1 ≤ x.c ∧ x.c ≤ 1048576
              · rw [decide_eq_true h2] at HIn
                have HX := Lib.hid (HSt.out ⟨h1, h2⟩)
                clear HNo HSt h1 h2
                go_wp2_with (first
                  | (go_at_call 33; (with_reducible refine (HNm.out _).mono ?_); rintro e w' ⟨rfl, h⟩; subst h)
                  | (go_at_call 34; (with_reducible refine (HIn.out _).mono ?_); rintro e w' ⟨rfl, h⟩; subst h)
                  | fail)
                go_roundw
                case rel => exact ⟨k + 1, by omega, by go_num, HX, by first | rfl | trivial⟩
                case measure => simp [RowKit.intOf] <;> omega
              · rw [decide_eq_false h2] at HIn
                have HX := Lib.hid (HNo.out (fun h => h2 h.2))
                clear HNo HSt h1 h2
                go_wp2_with (first
                  | (go_at_call 33; (with_reducible refine (HNm.out _).mono ?_); rintro e w' ⟨rfl, h⟩; subst h)
                  | (go_at_call 34; (with_reducible refine (HIn.out _).mono ?_); rintro e w' ⟨rfl, h⟩; subst h)
                  | fail)
                first
                  | exact HX.out
                  | (go_ret; exact HX.out)
            · have HX := Lib.hid (HNo.out (fun h => h1 h.1))
              rw [Bool.not_eq_true] at h1
              rw [h1] at HNm
              clear HNo HSt h1
              go_wp2_with (first
                | (go_at_call 33; (with_reducible refine (HNm.out _).mono ?_); rintro e w' ⟨rfl, h⟩; subst h)
                | fail)
              first
                | exact HX.out
                | (go_ret; exact HX.out)
          · have b1 : ¬ (k : Int) < (b.l.length : Int) := by omega
            obtain rfl : k = b.l.length := by omega
            have HX := Lib.hid (HY.out (HOk.out HL.out) w3 HB2.out)
            clear HN HY HOk hlt HL
            go_wp2_with fail
            first
              | exact HX.out
              | (go_ret; exact HX.out)
      · rw [decide_eq_false h2] at HI2
        have HX := Lib.hid (HN.out (fun h => h2 (by have := h.few; omega)) w2 HB2.out)
        clear HN HY h1 h2
        go_wp2_with (first
          | (go_at_call 34; (with_reducible refine (HI1.out _).mono ?_); rintro e w' ⟨rfl, h⟩; subst h)
          | (go_at_call 34; (with_reducible refine (HI2.out _).mono ?_); rintro e w' ⟨rfl, h⟩; subst h)
          | fail)
        first
          | exact HX.out
          | (go_ret; exact HX.out)
    · rw [decide_eq_false h1] at HI1
      have HX := Lib.hid (HN.out (fun h => h1 h.kind) w2 HB2.out)
      clear HN HY h1
      go_wp2_with (first
        | (go_at_call 34; (with_reducible refine (HI1.out _).mono ?_); rintro e w' ⟨rfl, h⟩; subst h)
        | fail)
      first
        | exact HX.out
        | (go_ret; exact HX.out)
end Go.Proofs.YtchkdidpnjakeaaGreatDoor
namespace Go.Proofs.YtchkdidpnjakeaaGreatDoor
set_option linter.unusedVariables false

theorem marksOf_app (a b : List Dl) : marksOf (a ++ b) = marksOf a ++ marksOf b := List.flatMap_append
theorem marksOf_one (d : Dl) : marksOf [d] = d.box.map (·.m) := by simp [marksOf]
theorem dl_split {ds : List Dl} {k : Nat} {d : Dl} (h : ds[k]? = some d) : ds = ds.take k ++ d :: ds.drop (k + 1) := by
  obtain ⟨hlt, he⟩ := List.getElem?_eq_some_iff.1 h
  rw [← he, ← List.drop_eq_getElem_cons hlt, List.take_append_drop]
theorem bx_split {ds : List Bx} {k : Nat} {d : Bx} (h : ds[k]? = some d) : ds = ds.take k ++ d :: ds.drop (k + 1) := by
  obtain ⟨hlt, he⟩ := List.getElem?_eq_some_iff.1 h
  rw [← he, ← List.drop_eq_getElem_cons hlt, List.take_append_drop]
/-- the deals ahead of k are right -/
structure DsTo (l : List Py) (ds : List Dl) (k : Nat) : Prop where
  one : ∀ d ∈ ds.take k, Deal8 l d ∧ ∀ b ∈ d.box, BoxOk b
  nums : ((ds.take k).map (·.num)).Nodup
  marks : (marksOf (ds.take k)).Nodup
/-- the boxes ahead of j of the deal d, which is the one behind k others -/
structure BsTo (ds : List Dl) (k : Nat) (d : Dl) (j : Nat) : Prop where
  one : ∀ b ∈ d.box.take j, BoxOk b
  marks : (marksOf (ds.take k) ++ (d.box.take j).map (·.m)).Nodup
section
variable {l : List Py} {ds : List Dl} {k j : Nat} {d : Dl} {b : Bx}
theorem DsTo.zero : DsTo l ds 0 := ⟨fun d h => by simp at h, by simp, by simp [marksOf]⟩
theorem DsTo.bs (h : DsTo l ds k) : BsTo ds k d 0 := ⟨fun b h => by simp at h, by simpa using h.marks⟩
theorem BsTo.step (h : BsTo ds k d j) (hb : d.box[j]? = some b) (h1 : BoxOk b) (h2 : b.m ∉ marksOf (ds.take k) ++ (d.box.take j).map (·.m)) : BsTo ds k d (j + 1) := by
  have e := take_snoc' hb
  refine ⟨fun x hx => ?_, ?_⟩
  · rw [e] at hx
    rcases List.mem_append.1 hx with hx | hx
    · exact h.one x hx
    · rw [List.mem_singleton] at hx; rw [hx]; exact h1
  · rw [e, List.map_append, ← List.append_assoc]
    refine List.nodup_append.2 ⟨h.marks, by simp, fun x hx y hy => ?_⟩
    simp only [List.map_cons, List.map_nil, List.mem_singleton] at hy
    rw [hy]
    rintro rfl
    exact h2 hx
theorem DsTo.step (h : DsTo l ds k) (hd : ds[k]? = some d) (h1 : Deal8 l d) (h2 : ∀ q x, q < k → ds[q]? = some x → x.num ≠ d.num) (h3 : BsTo ds k d d.box.length) : DsTo l ds (k + 1) := by
  have e := take_snoc' hd
  refine ⟨fun x hx => ?_, ?_, ?_⟩
  · rw [e] at hx
    rcases List.mem_append.1 hx with hx | hx
    · exact h.one x hx
    · rw [List.mem_singleton] at hx
      rw [hx]
      refine ⟨h1, fun b hb => h3.one b ?_⟩
      rw [List.take_length]
      exact hb
  · rw [e, List.map_append]
    refine List.nodup_append.2 ⟨h.nums, by simp, fun x hx y hy => ?_⟩
    simp only [List.map_cons, List.map_nil, List.mem_singleton] at hy
    rw [hy]
    rintro rfl
    obtain ⟨z, hz, hn⟩ := List.mem_map.1 hx
    obtain ⟨q, hq⟩ := List.mem_iff_getElem?.1 hz
    rw [List.getElem?_take] at hq
    split at hq
    · exact h2 q z (by assumption) hq hn
    · cases hq
  · rw [e, marksOf_app, marksOf_one]
    have := h3.marks
    rw [List.take_length] at this
    exact this
theorem DsTo.len (h : DsTo l ds k) : (marksOf (ds.take k)).length ≤ 8 * k := by
  have : ∀ (t : List Dl), (∀ d ∈ t, d.box.length ≤ 8) → (marksOf t).length ≤ 8 * t.length := fun t => by
    induction t with
    | nil => intro _; simp [marksOf]
    | cons x t ih =>
      intro h2
      have h3 := ih fun d hd => h2 d (List.mem_cons_of_mem _ hd)
      have h4 := h2 x List.mem_cons_self
      have e : marksOf (x :: t) = x.box.map (·.m) ++ marksOf t := by simp [marksOf]
      rw [e, List.length_append, List.length_map, List.length_cons]
      omega
  have h1 := this (ds.take k) fun d hd => (h.one d hd).1.2.2
  have h2 : (ds.take k).length ≤ k := by rw [List.length_take]; omega
  omega
theorem DsTo.all (h : DsTo l ds ds.length) : DealsOk l ds ↔ ds.length ≤ 16 := by
  constructor
  · exact fun h => h.few
  · intro h2
    have h1 := h.one
    have h3 := h.nums
    have h4 := h.marks
    rw [List.take_length] at h1 h3 h4
    exact ⟨h2, fun d hd => (h1 d hd).1.1, fun d hd => (h1 d hd).1.2, h3, fun d hd => (h1 d hd).2, h4⟩
theorem DealsOk.deal8 (h : DealsOk l ds) (hd : ds[k]? = some d) : Deal8 l d := ⟨h.one d (List.mem_of_getElem? hd), h.size d (List.mem_of_getElem? hd)⟩
theorem DealsOk.num_ne (h : DealsOk l ds) (hd : ds[k]? = some d) {q : Nat} {x : Dl} (hq : q < k) (hx : ds[q]? = some x) : x.num ≠ d.num := by
  have h1 := h.nums
  rw [dl_split hd, List.map_append, List.nodup_append] at h1
  refine h1.2.2 x.num ?_ d.num (by simp)
  refine List.mem_map.2 ⟨x, List.mem_iff_getElem?.2 ⟨q, ?_⟩, rfl⟩
  rw [List.getElem?_take, if_pos hq]
  exact hx
theorem DealsOk.bxOk (h : DealsOk l ds) (hd : ds[k]? = some d) (hb : d.box[j]? = some b) : BoxOk b := h.box d (List.mem_of_getElem? hd) b (List.mem_of_getElem? hb)
theorem DealsOk.mark_ne (h : DealsOk l ds) (hd : ds[k]? = some d) (hb : d.box[j]? = some b) : b.m ∉ marksOf (ds.take k) ++ (d.box.take j).map (·.m) := by
  have h1 := h.marks
  have e1 : marksOf ds = marksOf (ds.take k) ++ (marksOf [d] ++ marksOf (ds.drop (k + 1))) := by
    rw [← marksOf_app, ← marksOf_app]
    conv => lhs; rw [dl_split hd]
    rfl
  have e2 : marksOf [d] = (d.box.take j).map (·.m) ++ (b.m :: (d.box.drop (j + 1)).map (·.m)) := by
    rw [marksOf_one]
    conv => lhs; rw [bx_split hb]
    rw [List.map_append, List.map_cons]
  rw [e1, e2, ← List.append_assoc, ← List.append_assoc, List.append_assoc (marksOf (ds.take k) ++ (d.box.take j).map (·.m)), List.nodup_append] at h1
  intro hm
  exact h1.2.2 b.m hm b.m (by simp) rfl
end
end Go.Proofs.YtchkdidpnjakeaaGreatDoor
