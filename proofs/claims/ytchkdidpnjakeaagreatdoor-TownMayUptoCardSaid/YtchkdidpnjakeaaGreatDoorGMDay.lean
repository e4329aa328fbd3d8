/- day.May and ref02.May: numbers that rise. town.May: which setups may be. -/
import Derived.Test.YtchkdidpnjakeaaGreatDoorGBNew3
import Derived.BigQuiet
import Derived.Test.YtchkdidpnjakeaaGreatDoorMBoxT
import Derived.Test.YtchkdidpnjakeaaGreatDoorGMFundsD
import Derived.Test.YtchkdidpnjakeaaGreatDoorGMDealT
import Derived.Test.YtchkdidpnjakeaaGreatDoorGMClone
namespace Go.Proofs.YtchkdidpnjakeaaGreatDoor
open Go.RowKit Go.Lib
set_option linter.unusedVariables false
set_option maxRecDepth 100000

theorem It.at_ {w : World} {B : Nat} {A : Option Addr} {l : List Int} (h : It w B A l) {k : Nat} (hk : k < l.length) : ∃ g off, A = some ⟨g, off, none⟩ ∧ g < B ∧ w.cell? ⟨g, off + k, none⟩ = some (.int .i64 l[k]) ∧ ∀ j, (hj : j < l.length) → w.cell? ⟨g, off + j, none⟩ = some (.int .i64 l[j]) := by
  obtain ⟨g, off, e, hg, hc⟩ := h (by omega)
  exact ⟨g, off, e, hg, hc k _ (List.getElem?_eq_getElem hk), fun j hj => hc j _ (List.getElem?_eq_getElem hj)⟩
def RzTo (l : List Int) (top : Int) (k : Nat) : Prop := ∀ i x, i < k → l[i]? = some x → 0 ≤ x ∧ x ≤ top ∧ (0 < i → ∀ y, l[i - 1]? = some y → y < x)
theorem RzTo.step {l : List Int} {m : Int} {k : Nat} (h : RzTo l m k) {x : Int} (hx : l[k]? = some x) (h0 : 0 ≤ x) (h1 : x ≤ m) (h2 : 0 < k → ∀ y, l[k - 1]? = some y → y < x) : RzTo l m (k + 1) := fun i z hi hz => by
  by_cases e : i = k
  · subst e
    rw [hx] at hz
    cases hz
    exact ⟨h0, h1, h2⟩
  · exact h i z (by omega) hz
theorem RzTo.all {l : List Int} {m : Int} (h : RzTo l m l.length) : Rz l m := fun i x hx => h i x (List.getElem?_eq_some_iff.1 hx).1 hx
set_option maxHeartbeats 4000000 in
theorem rises_m (l : List Int) (A : Option Addr) (c B : Nat) (m : Int) (w : World) (hI : It w B A l) (hl : l.length ≤ 1000000) :
    Calls Tryz.prog 67 #[.slice A l.length c, .int .i64 m] w fun e w' => BoolQ (Rz l m) w e w' := by
  have HI := Lib.hid hI
  have HF : Hid (¬ Rz l m → BoolQ (Rz l m) w (.returned (.bool false)) w) := Lib.hid fun h => BoolQ.no h (Below.refl _ _)
  have HT : Hid (Rz l m → BoolQ (Rz l m) w (.returned (.bool true)) w) := Lib.hid fun h => BoolQ.yes h (Below.refl _ _)
  generalize BoolQ (Rz l m) w = CP at *
  clear hI
  go_enter Tryz.func67, Tryz.ntmps67
  go_wp2_with fail
  go_loopw [9] (fun i wr => ∃ k : Nat, k ≤ l.length ∧ i = .int .i64 (k : Int) ∧ Hid (RzTo l m k) ∧ wr = w) (fun i _ => l.length - (RowKit.intOf i).toNat)
  case atStart => exact ⟨0, Nat.zero_le _, rfl, Lib.hid (fun i x hi => by omega), rfl⟩
  case round =>
    obtain ⟨k, hk, rfl, HR, hw⟩ := hrel
    obtain rfl : w = wr := hw.symm
    clear hw
    by_cases hlt : k < l.length
    · obtain ⟨g, off, rfl, hg, hc, hcj⟩ := HI.out.at_ hlt
      have hk1 : (k : Int) < (l.length : Int) := by omega
      have HK : Hid (l[k]? = some l[k]) := Lib.hid (List.getElem?_eq_getElem hlt)
      generalize l[k] = x at *
      have HNo : Hid (¬ (0 ≤ x ∧ x ≤ m ∧ (0 < k → ∀ y, l[k - 1]? = some y → y < x)) → ¬ Rz l m) := Lib.hid fun h h2 => h (h2 k x HK.out)
      have HS : Hid (0 ≤ x ∧ x ≤ m ∧ (0 < k → ∀ y, l[k - 1]? = some y → y < x) → RzTo l m (k + 1)) := Lib.hid fun h => HR.out.step HK.out h.1 h.2.1 h.2.2
      clear HR HK
      by_cases h0 : x < 0
      · have HF2 := Lib.hid (HF.out (HNo.out fun h => by omega))
        clear HF HT HS HI HNo hcj
        go_wp2_with fail
        first
          | exact HF2.out
          | (go_ret; exact HF2.out)
      · by_cases h1 : m < x
        · have HF2 := Lib.hid (HF.out (HNo.out fun h => by omega))
          clear HF HT HS HI HNo hcj
          go_wp2_with fail
          first
            | exact HF2.out
            | (go_ret; exact HF2.out)
        · by_cases hk0 : 0 < k
          · have hk0' : (0 : Int) < (k : Int) := by omega
            have hwr : IntKind.i64.wrap ((k : Int) - 1) = ((k - 1 : Nat) : Int) := by rw [IntWalk.i64_in _ (by omega)]; omega
            have hc1 := hcj (k - 1) (by omega)
            have HY := Lib.hid (show l[k - 1]? = some l[k - 1] from List.getElem?_eq_getElem (by omega))
            generalize l[k - 1] = y at *
            have hb1 : ((k - 1 : Nat) : Int) < (l.length : Int) := by omega
            by_cases h2 : x ≤ y
            · have HF2 := Lib.hid (HF.out (HNo.out fun h => by have := h.2.2 hk0 y HY.out; omega))
              clear HF HT HS HI HNo hcj HY
              go_wp2_with fail
              first
                | exact HF2.out
                | (go_ret; exact HF2.out)
            · have HS2 := Lib.hid (HS.out ⟨by omega, by omega, fun _ z hz => by rw [HY.out] at hz; cases hz; omega⟩)
              clear HF HT HS HI HNo hcj HY
              go_wp2_with fail
              go_roundw
              case rel => exact ⟨k + 1, by omega, by go_num, HS2, by first | rfl | trivial⟩
              case measure => simp [RowKit.intOf]; omega
          · have hk0' : ¬ (0 : Int) < (k : Int) := by omega
            have HS2 := Lib.hid (HS.out ⟨by omega, by omega, fun h => absurd h hk0⟩)
            clear HF HT HS HI HNo hcj
            go_wp2_with fail
            go_roundw
            case rel => exact ⟨k + 1, by omega, by go_num, HS2, by first | rfl | trivial⟩
            case measure => simp [RowKit.intOf]; omega
    · have b1 : ¬ (k : Int) < (l.length : Int) := by omega
      obtain rfl : k = l.length := by omega
      have HT2 := Lib.hid (HT.out HR.out.all)
      clear HT HF HR
      go_wp2_with fail
      first
        | exact HT2.out
        | (go_ret; exact HT2.out)
set_option maxHeartbeats 4000000 in
theorem refRises_m (l : List Int) (A : Option Addr) (c B : Nat) (m : Int) (w : World) (hI : It w B A l) (hl : l.length ≤ 4096) :
    Calls Tryz.prog 40 #[.slice A l.length c, .int .i64 m] w fun e w' => BoolQ (Rz l m) w e w' := by
  have HI := Lib.hid hI
  have HF : Hid (¬ Rz l m → ∀ X, Below w.heap.size w X → BoolQ (Rz l m) w (.returned (.bool false)) X) := Lib.hid fun h X hb => BoolQ.no h hb
  have HT : Hid (Rz l m → ∀ X, Below w.heap.size w X → BoolQ (Rz l m) w (.returned (.bool true)) X) := Lib.hid fun h X hb => BoolQ.yes h hb
  generalize BoolQ (Rz l m) w = CP at *
  clear hI
  go_enter Tryz.func40, Tryz.ntmps40
  go_wp2_with fail
  go_loopw [5] (fun i wr => ∃ k : Nat, k ≤ l.length ∧ i = .int .i64 (k : Int) ∧ Hid (RzTo l m k) ∧ Hid (Below w.heap.size w wr) ∧ Hid (It wr B A l)) (fun i _ => l.length - (RowKit.intOf i).toNat)
  case atStart => exact ⟨0, Nat.zero_le _, rfl, Lib.hid (fun i x hi => by omega), Lib.hid (Below.refl _ _), HI⟩
  case round =>
    obtain ⟨k, hk, rfl, HR, HB, HI⟩ := hrel
    by_cases hlt : k < l.length
    · obtain ⟨g, off, rfl, hg, hc, hcj⟩ := HI.out.at_ hlt
      have hk1 : (k : Int) < (l.length : Int) := by omega
      have HK : Hid (l[k]? = some l[k]) := Lib.hid (List.getElem?_eq_getElem hlt)
      generalize l[k] = x at *
      have HNo : Hid (¬ (0 ≤ x ∧ x ≤ m ∧ (0 < k → ∀ y, l[k - 1]? = some y → y < x)) → ¬ Rz l m) := Lib.hid fun h h2 => h (h2 k x HK.out)
      have HS : Hid (0 ≤ x ∧ x ≤ m ∧ (0 < k → ∀ y, l[k - 1]? = some y → y < x) → RzTo l m (k + 1)) := Lib.hid fun h => HR.out.step HK.out h.1 h.2.1 h.2.2
      have HD : Hid (∀ n, Below w.heap.size w (wr.drewN n) ∧ It (wr.drewN n) B (some ⟨g, off, none⟩) l) := Lib.hid fun n => ⟨below_drewM HB.out n, HI.out⟩
      clear HR HK
      by_cases h0 : x < 0
      · have d0 : decide (x < 0) = true := decide_eq_true h0
        have HF2 := Lib.hid (HF.out (HNo.out fun h => by omega))
        clear HF HT HS HNo hcj
        go_wp2_with fail
        go_quiet (fail)
        go_wp2_with fail
        first
          | exact HF2.out _ (HD.out _).1
          | (go_ret; exact HF2.out _ (HD.out _).1)
      · have d0 : decide (x < 0) = false := decide_eq_false h0
        by_cases h1 : m < x
        · have d1 : decide (m < x) = true := decide_eq_true h1
          have HF2 := Lib.hid (HF.out (HNo.out fun h => by omega))
          clear HF HT HS HNo hcj
          go_wp2_with fail
          go_quiet (fail)
          go_wp2_with fail
          first
            | exact HF2.out _ (HD.out _).1
            | (go_ret; exact HF2.out _ (HD.out _).1)
        · have d1 : decide (m < x) = false := decide_eq_false h1
          by_cases hk0 : 0 < k
          · have hk0' : decide ((0 : Int) < (k : Int)) = true := by simp; omega
            have hwr : IntKind.i64.wrap ((k : Int) - 1) = ((k - 1 : Nat) : Int) := by rw [IntWalk.i64_in _ (by omega)]; omega
            have hc1 := hcj (k - 1) (by omega)
            have HY := Lib.hid (show l[k - 1]? = some l[k - 1] from List.getElem?_eq_getElem (by omega))
            generalize l[k - 1] = y at *
            have hb1 : ((k - 1 : Nat) : Int) < (l.length : Int) := by omega
            by_cases h2 : x ≤ y
            · have d2 : decide (x ≤ y) = true := decide_eq_true h2
              have HF2 := Lib.hid (HF.out (HNo.out fun h => by have := h.2.2 hk0 y HY.out; omega))
              clear HF HT HS HNo hcj HY
              go_wp2_with fail
              go_quiet (fail)
              go_wp2_with fail
              first
                | exact HF2.out _ (HD.out _).1
                | (go_ret; exact HF2.out _ (HD.out _).1)
            · have d2 : decide (x ≤ y) = false := decide_eq_false h2
              have HS2 := Lib.hid (HS.out ⟨by omega, by omega, fun _ z hz => by rw [HY.out] at hz; cases hz; omega⟩)
              clear HF HT HS HNo hcj HY
              go_wp2_with fail
              go_quiet (fail)
              go_wp2_with fail
              go_roundw
              case rel => exact ⟨k + 1, by omega, by go_num, HS2, Lib.hid (HD.out _).1, Lib.hid (HD.out _).2⟩
              case measure => simp [RowKit.intOf]; omega
          · have hk0' : decide ((0 : Int) < (k : Int)) = false := by simp; omega
            have HS2 := Lib.hid (HS.out ⟨by omega, by omega, fun h => absurd h hk0⟩)
            clear HF HT HS HNo hcj
            go_wp2_with fail
            go_quiet (fail)
            go_wp2_with fail
            go_roundw
            case rel => exact ⟨k + 1, by omega, by go_num, HS2, Lib.hid (HD.out _).1, Lib.hid (HD.out _).2⟩
            case measure => simp [RowKit.intOf]; omega
    · have b1 : ¬ (k : Int) < (l.length : Int) := by omega
      obtain rfl : k = l.length := by omega
      have HT2 := Lib.hid (HT.out HR.out.all _ HB.out)
      have b4 : (l.length : Int) ≤ 4096 := by omega
      clear HT HF HR
      go_wp2_with fail
      first
        | exact HT2.out
        | (go_ret; exact HT2.out)
def Rz2 (rest hol : List Int) : Prop := Rz rest 6 ∧ Rz hol 1048576
set_option maxHeartbeats 4000000 in
theorem dayMay_m (rest hol : List Int) (RA HA : Option Addr) (rc hc : Nat) (w : World) (hR : It w w.heap.size RA rest) (hH : It w w.heap.size HA hol) (h1 : rest.length ≤ 4096) (h2 : hol.length ≤ 4096) :
    Calls Tryz.prog 27 #[.agg #[.slice RA rest.length rc, .slice HA hol.length hc]] w fun e w' => BoolQ (Rz2 rest hol) w e w' := by
  obtain ⟨W1, hW1⟩ : ∃ W1, W1 = w.alloc (.cells #[.slice RA rest.length rc, .slice HA hol.length hc] 27) := ⟨_, rfl⟩
  have hb1 : Below w.heap.size w W1 := by rw [hW1]; exact (Below.refl _ _).alloc (Nat.le_refl _) _
  have H1 : Hid (∀ X, Below W1.heap.size W1 X → Calls Tryz.prog 67 #[.slice RA rest.length rc, .int .i64 6] X fun e w' => BoolQ (Rz rest 6) X e w') := Lib.hid fun X hX => rises_m rest RA rc _ 6 X (hR.kept (hb1.trans (hX.mono hb1.size))) (by omega)
  have H2 : Hid (∀ X, Below W1.heap.size W1 X → Calls Tryz.prog 67 #[.slice HA hol.length hc, .int .i64 1048576] X fun e w' => BoolQ (Rz hol 1048576) X e w') := Lib.hid fun X hX => rises_m hol HA hc _ 1048576 X (hH.kept (hb1.trans (hX.mono hb1.size))) (by omega)
  have HBk : Hid (∀ X, Below W1.heap.size W1 X → X.heap[w.heap.size]? = some (.cells #[.slice RA rest.length rc, .slice HA hol.length hc] 27 (0, 0))) := Lib.hid fun X hX => by
    have h : W1.heap[w.heap.size]? = some (.cells #[.slice RA rest.length rc, .slice HA hol.length hc] 27 (0, 0)) := by rw [hW1]; exact heap_alloc_new _ _
    exact (hX.block _ (Array.getElem?_eq_some_iff.1 h).1).trans h
  have HP : Hid (∀ (r1 r2 : Bool) X, (r1 = true ↔ Rz rest 6) → (r1 = true → (r2 = true ↔ Rz hol 1048576)) → Below w.heap.size w X → BoolQ (Rz2 rest hol) w (.returned (.bool (r1 && r2))) X) := Lib.hid fun r1 r2 X e1 e2 hb => ⟨r1 && r2, rfl, by
    cases r1
    · simp at e1
      simp [Rz2, e1]
    · simp at e1
      simpa [Rz2, e1] using e2 rfl, hb⟩
  have a1 : (rest.length : Int) ≤ 4096 := by omega
  have a2 : (hol.length : Int) ≤ 4096 := by omega
  have HB1 := Lib.hid hb1
  have HW := Lib.hid hW1
  have hz : w.heap.size < W1.heap.size := by rw [hW1]; simp
  generalize BoolQ (Rz2 rest hol) w = CP at *
  clear hR hH hW1 hb1
  go_enter Tryz.func27, Tryz.ntmps27
  go_upto_region 1 with fail
  rw [← HW.out]
  clear HW
  have kk := HBk.out W1 (Below.refl _ _)
  have c0 : W1.cell? ⟨w.heap.size, 0, none⟩ = some (.slice RA rest.length rc) := by simp [World.cell?, kk]
  have c1 : W1.cell? ⟨w.heap.size, 1, none⟩ = some (.slice HA hol.length hc) := by simp [World.cell?, kk]
  clear kk
  go_wp2_with fail
  refine (H1.out W1 (Below.refl _ _)).mono ?_
  rintro e w2 ⟨r1, rfl, e1, hb2⟩
  have HE1 := Lib.hid e1
  have HB2 := Lib.hid hb2
  have kk := HBk.out w2 hb2
  have c1 : w2.cell? ⟨w.heap.size, 1, none⟩ = some (.slice HA hol.length hc) := by simp [World.cell?, kk]
  clear kk e1 hb2
  cases r1
  · have HX := Lib.hid (HP.out false false w2 HE1.out (fun h => by cases h) (HB1.out.trans (HB2.out.mono (by omega))))
    clear HP
    go_wp2_with fail
    first
      | exact HX.out
      | (go_ret; exact HX.out)
  · go_wp2_with fail
    refine (H2.out w2 HB2.out).mono ?_
    rintro e w3 ⟨r2, rfl, e2, hb3⟩
    have HX := Lib.hid (HP.out true r2 w3 (by have := HE1.out; simpa using this) (fun _ => e2) ((HB1.out.trans (HB2.out.mono (by omega))).trans (hb3.mono (by have := HB2.out.size; omega))))
    clear HP e2 hb3
    cases r2
    all_goals
      go_wp2_with fail
      first
        | exact HX.out
        | (go_ret; exact HX.out)
set_option maxHeartbeats 4000000 in
theorem refMay_m (rest hol : List Int) (RA HA : Option Addr) (rc hc : Nat) (w : World) (hR : It w w.heap.size RA rest) (hH : It w w.heap.size HA hol) (h1 : rest.length ≤ 4096) (h2 : hol.length ≤ 4096) :
    Calls Tryz.prog 18 #[.agg #[.slice RA rest.length rc, .slice HA hol.length hc]] w fun e w' => BoolQ (Rz2 rest hol) w e w' := by
  obtain ⟨W1, hW1⟩ : ∃ W1, W1 = w.alloc (.cells #[.slice RA rest.length rc, .slice HA hol.length hc] 27) := ⟨_, rfl⟩
  have hb1 : Below w.heap.size w W1 := by rw [hW1]; exact (Below.refl _ _).alloc (Nat.le_refl _) _
  have H1 : Hid (∀ X, Below W1.heap.size W1 X → Calls Tryz.prog 40 #[.slice RA rest.length rc, .int .i64 6] X fun e w' => BoolQ (Rz rest 6) X e w') := Lib.hid fun X hX => refRises_m rest RA rc _ 6 X (hR.kept (hb1.trans (hX.mono hb1.size))) h1
  have H2 : Hid (∀ X, Below W1.heap.size W1 X → Calls Tryz.prog 40 #[.slice HA hol.length hc, .int .i64 1048576] X fun e w' => BoolQ (Rz hol 1048576) X e w') := Lib.hid fun X hX => refRises_m hol HA hc _ 1048576 X (hH.kept (hb1.trans (hX.mono hb1.size))) h2
  have HBk : Hid (∀ X, Below W1.heap.size W1 X → X.heap[w.heap.size]? = some (.cells #[.slice RA rest.length rc, .slice HA hol.length hc] 27 (0, 0))) := Lib.hid fun X hX => by
    have h : W1.heap[w.heap.size]? = some (.cells #[.slice RA rest.length rc, .slice HA hol.length hc] 27 (0, 0)) := by rw [hW1]; exact heap_alloc_new _ _
    exact (hX.block _ (Array.getElem?_eq_some_iff.1 h).1).trans h
  have HP : Hid (∀ (r1 r2 : Bool) X, (r1 = true ↔ Rz rest 6) → (r1 = true → (r2 = true ↔ Rz hol 1048576)) → Below w.heap.size w X → BoolQ (Rz2 rest hol) w (.returned (.bool (r1 && r2))) X) := Lib.hid fun r1 r2 X e1 e2 hb => ⟨r1 && r2, rfl, by
    cases r1
    · simp at e1
      simp [Rz2, e1]
    · simp at e1
      simpa [Rz2, e1] using e2 rfl, hb⟩
  have a1 : (rest.length : Int) ≤ 4096 := by omega
  have a2 : (hol.length : Int) ≤ 4096 := by omega
  have HB1 := Lib.hid hb1
  have HW := Lib.hid hW1
  have hz : w.heap.size < W1.heap.size := by rw [hW1]; simp
  generalize BoolQ (Rz2 rest hol) w = CP at *
  clear hR hH hW1 hb1
  go_enter Tryz.func18, Tryz.ntmps18
  go_upto_region 1 with fail
  rw [← HW.out]
  clear HW
  have kk := HBk.out W1 (Below.refl _ _)
  have c0 : W1.cell? ⟨w.heap.size, 0, none⟩ = some (.slice RA rest.length rc) := by simp [World.cell?, kk]
  have c1 : W1.cell? ⟨w.heap.size, 1, none⟩ = some (.slice HA hol.length hc) := by simp [World.cell?, kk]
  clear kk
  go_wp2_with fail
  refine (H1.out W1 (Below.refl _ _)).mono ?_
  rintro e w2 ⟨r1, rfl, e1, hb2⟩
  have HE1 := Lib.hid e1
  have HB2 := Lib.hid hb2
  have kk := HBk.out w2 hb2
  have c1 : w2.cell? ⟨w.heap.size, 1, none⟩ = some (.slice HA hol.length hc) := by simp [World.cell?, kk]
  clear kk e1 hb2
  cases r1
  · have HX := Lib.hid (HP.out false false w2 HE1.out (fun h => by cases h) (HB1.out.trans (HB2.out.mono (by omega))))
    clear HP
    go_wp2_with fail
    first
      | exact HX.out
      | (go_ret; exact HX.out)
  · go_wp2_with fail
    refine (H2.out w2 HB2.out).mono ?_
    rintro e w3 ⟨r2, rfl, e2, hb3⟩
    have HX := Lib.hid (HP.out true r2 w3 (by have := HE1.out; simpa using this) (fun _ => e2) ((HB1.out.trans (HB2.out.mono (by omega))).trans (hb3.mono (by have := HB2.out.size; omega))))
    clear HP e2 hb3
    cases r2
    all_goals
      go_wp2_with fail
      first
        | exact HX.out
        | (go_ret; exact HX.out)
end Go.Proofs.YtchkdidpnjakeaaGreatDoor
namespace Go.Proofs.YtchkdidpnjakeaaGreatDoor
open Go.RowKit Go.Maps Go.Lib
set_option linter.unusedVariables false
set_option maxRecDepth 100000

theorem wpList_load_want {P : Program} {ops : Array Oper} {rest : List Oper} {op : Oper} {a : Act} {w : World} {Q : Exit → Act → World → Prop} (hw : Region.wanted op (yielded ops a.tmps) = true) (ty : TypeId) (x : Operand) (ho : op.op = .load ty x)
    (b o : Nat) (hx : a.eval x = .pointer (some ⟨b, o, none⟩)) (cs : List Value) (d : TypeDesc) (hc : w.rangeAt b o cs)
    (hu : P.underlying ty = some d) (hd : d.isRow = true) (hi : (P.info? ty).map (·.size) = some cs.length)
    (h : wpList P ops Q rest (a.put op.dst (.agg cs.toArray)) w) : wpList P ops Q (op :: rest) a w :=
  BigFrame.wpList_want hw fun _ hK => wp_load_mid ty x ho b o hx cs d hc hu hd hi (hK _ _ h)
theorem SeI.of_sbf {W1 w w' : World} {nb sb n : Nat} {M : List ByteArray} (h : SeI W1 w nb M n) (hs : Sbf sb w w') (hb : Below W1.heap.size W1 w') (hne : nb ≠ sb) : SeI W1 w' nb M n := by
  have hl := h.low
  obtain ⟨_, h2, F, hM, hF⟩ := h
  exact ⟨hb, h2, F, hM.of_block (hs.same nb hne hl), hF⟩
/-- the parties as far as they are noted -/
def PyI (W1 wr : World) (mb : Nat) (l : List Py) (k : Nat) : Prop := Below W1.heap.size W1 wr ∧ W1.heap.size ≤ mb ∧ Mp curC pyE wr mb k (parF (l.take k))
theorem PyI.step {W1 wr : World} {mb : Nat} {l : List Py} {k : Nat} (h : PyI W1 wr mb l k) (hk : k ≤ 1000) (hl : PartiesOk l) {p : Py} (hp : l[k]? = some p) (hs : p.nm.size ≤ maxLen) (o : Obj) :
    ∃ w', (Instr.mapUpdate 66 (.map (some mb)) (.string p.nm) (.agg #[.string p.nm, .string p.bk, .int .i64 p.kd])).run Tryz.prog (wr.alloc o) = .ok () w' ∧ PyI W1 w' mb l (k + 1) := by
  obtain ⟨hb, hm, hM⟩ := h
  obtain ⟨w', h1, h2, h3, h4⟩ := hM.step hb hm o Tryz.underlying66 (by unfold maxLen; omega) (x := p.nm) (show curC.ok p.nm from hs) (v := p) trivial
  refine ⟨w', h1, h3, hm, ?_⟩
  have e : putG (parF (l.take k)) p.nm p = parF (l.take (k + 1)) := by
    funext s
    unfold putG
    rw [take_snoc' hp, parF_snoc]
    have hn : parF (l.take k) p.nm = none := by
      cases hG : parF (l.take k) p.nm with
      | none => rfl
      | some y =>
        obtain ⟨i, q, hi, hq, hs⟩ := parF_takeM.1 (show (parF (l.take k) p.nm).isSome = true by rw [hG]; rfl)
        exact absurd hs ((hl.one k p hp).2.2.2 i q hi hq)
    by_cases e : s = p.nm
    · subst e
      rw [if_pos rfl, hn]
      simp
    · rw [if_neg e]
      cases h2 : parF (l.take k) s with
      | some y => simp
      | none => simp; exact fun e2 => absurd e2.symm e
  rw [e] at h2
  exact h2
theorem PyI.low {W1 wr : World} {mb : Nat} {l : List Py} {k : Nat} (h : PyI W1 wr mb l k) : mb < wr.heap.size := h.2.2.lt
/-- the deals as far as they are noted -/
structure MyI (W1 wr : World) (mb nb sb : Nat) (u : Su) (k : Nat) : Prop where
  bw : Below W1.heap.size W1 wr
  py : Mp curC pyE wr mb u.par.length (parF u.par)
  nums : SeI W1 wr nb ((u.dl.take k).map (·.num)) k
  marks : ∃ n, n ≤ 8 * k ∧ SeI W1 wr sb (marksOf (u.dl.take k)) n
  tod : DsTo u.par u.dl k
theorem Bxs.congr {w w' : World} {B : Nat} {A : Option Addr} {L : List Bx} (h : Bxs w B A L) (hk : ∀ p : Addr, p.block < B → w'.cell? p = w.cell? p) : Bxs w' B A L := fun h0 => by
  obtain ⟨g, off, e, hg, hc⟩ := h h0
  refine ⟨g, off, e, hg, fun i b hb => ?_⟩
  obtain ⟨A', c', h0, h1, h2, h3, h4⟩ := hc i b hb
  exact ⟨A', c', (hk _ hg).trans h0, (hk _ hg).trans h1, (hk _ hg).trans h2, fun hl => by
    obtain ⟨g3, off3, e3, hg3, hc3⟩ := h3 hl
    exact ⟨g3, off3, e3, hg3, fun i x hx => ⟨(hk _ hg3).trans (hc3 i x hx).1, (hk _ hg3).trans (hc3 i x hx).2⟩⟩, h4⟩
theorem DealsOk.bxsMay {l : List Py} {ds : List Dl} {k : Nat} {d : Dl} (h : DealsOk l ds) (hd : ds[k]? = some d) : BxsMay (marksOf (ds.take k)) d.box := by
  refine ⟨h.size d (List.mem_of_getElem? hd), h.box d (List.mem_of_getElem? hd), ?_⟩
  have h1 := h.marks
  have e1 : marksOf ds = (marksOf (ds.take k) ++ marksOf [d]) ++ marksOf (ds.drop (k + 1)) := by
    rw [← marksOf_app, ← marksOf_app]
    conv => lhs; rw [dl_split hd]
    simp
  rw [e1, List.nodup_append, marksOf_one] at h1
  exact h1.1
theorem num_in {ds : List Dl} {k : Nat} {s : ByteArray} : s ∈ (ds.take k).map (·.num) ↔ ∃ q x, q < k ∧ ds[q]? = some x ∧ x.num = s := by
  constructor
  · intro h
    obtain ⟨x, hx, e⟩ := List.mem_map.1 h
    obtain ⟨q, hq⟩ := List.mem_iff_getElem?.1 hx
    rw [List.getElem?_take] at hq
    split at hq
    · exact ⟨q, x, by assumption, hq, e⟩
    · cases hq
  · rintro ⟨q, x, hq, hx, e⟩
    refine List.mem_map.2 ⟨x, List.mem_iff_getElem?.2 ⟨q, ?_⟩, e⟩
    rw [List.getElem?_take, if_pos hq]
    exact hx
/-- the texts of a setup are texts; it is few -/
structure SuSz (u : Su) : Prop where
  few : FewU u
  py : ∀ p ∈ u.par, p.nm.size ≤ maxLen ∧ p.bk.size ≤ maxLen
  dl : DsSz u.dl
  fd : FdSz u.fd
set_option maxHeartbeats 16000000 in
theorem may_t {w : World} {u : Su} {a : Sa} (hA : SuAt w w.heap.size u a) (hz : SuSz u) :
    Calls Tryz.prog 8 #[.agg #[.slice a.PA u.par.length a.pc, .slice a.DA u.dl.length a.dc, .slice a.FA u.fd.length a.fc, .slice a.RA u.rest.length a.rc, .slice a.HA u.hol.length a.hc]] w fun e w' => BoolQ (MayP u) w e w' := by
  obtain ⟨W1, hW1⟩ : ∃ W1, W1 = w.alloc (.cells #[.slice a.PA u.par.length a.pc, .slice a.DA u.dl.length a.dc, .slice a.FA u.fd.length a.fc, .slice a.RA u.rest.length a.rc, .slice a.HA u.hol.length a.hc] 29) := ⟨_, rfl⟩
  have HS : Hid (∀ X, Below W1.heap.size W1 X → SbX w X u a) := Lib.hid fun X hX => SbX.of hA hW1 hX
  have HN : Hid (¬ MayP u → ∀ X, Below W1.heap.size W1 X → BoolQ (MayP u) w (.returned (.bool false)) X) := Lib.hid fun h X hX => BoolQ.no h (HS.out X hX).bw
  have HY : Hid (∀ (r : Bool) X, (r = true ↔ MayP u) → Below W1.heap.size W1 X → BoolQ (MayP u) w (.returned (.bool r)) X) := Lib.hid fun r X h hX => ⟨r, rfl, h, (HS.out X hX).bw⟩
  have HZ := Lib.hid hz
  have hp16 := hz.few.par
  have hd6 := hz.few.dl
  have hf20 := hz.few.fd
  have HPm := Lib.hid (parties_t (c := a.pc) ((HS.out W1 (Below.refl _ _)).su.par) (Nat.le_of_lt (HS.out W1 (Below.refl _ _)).lt) (by omega) hz.py)
  have HW := Lib.hid hW1
  obtain ⟨k0, k1, k2, k3, k4, kl, _, _⟩ := HS.out W1 (Below.refl _ _)
  clear hW1 hA hz
  generalize BoolQ (MayP u) w = CP at *
  go_enter Tryz.func8, Tryz.ntmps8
  go_upto_region 1 with fail
  rw [← HW.out]
  clear HW
  go_wp2_with fail
  refine HPm.out.mono ?_
  rintro e w2 ⟨r, rfl, hr, hb⟩
  have HRp := Lib.hid hr
  have HB2 := Lib.hid hb
  clear hr hb HPm k0 k1 k2 k3 k4 kl
  obtain ⟨k0, k1, k2, k3, k4, kl, _, _⟩ := HS.out w2 HB2.out
  cases r with
  | false =>
    have HX := Lib.hid (HN.out (fun h => by have := HRp.out.2 h.par; cases this) w2 HB2.out)
    clear HN HY HRp
    go_wp2_with fail
    first
      | exact HX.out
      | (go_ret; exact HX.out)
  | true =>
    have HPo := Lib.hid (HRp.out.1 rfl)
    have hmm := @run_makeMap Tryz.prog
    have HI0 : Hid (PyI W1 (w2.alloc (.map #[] 0)) w2.heap.size u.par 0) := Lib.hid ⟨HB2.out.alloc HB2.out.size _, HB2.out.size, Mp.made (C := curC) (E := pyE) w2⟩
    clear HRp
    go_wp2_with fail
    clear k0 k1 k2 k3 k4 kl
    rename World => w2
    go_loopw [30, 5] (fun i _ wr => ∃ k : Nat, k ≤ u.par.length ∧ i = .int .i64 (k : Int) ∧ Hid (PyI W1 wr w2.heap.size u.par k)) (fun i _ _ => u.par.length - (RowKit.intOf i).toNat)
    case atStart => exact ⟨0, Nat.zero_le _, rfl, HI0⟩
    case round =>
      clear HI0
      obtain ⟨k, hk, rfl, HI⟩ := hrel
      by_cases hlt : k < u.par.length
      · have b1 : (k : Int) < (u.par.length : Int) := by omega
        obtain ⟨p, hp⟩ : ∃ p, u.par[k]? = some p := ⟨u.par[k], List.getElem?_eq_getElem hlt⟩
        have heq : u.par[k] = p := (List.getElem?_eq_some_iff.1 hp).2
        obtain ⟨g, off, hPA, hg, c0, c1, c2⟩ := (HS.out wr HI.out.1).su.par.at_ hlt
        rw [heq] at c0 c1 c2
        have hgw : g < wr.heap.size := by have := (HS.out wr HI.out.1).lt; omega
        rw [hPA]
        obtain ⟨w', r1, hI'⟩ := HI.out.step (by omega) HPo.out hp (HZ.out.py p (List.mem_of_getElem? hp)).1 (.cells #[.string p.nm, .string p.bk, .int .i64 p.kd] 38)
        have HI2 := Lib.hid hI'
        have hmb := HI.out.low
        clear hPA heq hp hI' HI
        go_wp2_with fail
        go_roundw
        case rel => exact ⟨k + 1, by omega, by go_num, HI2⟩
        case measure => simp [RowKit.intOf] <;> omega
      · have b1 : ¬ (k : Int) < (u.par.length : Int) := by omega
        obtain rfl : k = u.par.length := by omega
        obtain ⟨k0, k1, k2, k3, k4, kl, _, _⟩ := HS.out wr HI.out.1
        have HJ0 : Hid (MyI W1 ((wr.alloc (.map #[] 0)).alloc (.map #[] 0)) w2.heap.size wr.heap.size (wr.heap.size + 1) u 0) := Lib.hid (by
          have hI := HI.out
          have hb1 : Below W1.heap.size W1 (wr.alloc (.map #[] 0)) := hI.1.alloc hI.1.size _
          have hb2 : Below W1.heap.size W1 ((wr.alloc (.map #[] 0)).alloc (.map #[] 0)) := hb1.alloc hb1.size _
          have hp := hI.2.2
          rw [List.take_length] at hp
          have hsz : (wr.alloc (.map #[] 0)).heap.size = wr.heap.size + 1 := by simp
          have hm2 := Mp.made (C := curC) (E := yesE) (wr.alloc (.map #[] 0))
          rw [hsz] at hm2
          exact ⟨hb2, (hp.alloc _).alloc _, ⟨hb2, hI.1.size, _, (Mp.made (C := curC) (E := yesE) wr).alloc _, fun s => by simp⟩, ⟨0, Nat.le_refl _, hb2, by have := hI.1.size; omega, _, hm2, fun s => by simp [marksOf]⟩, DsTo.zero⟩)
        have HMs : Hid (w2.heap.size ≠ wr.heap.size ∧ w2.heap.size ≠ wr.heap.size + 1) := Lib.hid (by have := HI.out.low; omega)
        clear HI hk hlt
        go_wp2_with fail
        rename World => W3
        generalize hnb : W3.heap.size = nb at *
        have HNb := Lib.hid hnb
        clear hnb
        go_loopw [44, 9] (fun i _ wr => ∃ k : Nat, k ≤ u.dl.length ∧ i = .int .i64 (k : Int) ∧ Hid (MyI W1 wr w2.heap.size nb (nb + 1) u k)) (fun i _ _ => u.dl.length - (RowKit.intOf i).toNat)
        case atStart => exact ⟨0, Nat.zero_le _, rfl, HJ0⟩
        case round =>
          clear HJ0 hmm k0 k1 k2 k3 k4 kl
          obtain ⟨k, hk, rfl, HJ⟩ := hrel
          obtain ⟨k0, k1, k2, k3, k4, kl, hsu, hbw⟩ := HS.out wr HJ.out.bw
          by_cases hlt : k < u.dl.length
          · have b1 : (k : Int) < (u.dl.length : Int) := by omega
            obtain ⟨d, hd⟩ : ∃ d, u.dl[k]? = some d := ⟨u.dl[k], List.getElem?_eq_getElem hlt⟩
            obtain ⟨g, off, A', c', hDA, hg, hc, hbx, hnil⟩ := hsu.dl.at_ hd
            have hgw : g < wr.heap.size := by omega
            rw [hDA]
            have hmd := List.mem_of_getElem? hd
            have HRg := Lib.hid (show wr.rangeAt g (off + k * 17) (dlA d A' c').toList from fun j v hv => hc j v (by simpa using hv))
            have HIb := Lib.hid (show (Tryz.prog.info? 72).map (·.size) = some (dlA d A' c').toList.length from infoDl17)
            have HIs := Lib.hid (show (Tryz.prog.info? 72).map (·.size) = some (dlA d A' c').size from infoDl17)
            have HOn := Lib.hid (dlA_allM d A' c')
            have HSz := Lib.hid (show 17 = (dlA d A' c').size from rfl)
            obtain ⟨wy, hwy⟩ : ∃ wy, wy = wr.alloc (.cells (dlA d A' c') 72) := ⟨_, rfl⟩
            have hby : Below wr.heap.size wr wy := by rw [hwy]; exact (Below.refl _ _).alloc (Nat.le_refl _) _
            have hyb : wy.heap[wr.heap.size]? = some (.cells (dlA d A' c') 72 (0, 0)) := by rw [hwy]; exact heap_alloc_new _ _
            have hzs : wr.heap.size < wy.heap.size := (Array.getElem?_eq_some_iff.1 hyb).1
            obtain ⟨nm, hnm, hms⟩ := HJ.out.marks
            have hsl := hms.low
            have HDc : Hid (∀ X, Sbf (nb + 1) wy X → (∀ j v, (dlA d A' c')[j]? = some v → X.cell? ⟨wr.heap.size, j, none⟩ = some v) ∧ wr.heap.size < X.heap.size) := Lib.hid fun X hX => by
              have h := (hX.same _ (by omega) hzs).trans hyb
              exact ⟨fun j v hv => by simp only [World.cell?, h]; exact hv, Nat.lt_of_lt_of_le hzs hX.size⟩
            have HMy : Hid (Below W1.heap.size W1 wy ∧ Mp curC pyE wy w2.heap.size u.par.length (parF u.par) ∧ SeI W1 wy nb ((u.dl.take k).map (·.num)) k ∧ SeI W1 wy (nb + 1) (marksOf (u.dl.take k)) nm) := Lib.hid ⟨HJ.out.bw.trans (hby.mono HJ.out.bw.size), HJ.out.py.below hby HJ.out.py.lt, HJ.out.nums.below hby, hms.below hby⟩
            have HTo := Lib.hid HJ.out.tod
            have HD := Lib.hid hd
            have HXs := Lib.hid (show Bxs W1 w.heap.size A' d.box from hbx.congr fun p hp => (HJ.out.bw.cell (p := p) (by have := (HS.out W1 (Below.refl _ _)).lt; omega)).symm)
            have HWy := Lib.hid hwy
            have HBs := Lib.hid (HZ.out.dl.bx d hmd)
            have hbl := HZ.out.dl.box d hmd
            have hdz := HZ.out.dl.txt d hmd
            have hdn := hdz d.num (by simp)
            have HLk := Lib.hid (HMy.out.2.2.1.look hdn)
            have HDm := Lib.hid (deal_t (c := c') (A := A') (d := d) HMy.out.2.1 hdz)
            have e0 := (HDc.out wy (Sbf.refl _ _)).1 0 _ (show (dlA d A' c')[0]? = some (.string d.num) from rfl)
            clear hwy hDA hc hd hsu hbw hnil hms HJ hby hyb hbx hdz hmd k0 k1 k2 k3 k4 kl
            go_upto_region 13 with (first
              | (refine wpList_load_mid rfl 72 (.tmp 46) rfl g (off + k * 17) rfl (dlA d A' c').toList _ HRg.out Tryz.underlying72 rfl HIb.out ?_)
              | (refine wpList_store_row rfl 72 (.tmp 9) (.tmp 47) rfl wr.heap.size (dlA d A' c') rfl rfl 72 _ (heap_alloc_new _ _) HIs.out HSz.out HOn.out ?_; rw [setRow_allocB])
              | fail)
            rw [← HWy.out]
            have HRy := Lib.hid (show wy.rangeAt wr.heap.size 0 (dlA d A' c').toList from fun j v hv => by
              rw [Nat.zero_add]
              exact (HDc.out wy (Sbf.refl _ _)).1 j v (by simpa using hv))
            clear HWy HRg HIs HOn HSz
            by_cases hm : d.num ∈ (u.dl.take k).map (·.num)
            · have r1 := HLk.out.1 hm
              have HX := Lib.hid (HN.out (fun h => by
                obtain ⟨q, x, hq, hx, e⟩ := num_in.1 hm
                exact h.dl.num_ne HD.out hq hx e) wy HMy.out.1)
              clear HN HY HLk hm
              go_wp2_with fail
              first
                | exact HX.out
                | (go_ret; exact HX.out)
            · have r1 := HLk.out.2 hm
              have HNm := Lib.hid hm
              clear HLk hm
              go_wp2_with (first
                | (refine wpList_load_want (by rfl) 72 (.tmp 9) rfl wr.heap.size 0 rfl (dlA d A' c').toList _ HRy.out Tryz.underlying72 rfl HIb.out ?_)
                | fail)
              refine HDm.out.mono ?_
              rintro e w5 ⟨r, rfl, hr, hb5⟩
              have HR5 := Lib.hid hr
              have HB5 := Lib.hid hb5
              have HM5 : Hid (Below W1.heap.size W1 w5 ∧ Mp curC pyE w5 w2.heap.size u.par.length (parF u.par) ∧ SeI W1 w5 nb ((u.dl.take k).map (·.num)) k ∧ SeI W1 w5 (nb + 1) (marksOf (u.dl.take k)) nm) := Lib.hid ⟨HMy.out.1.trans (hb5.mono HMy.out.1.size), HMy.out.2.1.below hb5 HMy.out.2.1.lt, HMy.out.2.2.1.below hb5, HMy.out.2.2.2.below hb5⟩
              have e11 := (HDc.out w5 (Sbf.of_below hb5)).1 11 _ (show (dlA d A' c')[11]? = some (.slice A' d.box.length c') from rfl)
              have hz5 := (HDc.out w5 (Sbf.of_below hb5)).2
              have HBm := Lib.hid (boxes_t (c := c') HM5.out.2.2.2 (by omega) HTo.out.marks HXs.out (by have := (HS.out W1 (Below.refl _ _)).lt; omega) hbl HBs.out)
              clear hr hb5 HDm r1 e0 HMy HRy
              cases r with
              | false =>
                have HX := Lib.hid (HN.out (fun h => by have := HR5.out.2 (h.dl.one d (List.mem_of_getElem? HD.out)); cases this) w5 HM5.out.1)
                clear HN HY HR5 HBm
                go_wp2_with fail
                first
                  | exact HX.out
                  | (go_ret; exact HX.out)
              | true =>
                have HOk := Lib.hid (HR5.out.1 rfl)
                clear HR5
                go_wp2_with fail
                refine HBm.out.mono ?_
                rintro e w6 ⟨r2, rfl, hr2, hb6, hs6, he6⟩
                have HR6 := Lib.hid hr2
                have HB6 := Lib.hid hb6
                have HS6 := Lib.hid hs6
                have HE6 := Lib.hid he6
                have e0 := (HDc.out w6 ((Sbf.of_below HB5.out).trans hs6)).1 0 _ (show (dlA d A' c')[0]? = some (.string d.num) from rfl)
                have hz6 := (HDc.out w6 ((Sbf.of_below HB5.out).trans hs6)).2
                clear hr2 hb6 hs6 he6 HBm e11 hz5
                cases r2 with
                | false =>
                  have HX := Lib.hid (HN.out (fun h => by have := HR6.out.2 (h.dl.bxsMay HD.out); cases this) w6 HB6.out)
                  clear HN HY HR6 HE6
                  go_wp2_with fail
                  first
                    | exact HX.out
                    | (go_ret; exact HX.out)
                | true =>
                  have hbm := HR6.out.1 rfl
                  obtain ⟨w7, r7, hN7, hS7⟩ := (HM5.out.2.2.1.of_sbf HS6.out HB6.out (by omega)).step (by omega) hdn
                  have HX : Hid (MyI W1 w7 w2.heap.size nb (nb + 1) u (k + 1)) := Lib.hid (by
                    refine ⟨hN7.1, ?_, ?_, ⟨nm + d.box.length, by have := hbm.few; omega, ?_⟩, ?_⟩
                    · refine (HM5.out.2.1.of_block (HS6.out.same _ ?_ HM5.out.2.1.lt)).of_block (hS7.same _ ?_ ?_)
                      · have := HMs.out; have := HNb.out; omega
                      · have := HMs.out; have := HNb.out; omega
                      · have := HM5.out.2.1.lt; have := HS6.out.size; omega
                    · rw [take_snoc' HD.out, List.map_append]
                      exact hN7
                    · rw [take_snoc' HD.out, marksOf_app, marksOf_one]
                      exact (HE6.out rfl).of_sbf hS7 hN7.1 (by omega)
                    · exact HTo.out.step HD.out ⟨HOk.out, hbm.few⟩ (fun q x hq hx e => HNm.out (num_in.2 ⟨q, x, hq, hx, e⟩)) ⟨fun b hb => hbm.one b (List.mem_of_mem_take hb), by rw [List.take_length]; exact hbm.marks⟩)
                  clear hbm hN7 hS7 HN HY HR6 HE6
                  go_wp2_with fail
                  go_roundw
                  case rel => exact ⟨k + 1, by omega, by go_num, HX⟩
                  case measure => simp [RowKit.intOf] <;> omega
          · have b1 : ¬ (k : Int) < (u.dl.length : Int) := by omega
            obtain rfl : k = u.dl.length := by omega
            have HDs := Lib.hid (HJ.out.tod.all.2 (by omega))
            have HBw := Lib.hid HJ.out.bw
            have HFm := Lib.hid (funds_t (c := a.fc) HJ.out.py hsu.fd (Nat.le_of_lt kl) HZ.out.fd)
            clear HJ hsu hbw hk hlt
            go_wp2_with fail
            refine HFm.out.mono ?_
            rintro e w5 ⟨r, rfl, hr, hb5⟩
            have HR5 := Lib.hid hr
            have HB5 := Lib.hid (HBw.out.trans (hb5.mono HBw.out.size))
            clear hr hb5 HFm k0 k1 k2 k3 k4 kl
            obtain ⟨k0, k1, k2, k3, k4, kl, hsu, hbw⟩ := HS.out w5 HB5.out
            have HDy := Lib.hid (dayMay_m u.rest u.hol a.RA a.HA a.rc a.hc w5 (hsu.rest.more (Nat.le_of_lt kl)) (hsu.hol.more (Nat.le_of_lt kl)) (by have := HZ.out.few.rest; omega) (by have := HZ.out.few.hol; omega))
            clear hsu hbw
            cases r with
            | false =>
              have HX := Lib.hid (HN.out (fun h => by have := HR5.out.2 h.fd; cases this) w5 HB5.out)
              clear HN HY HR5 HDy
              go_wp2_with fail
              first
                | exact HX.out
                | (go_ret; exact HX.out)
            | true =>
              have HFo := Lib.hid (HR5.out.1 rfl)
              clear HR5
              go_wp2_with fail
              refine HDy.out.mono ?_
              rintro e w6 ⟨r2, rfl, hr2, hb6⟩
              have HX := Lib.hid (HY.out r2 w6 (by
                rw [hr2]
                exact ⟨fun h => ⟨HPo.out, HDs.out, HFo.out, h.1, h.2⟩, fun h => ⟨h.rest, h.hol⟩⟩) (HB5.out.trans (hb6.mono HB5.out.size)))
              clear hr2 hb6 HN HY HFo HDy
              go_wp2_with fail
              first
                | exact HX.out
                | (go_ret; exact HX.out)
end Go.Proofs.YtchkdidpnjakeaaGreatDoor
