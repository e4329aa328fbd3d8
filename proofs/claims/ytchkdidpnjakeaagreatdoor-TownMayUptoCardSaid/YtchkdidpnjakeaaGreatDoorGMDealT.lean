/- town.dealMay: may a deal be, by itself? trader.copyDeal: a deal with boxes of its own. -/
import Derived.Test.YtchkdidpnjakeaaGreatDoorMDealT0
import Derived.Test.YtchkdidpnjakeaaGreatDoorGASums
import Derived.Laws.EntriesVeiled
import Derived.Test.YtchkdidpnjakeaaGreatDoorGBNew3
import Derived.Deep.RegionWith
import Derived.Deep.Cut
namespace Go.Proofs.YtchkdidpnjakeaaGreatDoor
open Go.RowKit Go.Maps Go.Lib
set_option linter.unusedVariables false
set_option maxRecDepth 100000

theorem four_alloc (w : World) (o1 o2 o3 o4 : Obj) : ((((w.alloc o1).alloc o2).alloc o3).alloc o4).heap[w.heap.size]? = some o1 ∧ ((((w.alloc o1).alloc o2).alloc o3).alloc o4).heap[w.heap.size + 1]? = some o2 ∧ ((((w.alloc o1).alloc o2).alloc o3).alloc o4).heap[w.heap.size + 1 + 1]? = some o3 ∧ ((((w.alloc o1).alloc o2).alloc o3).alloc o4).heap[w.heap.size + 1 + 1 + 1]? = some o4 := by
  have n1 := heap_alloc_new w o1
  have s1 : (w.alloc o1).heap.size = w.heap.size + 1 := by simp
  generalize w.alloc o1 = w1 at *
  have n2 := heap_alloc_new w1 o2
  have p1 := alloc_old w1 o2 _ (by omega) n1
  have s2 : (w1.alloc o2).heap.size = w1.heap.size + 1 := by simp
  rw [s1] at n2 s2
  generalize w1.alloc o2 = w2 at *
  have n3 := heap_alloc_new w2 o3
  have q1 := alloc_old w2 o3 _ (by omega) p1
  have q2 := alloc_old w2 o3 _ (by omega) n2
  have s3 : (w2.alloc o3).heap.size = w2.heap.size + 1 := by simp
  rw [s2] at n3 s3
  generalize w2.alloc o3 = w3 at *
  have n4 := heap_alloc_new w3 o4
  rw [s3] at n4
  exact ⟨alloc_old w3 o4 _ (by omega) q1, alloc_old w3 o4 _ (by omega) q2, alloc_old w3 o4 _ (by omega) n3, n4⟩
set_option maxHeartbeats 8000000 in
theorem deal_t {w : World} {mb n c : Nat} {l : List Py} {d : Dl} {A : Option Addr} (hM : Mp curC pyE w mb n (parF l)) (hz : DlSz d) :
    Calls Tryz.prog 24 #[.agg (dlA d A c), .map (some mb)] w fun e w' => BoolQ (DealOk l d) w e w' := by
  have HN : Hid (¬ DealOk l d → ∀ X, Below w.heap.size w X → BoolQ (DealOk l d) w (.returned (.bool false)) X) := Lib.hid fun h X hX => BoolQ.no h hX
  have HY : Hid (DealOk l d → ∀ X, Below w.heap.size w X → BoolQ (DealOk l d) w (.returned (.bool true)) X) := Lib.hid fun h X hX => BoolQ.yes h hX
  generalize BoolQ (DealOk l d) w = CP at *
  obtain ⟨U, hU⟩ : ∃ U, U = dlA d A c := ⟨_, rfl⟩
  obtain ⟨W4, hW4⟩ : ∃ W4, W4 = (((w.alloc (.cells U 72)).alloc (.cells #[.map (some mb)] 66)).alloc (.cells #[.func (.func 53) #[] #[.pointer (some ⟨w.heap.size + 1, 0, none⟩)]] 117)).alloc (.cells #[.func (.func 54) #[] #[.pointer (some ⟨w.heap.size, 0, none⟩)], .func (.func 55) #[] #[.pointer (some ⟨w.heap.size, 0, none⟩), .pointer (some ⟨w.heap.size + 1 + 1, 0, none⟩)], .func (.func 56) #[] #[.pointer (some ⟨w.heap.size + 1 + 1, 0, none⟩), .pointer (some ⟨w.heap.size, 0, none⟩)], .func (.func 57) #[] #[.pointer (some ⟨w.heap.size + 1 + 1, 0, none⟩), .pointer (some ⟨w.heap.size, 0, none⟩), .pointer (some ⟨w.heap.size + 1, 0, none⟩)], .func (.func 58) #[] #[.pointer (some ⟨w.heap.size, 0, none⟩), .pointer (some ⟨w.heap.size + 1 + 1, 0, none⟩)], .func (.func 59) #[] #[.pointer (some ⟨w.heap.size, 0, none⟩), .pointer (some ⟨w.heap.size + 1 + 1, 0, none⟩)], .func (.func 60) #[] #[.pointer (some ⟨w.heap.size, 0, none⟩)], .func (.func 61) #[] #[.pointer (some ⟨w.heap.size, 0, none⟩)], .func (.func 63) #[] #[.pointer (some ⟨w.heap.size, 0, none⟩)], .func (.func 64) #[] #[.pointer (some ⟨w.heap.size, 0, none⟩)], .func (.func 65) #[] #[.pointer (some ⟨w.heap.size, 0, none⟩)]] 30) := ⟨_, rfl⟩
  have HB4 : Hid (Below w.heap.size w W4) := Lib.hid (by
    rw [hW4]
    exact ((((Below.refl _ _).alloc (Nat.le_refl _) _).alloc (by simp) _).alloc (by simp; omega) _).alloc (by simp; omega) _)
  obtain ⟨t1, t2, t3, t4⟩ := four_alloc w (.cells U 72) (.cells #[.map (some mb)] 66) (.cells #[.func (.func 53) #[] #[.pointer (some ⟨w.heap.size + 1, 0, none⟩)]] 117) (.cells #[.func (.func 54) #[] #[.pointer (some ⟨w.heap.size, 0, none⟩)], .func (.func 55) #[] #[.pointer (some ⟨w.heap.size, 0, none⟩), .pointer (some ⟨w.heap.size + 1 + 1, 0, none⟩)], .func (.func 56) #[] #[.pointer (some ⟨w.heap.size + 1 + 1, 0, none⟩), .pointer (some ⟨w.heap.size, 0, none⟩)], .func (.func 57) #[] #[.pointer (some ⟨w.heap.size + 1 + 1, 0, none⟩), .pointer (some ⟨w.heap.size, 0, none⟩), .pointer (some ⟨w.heap.size + 1, 0, none⟩)], .func (.func 58) #[] #[.pointer (some ⟨w.heap.size, 0, none⟩), .pointer (some ⟨w.heap.size + 1 + 1, 0, none⟩)], .func (.func 59) #[] #[.pointer (some ⟨w.heap.size, 0, none⟩), .pointer (some ⟨w.heap.size + 1 + 1, 0, none⟩)], .func (.func 60) #[] #[.pointer (some ⟨w.heap.size, 0, none⟩)], .func (.func 61) #[] #[.pointer (some ⟨w.heap.size, 0, none⟩)], .func (.func 63) #[] #[.pointer (some ⟨w.heap.size, 0, none⟩)], .func (.func 64) #[] #[.pointer (some ⟨w.heap.size, 0, none⟩)], .func (.func 65) #[] #[.pointer (some ⟨w.heap.size, 0, none⟩)]] 30)
  rw [← hW4] at t1 t2 t3 t4
  have HDM : Hid (DM W4 w.heap.size (w.heap.size + 1) (w.heap.size + 1 + 1) mb n l d A c) := Lib.hid ⟨by rw [← hU]; exact t1, t2, t3, hM.below HB4.out hM.lt⟩
  have HFs : Hid (∀ X, Below W4.heap.size W4 X → ∀ j v, (#[.func (.func 54) #[] #[.pointer (some ⟨w.heap.size, 0, none⟩)], .func (.func 55) #[] #[.pointer (some ⟨w.heap.size, 0, none⟩), .pointer (some ⟨w.heap.size + 1 + 1, 0, none⟩)], .func (.func 56) #[] #[.pointer (some ⟨w.heap.size + 1 + 1, 0, none⟩), .pointer (some ⟨w.heap.size, 0, none⟩)], .func (.func 57) #[] #[.pointer (some ⟨w.heap.size + 1 + 1, 0, none⟩), .pointer (some ⟨w.heap.size, 0, none⟩), .pointer (some ⟨w.heap.size + 1, 0, none⟩)], .func (.func 58) #[] #[.pointer (some ⟨w.heap.size, 0, none⟩), .pointer (some ⟨w.heap.size + 1 + 1, 0, none⟩)], .func (.func 59) #[] #[.pointer (some ⟨w.heap.size, 0, none⟩), .pointer (some ⟨w.heap.size + 1 + 1, 0, none⟩)], .func (.func 60) #[] #[.pointer (some ⟨w.heap.size, 0, none⟩)], .func (.func 61) #[] #[.pointer (some ⟨w.heap.size, 0, none⟩)], .func (.func 63) #[] #[.pointer (some ⟨w.heap.size, 0, none⟩)], .func (.func 64) #[] #[.pointer (some ⟨w.heap.size, 0, none⟩)], .func (.func 65) #[] #[.pointer (some ⟨w.heap.size, 0, none⟩)]] : Array Value)[j]? = some v → X.cell? ⟨w.heap.size + 1 + 1 + 1, j, none⟩ = some v) := Lib.hid fun X hX j v hv => by
    have h := (hX.block _ (Array.getElem?_eq_some_iff.1 t4).1).trans t4
    simp only [World.cell?, h]
    exact hv
  have HIs := Lib.hid (show (Tryz.prog.info? 72).map (·.size) = some U.size by rw [hU]; exact infoDl17)
  have HLt : Hid (w.heap.size + 1 + 1 + 1 < W4.heap.size) := Lib.hid (Array.getElem?_eq_some_iff.1 t4).1
  have HW := Lib.hid hW4
  have HB0 := Lib.hid (Below.refl W4.heap.size W4)
  have HBw : Hid (∀ X, Below W4.heap.size W4 X → Below w.heap.size w X) := Lib.hid fun X hX => HB4.out.trans (hX.mono HB4.out.size)
  rw [← hU]
  clear hW4 t1 t2 t3 t4 hM hU HB4
  go_enter Tryz.func24, Tryz.ntmps24
  go_wp2_with fail
  rw [← HW.out]
  clear HW
  go_loopw [22, 7] (fun i _ wr => ∃ j : Nat, j ≤ 11 ∧ i = .int .i64 (j : Int) ∧ Hid (∀ q, q < j → DH l d q) ∧ Hid (Below W4.heap.size W4 wr)) (fun i _ _ => 11 - (RowKit.intOf i).toNat)
  case atStart => exact ⟨0, Nat.zero_le _, rfl, Lib.hid (fun q hq => by omega), HB0⟩
  case round =>
    clear HB0
    obtain ⟨j, hj, rfl, HR, HB⟩ := hrel
    by_cases hlt : j < 11
    · have b1 : (j : Int) < 11 := by omega
      have hDM := HDM.out.below HB.out
      have HNo : Hid (¬ DH l d j → ∀ X, Below wr.heap.size wr X → CP (.returned (.bool false)) X) := Lib.hid fun h X hX => HN.out (fun h2 => h (dh_of h2 j)) X (HBw.out X (HB.out.trans (hX.mono HB.out.size)))
      have HSt : Hid (DH l d j → ∀ q, q < j + 1 → DH l d q) := Lib.hid fun h q hq => by
        by_cases e : q = j
        · subst e; exact h
        · exact HR.out q (by omega)
      have HBz : Hid (∀ X, Below wr.heap.size wr X → Below W4.heap.size W4 X) := Lib.hid fun X hX => HB.out.trans (hX.mono HB.out.size)
      have hbf : w.heap.size + 1 + 1 + 1 < wr.heap.size := Nat.lt_of_lt_of_le HLt.out HB.out.size
      rcases (show j = 0 ∨ j = 1 ∨ j = 2 ∨ j = 3 ∨ j = 4 ∨ j = 5 ∨ j = 6 ∨ j = 7 ∨ j = 8 ∨ j = 9 ∨ j = 10 by omega) with hv | hv | hv | hv | hv | hv | hv | hv | hv | hv | hv
      · have hc : wr.cell? ⟨w.heap.size + 1 + 1 + 1, j, none⟩ = some (.func (.func 54) #[] #[.pointer (some ⟨w.heap.size, 0, none⟩)]) := HFs.out wr HB.out j _ (by rw [hv]; rfl)
        have HC : Hid (Calls Tryz.prog 54 #[.pointer (some ⟨w.heap.size, 0, none⟩)] wr fun e w' => BoolQ (DH l d j) wr e w') := Lib.hid (by rw [hv]; exact cl0_m hDM hz)
        clear hv hDM HFs
        go_wp2_with fail
        refine HC.out.mono ?_
        rintro e w2 ⟨r, rfl, hr, hb⟩
        have HR2 := Lib.hid hr
        have HB2 := Lib.hid hb
        clear hr hb HC
        cases r with
        | false =>
          have HX := Lib.hid (HNo.out (fun h => by have := HR2.out.2 h; cases this) w2 HB2.out)
          clear HNo HSt HN HY HR2
          go_wp2_with fail
          first
            | exact HX.out
            | (go_ret; exact HX.out)
        | true =>
          have HX := Lib.hid (HSt.out (HR2.out.1 rfl))
          have HB3 := Lib.hid (HBz.out w2 HB2.out)
          clear HNo HSt HN HY HR2
          go_wp2_with fail
          go_roundw
          case rel => exact ⟨j + 1, by omega, by go_num, HX, HB3⟩
          case measure => simp [RowKit.intOf] <;> omega
      · have hc : wr.cell? ⟨w.heap.size + 1 + 1 + 1, j, none⟩ = some (.func (.func 55) #[] #[.pointer (some ⟨w.heap.size, 0, none⟩), .pointer (some ⟨w.heap.size + 1 + 1, 0, none⟩)]) := HFs.out wr HB.out j _ (by rw [hv]; rfl)
        have HC : Hid (Calls Tryz.prog 55 #[.pointer (some ⟨w.heap.size, 0, none⟩), .pointer (some ⟨w.heap.size + 1 + 1, 0, none⟩)] wr fun e w' => BoolQ (DH l d j) wr e w') := Lib.hid (by rw [hv]; exact cl1_m hDM hz)
        clear hv hDM HFs
        go_wp2_with fail
        refine HC.out.mono ?_
        rintro e w2 ⟨r, rfl, hr, hb⟩
        have HR2 := Lib.hid hr
        have HB2 := Lib.hid hb
        clear hr hb HC
        cases r with
        | false =>
          have HX := Lib.hid (HNo.out (fun h => by have := HR2.out.2 h; cases this) w2 HB2.out)
          clear HNo HSt HN HY HR2
          go_wp2_with fail
          first
            | exact HX.out
            | (go_ret; exact HX.out)
        | true =>
          have HX := Lib.hid (HSt.out (HR2.out.1 rfl))
          have HB3 := Lib.hid (HBz.out w2 HB2.out)
          clear HNo HSt HN HY HR2
          go_wp2_with fail
          go_roundw
          case rel => exact ⟨j + 1, by omega, by go_num, HX, HB3⟩
          case measure => simp [RowKit.intOf] <;> omega
      · have hc : wr.cell? ⟨w.heap.size + 1 + 1 + 1, j, none⟩ = some (.func (.func 56) #[] #[.pointer (some ⟨w.heap.size + 1 + 1, 0, none⟩), .pointer (some ⟨w.heap.size, 0, none⟩)]) := HFs.out wr HB.out j _ (by rw [hv]; rfl)
        have HC : Hid (Calls Tryz.prog 56 #[.pointer (some ⟨w.heap.size + 1 + 1, 0, none⟩), .pointer (some ⟨w.heap.size, 0, none⟩)] wr fun e w' => BoolQ (DH l d j) wr e w') := Lib.hid (by rw [hv]; exact cl2_m hDM hz)
        clear hv hDM HFs
        go_wp2_with fail
        refine HC.out.mono ?_
        rintro e w2 ⟨r, rfl, hr, hb⟩
        have HR2 := Lib.hid hr
        have HB2 := Lib.hid hb
        clear hr hb HC
        cases r with
        | false =>
          have HX := Lib.hid (HNo.out (fun h => by have := HR2.out.2 h; cases this) w2 HB2.out)
          clear HNo HSt HN HY HR2
          go_wp2_with fail
          first
            | exact HX.out
            | (go_ret; exact HX.out)
        | true =>
          have HX := Lib.hid (HSt.out (HR2.out.1 rfl))
          have HB3 := Lib.hid (HBz.out w2 HB2.out)
          clear HNo HSt HN HY HR2
          go_wp2_with fail
          go_roundw
          case rel => exact ⟨j + 1, by omega, by go_num, HX, HB3⟩
          case measure => simp [RowKit.intOf] <;> omega
      · have hc : wr.cell? ⟨w.heap.size + 1 + 1 + 1, j, none⟩ = some (.func (.func 57) #[] #[.pointer (some ⟨w.heap.size + 1 + 1, 0, none⟩), .pointer (some ⟨w.heap.size, 0, none⟩), .pointer (some ⟨w.heap.size + 1, 0, none⟩)]) := HFs.out wr HB.out j _ (by rw [hv]; rfl)
        have HC : Hid (Calls Tryz.prog 57 #[.pointer (some ⟨w.heap.size + 1 + 1, 0, none⟩), .pointer (some ⟨w.heap.size, 0, none⟩), .pointer (some ⟨w.heap.size + 1, 0, none⟩)] wr fun e w' => BoolQ (DH l d j) wr e w') := Lib.hid (by rw [hv]; exact cl3_m hDM hz)
        clear hv hDM HFs
        go_wp2_with fail
        refine HC.out.mono ?_
        rintro e w2 ⟨r, rfl, hr, hb⟩
        have HR2 := Lib.hid hr
        have HB2 := Lib.hid hb
        clear hr hb HC
        cases r with
        | false =>
          have HX := Lib.hid (HNo.out (fun h => by have := HR2.out.2 h; cases this) w2 HB2.out)
          clear HNo HSt HN HY HR2
          go_wp2_with fail
          first
            | exact HX.out
            | (go_ret; exact HX.out)
        | true =>
          have HX := Lib.hid (HSt.out (HR2.out.1 rfl))
          have HB3 := Lib.hid (HBz.out w2 HB2.out)
          clear HNo HSt HN HY HR2
          go_wp2_with fail
          go_roundw
          case rel => exact ⟨j + 1, by omega, by go_num, HX, HB3⟩
          case measure => simp [RowKit.intOf] <;> omega
      · have hc : wr.cell? ⟨w.heap.size + 1 + 1 + 1, j, none⟩ = some (.func (.func 58) #[] #[.pointer (some ⟨w.heap.size, 0, none⟩), .pointer (some ⟨w.heap.size + 1 + 1, 0, none⟩)]) := HFs.out wr HB.out j _ (by rw [hv]; rfl)
        have HC : Hid (Calls Tryz.prog 58 #[.pointer (some ⟨w.heap.size, 0, none⟩), .pointer (some ⟨w.heap.size + 1 + 1, 0, none⟩)] wr fun e w' => BoolQ (DH l d j) wr e w') := Lib.hid (by rw [hv]; exact cl4_m hDM hz)
        clear hv hDM HFs
        go_wp2_with fail
        refine HC.out.mono ?_
        rintro e w2 ⟨r, rfl, hr, hb⟩
        have HR2 := Lib.hid hr
        have HB2 := Lib.hid hb
        clear hr hb HC
        cases r with
        | false =>
          have HX := Lib.hid (HNo.out (fun h => by have := HR2.out.2 h; cases this) w2 HB2.out)
          clear HNo HSt HN HY HR2
          go_wp2_with fail
          first
            | exact HX.out
            | (go_ret; exact HX.out)
        | true =>
          have HX := Lib.hid (HSt.out (HR2.out.1 rfl))
          have HB3 := Lib.hid (HBz.out w2 HB2.out)
          clear HNo HSt HN HY HR2
          go_wp2_with fail
          go_roundw
          case rel => exact ⟨j + 1, by omega, by go_num, HX, HB3⟩
          case measure => simp [RowKit.intOf] <;> omega
      · have hc : wr.cell? ⟨w.heap.size + 1 + 1 + 1, j, none⟩ = some (.func (.func 59) #[] #[.pointer (some ⟨w.heap.size, 0, none⟩), .pointer (some ⟨w.heap.size + 1 + 1, 0, none⟩)]) := HFs.out wr HB.out j _ (by rw [hv]; rfl)
        have HC : Hid (Calls Tryz.prog 59 #[.pointer (some ⟨w.heap.size, 0, none⟩), .pointer (some ⟨w.heap.size + 1 + 1, 0, none⟩)] wr fun e w' => BoolQ (DH l d j) wr e w') := Lib.hid (by rw [hv]; exact cl5_m hDM hz)
        clear hv hDM HFs
        go_wp2_with fail
        refine HC.out.mono ?_
        rintro e w2 ⟨r, rfl, hr, hb⟩
        have HR2 := Lib.hid hr
        have HB2 := Lib.hid hb
        clear hr hb HC
        cases r with
        | false =>
          have HX := Lib.hid (HNo.out (fun h => by have := HR2.out.2 h; cases this) w2 HB2.out)
          clear HNo HSt HN HY HR2
          go_wp2_with fail
          first
            | exact HX.out
            | (go_ret; exact HX.out)
        | true =>
          have HX := Lib.hid (HSt.out (HR2.out.1 rfl))
          have HB3 := Lib.hid (HBz.out w2 HB2.out)
          clear HNo HSt HN HY HR2
          go_wp2_with fail
          go_roundw
          case rel => exact ⟨j + 1, by omega, by go_num, HX, HB3⟩
          case measure => simp [RowKit.intOf] <;> omega
      · have hc : wr.cell? ⟨w.heap.size + 1 + 1 + 1, j, none⟩ = some (.func (.func 60) #[] #[.pointer (some ⟨w.heap.size, 0, none⟩)]) := HFs.out wr HB.out j _ (by rw [hv]; rfl)
        have HC : Hid (Calls Tryz.prog 60 #[.pointer (some ⟨w.heap.size, 0, none⟩)] wr fun e w' => BoolQ (DH l d j) wr e w') := Lib.hid (by rw [hv]; exact cl6_m hDM hz)
        clear hv hDM HFs
        go_wp2_with fail
        refine HC.out.mono ?_
        rintro e w2 ⟨r, rfl, hr, hb⟩
        have HR2 := Lib.hid hr
        have HB2 := Lib.hid hb
        clear hr hb HC
        cases r with
        | false =>
          have HX := Lib.hid (HNo.out (fun h => by have := HR2.out.2 h; cases this) w2 HB2.out)
          clear HNo HSt HN HY HR2
          go_wp2_with fail
          first
            | exact HX.out
            | (go_ret; exact HX.out)
        | true =>
          have HX := Lib.hid (HSt.out (HR2.out.1 rfl))
          have HB3 := Lib.hid (HBz.out w2 HB2.out)
          clear HNo HSt HN HY HR2
          go_wp2_with fail
          go_roundw
          case rel => exact ⟨j + 1, by omega, by go_num, HX, HB3⟩
          case measure => simp [RowKit.intOf] <;> omega
      · have hc : wr.cell? ⟨w.heap.size + 1 + 1 + 1, j, none⟩ = some (.func (.func 61) #[] #[.pointer (some ⟨w.heap.size, 0, none⟩)]) := HFs.out wr HB.out j _ (by rw [hv]; rfl)
        have HC : Hid (Calls Tryz.prog 61 #[.pointer (some ⟨w.heap.size, 0, none⟩)] wr fun e w' => BoolQ (DH l d j) wr e w') := Lib.hid (by rw [hv]; exact cl7_m hDM hz)
        clear hv hDM HFs
        go_wp2_with fail
        refine HC.out.mono ?_
        rintro e w2 ⟨r, rfl, hr, hb⟩
        have HR2 := Lib.hid hr
        have HB2 := Lib.hid hb
        clear hr hb HC
        cases r with
        | false =>
          have HX := Lib.hid (HNo.out (fun h => by have := HR2.out.2 h; cases this) w2 HB2.out)
          clear HNo HSt HN HY HR2
          go_wp2_with fail
          first
            | exact HX.out
            | (go_ret; exact HX.out)
        | true =>
          have HX := Lib.hid (HSt.out (HR2.out.1 rfl))
          have HB3 := Lib.hid (HBz.out w2 HB2.out)
          clear HNo HSt HN HY HR2
          go_wp2_with fail
          go_roundw
          case rel => exact ⟨j + 1, by omega, by go_num, HX, HB3⟩
          case measure => simp [RowKit.intOf] <;> omega
      · have hc : wr.cell? ⟨w.heap.size + 1 + 1 + 1, j, none⟩ = some (.func (.func 63) #[] #[.pointer (some ⟨w.heap.size, 0, none⟩)]) := HFs.out wr HB.out j _ (by rw [hv]; rfl)
        have HC : Hid (Calls Tryz.prog 63 #[.pointer (some ⟨w.heap.size, 0, none⟩)] wr fun e w' => BoolQ (DH l d j) wr e w') := Lib.hid (by rw [hv]; exact cl8_m hDM hz)
        clear hv hDM HFs
        go_wp2_with fail
        refine HC.out.mono ?_
        rintro e w2 ⟨r, rfl, hr, hb⟩
        have HR2 := Lib.hid hr
        have HB2 := Lib.hid hb
        clear hr hb HC
        cases r with
        | false =>
          have HX := Lib.hid (HNo.out (fun h => by have := HR2.out.2 h; cases this) w2 HB2.out)
          clear HNo HSt HN HY HR2
          go_wp2_with fail
          first
            | exact HX.out
            | (go_ret; exact HX.out)
        | true =>
          have HX := Lib.hid (HSt.out (HR2.out.1 rfl))
          have HB3 := Lib.hid (HBz.out w2 HB2.out)
          clear HNo HSt HN HY HR2
          go_wp2_with fail
          go_roundw
          case rel => exact ⟨j + 1, by omega, by go_num, HX, HB3⟩
          case measure => simp [RowKit.intOf] <;> omega
      · have hc : wr.cell? ⟨w.heap.size + 1 + 1 + 1, j, none⟩ = some (.func (.func 64) #[] #[.pointer (some ⟨w.heap.size, 0, none⟩)]) := HFs.out wr HB.out j _ (by rw [hv]; rfl)
        have HC : Hid (Calls Tryz.prog 64 #[.pointer (some ⟨w.heap.size, 0, none⟩)] wr fun e w' => BoolQ (DH l d j) wr e w') := Lib.hid (by rw [hv]; exact cl9_m hDM hz)
        clear hv hDM HFs
        go_wp2_with fail
        refine HC.out.mono ?_
        rintro e w2 ⟨r, rfl, hr, hb⟩
        have HR2 := Lib.hid hr
        have HB2 := Lib.hid hb
        clear hr hb HC
        cases r with
        | false =>
          have HX := Lib.hid (HNo.out (fun h => by have := HR2.out.2 h; cases this) w2 HB2.out)
          clear HNo HSt HN HY HR2
          go_wp2_with fail
          first
            | exact HX.out
            | (go_ret; exact HX.out)
        | true =>
          have HX := Lib.hid (HSt.out (HR2.out.1 rfl))
          have HB3 := Lib.hid (HBz.out w2 HB2.out)
          clear HNo HSt HN HY HR2
          go_wp2_with fail
          go_roundw
          case rel => exact ⟨j + 1, by omega, by go_num, HX, HB3⟩
          case measure => simp [RowKit.intOf] <;> omega
      · have hc : wr.cell? ⟨w.heap.size + 1 + 1 + 1, j, none⟩ = some (.func (.func 65) #[] #[.pointer (some ⟨w.heap.size, 0, none⟩)]) := HFs.out wr HB.out j _ (by rw [hv]; rfl)
        have HC : Hid (Calls Tryz.prog 65 #[.pointer (some ⟨w.heap.size, 0, none⟩)] wr fun e w' => BoolQ (DH l d j) wr e w') := Lib.hid (by rw [hv]; exact cl10_m hDM hz)
        clear hv hDM HFs
        go_wp2_with fail
        refine HC.out.mono ?_
        rintro e w2 ⟨r, rfl, hr, hb⟩
        have HR2 := Lib.hid hr
        have HB2 := Lib.hid hb
        clear hr hb HC
        cases r with
        | false =>
          have HX := Lib.hid (HNo.out (fun h => by have := HR2.out.2 h; cases this) w2 HB2.out)
          clear HNo HSt HN HY HR2
          go_wp2_with fail
          first
            | exact HX.out
            | (go_ret; exact HX.out)
        | true =>
          have HX := Lib.hid (HSt.out (HR2.out.1 rfl))
          have HB3 := Lib.hid (HBz.out w2 HB2.out)
          clear HNo HSt HN HY HR2
          go_wp2_with fail
          go_roundw
          case rel => exact ⟨j + 1, by omega, by go_num, HX, HB3⟩
          case measure => simp [RowKit.intOf] <;> omega
    · have b1 : ¬ (j : Int) < 11 := by omega
      obtain rfl : j = 11 := by omega
      have HX := Lib.hid (HY.out (dh_all HR.out) wr (HBw.out wr HB.out))
      clear HN HY HR HFs
      go_wp2_with fail
      first
        | exact HX.out
        | (go_ret; exact HX.out)
end Go.Proofs.YtchkdidpnjakeaaGreatDoor
namespace Go.Proofs.YtchkdidpnjakeaaGreatDoor
open Go.RowKit Go.Maps Go.Lib Led
set_option linter.unusedVariables false
set_option maxRecDepth 100000

def zeroDlA : Array Value := #[.string ⟨#[]⟩, .string ⟨#[]⟩, .string ⟨#[]⟩, .string ⟨#[]⟩, .string ⟨#[]⟩, .string ⟨#[]⟩, .string ⟨#[]⟩, .string ⟨#[]⟩, .string ⟨#[]⟩, .string ⟨#[]⟩, .int .i64 0, .slice none 0 0, .int .i64 0, .int .i64 0, .int .i64 0, .int .i64 0, .int .i64 0]
theorem dlA_allC (d : Dl) (A : Option Addr) (c : Nat) : (dlA d A c).all (·.oneCell') = true := by simp [dlA, Value.oneCell']
theorem setRow_lowM (X : World) (rb : Nat) (V : Array Value) {B : Nat} (h : B ≤ rb) : Below B X (X.setRow rb V) := ⟨rfl, rfl, rfl, by simp [World.setRow], fun k hk => setRow_other _ _ _ _ (by omega)⟩
set_option maxHeartbeats 8000000 in
theorem copyDeal_t {w : World} {d : Dl} {A : Option Addr} {c : Nat} (hX : Bxs w w.heap.size A d.box) (hd : d.box.length ≤ 100000000) (hl : ∀ b ∈ d.box, b.l.length ≤ 100000000) :
    Calls Tryz.prog 143 #[.agg (dlA d A c)] w fun e w' => ∃ A' c', e = .returned (.agg (dlA d A' c')) ∧ Below w.heap.size w w' := by
  obtain ⟨U, hU⟩ : ∃ U, dlA d A c = U := ⟨_, rfl⟩
  obtain ⟨w1, hw1⟩ : ∃ w1, w1 = w.alloc (.cells U 72) := ⟨_, rfl⟩
  obtain ⟨W2, hW2⟩ : ∃ W2, W2 = w1.alloc (.cells zeroDlA 72) := ⟨_, rfl⟩
  have hs1 : w1.heap.size = w.heap.size + 1 := by rw [hw1]; simp
  have hb1 : Below w.heap.size w w1 := by rw [hw1]; exact (Below.refl _ _).alloc (Nat.le_refl _) _
  have hb12 : Below w1.heap.size w1 W2 := by rw [hW2]; exact (Below.refl _ _).alloc (Nat.le_refl _) _
  have hb2 : Below w.heap.size w W2 := hb1.trans (hb12.mono hb1.size)
  have hblk : W2.heap[w.heap.size]? = some (.cells (dlA d A c) 72 (0, 0)) := by
    rw [hb12.block _ (by omega), hw1, hU]
    exact heap_alloc_new _ _
  have hrs : W2.heap[w.heap.size + 1]? = some (.cells zeroDlA 72 (0, 0)) := by rw [hW2, ← hs1]; exact heap_alloc_new _ _
  have hzl : w.heap.size + 1 < W2.heap.size := (Array.getElem?_eq_some_iff.1 hrs).1
  have z11 : W2.cell? ⟨w.heap.size, 11, none⟩ = some (.slice A d.box.length c) := by simp [World.cell?, hblk, dlA]
  have hzl0 : w.heap.size < W2.heap.size := by omega
  have HRs := Lib.hid hrs
  have HCl : Hid (Calls Tryz.prog 45 #[.slice A d.box.length c] W2 fun e w' => ∃ A2 c2, e = .returned (.slice A2 d.box.length c2) ∧ Hid (LpI w (w'.setCell ⟨w.heap.size, 11, none⟩ (.slice A2 d.box.length c2)) d A2 c2 0) ∧ Hid ((w'.setCell ⟨w.heap.size, 11, none⟩ (.slice A2 d.box.length c2)).heap[w.heap.size + 1]? = some (.cells zeroDlA 72 (0, 0))) ∧ w'.cell? ⟨w.heap.size, 11, none⟩ = some (.slice A d.box.length c) ∧ w'.frozen? ⟨w.heap.size, 11, none⟩ = false ∧ w.heap.size < w'.heap.size) := Lib.hid (by
    refine (cloneBx c hb2 (hX.kept hb2) hd).mono ?_
    rintro e w' ⟨A2, c2, rfl, h1, h2⟩
    have hq := (h2.block _ hzl0).trans hblk
    refine ⟨A2, c2, rfl, Lib.hid (LpI.start h1 hq), Lib.hid ?_, by simp [World.cell?, hq, dlA], by simp [World.frozen?, hq], Nat.lt_of_lt_of_le hzl0 h2.size⟩
    rw [heap_setCell_other _ _ _ _ (show w.heap.size + 1 ≠ w.heap.size by omega)]
    exact (h2.block _ hzl).trans hrs)
  have HLw := Lib.hid hl
  have HW : Hid ((w.alloc (.cells U 72)).alloc (.cells #[.string ⟨#[]⟩, .string ⟨#[]⟩, .string ⟨#[]⟩, .string ⟨#[]⟩, .string ⟨#[]⟩, .string ⟨#[]⟩, .string ⟨#[]⟩, .string ⟨#[]⟩, .string ⟨#[]⟩, .string ⟨#[]⟩, .int .i64 0, .slice none 0 0, .int .i64 0, .int .i64 0, .int .i64 0, .int .i64 0, .int .i64 0] 72) = W2) := Lib.hid (by rw [hW2, hw1]; rfl)
  have HIb : Hid (∀ (A : Option Addr) (c : Nat), (Tryz.prog.info? 72).map (·.size) = some (dlA d A c).toList.length) := Lib.hid fun A c => infoDl17
  have HIs : Hid (∀ (A : Option Addr) (c : Nat), (Tryz.prog.info? 72).map (·.size) = some (dlA d A c).size) := Lib.hid fun A c => infoDl17
  have HUi := Lib.hid (show (Tryz.prog.info? 72).map (·.size) = some U.size by rw [← hU]; exact infoDl17)
  have HB2 := Lib.hid hb2
  rw [hU]
  clear hU hw1 hW2 hs1 hb1 hb12 hb2 hblk hrs hX hl
  go_enter Tryz.func143, Tryz.ntmps143
  go_upto_region 1 with fail
  rw [HW.out]
  clear HW
  go_wp2_with (first | (go_at_call 45; refine HCl.out.mono ?_; rintro e w3 ⟨A2, c2, rfl, HL0, HR0, q11, qf, ql⟩; clear z11 hzl0) | fail)
  have HJ0 : Hid (LpI w (w3.setCell ⟨w.heap.size, 11, none⟩ (.slice A2 d.box.length c2)) d A2 c2 0 ∧ (w3.setCell ⟨w.heap.size, 11, none⟩ (.slice A2 d.box.length c2)).heap[w.heap.size + 1]? = some (.cells zeroDlA 72 (0, 0))) := Lib.hid ⟨HL0.out, HR0.out⟩
  clear HL0 HR0 q11 qf ql HCl
  go_loopw [11, 3] (fun i _ wx => ∃ j : Nat, j ≤ d.box.length ∧ i = .int .i64 (j : Int) ∧ Hid (LpI w wx d A2 c2 j ∧ wx.heap[w.heap.size + 1]? = some (.cells zeroDlA 72 (0, 0)))) (fun i _ _ => d.box.length - (RowKit.intOf i).toNat)
  case atStart => exact ⟨0, Nat.zero_le _, rfl, HJ0⟩
  case round =>
    clear HJ0
    obtain ⟨j, hj, rfl, HL⟩ := hrel
    have hcellz := HL.out.1.cell
    have hzlr := HL.out.1.zlt
    have z11 : wr.cell? ⟨w.heap.size, 11, none⟩ = some (.slice A2 d.box.length c2) := by simp [World.cell?, hcellz, dlA]
    by_cases hlj : j < d.box.length
    · have b3 : (j : Int) < (d.box.length : Int) := by omega
      obtain ⟨g2, L, rfl, hzg, hCb⟩ : ∃ g L, A2 = some ⟨g, 0, none⟩ ∧ w.heap.size ≠ g ∧ Cb w wr g c2 j d.box L := by
        rcases HL.out.1.box with ⟨_, h2⟩ | h
        · rw [h2] at hlj; exact absurd hlj (by simp)
        · exact h
      have hlL : j < L.length := by rw [hCb.len]; exact hlj
      obtain ⟨x2, f2⟩ := hCb.at_ hlL
      obtain ⟨y, hy⟩ : ∃ y : Bp, L[j] = y := ⟨_, rfl⟩
      have hyg : L[j]? = some y := by rw [List.getElem?_eq_getElem hlL, hy]
      have hyx : y.x ∈ d.box := by rw [← hCb.pts]; exact List.mem_map.2 ⟨y, List.mem_of_getElem? hyg, rfl⟩
      rw [hy] at x2
      have hgl := hCb.glt
      obtain ⟨bcs, bfr, hbb⟩ := hCb.blk
      have hg1 : g2 ≠ w.heap.size + 1 := fun e => by
        rw [e, HL.out.2] at hbb
        injection hbb with hbb
        injection hbb with _ hbb
        revert hbb
        decide
      have HR : Hid (∀ Y, Below wr.heap.size wr Y → Calls Tryz.prog 46 #[.slice y.A y.x.l.length y.c] Y fun e w' => ∃ A3 c3, e = .returned (.slice A3 y.x.l.length c3) ∧ Hid (LpI w (w'.setCell ⟨g2, j * 3 + 2, none⟩ (.slice A3 y.x.l.length c3)) d (some ⟨g2, 0, none⟩) c2 (j + 1) ∧ (w'.setCell ⟨g2, j * 3 + 2, none⟩ (.slice A3 y.x.l.length c3)).heap[w.heap.size + 1]? = some (.cells zeroDlA 72 (0, 0))) ∧ w'.cell? ⟨w.heap.size, 11, none⟩ = some (.slice (some ⟨g2, 0, none⟩) d.box.length c2) ∧ w'.cell? ⟨g2, j * 3 + 2, none⟩ = some (.slice y.A y.x.l.length y.c) ∧ w'.frozen? ⟨g2, j * 3 + 2, none⟩ = false ∧ g2 < w'.heap.size ∧ w.heap.size < w'.heap.size) := Lib.hid fun Y hY => by
        have hCY := hCb.below hY
        refine (cloneLt y.c (hCY.old j y hyg (Nat.le_refl _)).1 (HLw.out _ hyx)).mono ?_
        rintro e w' ⟨A3, c3, rfl, h1, h2, h3⟩
        have hbw := hY.trans (h3.mono hY.size)
        have hst := HL.out.1.step hzg hCb hlL (A' := A3) (c' := c3) hbw (by rw [hy]; exact h1) h2
        rw [hy] at hst
        have hz := (hbw.block _ hzlr).trans hcellz
        have hz1 := (Array.getElem?_eq_some_iff.1 HL.out.2).1
        refine ⟨A3, c3, rfl, Lib.hid ⟨hst, ?_⟩, by simp [World.cell?, hz, dlA], (hbw.cell (p := ⟨g2, j * 3 + 2, none⟩) hgl.2).trans x2, (hbw.frozen (p := ⟨g2, j * 3 + 2, none⟩) hgl.2).trans f2, Nat.lt_of_lt_of_le hgl.2 hbw.size, Nat.lt_of_lt_of_le hzlr hbw.size⟩
        rw [heap_setCell_other _ _ _ _ (show w.heap.size + 1 ≠ g2 from fun e => hg1 e.symm)]
        exact (hbw.block _ hz1).trans HL.out.2
      have hgl2 := hgl.2
      clear HL hCb hlL hy hyg hyx hgl hcellz hbb hg1
      generalize y.x.l.length = yl at *
      go_upto_region 5 with fail
      go_region_with (first | (go_at_call 46; refine (HR.out _ (by first | exact (Below.refl _ _).drew | exact Below.refl _ _)).mono ?_; rintro e w5 ⟨A3, c3, rfl, HL5, q11, q2, qf2, ql2, ql7⟩))
      all_goals
        clear HR x2 f2 z11
        go_wp2_with fail
        go_roundw
        case rel => exact ⟨j + 1, by omega, by go_num, HL5⟩
        case measure => simp [RowKit.intOf] <;> omega
    · have b3 : ¬ (j : Int) < (d.box.length : Int) := by omega
      have HRg := Lib.hid (show wr.rangeAt w.heap.size 0 (dlA d A2 c2).toList from fun j v hv => by
        show wr.cell? ⟨w.heap.size, 0 + j, none⟩ = some v
        rw [Nat.zero_add, World.cell?, hcellz]
        simpa using hv)
      have HR1 := Lib.hid HL.out.2
      have HBl := Lib.hid HL.out.1.bel
      have HSr := Lib.hid (setRow_heap wr (w.heap.size + 1) zeroDlA (dlA d A2 c2) 72 (0, 0) HL.out.2)
      have HBf : Hid (Below w.heap.size w (wr.setRow (w.heap.size + 1) (dlA d A2 c2))) := Lib.hid (HL.out.1.bel.trans (setRow_lowM wr _ _ (by omega)))
      clear HL hcellz z11
      go_wp2_with (first
        | (refine wpList_load_mid rfl 72 (.tmp 1) rfl w.heap.size 0 rfl (dlA d A2 c2).toList _ HRg.out Tryz.underlying72 rfl (HIb.out A2 c2) ?_)
        | (refine wpList_store_row rfl 72 (.tmp 2) (.tmp 27) rfl (w.heap.size + 1) (dlA d A2 c2) rfl rfl 72 zeroDlA HR1.out (HIs.out A2 c2) rfl (dlA_allC d A2 c2) ?_)
        | fail)
      refine bodyPost_ret (results_cell_row rfl _ _ (w.heap.size + 1) 72 (dlA d A2 c2) (0, 0) _ (by rfl) HSr.out Tryz.underlying72 rfl (HIs.out A2 c2)) rfl ?_
      first
        | exact ⟨⟨A2, c2, rfl⟩, HBf.out⟩
        | exact ⟨A2, c2, rfl, HBf.out⟩
end Go.Proofs.YtchkdidpnjakeaaGreatDoor
