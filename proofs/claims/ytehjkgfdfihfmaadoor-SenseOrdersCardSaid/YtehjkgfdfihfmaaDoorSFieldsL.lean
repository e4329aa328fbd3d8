/- The law SenseFields' walk. -/
import Derived.Test.YtehjkgfdfihfmaaDoorSAwake
import Derived.Test.YtehjkgfdfihfmaaDoorSKind
import Derived.Test.YtehjkgfdfihfmaaDoorSType
import Derived.Test.YtehjkgfdfihfmaaDoorSField
namespace Go.Proofs.YtehjkgfdfihfmaaDoor
open Go.RowKit Go.Maps Go.Lib
set_option linter.unusedVariables false
set_option maxRecDepth 100000

/-- the last kind of the name among the first ones -/
def lastK (s : ByteArray) : Nat → Int × Bool
  | 0 => (0, false)
  | k + 1 => if ((kindB k).toList == s.toList) = true then ((k : Int), true) else lastK s k
theorem lastK_kind (s : ByteArray) : lastK s 6 = kindOf s := by
  by_cases h : ∃ j, j < 6 ∧ (kindB j).toList = s.toList
  · obtain ⟨j, hj, h⟩ := h
    simp only [lastK, kindOf, findK, ← h]
    simp only [ByteArray.toList_eq]
    match j, hj with
    | 0, _ => rfl
    | 1, _ => rfl
    | 2, _ => rfl
    | 3, _ => rfl
    | 4, _ => rfl
    | 5, _ => rfl
  · have n : ∀ j, j < 6 → ((kindB j).toList == s.toList) = false := fun j hj => by
      rw [beq_eq_false_iff_ne]
      exact fun e => h ⟨j, hj, e⟩
    simp [lastK, kindOf, findK, n 0 (by omega), n 1 (by omega), n 2 (by omega), n 3 (by omega), n 4 (by omega), n 5 (by omega)]
def names6 : Array Value := #[.string ⟨#[105, 110, 118, 111, 105, 99, 101]⟩, .string ⟨#[112, 97, 99, 107, 105, 110, 103]⟩, .string ⟨#[108, 97, 100, 105, 110, 103]⟩, .string ⟨#[105, 110, 115, 117, 114, 97, 110, 99, 101]⟩, .string ⟨#[111, 114, 105, 103, 105, 110]⟩, .string ⟨#[100, 114, 97, 102, 116]⟩]
theorem names_at (W : World) (k : Nat) (hk : k < 6) : (W.alloc (.cells names6 9)).cell? ⟨W.heap.size, k, none⟩ = some (.string (kindB k)) := by
  have e : names6[k]? = some (.string (kindB k)) := by
    match k, hk with
    | 0, _ => rfl
    | 1, _ => rfl
    | 2, _ => rfl
    | 3, _ => rfl
    | 4, _ => rfl
    | 5, _ => rfl
  simp [e]

set_option maxHeartbeats 4000000 in
theorem fieldsLaw_any (kind : Int) (s : ByteArray) (w : World) (hG : Gl w) (hK : Kd w) : Calls Tryd.prog 4 #[.int .i64 kind, .string s] w fun e w' => e = .returned (.bool true) ∧ Below w.heap.size w w' := by
  by_cases hs : 100 < s.size
  · have HA := Lib.hid (awake_any w hG)
    have hs1 : (100 : Int) < (s.size : Int) := by omega
    go_enter Tryd.func4, Tryd.ntmps4
    go_wp2_with (first
      | (go_at_call 6; refine HA.out.mono ?_; rintro e w3 ⟨rfl, hb3⟩; have HB3 := Lib.hid hb3; clear hb3)
      | fail)
    go_ret
    exact ⟨rfl, HB3.out⟩
  · have hs1 : ¬ (100 : Int) < (s.size : Int) := by omega
    have hba : Below w.heap.size w (w.alloc (.cells names6 9)) := (Below.refl _ _).alloc (Nat.le_refl _) _
    have hN := names_at w
    have hKi := kind_any s _ (hK.all hba)
    have HBa := Lib.hid hba
    have hws : (w.alloc (.cells names6 9)).heap.size = w.heap.size + 1 := by simp
    unfold names6 at hN hKi hws HBa
    have HN := Lib.hid hN
    have HKi := Lib.hid hKi
    clear hN hKi hba hK
    have HL := Lib.hid (lastK_kind s)
    go_enter Tryd.func4, Tryd.ntmps4
    go_wp2_with (first
      | (go_at_call 9; refine HKi.out.mono ?_; rintro e w3 ⟨rfl, rfl⟩)
      | fail)
    generalize hW : w.alloc (.cells #[.string ⟨#[105, 110, 118, 111, 105, 99, 101]⟩, .string ⟨#[112, 97, 99, 107, 105, 110, 103]⟩, .string ⟨#[108, 97, 100, 105, 110, 103]⟩, .string ⟨#[105, 110, 115, 117, 114, 97, 110, 99, 101]⟩, .string ⟨#[111, 114, 105, 103, 105, 110]⟩, .string ⟨#[100, 114, 97, 102, 116]⟩] 9) = V at *
    clear hW HKi
    have HGV := Lib.hid (hG.below HBa.out)
    have HG0 := Lib.hid hG
    clear hG
    go_loopw [8, 9, 28] (fun v8 v9 i wr => ∃ k : Nat, k ≤ 6 ∧ i = .int .i64 (k : Int) ∧ v8 = .int .i64 (lastK s k).1 ∧ v9 = .bool (lastK s k).2 ∧ wr = V) (fun _ _ i _ => 6 - (RowKit.intOf i).toNat)
    case atStart => exact ⟨0, by omega, rfl, rfl, rfl, rfl⟩
    case round =>
      obtain ⟨k, hk, rfl, rfl, rfl, rfl⟩ := hrel
      by_cases hlt : k < 6
      · have hlt' : (k : Int) < 6 := by omega
        have hc := HN.out k hlt
        cases hq : ((kindB k).toList == s.toList)
        · have HE : Hid (lastK s (k + 1) = lastK s k) := Lib.hid (by rw [lastK, if_neg (by rw [hq]; simp)])
          generalize kindB k = nk at *
          go_wp2
          go_roundw
          case rel => exact ⟨k + 1, by omega, by go_num, by rw [HE.out], by rw [HE.out], by first | rfl | trivial⟩
          case measure => simp [RowKit.intOf]; omega
        · have HE : Hid (lastK s (k + 1) = ((k : Int), true)) := Lib.hid (by rw [lastK, if_pos hq])
          generalize kindB k = nk at *
          go_wp2
          go_roundw
          case rel => exact ⟨k + 1, by omega, by go_num, by rw [HE.out], by rw [HE.out], by first | rfl | trivial⟩
          case measure => simp [RowKit.intOf]; omega
      · have hlt' : ¬ (k : Int) < 6 := by omega
        obtain ⟨k6, hk6⟩ : ∃ m, m = k := ⟨_, rfl⟩
        have hk' : k = 6 := by omega
        have HE : Hid (lastK s k = kindOf s) := Lib.hid (by rw [hk']; exact HL.out)
        rw [HE.out]
        have hzs := HBa.out.size
        have HV := Lib.hid (value_any s kind wr HGV.out (by omega))
        have HF := Lib.hid (fields_any kind)
        have HRF := Lib.hid (refFields_any kind)
        have hfl := fieldsL_len kind
        have HRV := Lib.hid (fun W => refValue_any s kind W)
        have HTy := Lib.hid (fun W => type_any s W)
        have HRTy := Lib.hid (fun W => refType_any s W)
        have HTx := Lib.hid (fun A1 A2 c1 c2 W h1 h2 => texts_eq (fieldsL kind) A1 A2 c1 c2 W h1 h2 (by omega))
        generalize (kindOf s).1 = kw at *
        generalize (kindOf s).2 = kb at *
        generalize (valB s kind).1 = vv at *
        generalize (valB s kind).2 = vb at *
        generalize typeB s = ty at *
        unfold FieldsSaid at HF HRF
        generalize fieldsL kind = FL at *
        clear HN HL HE hk6 hk' hfl
        go_wp2_with (first
          | (go_at_call 10; refine HV.out.mono ?_; rintro e w3 ⟨rfl, hb3⟩; have hs3 := hb3.size; have HB3 := Lib.hid hb3; clear hb3 HV)
          | (go_at_call 11; refine (HRV.out _).mono ?_; rintro e w4 ⟨rfl, hb4⟩; have hs4 := hb4.size; have HB4 := Lib.hid hb4; clear hb4 HRV)
          | (go_at_call 13; refine (HF.out _).mono ?_; rintro e w5 ⟨A1, c1, rfl, hR1, hb5⟩; have hs5 := hb5.size; have HR1 := Lib.hid hR1; have HB5 := Lib.hid hb5; clear hb5 hR1 HF)
          | (go_at_call 14; refine (HRF.out _).mono ?_; rintro e w6 ⟨A2, c2, rfl, hR2, hb6⟩; have hs6 := hb6.size; have HT := Lib.hid (HTx.out A1 A2 c1 c2 w6 ((HR1.out.below hb6).more hs6) hR2); have HB6 := Lib.hid hb6; clear hb6 hR2 HRF HTx)
          | (go_at_call 12; refine HT.out.mono ?_; rintro e w7 ⟨rfl, hb7⟩; have hs7 := hb7.size; have HB7 := Lib.hid hb7; clear hb7 HT)
          | (go_at_call 15; refine (HTy.out _).mono ?_; rintro e w8 ⟨rfl, hb8⟩; have hs8 := hb8.size; have HB8 := Lib.hid hb8; clear hb8 HTy)
          | (go_at_call 16; refine (HRTy.out _).mono ?_; rintro e w9 ⟨rfl, hb9⟩; have hs9 := hb9.size; have HB9 := Lib.hid (HBa.out.trans ((HB3.out.trans ((HB4.out.trans ((HB5.out.trans ((HB6.out.trans ((HB7.out.trans ((HB8.out.trans (hb9.mono (by omega))).mono (by omega))).mono (by omega))).mono (by omega))).mono (by omega))).mono (by omega))).mono (by omega))); have HAw := Lib.hid (awake_any w9 (HG0.out.below HB9.out)); clear hb9 HRTy)
          | (go_at_call 6; refine HAw.out.mono ?_; rintro e w10 ⟨rfl, hb10⟩; have HB10 := Lib.hid hb10; clear hb10 HAw)
          | fail)
        go_ret
        exact ⟨rfl, HB9.out.trans (HB10.out.mono (by omega))⟩
end Go.Proofs.YtehjkgfdfihfmaaDoor
