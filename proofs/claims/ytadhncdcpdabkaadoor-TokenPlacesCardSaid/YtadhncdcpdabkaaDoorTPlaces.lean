/- TokenPlaces: the walk. -/
import Derived.Test.YtadhncdcpdabkaaDoorTAwake
namespace Go.Proofs.YtadhncdcpdabkaaDoor
open Go.RowKit Go.Lib
set_option linter.unusedVariables false

/-- how many bytes a token takes -/
def szT (k : Nat) (tx : ByteArray) : Nat := if k = 3 then tx.size + 2 else tx.size
theorem shown_len (t : Tok) : (shown t).length = szT t.kind ⟨t.text.toArray⟩ := by
  unfold shown szT
  split <;> simp [ByteArray.size]
theorem drop_split {L b x r : Bs} {e : Nat} (h : L.drop e = b ++ (x ++ r)) : L.drop (e + b.length) = x ++ r ∧ L.drop (e + b.length + x.length) = r := by
  constructor
  · rw [← List.drop_drop, h, List.drop_left]
  · rw [← List.drop_drop, ← List.drop_drop, h, List.drop_left, List.drop_left]
theorem place_step {s : ByteArray} {T : List Tok} {k e : Nat} (h : Scanned k e (s.data.toList.drop e) (T.drop k)) (hk : k < T.length) (he : e ≤ s.size) :
    e ≤ T[k].place ∧ T[k].place + szT T[k].kind ⟨T[k].text.toArray⟩ ≤ s.size ∧ 1 ≤ szT T[k].kind ⟨T[k].text.toArray⟩ ∧ (∀ j, e ≤ j → j < T[k].place → ∀ h : j < s.size, blank s[j] = true) ∧
    (s.extract T[k].place (T[k].place + szT T[k].kind ⟨T[k].text.toArray⟩)).data.toList = shown T[k] ∧ Scanned (k + 1) (T[k].place + szT T[k].kind ⟨T[k].text.toArray⟩) (s.data.toList.drop (T[k].place + szT T[k].kind ⟨T[k].text.toArray⟩)) (T.drop (k + 1)) := by
  rw [List.drop_eq_getElem_cons hk] at h
  generalize hl : s.data.toList.drop e = l at h
  generalize T[k] = t at *
  cases h with
  | tok _ _ kd b x r tx p _ hb hn hp hs hr =>
    obtain ⟨d1, d2⟩ := drop_split hl
    have hx := piece_shown hp (e + b.length)
    have hx1 := (piece_kind hp).2
    have hsz := shown_len ⟨kd, e + b.length, tx⟩
    rw [← hx] at hsz
    simp only at hsz ⊢
    rw [← hsz]
    have hlen := congrArg List.length hl
    simp at hlen
    refine ⟨by omega, by omega, hx1, ?_, ?_, ?_⟩
    · intro j hj1 hj2 hj
      have : s[j] ∈ b := by
        have e1 : (s.data.toList.drop e)[j - e]? = some s[j] := by
          rw [List.getElem?_drop, show e + (j - e) = j by omega, List.getElem?_eq_getElem (by simpa using hj)]; rfl
        rw [hl, List.getElem?_append_left (by omega)] at e1
        exact List.mem_of_getElem? e1
      exact hb _ this
    · rw [ByteArray.data_extract, Array.toList_extract, List.extract_eq_take_drop, d1, ← hx, Nat.add_sub_cancel_left, List.take_left]
    · rw [d2]; exact hr

theorem ext_plain {x tx : ByteArray} {t : Tok} (h : x.data.toList = shown t) (hk : t.kind ≠ 3) (ht : (⟨t.text.toArray⟩ : ByteArray) = tx) : x = tx := by
  subst ht
  rw [ba_eq, h]
  unfold shown
  rw [if_neg hk]
theorem ext_quote {x tx : ByteArray} {t : Tok} (h : x.data.toList = shown t) (hk : t.kind = 3) (ht : (⟨t.text.toArray⟩ : ByteArray) = tx) : x = ⟨#[34]⟩ ++ tx ++ ⟨#[34]⟩ := by
  subst ht
  rw [ba_eq, h]
  unfold shown
  rw [if_pos hk]
  simp [ByteArray.data_append]
set_option maxHeartbeats 4000000 in
set_option maxRecDepth 100000 in
theorem places_main (s : ByteArray) (w : World) (hW : Wd w) (hs : s.size ≤ 3000) :
    Calls Tryd.prog 5 #[.string s] w fun e w' => e = .returned (.bool true) ∧ Below w.heap.size w w' := by
  go_enter Tryd.func5, Tryd.ntmps5
  go_wp2_with fail
  refine (awake_any _ hW).mono ?_
  rintro e w1 ⟨rfl, hb1⟩
  go_wp2_with fail
  refine (scan_any s _ (hW.all hb1) (by omega)).mono ?_
  rintro e w2 ⟨hb2, hp⟩
  have H := Lib.hid (below_trans' (Nat.le_refl _) hb1 hb2)
  clear hb1 hb2
  rcases hp with ⟨T, A, c, hT, rfl, hR⟩ | ⟨a, er, hE, rfl⟩
  · have HS := Lib.hid (scan_scanned hT)
    have hTl := (scan_scanned hT).count.1
    have hTl' : s.data.toList.length = s.size := by simp
    rw [hTl'] at hTl
    clear hT hTl'
    go_wp2_with fail
    go_loop [6, 7] (fun en i => ∃ k e : Nat, k ≤ T.length ∧ e ≤ s.size ∧ i = .int .i64 k ∧ en = .int .i64 e ∧ Hid (Scanned k e (s.data.toList.drop e) (T.drop k))) (fun _ i => T.length - (intOf i).toNat)
    case atStart => exact ⟨0, 0, Nat.zero_le _, Nat.zero_le _, rfl, rfl, by simpa using HS⟩
    case round =>
      obtain ⟨k, e, hk, he, rfl, rfl, HK⟩ := hrel
      by_cases hlt : k < T.length
      · obtain ⟨p1, p2, p3, p4, p5, p6⟩ := place_step HK.out hlt he
        obtain ⟨g, off, rfl, hg, c0, c1, c2⟩ := hR.at_ hlt
        have P4 := Lib.hid p4
        have P5 := Lib.hid p5
        have P6 := Lib.hid p6
        clear p4 p5 p6 HK
        have hk0 : (0 : Int) ≤ (k : Int) := by omega
        have hk1 : (k : Int) < (T.length : Int) := by omega
        generalize hkd : T[k].kind = kd at *
        generalize hpl : T[k].place = pl at *
        generalize htx : (⟨T[k].text.toArray⟩ : ByteArray) = tx at *
        by_cases h3 : kd = 3
        · have e3 : ((kd : Int) == 3) = true := by simp; omega
          have n3 : ((kd : Int) != 3) = false := by simp; omega
          have hz : szT kd tx = tx.size + 2 := by unfold szT; rw [if_pos h3]
          rw [hz] at p2 p3 P5 P6
          have q1 : (e : Int) ≤ (pl : Int) := by omega
          have q2 : (pl : Int) + ((tx.size : Int) + 2) ≤ (s.size : Int) := by omega
          have HX := Lib.hid (show s.extract pl (pl + (tx.size + 2)) = ⟨#[34]⟩ ++ tx ++ ⟨#[34]⟩ from ext_quote P5.out (by rw [hkd]; exact h3) htx)
          clear hz h3 hkd hpl htx P5
          go_wp2_with fail
          go_loop [9] (fun x => ∃ j : Nat, e ≤ j ∧ j ≤ pl ∧ x = .int .i64 j) (fun x => pl - (intOf x).toNat)
          case atStart => exact ⟨e, Nat.le_refl _, by omega, rfl⟩
          case round =>
            obtain ⟨j, hj1, hj2, rfl⟩ := hrel
            by_cases hjl : j < pl
            · have hjs : j < s.size := by omega
              have hbl := P4.out j hj1 hjl hjs
              rw [blank_nat] at hbl
              simp at hbl
              rcases hbl with hbl | hbl
              · have b1 : ((s[j].toNat : Int) != 32) = false := by simp; omega
                clear hbl
                go_wp2_with fail
                go_round
                case rel => exact ⟨j + 1, by omega, by omega, by go_num⟩
                case measure => simp [intOf]; omega
              · have b1 : ((s[j].toNat : Int) != 32) = true := by simp; omega
                have b2 : ((s[j].toNat : Int) != 10) = false := by simp; omega
                clear hbl
                go_wp2_with fail
                go_round
                case rel => exact ⟨j + 1, by omega, by omega, by go_num⟩
                case measure => simp [intOf]; omega
            · obtain rfl : pl = j := by omega
              have hxe := HX.out
              go_wp2_with fail
              go_round
              case rel => exact ⟨k + 1, pl + (tx.size + 2), by omega, by omega, by go_num, by go_num, P6⟩
              case measure => simp [intOf]; omega
        · have e3 : ((kd : Int) == 3) = false := by simp; omega
          have n3 : ((kd : Int) != 3) = true := by simp; omega
          have hz : szT kd tx = tx.size := by unfold szT; rw [if_neg h3]
          rw [hz] at p2 p3 P5 P6
          have q1 : (e : Int) ≤ (pl : Int) := by omega
          have q2 : (pl : Int) + (tx.size : Int) ≤ (s.size : Int) := by omega
          have q3 : (1 : Int) ≤ (tx.size : Int) := by omega
          have HX := Lib.hid (show s.extract pl (pl + tx.size) = tx from ext_plain P5.out (by rw [hkd]; exact h3) htx)
          clear hz h3 hkd hpl htx P5
          go_wp2_with fail
          go_loop [9] (fun x => ∃ j : Nat, e ≤ j ∧ j ≤ pl ∧ x = .int .i64 j) (fun x => pl - (intOf x).toNat)
          case atStart => exact ⟨e, Nat.le_refl _, by omega, rfl⟩
          case round =>
            obtain ⟨j, hj1, hj2, rfl⟩ := hrel
            by_cases hjl : j < pl
            · have hjs : j < s.size := by omega
              have hbl := P4.out j hj1 hjl hjs
              rw [blank_nat] at hbl
              simp at hbl
              rcases hbl with hbl | hbl
              · have b1 : ((s[j].toNat : Int) != 32) = false := by simp; omega
                clear hbl
                go_wp2_with fail
                go_round
                case rel => exact ⟨j + 1, by omega, by omega, by go_num⟩
                case measure => simp [intOf]; omega
              · have b1 : ((s[j].toNat : Int) != 32) = true := by simp; omega
                have b2 : ((s[j].toNat : Int) != 10) = false := by simp; omega
                clear hbl
                go_wp2_with fail
                go_round
                case rel => exact ⟨j + 1, by omega, by omega, by go_num⟩
                case measure => simp [intOf]; omega
            · obtain rfl : pl = j := by omega
              have hxe := HX.out
              go_wp2_with fail
              go_round
              case rel => exact ⟨k + 1, pl + tx.size, by omega, by omega, by go_num, by go_num, P6⟩
              case measure => simp [intOf]; omega
      · go_wp2_with fail
        go_ret
        exact ⟨rfl, H.out⟩
  · have hn := scan_error hE
    have hc : ((er : Int) != 0) = true := by simp; omega
    clear hE
    go_wp2_with fail
    go_ret
    exact ⟨rfl, H.out⟩

set_option maxHeartbeats 400000 in
theorem places_any (s : ByteArray) (w : World) (hW : Wd w) (hl : s.size ≤ maxLen) :
    Calls Tryd.prog 5 #[.string s] w fun e w' => e = .returned (.bool true) ∧ Below w.heap.size w w' := by
  by_cases hs : s.size ≤ 3000
  · exact places_main s w hW hs
  · simp only [maxLen] at hl
    have h3 : (3000 : Int) < (s.size : Int) := by omega
    go_enter Tryd.func5, Tryd.ntmps5
    go_wp2_with fail
    refine (awake_any _ hW).mono ?_
    rintro e w1 ⟨rfl, hb1⟩
    go_wp2_with fail
    go_ret
    exact ⟨rfl, hb1⟩
end Go.Proofs.YtadhncdcpdabkaaDoor
