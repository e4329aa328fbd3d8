/- ledger.Holds: the map's holds, each once, in some order. -/
import Derived.Test.YtooeelaobmhifaaGreatDoorCIns
import Derived.Test.YtooeelaobmhifaaGreatDoorMCmp
import Derived.Test.YtooeelaobmhifaaGreatDoorCRefP
import Derived.Test.YtooeelaobmhifaaGreatDoorMZ
namespace Go.Proofs.YtooeelaobmhifaaGreatDoor
open Go.RowKit Go.Maps Go.Lib Go.Shelf
set_option linter.unusedVariables false
set_option maxRecDepth 100000

set_option maxHeartbeats 1000000 in
theorem sortFunc_small (w : World) (g c : Nat) (xs : List Hd) (hR : HRow w w g xs) (hl : xs.length ≤ 12) :
    Calls Tryz.prog 50 #[.slice (some ⟨g, 0, none⟩) xs.length c, .func (.func 32) #[] #[]] w fun e w' => (∃ v, e = .returned v) ∧ ∃ ys, ys.Perm xs ∧ HRow w w' g ys := by
  have hl' : (xs.length : Int) ≤ 12 := by omega
  have HR := Lib.hid hR
  go_enter Tryz.func50, Tryz.ntmps50
  go_wp2_with (first
    | (go_at_call 60; refine (Tryz.bits_Len (xs.length : Nat) _ (by omega) (by omega)).mono ?_; rintro e w' ⟨rfl, rfl⟩; generalize Lib.bitLen _ = lim)
    | (go_at_call 62; refine (pdq_small _ g c xs lim HR.out hl).mono ?_; rintro e w' ⟨⟨v, rfl⟩, ys, hP, hY⟩)
    | go_in)
  go_end0
  exact ⟨⟨_, rfl⟩, ys, hP, hY⟩
set_option maxHeartbeats 1000000 in
theorem insertion_nil (w : World) :
    Calls Tryz.prog 77 #[.slice none 0 0, .int .i64 0, .int .i64 0, .func (.func 32) #[] #[]] w fun e w' => (∃ v, e = .returned v) ∧ w' = w := by
  go_enter Tryz.func77, Tryz.ntmps77
  go_wp2_with fail
  go_loopw [8] (fun i wr => i = .int .i64 1 ∧ wr = w) (fun i _ => 0)
  case atStart => exact ⟨rfl, rfl⟩
  case round =>
    obtain ⟨rfl, rfl⟩ := hrel
    go_wp2
    go_end0
    exact ⟨⟨_, rfl⟩, rfl⟩
set_option maxHeartbeats 1000000 in
theorem pdq_nil (w : World) (lim : Int) :
    Calls Tryz.prog 62 #[.slice none 0 0, .int .i64 0, .int .i64 0, .int .i64 lim, .func (.func 32) #[] #[]] w fun e w' => (∃ v, e = .returned v) ∧ w' = w := by
  go_enter Tryz.func62, Tryz.ntmps62
  go_wp2_with fail
  go_loopw [1, 2] (fun a b wr => a = .int .i64 0 ∧ b = .int .i64 0 ∧ wr = w) (fun _ _ _ => 0)
  case atStart => exact ⟨rfl, rfl, rfl⟩
  case round =>
    obtain ⟨rfl, rfl, rfl⟩ := hrel
    go_wp2_with (first
      | (go_at_call 77; refine (insertion_nil wr).mono ?_; rintro e w' ⟨⟨v, rfl⟩, rfl⟩)
      | go_in)
    refine bodyPost_ret (results_none rfl _ _ _) rfl ?_
    exact ⟨⟨_, rfl⟩, rfl⟩
set_option maxHeartbeats 1000000 in
theorem sortFunc_nil (w : World) :
    Calls Tryz.prog 50 #[.slice none 0 0, .func (.func 32) #[] #[]] w fun e w' => (∃ v, e = .returned v) ∧ w' = w := by
  go_enter Tryz.func50, Tryz.ntmps50
  go_wp2_with (first
    | (go_at_call 60; refine (Tryz.bits_Len 0 _ (by omega) (by omega)).mono ?_; rintro e w' ⟨rfl, rfl⟩; generalize Lib.bitLen _ = lim)
    | (go_at_call 62; refine (pdq_nil _ lim).mono ?_; rintro e w' ⟨⟨v, rfl⟩, rfl⟩)
    | go_in)
  go_end0
  exact ⟨⟨_, rfl⟩, rfl⟩

theorem hdCells_get : ∀ (xs : List Hd) (i j : Nat) (h : Hd), xs[i]? = some h → j < 4 → (hdCells xs)[i * 4 + j]? = h.cells[j]?
  | [], i, j, h, hx, _ => by simp at hx
  | x :: xs, 0, j, h, hx, hj => by
    simp at hx
    subst hx
    have : hdCells (x :: xs) = x.cells ++ hdCells xs := by simp [hdCells]
    rw [this, Nat.zero_mul, Nat.zero_add, List.getElem?_append_left (by simpa [Hd.cells] using hj)]
  | x :: xs, i + 1, j, h, hx, hj => by
    have : hdCells (x :: xs) = x.cells ++ hdCells xs := by simp [hdCells]
    have hc : x.cells.length = 4 := rfl
    rw [this, List.getElem?_append_right (by rw [hc]; omega), hc, show (i + 1) * 4 + j - 4 = i * 4 + j by omega]
    exact hdCells_get xs i j h (by simpa using hx) hj
theorem HRow.of_row {w : World} {base : Nat} {v : Value} {xs : List Hd} (h : w.ownsRow base 56 4 v xs.length (hdCells xs)) : (v = .slice none 0 0 ∧ xs = []) ∨ ∃ g cap, v = .slice (some ⟨g, 0, none⟩) xs.length cap ∧ base ≤ g ∧ HRow w w g xs := by
  rcases h.2 with ⟨h1, h2⟩ | ⟨g, cap, cur, h1, h2, h3, h4, h5, h6, h7⟩
  · exact .inl ⟨h1, List.length_eq_zero_iff.1 h2⟩
  · refine .inr ⟨g, cap, h1, h2, ⟨rfl, rfl, rfl, Nat.le_refl _, fun _ _ _ => rfl⟩, (Array.getElem?_eq_some_iff.1 h3).1, ?_, ?_⟩
    · have hc : ∀ (i j : Nat) (x : Hd) (u : Value), xs[i]? = some x → j < 4 → x.cells[j]? = some u → w.cell? ⟨g, i * 4 + j, none⟩ = some u := by
        intro i j x u hx hj hu
        have e1 := hdCells_get xs i j x hx hj
        rw [hu, ← h7] at e1
        have hi := (List.getElem?_eq_some_iff.1 hx).1
        rw [List.getElem?_take, if_pos (by omega)] at e1
        have e2 : cur[i * 4 + j]? = some u := by simpa using e1
        simp [World.cell?, h3, e2]
      intro i x hx
      exact ⟨hc i 0 x _ hx (by omega) rfl, hc i 1 x _ hx (by omega) rfl, hc i 2 x _ hx (by omega) rfl, hc i 3 x _ hx (by omega) rfl⟩
    · intro j
      simp [World.frozen?, h3]
theorem HRow.rh {w0 w : World} {g : Nat} {xs : List Hd} (h : HRow w0 w g xs) : Rh w w.heap.size (some ⟨g, 0, none⟩) xs := fun _ =>
  ⟨g, 0, rfl, Nat.lt_of_lt_of_le h.lt h.kp.size, fun i x hx => by simpa using h.at_ i x hx⟩
theorem ValsOf.few {F : ByteArray → Option Hd} {xs : List Hd} (h : ValsOf F xs) {ids : List ByteArray} (hF : ∀ k, (F k).isSome = true → k ∈ ids) : xs.length ≤ ids.length := by
  obtain ⟨ks, h1, h2, h3, h4⟩ := h
  have e : ks.length = xs.length := by simpa using congrArg List.length h4
  rw [← e]
  exact h1.length_le_of_subset fun k hk => hF k ((h3 k (h2 k hk)).1 hk)

set_option maxHeartbeats 1000000 in
theorem sortedFunc_any (w : World) (Bm b nn : Nat) (F : ByteArray → Option Hd) (ids : List ByteArray) (hBm : Bm < w.heap.size) (hm : w.cell? ⟨Bm, 0, none⟩ = some (.map (some b))) (hown : Mp curC hdE w b nn F) (hN : nn ≤ 1000000) (hF : ∀ k, (F k).isSome = true → k ∈ ids) (hids : ids.length ≤ 12) :
    Calls Tryz.prog 30 #[.func (.func 51) #[] #[.pointer (some ⟨Bm, 0, none⟩)], .func (.func 32) #[] #[]] w fun e w' => ∃ A c hs xs, e = .returned (.slice A (List.length hs) c) ∧ ValsOf F xs ∧ List.Perm hs xs ∧ hs.length ≤ 12 ∧ Rh w' w'.heap.size A hs ∧ Below w.heap.size w w' := by
  have Hw := Lib.hid hown
  go_enter Tryz.func30, Tryz.ntmps30
  go_wp2_with fail
  refine (collect_values w Bm b nn F hBm hm hown hN).mono ?_
  rintro e w1 ⟨v, xs, rfl, hV, hxl, hrow, hb1⟩
  have hx12 : xs.length ≤ 12 := Nat.le_trans (hV.few hF) hids
  have HV := Lib.hid hV
  have HB := Lib.hid hb1
  rcases HRow.of_row hrow with ⟨rfl, rfl⟩ | ⟨g, cap, rfl, hg, hR⟩
  · clear hrow hown hV hb1 hm
    go_wp2_with (first
      | (go_at_call 50; refine (sortFunc_nil _).mono ?_; rintro e w' ⟨⟨v, rfl⟩, rfl⟩)
      | go_in)
    go_ret
    exact ⟨none, 0, [], [], rfl, HV.out, List.Perm.refl _, by simp, fun h => by simp at h, HB.out⟩
  · have HR := Lib.hid hR
    have hs1 := HB.out.size
    clear hrow hown hV hb1 hm hR
    go_wp2_with (first
      | (go_at_call 50; refine (sortFunc_small _ g cap xs HR.out hx12).mono ?_; rintro e w' ⟨⟨v, rfl⟩, ys, hP, hY⟩)
      | go_in)
    go_ret
    refine ⟨some ⟨g, 0, none⟩, cap, ys, xs, (by rw [hP.length_eq]; rfl), HV.out, hP, by rw [hP.length_eq]; exact hx12, hY.rh, HB.out.trans (hY.kp.below hs1 (fun k e => by rw [e]; exact hg))⟩
set_option maxHeartbeats 1000000 in
theorem ledgerHolds_any (w : World) (p b h n m : Nat) (G : Nt → Option Ac) (pv : Value) (F : ByteArray → Option Hd) (ids : List ByteArray) (hL : Lh w p b h n m G pv F) (hN : m ≤ 1000000) (hF : ∀ k, (F k).isSome = true → k ∈ ids) (hids : ids.length ≤ 12) :
    Calls Tryz.prog 14 #[.pointer (some ⟨p, 0, none⟩)] w fun e w' => ∃ A c hs xs, e = .returned (.slice A (List.length hs) c) ∧ ValsOf F xs ∧ List.Perm hs xs ∧ hs.length ≤ 12 ∧ Rh w' w'.heap.size A hs ∧ Below w.heap.size w w' := by
  have hc := hL.lg.c2
  have HM := Lib.hid (hL.hs.alloc (.cells #[.map (some h)] 46))
  have hb := (Below.refl w.heap.size w).alloc (Nat.le_refl _) (.cells #[.map (some h)] 46)
  have HB := Lib.hid hb
  have hBox := (Boxed.new w 46 (.map (some h))).cell
  have HC := Lib.hid hBox
  clear hb hBox
  go_enter Tryz.func14, Tryz.ntmps14
  go_wp2_with (first
    | (go_at_call 31; refine (values_any h _).mono ?_; rintro e w' ⟨rfl, rfl⟩)
    | (go_at_call 30; refine (sortedFunc_any _ w.heap.size h m F ids (by simp) HC.out HM.out hN hF hids).mono ?_; rintro e w' ⟨A, c, hs, xs, rfl, hV, hP, hl, hR, hb⟩)
    | go_in)
  go_ret
  exact ⟨A, c, hs, xs, rfl, hV, hP, hl, hR, HB.out.trans (hb.mono (by simp))⟩
end Go.Proofs.YtooeelaobmhifaaGreatDoor
