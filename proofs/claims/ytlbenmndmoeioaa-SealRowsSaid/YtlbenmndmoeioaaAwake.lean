/- The chapter's example holds: 'awake' answers true. -/
import Derived.Test.YtlbenmndmoeioaaCount
namespace Go.Proofs.Ytlbenmndmoeioaa
open Go.RowKit Go.Maps

def bp : ByteArray := ⟨#[112]⟩
def bq : ByteArray := ⟨#[113]⟩
def bhello : ByteArray := ⟨#[104, 101, 108, 108, 111]⟩

theorem putN_new (L : List Nt) (x : Nt) (h1 : okN x = true) (h2 : hasN L x = false) : putN L x = L ++ [x] := by simp [putN, h1, h2]
theorem ok_ph : okN (bp, bhello) = true := by decide
theorem has_ph : hasN [(bp, bhello)] (bp, bhello) = true := by decide
theorem has_qh : hasN [(bp, bhello)] (bq, bhello) = false := by decide
theorem cnt_p : cntN [(bp, bhello)] bp = 1 := by
  unfold cntN
  simp [eqB_self]
theorem put_ph : putN [] (bp, bhello) = [(bp, bhello)] := by decide
theorem sgn_ph : sgnN (bp, bhello) = signB bp bhello := by simp [sgnN, ok_ph]
theorem signB_size (a b : ByteArray) : (signB a b).size = 16 := digB_size _

set_option maxHeartbeats 400000 in
set_option maxRecDepth 100000 in
theorem awake_any (w : World) : Calls Try.prog 9 #[] w fun e w' => e = .returned (.bool true) ∧ Below w.heap.size w w' := by
  go_enter Try.func9, Try.ntmps9
  go_wp2_with fail
  refine (new_any _).mono ?_
  rintro e w1 ⟨rfl, hN1, hb1, hs1⟩
  have Hs1 := Lib.hid hs1
  clear hs1
  generalize hp : w.heap.size + 1 = p at *
  go_wp2_with fail
  refine (notarySign_any (bp, bhello) _ _ _ _ hN1 (by decide) (by decide) (by decide)).mono ?_
  rintro e w2 ⟨rfl, hN2, hg2⟩
  rw [sgn_ph]
  rw [put_ph] at hN2
  have hsz := signB_size bp bhello
  go_wp2_with fail
  refine (holds_any (bp, bhello) _ _ _ _ _ hN2 (by decide) (by decide)).mono ?_
  rintro e w3 ⟨rfl, hb3⟩
  rw [has_ph, eqB_self]
  have hN3 := hN2.below hb3 hN2.plt hN2.blt
  go_wp2_with fail
  refine (holds_any (bq, bhello) _ _ _ _ _ hN3 (by decide) (by decide)).mono ?_
  rintro e w4 ⟨rfl, hb4⟩
  rw [has_qh]
  have hN4 := hN3.below hb4 hN3.plt hN3.blt
  go_wp2_with fail
  refine (count_any bp _ _ _ _ hN4 (by decide)).mono ?_
  rintro e w5 ⟨rfl, hb5⟩
  rw [cnt_p]
  go_wp2
  go_ret
  have b2 : Below w.heap.size w w2 := hb1.grown hg2 hb1.size (fun j hj => by cases hj; exact Nat.le_refl _)
  have b3 := b2.trans (hb3.mono b2.size)
  have b4 := b3.trans (hb4.mono b3.size)
  exact ⟨rfl, b4.trans (hb5.mono b4.size)⟩

set_option maxHeartbeats 400000 in
set_option maxRecDepth 100000 in
theorem sealDigests_any (s : ByteArray) (w : World) (hs : s.size ≤ maxLen) : Calls Try.prog 3 #[.string s] w fun e w' => e = .returned (.bool true) ∧ Below w.heap.size w w' := by
  have hs' := hs
  unfold maxLen at hs'
  by_cases h5 : 5000 < s.size
  · go_enter Try.func3, Try.ntmps3
    go_wp2_with fail
    refine (awake_any _).mono ?_
    rintro e w1 ⟨rfl, hb1⟩
    go_wp2
    go_ret
    exact ⟨rfl, hb1⟩
  · go_enter Try.func3, Try.ntmps3
    go_wp2_with fail
    refine (awake_any _).mono ?_
    rintro e w1 ⟨rfl, hb1⟩
    go_wp2_with fail
    refine (digest_any s _ hs).mono ?_
    rintro e w2 ⟨rfl, hb2⟩
    go_wp2_with fail
    refine (refDigest_any s _ hs).mono ?_
    rintro e w3 ⟨rfl, hb3⟩
    have hz := digB_size s.data.toList
    go_wp2
    go_ret
    have b2 := hb1.trans (hb2.mono hb1.size)
    exact ⟨rfl, b2.trans (hb3.mono b2.size)⟩
end Go.Proofs.Ytlbenmndmoeioaa
