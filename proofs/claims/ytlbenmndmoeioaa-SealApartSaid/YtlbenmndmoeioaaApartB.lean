/- SealApart where the note is one: the walk. -/
import Derived.Test.YtlbenmndmoeioaaApart
namespace Go.Proofs.Ytlbenmndmoeioaa
open Go.RowKit Go.Maps

theorem Ny.setCell {w : World} {p b : Nat} {L : List Nt} (h : Ny w p b L) {q : Addr} (hp : p ≠ q.block) (hb : b ≠ q.block) (u : Value) : Ny (w.setCell q u) p b L :=
  ⟨by rw [RowKit.Below.heap_setCell _ _ _ _ hp]; exact h.cell, h.own.setCell hb u, h.nodup, h.small⟩

theorem has_one (x y : Nt) : hasN [x] y = decide (x = y) := by simp [hasN]
theorem eqB_sub (s t : ByteArray) (h : s.size ≠ t.size) : eqB s t = false := by
  rw [eqB_false]; rintro rfl; exact h rfl

set_option maxHeartbeats 2000000 in
set_option maxRecDepth 100000 in
theorem apart_yes (a t o v : ByteArray) (k : Nat) (w : World) (ha : a.size ≤ 100) (ht : t.size ≤ 4096) (ho : o.size ≤ 100) (hv : v.size ≤ 5000) (h1 : k ≤ 15) (hn : nameB a.data.toList = true)
    (c : UInt8) (hc : (((signB a t).data.toList.getD k 0).toNat = 48 ∧ c = 49) ∨ (((signB a t).data.toList.getD k 0).toNat ≠ 48 ∧ c = 48)) (eo : Bool) (heo : eqB o a = eo) (ev : Bool) (hev : eqB v t = ev) :
    Calls Try.prog 6 #[.string a, .string t, .string o, .string v, .int .i64 k] w fun e w' => e = .returned (.bool true) ∧ Below w.heap.size w w' := by
  have hok : okN (a, t) = true := by simp [okN, hn, ht]
  have hsz := signB_size a t
  have Hsg := Lib.hid (show sgnN (a, t) = signB a t by simp [sgnN, hok])
  have Hpt := Lib.hid (show putN [] (a, t) = [(a, t)] by simp [putN, hok, hasN])
  have Hh := Lib.hid (show hasN [(a, t)] (a, t) = true by simp [hasN])
  have Hne := Lib.hid (setB_ne (signB a t) k c (by omega) (by rcases hc with ⟨h, rfl⟩ | ⟨h, rfl⟩ <;> (intro e; rw [e] at h; revert h; decide)))
  clear hok
  go_enter Try.func6, Try.ntmps6
  go_wp2_with fail
  refine (awake_any _).mono ?_
  rintro e w1 ⟨rfl, hb1⟩
  go_wp2_with fail
  refine (new_any _).mono ?_
  rintro e w2 ⟨rfl, hN2, hb2, hs2⟩
  have Hs2 := Lib.hid hs2
  clear hs2
  go_wp2_with fail
  refine (notarySign_any (a, t) _ _ _ _ hN2 (by simpa using ha) (by simp; omega) (by decide)).mono ?_
  rintro e w3 ⟨rfl, hN3, hg3⟩
  rw [Hsg.out]
  rw [Hpt.out] at hN3
  have b2 := Lib.hid (hb1.trans (hb2.mono hb1.size))
  have b3 := Lib.hid (show Below w.heap.size w w3 from b2.out.grown hg3 b2.out.size (fun j hj => by cases hj; exact hb1.size))
  have hq : w1.heap.size + 1 < w3.heap.size := hN3.plt
  have hq2 : w1.heap.size < w3.heap.size := hN3.blt
  generalize hp : w1.heap.size + 1 = p at *
  generalize hbb : w1.heap.size = b at *
  clear hp hbb hb1 hb2 hg3 hN2
  go_wp2_with fail
  refine (refName_any a _ (by unfold maxLen; omega)).mono ?_
  rintro e w' ⟨rfl, rfl⟩
  go_wp2_with fail
  refine (holds_any (a, t) _ _ _ _ _ hN3 (by simp; omega) (by simp; omega)).mono ?_
  rintro e w4 ⟨rfl, hb4⟩
  rw [Hh.out, eqB_self]
  have hN4 := hN3.below hb4 hN3.plt hN3.blt
  have b4 := Lib.hid (b3.out.trans (hb4.mono b3.out.size))
  obtain ⟨cp, w5, hto, hcell, hb5, hs5⟩ := to_bytes w4 (signB a t)
  have hN5 := hN4.below hb5 hN4.plt hN4.blt
  obtain ⟨hck, hfk⟩ := hcell k (by omega)
  have hN6 := hN5.setCell (q := ⟨w4.heap.size, k, none⟩) (by have := hN4.plt; simp; omega) (by have := hN4.blt; simp; omega) (.int .u8 (c.toNat : Int))
  have hfr := from_bytes (w5.setCell ⟨w4.heap.size, k, none⟩ (.int .u8 (c.toNat : Int))) w4.heap.size cp (signB a t) k c (by
    intro i hi
    by_cases e : i = k
    · subst e
      rw [World.cell?_setCell_same _ _ _ (by rw [hck])]
      rw [List.getD_eq_getElem?_getD, List.getElem?_set_self (by simpa using hi)]
      rfl
    · rw [World.cell?_setCell_other _ _ _ _ (by intro h; injection h with _ h; exact e h.symm), (hcell i hi).1]
      rw [List.getD_eq_getElem?_getD, List.getD_eq_getElem?_getD, List.getElem?_set_ne (fun h => e h.symm)])
  have b5 := Lib.hid (b4.out.trans (hb5.mono b4.out.size))
  have b6 := Lib.hid (b5.out.setCell (p := ⟨w4.heap.size, k, none⟩) b4.out.size (.int .u8 (c.toNat : Int)))
  have hN6' := Lib.hid hN6
  have Hs5 := Lib.hid hs5
  clear hs5 hcell hN5 hN6 hN4 hN3 hb4 hb5
  rw [hsz] at hto hfr
  generalize (signB a t).data.toList.getD k 0 = d at *
  generalize hsn : signB a t = s at *
  have Hsn := Lib.hid hsn
  clear hsn
  have Hz0 := Lib.hid (show eqB s ⟨#[]⟩ = false from eqB_sub _ _ (by rw [hsz]; decide))
  have Hz1 := Lib.hid (show eqB s (s ++ ByteArray.mk #[48]) = false from eqB_sub _ _ (by rw [ByteArray.size_append, hsz]; decide))
  have Ho := Lib.hid (show eo = false → hasN [(a, t)] (o, t) = false from fun h => by
    rw [has_one]; simp; intro e; rw [h, eqB_false] at heo; exact heo e.symm)
  have Hv := Lib.hid (show ev = false → hasN [(a, t)] (a, v) = false from fun h => by
    rw [has_one]; simp; intro e; rw [h, eqB_false] at hev; exact hev e.symm)
  have Hc := Lib.hid (show eo = false → cntN [(a, t)] o = 0 from fun h => by
    have : eqB a o = false := by rw [eqB_false]; intro e; rw [h, eqB_false] at heo; exact heo e.symm
    simp [cntN, this])
  have Heo := Lib.hid heo
  have Hev := Lib.hid hev
  clear heo hev
  rcases hc with ⟨hc, rfl⟩ | ⟨hc, rfl⟩
  all_goals
    first
      | have hd : ((d.toNat : Int) == 48) = true := by simp; omega
      | have hd : ((d.toNat : Int) == 48) = false := by simp; omega
    clear hc
    first
      | (have ec : ((UInt8.toNat 49 : Nat) : Int) = 49 := rfl
         simp only [ec] at hfr hN6' b6
         clear ec)
      | (have ec : ((UInt8.toNat 48 : Nat) : Int) = 48 := rfl
         simp only [ec] at hfr hN6' b6
         clear ec)
    go_wp2_with fail
    refine (holds_any (a, t) _ _ _ _ _ hN6'.out (by simp; omega) (by simp; omega)).mono ?_
    rintro e w7 ⟨rfl, hb7⟩
    simp only [Hh.out, Hsn.out, Hne.out]
    have hN7 := hN6'.out.below hb7 hN6'.out.plt hN6'.out.blt
    have b7 := Lib.hid (b6.out.trans (hb7.mono b6.out.size))
    clear hb7 hfr hto hck hfk hN6' b6 b5
    go_wp2_with fail
    refine (holds_any (a, t) _ _ _ _ _ hN7 (by simp; omega) (by simp; omega)).mono ?_
    rintro e w8 ⟨rfl, hb8⟩
    simp only [Hh.out, Hsn.out, Hz1.out]
    have hN8 := hN7.below hb8 hN7.plt hN7.blt
    have b8 := Lib.hid (b7.out.trans (hb8.mono b7.out.size))
    clear hb8
    go_wp2_with fail
    refine (holds_any (a, t) _ _ _ _ _ hN8 (by simp; omega) (by simp; omega)).mono ?_
    rintro e w9 ⟨rfl, hb9⟩
    simp only [Hh.out, Hsn.out, Hz0.out]
    have hN9 := hN8.below hb9 hN8.plt hN8.blt
    have b9 := Lib.hid (b8.out.trans (hb9.mono b8.out.size))
    clear hb9 hd
    have ho' := Heo.out
    have hv' := Hev.out
    unfold eqB at ho' hv'
    cases eo
    · cases ev
      · go_wp2_with fail
        refine (holds_any (o, t) _ _ _ _ _ hN9 (by simp; omega) (by simp; omega)).mono ?_
        rintro e w10 ⟨rfl, hb10⟩
        simp only [Ho.out trivial]
        have hN10 := hN9.below hb10 hN9.plt hN9.blt
        have b10 := Lib.hid (b9.out.trans (hb10.mono b9.out.size))
        clear hb10
        go_wp2_with fail
        refine (holds_any (a, v) _ _ _ _ _ hN10 (by simp; omega) (by simp; omega)).mono ?_
        rintro e w11 ⟨rfl, hb11⟩
        simp only [Hv.out trivial]
        have hN11 := hN10.below hb11 hN10.plt hN10.blt
        have b11 := Lib.hid (b10.out.trans (hb11.mono b10.out.size))
        clear hb11
        go_wp2_with fail
        refine (count_any o _ _ _ _ hN11 (by simp)).mono ?_
        rintro e w12 ⟨rfl, hb12⟩
        rw [Hc.out trivial]
        go_wp2
        go_ret
        exact ⟨rfl, b11.out.trans (hb12.mono b11.out.size)⟩
      · go_wp2_with fail
        refine (holds_any (o, t) _ _ _ _ _ hN9 (by simp; omega) (by simp; omega)).mono ?_
        rintro e w10 ⟨rfl, hb10⟩
        simp only [Ho.out trivial]
        have hN10 := hN9.below hb10 hN9.plt hN9.blt
        have b10 := Lib.hid (b9.out.trans (hb10.mono b9.out.size))
        clear hb10
        go_wp2_with fail
        refine (count_any o _ _ _ _ hN10 (by simp)).mono ?_
        rintro e w12 ⟨rfl, hb12⟩
        rw [Hc.out trivial]
        go_wp2
        go_ret
        exact ⟨rfl, b10.out.trans (hb12.mono b10.out.size)⟩
    · cases ev
      · go_wp2_with fail
        refine (holds_any (a, v) _ _ _ _ _ hN9 (by simp; omega) (by simp; omega)).mono ?_
        rintro e w11 ⟨rfl, hb11⟩
        simp only [Hv.out trivial]
        go_wp2
        go_ret
        exact ⟨rfl, b9.out.trans (hb11.mono b9.out.size)⟩
      · go_wp2_with fail
        go_ret
        exact ⟨rfl, b9.out⟩
end Go.Proofs.Ytlbenmndmoeioaa
