/- law56.awake. -/
import Derived.Test.YtdinloecgaapaaaGreatDoorABanks
import Derived.Test.YtdinloecgaapaaaGreatDoorARemits
namespace Go.Proofs.YtdinloecgaapaaaGreatDoor
open Go.RowKit Go.Maps Go.Lib
set_option linter.unusedVariables false
set_option maxRecDepth 100000

theorem moves_ents (acc : ByteArray) (s : Int) (l : List Pt) : moves acc s l = (l.map Pt.ents).flatMap (movesE acc s) := by
  simp [moves, List.flatMap_map]
theorem moves_pl (acc : ByteArray) (s : Int) (L : List Pl) : moves acc s (L.map Pl.pt) = (L.map fun x => x.pt.ents).flatMap (movesE acc s) := by
  rw [moves_ents]
  simp [List.flatMap_map]
theorem ldg_of {w : World} {base p b n : Nat} {G : Nt → Option Ac} {pv hv : Value} {L : List Pl} (h : Led w base p b n G pv hv L) {E : List (List Ent)} (he : L.map (fun x => x.pt.ents) = E) (hl : E.length ≤ 4096) (hF : ∀ l ∈ E, ∀ e ∈ l, e.Fine) : Ldg w base p L :=
  ⟨⟨b, n, G, pv, hv, h⟩, by rw [← he] at hl; simpa using hl, fun x hx e hxe => hF _ (he ▸ List.mem_map_of_mem (f := fun x : Pl => x.pt.ents) hx) e hxe⟩
def aT : ByteArray := ⟨#[97]⟩
def bT : ByteArray := ⟨#[98]⟩
def sentE : List (List Ent) := paid.map payE
def gotE (first : Int) : List (List Ent) := [two naT yT eurT (-first) first]
theorem fine_two {a1 a2 c : ByteArray} {n m : Int} (h1 : a1.size ≤ 100) (h2 : a2.size ≤ 100) (hc : c.size ≤ 100) (n0 : -32768 ≤ n) (n1 : n ≤ 32768) (m0 : -32768 ≤ m) (m1 : m ≤ 32768) : ∀ e ∈ two a1 a2 c n m, e.Fine := by
  intro e he
  have m100 : 100 ≤ maxLen := by decide
  simp [two] at he
  rcases he with rfl | rfl
  · exact ⟨Nat.le_trans h1 m100, Nat.le_trans hc m100, by simp only; omega, by simp only; omega⟩
  · exact ⟨Nat.le_trans h2 m100, Nat.le_trans hc m100, by simp only; omega, by simp only; omega⟩
theorem sent_fine : ∀ l ∈ sentE, ∀ e ∈ l, e.Fine := by
  intro l hl
  simp [sentE, paid] at hl
  rcases hl with rfl | rfl
  · exact fine_two (by decide) (by decide) (by decide) (by decide) (by decide) (by decide) (by decide)
  · exact fine_two (by decide) (by decide) (by decide) (by decide) (by decide) (by decide) (by decide)
theorem got_fine {first : Int} (f0 : 0 < first) (f1 : first ≤ 1000) : ∀ l ∈ gotE first, ∀ e ∈ l, e.Fine := by
  intro l hl
  simp [gotE] at hl
  subst hl
  exact fine_two (by decide) (by decide) (by decide) (by omega) (by omega) (by omega) (by omega)
theorem tl_iff (a b : ByteArray) : (a.toList == b.toList) = true ↔ a = b := by
  rw [beq_iff_eq]
  constructor
  · intro h
    have h1 : a.data.toList = b.data.toList := by rw [← ByteArray.toList_eq, ← ByteArray.toList_eq]; exact h
    apply ByteArray.ext
    exact Array.ext' h1
  · rintro rfl; rfl
theorem tl_dec (a b : ByteArray) : (a.toList == b.toList) = decide (a = b) := by
  rw [Bool.eq_iff_iff, decide_eq_true_iff]
  exact tl_iff a b
theorem counts_is (acc : ByteArray) (s : Int) (e : Ent) : counts acc s e = (decide (e.acc = acc) && decide (0 < s * e.n)) := by unfold counts; rw [tl_dec]
theorem eqM_is (x y : Mo) : eqM x y = (decide (x.cur = y.cur) && decide (x.n = y.n)) := by unfold eqM; rw [tl_dec]
theorem eqM_self (x : Mo) : eqM x x = true := by rw [eqM_is]; simp
theorem movesE_two (acc : ByteArray) (s : Int) (a1 a2 c : ByteArray) (n m : Int) : movesE acc s (two a1 a2 c n m) = (if counts acc s ⟨a1, c, n⟩ then [⟨c, s * n⟩] else []) ++ (if counts acc s ⟨a2, c, m⟩ then [⟨c, s * m⟩] else []) := by
  unfold movesE two
  cases h1 : counts acc s ⟨a1, c, n⟩ <;> cases h2 : counts acc s ⟨a2, c, m⟩ <;> simp [h1, h2]
theorem vostro_b : vostroT bT = vbT := by apply ByteArray.ext; simp [vostroT, bT, vbT, ByteArray.data_append]
theorem nostro_a : nostroT aT = naT := by apply ByteArray.ext; simp [nostroT, aT, naT, ByteArray.data_append]
theorem pay_is (n : Int) (h : 0 < n) : movesE (vostroT bT) 1 (payE n) = [⟨eurT, n⟩] := by
  unfold payE
  rw [movesE_two, counts_is, counts_is, vostro_b]
  simp [x_vb, h]
theorem sent_is : sentE.flatMap (movesE (vostroT bT) 1) = [⟨eurT, 30⟩, ⟨eurT, 20⟩] := by
  simp [sentE, paid, pay_is]
theorem got_is (n : Int) (h : 0 < n) : (gotE n).flatMap (movesE (nostroT aT) (-1)) = [⟨eurT, n⟩] := by
  simp only [gotE, List.flatMap_cons, List.flatMap_nil, List.append_nil]
  rw [movesE_two, counts_is, counts_is, nostro_a]
  have : yT ≠ naT := fun e => na_y e.symm
  simp [this, h]
theorem bad_30 : firstBad 0 [⟨eurT, 30⟩, ⟨eurT, 20⟩] [⟨eurT, 30⟩] = none := by simp [firstBad, eqM_self]
theorem bad_20 : firstBad 0 [⟨eurT, 30⟩, ⟨eurT, 20⟩] [⟨eurT, 20⟩] = some 0 := by simp [firstBad, eqM_is]
theorem line_0 : lineT aT bT 0 = ⟨#[97, 32, 98, 32, 114, 101, 109, 105, 116, 115, 32, 48]⟩ := by
  apply ByteArray.ext
  simp [lineT, Lib.join, aT, bT, dec_small, dg]
theorem br_remits {w w1 w2 : World} {pa pb : Nat} {first : Int} (h : Br w w1 pa pb first) (hb : Below w1.heap.size w1 w2) (f0 : 0 < first) (f1 : first ≤ 1000) :
    Calls Tryz.prog 20 #[.string aT, .string bT, .pointer (some ⟨pa, 0, none⟩), .pointer (some ⟨pb, 0, none⟩)] w2 fun e w' => ∃ A c, e = .returned (.slice A (linesT aT bT (firstBad 0 [⟨eurT, 30⟩, ⟨eurT, 20⟩] [⟨eurT, first⟩])).length c) ∧ Rs w' w'.heap.size A (linesT aT bT (firstBad 0 [⟨eurT, 30⟩, ⟨eurT, 20⟩] [⟨eurT, first⟩])) ∧ Below w2.heap.size w2 w' := by
  obtain ⟨b1, n1, G1, pv1, hv1, La, hA, eA⟩ := h.ba
  obtain ⟨b2, n2, G2, pv2, hv2, Lb, hB, eB⟩ := h.bb
  have hA' := (ldg_of hA (E := sentE) eA (by decide) sent_fine).below hb
  have hB' := (ldg_of hB (E := gotE first) eB (by simp [gotE]) (got_fine f0 f1)).below hb
  have ms : moves (vostroT bT) 1 (La.map Pl.pt) = [⟨eurT, 30⟩, ⟨eurT, 20⟩] := by rw [moves_pl, eA]; exact sent_is
  have mg : moves (nostroT aT) (-1) (Lb.map Pl.pt) = [⟨eurT, first⟩] := by rw [moves_pl, eB]; exact got_is first f0
  have := remits_any aT bT w2 _ pa _ pb La Lb hA' hB' (by decide) (by decide) (by rw [mg]; simp) (by rw [ms]; simp)
  rw [ms, mg] at this
  exact this

set_option maxHeartbeats 2000000 in
theorem awake_any (w : World) : Calls Tryz.prog 5 #[] w fun e w' => e = .returned (.bool true) ∧ Below w.heap.size w w' := by
  go_enter Tryz.func5, Tryz.ntmps5
  go_wp2_with fail
  refine (banks_any 30 w (by omega) (by omega)).mono ?_
  rintro e w1 ⟨pa, pb, rfl, h1⟩
  have H1 := Lib.hid h1
  clear h1
  go_wp2_with fail
  refine (banks_any 20 w1 (by omega) (by omega)).mono ?_
  rintro e w2 ⟨pc, pd, rfl, h2⟩
  have H2 := Lib.hid h2
  clear h2
  go_wp2_with fail
  refine (br_remits H1.out H2.out.bel (by omega) (by omega)).mono ?_
  rintro e w3 ⟨A3, c3, rfl, hR3, hb3⟩
  have HB3 := Lib.hid hb3
  rw [bad_30] at hR3 ⊢
  clear hR3 hb3
  go_wp2_with fail
  refine (br_remits H2.out HB3.out (by omega) (by omega)).mono ?_
  rintro e w4 ⟨A4, c4, rfl, hR4, hb4⟩
  rw [bad_20] at hR4 ⊢
  obtain ⟨g4, o4, rfl, hg4, hc4⟩ := hR4.at_ (k := 0) (by simp [linesT])
  have hc5 : w4.cell? ⟨g4, o4, none⟩ = some (.string ⟨#[97, 32, 98, 32, 114, 101, 109, 105, 116, 115, 32, 48]⟩) := by
    rw [← line_0]; exact hc4
  have HB4 := Lib.hid hb4
  clear hR4 hc4 hb4
  simp only [linesT, List.length_nil, List.length_singleton]
  go_wp2
  go_ret
  have e1 := H1.out.bel
  have e2 := H2.out.bel.mono e1.size
  have e3 := HB3.out.mono (Nat.le_trans e1.size e2.size)
  have e4 := HB4.out.mono (Nat.le_trans (Nat.le_trans e1.size e2.size) e3.size)
  exact ⟨rfl, ((e1.trans e2).trans e3).trans e4⟩
end Go.Proofs.YtdinloecgaapaaaGreatDoor
