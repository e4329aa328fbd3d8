/- ref56.Remits. -/
import Derived.Test.YtooeelaobmhifaaDoorARemits
import Derived.Test.YtooeelaobmhifaaDoorAMoved
namespace Go.Proofs.YtooeelaobmhifaaDoor
open Go.RowKit Go.Maps Go.Lib
set_option linter.unusedVariables false
set_option maxRecDepth 100000

/-- a slice of posts that is in order -/
structure Psl (w : World) (v : Value) (L : List Pl) : Prop where
  pw : ∃ base, Pw w base w.heap.size v L
  few : L.length ≤ 4096
  fine : ∀ x ∈ L, ∀ e ∈ x.pt.ents, e.Fine
theorem Psl.below {w w' : World} {v : Value} {L : List Pl} (h : Psl w v L) (hb : Below w.heap.size w w') : Psl w' v L := by
  obtain ⟨base, hp⟩ := h.pw
  exact ⟨⟨base, (hp.below hb).more hb.size⟩, h.few, h.fine⟩
theorem Psl.moved {w : World} {v : Value} {L : List Pl} (h : Psl w v L) (acc : ByteArray) (s : Int) (hs : s = 1 ∨ s = -1) :
    Calls Tryd.prog 19 #[v, .string acc, .int .i64 s] w fun e w' => ∃ A c, e = .returned (.slice A (moves acc s (L.map Pl.pt)).length c) ∧ w'.ownsRow 0 53 2 (.slice A (moves acc s (L.map Pl.pt)).length c) (moves acc s (L.map Pl.pt)).length (cellsM (moves acc s (L.map Pl.pt))) ∧ Below w.heap.size w w' := by
  obtain ⟨base, hp⟩ := h.pw
  exact (moved_any v L acc s w hp h.few hs h.fine).mono fun e w' ⟨v', h1, h2, h3⟩ => by
    obtain ⟨A, c, rfl⟩ := row_form h2
    exact ⟨A, c, h1, ownsRow_base (Nat.zero_le _) h2, h3⟩
theorem lineT_eq (fr tt : ByteArray) (i : Nat) : fr ++ (⟨#[32]⟩ : ByteArray) ++ tt ++ (⟨#[32, 114, 101, 109, 105, 116, 115, 32]⟩ : ByteArray) ++ (⟨(decDigits i).toArray⟩ : ByteArray) = lineT fr tt i := by
  apply ByteArray.ext
  simp [lineT, Lib.join, ByteArray.data_append]
theorem dec_len (i : Nat) (hi : i < 100) : (decDigits i).length ≤ 2 := by
  by_cases h : i < 10
  · rw [dec_small h]; simp
  · rw [dec_big h, dec_small (by omega)]; simp

set_option maxHeartbeats 4000000 in
theorem refRemits_any (fr tt : ByteArray) (w : World) (pa pb : Value) (La Lb : List Pl) (hA : Psl w pa La) (hB : Psl w pb Lb) (h1 : fr.size ≤ 50) (h2 : tt.size ≤ 50)
    (hg : (moves (nostroT fr) (-1) (Lb.map Pl.pt)).length ≤ 100) (hsl : (moves (vostroT tt) 1 (La.map Pl.pt)).length ≤ 1000000) :
    Calls Tryd.prog 9 #[.string fr, .string tt, pa, pb] w fun e w' =>
      ∃ A c, e = .returned (.slice A (linesT fr tt (firstBad 0 (moves (vostroT tt) 1 (La.map Pl.pt)) (moves (nostroT fr) (-1) (Lb.map Pl.pt)))).length c) ∧ Rs w' w'.heap.size A (linesT fr tt (firstBad 0 (moves (vostroT tt) 1 (La.map Pl.pt)) (moves (nostroT fr) (-1) (Lb.map Pl.pt)))) ∧ Below w.heap.size w w' := by
  have HAw := Lib.hid hA
  have HBw := Lib.hid hB
  clear hA hB
  generalize hsent : moves (vostroT tt) 1 (La.map Pl.pt) = sent at *
  generalize hgot : moves (nostroT fr) (-1) (Lb.map Pl.pt) = got at *
  have HA : Hid (∀ V, Below w.heap.size w V → Calls Tryd.prog 19 #[pa, .string ((⟨#[118, 111, 115, 116, 114, 111, 58]⟩ : ByteArray) ++ tt), .int .i64 1] V fun e w' => ∃ A c, e = .returned (.slice A sent.length c) ∧ w'.ownsRow 0 53 2 (.slice A sent.length c) sent.length (cellsM sent) ∧ Below V.heap.size V w') := Lib.hid (fun V hV => by rw [← hsent]; exact (HAw.out.below hV).moved (vostroT tt) 1 (.inl rfl))
  have HB : Hid (∀ V, Below w.heap.size w V → Calls Tryd.prog 19 #[pb, .string ((⟨#[110, 111, 115, 116, 114, 111, 58]⟩ : ByteArray) ++ fr), .int .i64 (-1)] V fun e w' => ∃ A c, e = .returned (.slice A got.length c) ∧ w'.ownsRow 0 53 2 (.slice A got.length c) got.length (cellsM got) ∧ Below V.heap.size V w') := Lib.hid (fun V hV => by rw [← hgot]; exact (HBw.out.below hV).moved (nostroT fr) (-1) (.inr rfl))
  clear HAw HBw hsent hgot
  have t5 : (⟨#[118, 111, 115, 116, 114, 111, 58]⟩ : ByteArray).size = 7 := rfl
  have t6 : (⟨#[110, 111, 115, 116, 114, 111, 58]⟩ : ByteArray).size = 7 := rfl
  go_enter Tryd.func9, Tryd.ntmps9
  go_wp2_with fail
  refine (HA.out _ (Below.refl _ _)).mono ?_
  rintro e w3 ⟨As, cs, rfl, hr3, hb3⟩
  have HR3 := Lib.hid hr3
  have HB3 := Lib.hid hb3
  clear hr3 hb3
  go_wp2_with fail
  refine (HB.out _ HB3.out).mono ?_
  rintro e w4 ⟨Ag, cg, rfl, hr4, hb4⟩
  have HR4 := Lib.hid hr4
  have HR34 := Lib.hid (ownsRow_kp HR3.out (Kp.of_below (fun _ => False) hb4) (fun _ _ e => e))
  have HB4 := Lib.hid (HB3.out.trans (hb4.mono HB3.out.size))
  clear hr4 hb4 HR3 HB3 HA HB
  go_wp2_with fail
  go_loopw [11] (fun i wr => ∃ k : Nat, k ≤ got.length ∧ i = .int .i64 k ∧ Hid (Below w4.heap.size w4 wr) ∧ Hid (firstBad 0 sent got = firstBad k (sent.drop k) (got.drop k))) (fun i _ => got.length - (RowKit.intOf i).toNat)
  case atStart => exact ⟨0, Nat.zero_le _, rfl, Lib.hid (Below.refl _ _), Lib.hid rfl⟩
  case round =>
    obtain ⟨k, hk, rfl, Hb, Hf⟩ := hrel
    have hrg := ownsRow_kp HR4.out (Kp.of_below (fun _ => False) Hb.out) (fun _ _ e => e)
    have hrs := ownsRow_kp HR34.out (Kp.of_below (fun _ => False) Hb.out) (fun _ _ e => e)
    by_cases hlt : k < got.length
    · obtain ⟨gg, capg, he, hgg, d0, d1⟩ := row_at hrg hlt
      injection he with e1 _ e2
      subst e1 e2
      obtain ⟨⟨yc, yn⟩, hy⟩ : ∃ y : Mo, got[k] = y := ⟨_, rfl⟩
      rw [hy] at d0 d1
      simp only at d0 d1
      by_cases hls : k < sent.length
      · obtain ⟨gs, capS, he, hgs, b0, b1⟩ := row_at hrs hls
        injection he with e1 _ e2
        subst e1 e2
        obtain ⟨⟨xc, xn⟩, hx⟩ : ∃ x : Mo, sent[k] = x := ⟨_, rfl⟩
        rw [hx] at b0 b1
        simp only at b0 b1
        have q0 : ¬ (sent.length ≤ k) := by omega
        have q1 : decide ((sent.length : Int) ≤ (k : Int)) = false := by simp; omega
        have q2 : decide (sent.length ≤ k) = false := by simp; omega
        clear hrg hrs
        by_cases heq : eqM ⟨xc, xn⟩ ⟨yc, yn⟩ = true
        · have Hnx := Lib.hid (Hf.out.trans (firstBad_same k sent got hlt hls (by rw [hx, hy]; exact heq)))
          have qe : ∀ W : World, (Op.equalIn 10000 53 (.agg #[.string xc, .int .i64 xn]) (.agg #[.string yc, .int .i64 yn])).run Tryd.prog W = .ok true W := fun W => by rw [eqIn_money, heq]
          clear hx hy
          go_wp2_with fail
          go_quiet (fail)
          go_wp2_with fail
          go_roundw
          case rel => exact ⟨k + 1, by omega, by go_num, Lib.hid (below_drewN Hb.out nq), Hnx⟩
          case measure => simp [RowKit.intOf]; omega
        · have heq' : eqM ⟨xc, xn⟩ ⟨yc, yn⟩ = false := by simpa using heq
          have Hfin := Lib.hid (Hf.out.trans (firstBad_differ k sent got hlt hls (by rw [hx, hy]; exact heq')))
          have qe : ∀ W : World, (Op.equalIn 10000 53 (.agg #[.string xc, .int .i64 xn]) (.agg #[.string yc, .int .i64 yn])).run Tryd.prog W = .ok false W := fun W => by rw [eqIn_money, heq']
          clear hx hy
          go_wp2_with fail
          go_quiet (fail)
          clear b0 b1 qe d0 d1
          have HbX := Lib.hid (below_drewN Hb.out nq)
          generalize wr.drewN nq = w5 at *
          have hdl := dec_len k (by omega)
          have s1 : (⟨(decDigits k).toArray⟩ : ByteArray).size ≤ 2 := by
            change (decDigits k).toArray.size ≤ 2
            simpa using hdl
          have s2 : (⟨#[32]⟩ : ByteArray).size = 1 := rfl
          have s3 : (⟨#[32, 114, 101, 109, 105, 116, 115, 32]⟩ : ByteArray).size = 8 := rfl
          have s4 : (fr ++ (⟨#[32]⟩ : ByteArray)).size ≤ 51 := by rw [ByteArray.size_append]; omega
          have s5 : (fr ++ (⟨#[32]⟩ : ByteArray) ++ tt).size ≤ 101 := by rw [ByteArray.size_append]; omega
          have s6 : (fr ++ (⟨#[32]⟩ : ByteArray) ++ tt ++ (⟨#[32, 114, 101, 109, 105, 116, 115, 32]⟩ : ByteArray)).size ≤ 109 := by rw [ByteArray.size_append]; omega
          go_wp2_with (first
            | (go_at_call 20; refine (digits_any k _ (by omega)).mono ?_; rintro e w6 ⟨rfl, hb6⟩)
            | go_in)
          have HB6 := Lib.hid hb6
          clear hb6
          go_wp2
          go_ret
          refine ⟨some ⟨w6.heap.size, 0, none⟩, 1, ?_, ?_, ?_⟩
          · rw [Hfin.out]; rfl
          · rw [Hfin.out]
            intro _
            refine ⟨w6.heap.size, 0, rfl, by simp, fun j x hj => ?_⟩
            rcases j with _ | j
            · simp [linesT] at hj
              subst hj
              rw [← lineT_eq]
              simp
            · simp [linesT] at hj
          · have e1 := HB4.out
            have e2 := HbX.out.mono e1.size
            have e3 := HB6.out.mono (Nat.le_trans e1.size e2.size)
            exact ((e1.trans e2).trans e3).alloc (Nat.le_trans (Nat.le_trans e1.size e2.size) e3.size) _
      · have q0 : sent.length ≤ k := by omega
        have q1 : decide ((sent.length : Int) ≤ (k : Int)) = true := by simp; omega
        have q2 : decide (sent.length ≤ k) = true := by simp; omega
        have Hfin := Lib.hid (Hf.out.trans (firstBad_short k sent got hlt (by omega)))
        clear hrg hrs
        go_wp2_with fail
        go_quiet (fail)
        clear d0 d1
        have HbX := Lib.hid (below_drewN Hb.out nq)
        generalize wr.drewN nq = w5 at *
        have hdl := dec_len k (by omega)
        have s1 : (⟨(decDigits k).toArray⟩ : ByteArray).size ≤ 2 := by
          change (decDigits k).toArray.size ≤ 2
          simpa using hdl
        have s2 : (⟨#[32]⟩ : ByteArray).size = 1 := rfl
        have s3 : (⟨#[32, 114, 101, 109, 105, 116, 115, 32]⟩ : ByteArray).size = 8 := rfl
        have s4 : (fr ++ (⟨#[32]⟩ : ByteArray)).size ≤ 51 := by rw [ByteArray.size_append]; omega
        have s5 : (fr ++ (⟨#[32]⟩ : ByteArray) ++ tt).size ≤ 101 := by rw [ByteArray.size_append]; omega
        have s6 : (fr ++ (⟨#[32]⟩ : ByteArray) ++ tt ++ (⟨#[32, 114, 101, 109, 105, 116, 115, 32]⟩ : ByteArray)).size ≤ 109 := by rw [ByteArray.size_append]; omega
        go_wp2_with (first
          | (go_at_call 20; refine (digits_any k _ (by omega)).mono ?_; rintro e w6 ⟨rfl, hb6⟩)
          | go_in)
        have HB6 := Lib.hid hb6
        clear hb6
        go_wp2
        go_ret
        refine ⟨some ⟨w6.heap.size, 0, none⟩, 1, ?_, ?_, ?_⟩
        · rw [Hfin.out]; rfl
        · rw [Hfin.out]
          intro _
          refine ⟨w6.heap.size, 0, rfl, by simp, fun j x hj => ?_⟩
          rcases j with _ | j
          · simp [linesT] at hj
            subst hj
            rw [← lineT_eq]
            simp
          · simp [linesT] at hj
        · have e1 := HB4.out
          have e2 := HbX.out.mono e1.size
          have e3 := HB6.out.mono (Nat.le_trans e1.size e2.size)
          exact ((e1.trans e2).trans e3).alloc (Nat.le_trans (Nat.le_trans e1.size e2.size) e3.size) _
    · have Hfin := Lib.hid (Hf.out.trans (firstBad_end k sent got (by omega)))
      have hbx := HB4.out.trans (Hb.out.mono HB4.out.size)
      clear hrg hrs
      go_wp2
      go_ret
      refine ⟨none, 0, ?_, ?_, hbx⟩
      · rw [Hfin.out]; rfl
      · rw [Hfin.out]
        intro h
        simp [linesT] at h
end Go.Proofs.YtooeelaobmhifaaDoor
