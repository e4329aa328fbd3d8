/- SealSigns where the input is not too much: the walk. -/
import Derived.Test.YtlbenmndmoeioaaSigns
namespace Go.Proofs.Ytlbenmndmoeioaa
open Go.RowKit Go.Maps
set_option linter.unusedVariables false

theorem Rn.turned {w w' : World} {B p b : Nat} {A : Option Addr} {L L' : List Nt} (h : Rn w B A L) (hN : Ny w p b L') (hB : B ≤ w.heap.size) (hg : w.grownBy w' (some b)) : Rn w' B A L := fun hl => by
  obtain ⟨g, off, e, hgB, hc⟩ := h hl
  have hne : g ≠ b := by
    rintro rfl
    obtain ⟨es, clock, hb, _⟩ := hN.own
    have := (hc 0 _ (List.getElem?_eq_getElem hl)).1
    simp [World.cell?, hb] at this
  refine ⟨g, off, e, hgB, fun i x hx => ⟨?_, ?_⟩⟩
  · exact (keepX hg (by omega) hne).trans (hc i x hx).1
  · exact (keepX hg (by omega) hne).trans (hc i x hx).2

set_option maxHeartbeats 4000000 in
set_option maxRecDepth 100000 in
theorem signs_main (a t s : ByteArray) (w : World) (A : Option Addr) (c : Nat) (l : List Nt) (hR : Rn w w.heap.size A l) (hS : ∀ x ∈ l, Small x) (hv1 : hv l 20 = false) (hx : Small (a, t)) (hv2 : big (a, t) = false) (hs : s.size ≤ 100) :
    Calls Try.prog 4 #[.slice A l.length c, .agg #[.string a, .string t], .string s] w fun e w' => e = .returned (.bool true) ∧ Below w.heap.size w w' := by
  obtain ⟨hl, hsm⟩ := hv_false hv1
  obtain ⟨ha, ht⟩ := small_big hv2
  simp only at ha ht
  have hb0 := (Below.refl w.heap.size w).alloc (Nat.le_refl _) (.cells #[.string a, .string t] 27)
  have H0 := Lib.hid hb0
  have Hh := Lib.hid hv1
  have Hh2 := Lib.hid hv2
  clear hb0 hv1 hv2
  go_enter Try.func4, Try.ntmps4
  go_wp2_with fail
  refine (awake_any _).mono ?_
  rintro e w1 ⟨rfl, hb1⟩
  have H1 := Lib.hid (below_trans' (Nat.le_refl _) H0.out hb1)
  have c0 : w1.cell? ⟨w.heap.size, 0, none⟩ = some (.string a) := by
    rw [hb1.cell (p := ⟨w.heap.size, 0, none⟩) (by simp)]; simp
  have c1 : w1.cell? ⟨w.heap.size, 1, none⟩ = some (.string t) := by
    rw [hb1.cell (p := ⟨w.heap.size, 1, none⟩) (by simp)]; simp
  have z1 : w.heap.size < w1.heap.size := by have := hb1.size; simp at this; omega
  clear hb1
  go_wp2_with fail
  refine (heavy_any 20 _ w.heap.size A c l (hR.below H1.out) hS (by unfold maxLen; omega) (by omega)).mono ?_
  rintro e w' ⟨rfl, rfl⟩
  rw [Hh.out]
  go_wp2_with fail
  refine (heavy_one a t _ (w1.heap.size + 1) _ 1 (Rn.one w1 a t) hx _ Hh2.out).mono ?_
  rintro e w' ⟨rfl, rfl⟩
  go_wp2_with fail
  refine (new_any _).mono ?_
  rintro e w2 ⟨rfl, hN2, hb2, hs2⟩
  have H2 := Lib.hid (below_trans' (Nat.le_refl _) (H1.out.alloc H1.out.size (.cells #[.string a, .string t] 27)) hb2)
  have c2 : w2.cell? ⟨w.heap.size, 0, none⟩ = some (.string a) := by
    rw [hb2.cell (p := ⟨w.heap.size, 0, none⟩) (by simp; omega), World.cell?_alloc_lt _ _ _ (by simpa using z1)]; exact c0
  have c3 : w2.cell? ⟨w.heap.size, 1, none⟩ = some (.string t) := by
    rw [hb2.cell (p := ⟨w.heap.size, 1, none⟩) (by simp; omega), World.cell?_alloc_lt _ _ _ (by simpa using z1)]; exact c1
  clear hs2 hb2
  have hpw : w.heap.size + 1 ≤ (w1.alloc (.cells #[.string a, .string t] 27)).heap.size := by simp; omega
  have hN2' : Ny w2 ((w1.alloc (.cells #[.string a, .string t] 27)).heap.size + 1) (w1.alloc (.cells #[.string a, .string t] 27)).heap.size [] := hN2
  generalize hb : (w1.alloc (.cells #[.string a, .string t] 27)).heap.size = b at *
  clear hb hN2
  generalize hp : b + 1 = p at *
  clear hp
  have hbx : w.heap.size < b := by omega
  have hbx2 : w.heap.size < w2.heap.size := by have := hN2'.blt; omega
  go_wp2_with fail
  have HB0 := Lib.hid ((Below.refl w2.heap.size w2).alloc (Nat.le_refl _) (.cells #[] 27))
  go_loopw [8, 9] (fun m i wr => ∃ (k g off cp : Nat), k ≤ l.length ∧ i = .int .i64 k ∧ m = .slice (some ⟨g, off, none⟩) (putAll (l.take k)).length cp ∧ Rn wr wr.heap.size (some ⟨g, off, none⟩) (putAll (l.take k)) ∧ Ny wr p b (putAll (l.take k)) ∧ Hid (Below w.heap.size w wr) ∧ wr.cell? ⟨w.heap.size, 0, none⟩ = some (.string a) ∧ wr.cell? ⟨w.heap.size, 1, none⟩ = some (.string t)) (fun _ i _ => l.length - (intOf i).toNat)
  case atStart =>
    refine ⟨0, w2.heap.size, 0, 0, Nat.zero_le _, rfl, rfl, fun h => absurd h (by simp [putAll]), hN2'.alloc _, Lib.hid (below_trans' (Nat.le_refl _) H2.out HB0.out), ?_, ?_⟩
    · rw [World.cell?_alloc_lt _ _ _ (by simpa using hbx2)]; exact c2
    · rw [World.cell?_alloc_lt _ _ _ (by simpa using hbx2)]; exact c3
  case round =>
    clear c0 c1 c2 c3 hN2' HB0 H2 H1 H0 hbx2
    obtain ⟨k, g, off, cp, hk, rfl, rfl, hRm, hNr, Hbw, d0, d1⟩ := hrel
    have hle := putAll_le (l.take k)
    have hlk : (l.take k).length ≤ k := by simp; omega
    have hRl := hR.below Hbw.out
    have hzw : w.heap.size ≤ wr.heap.size := Hbw.out.size
    by_cases hlt : k < l.length
    · obtain ⟨gl, ol, rfl, hgl, e0, e1⟩ := hRl.at_ hlt
      have hxs := hsm l[k] (List.getElem_mem hlt)
      have HP := Lib.hid (putAll_snoc l k hlt)
      have hnext := putAll_le (l.take (k + 1))
      generalize l[k] = x at *
      obtain ⟨xa, xt⟩ := x
      simp only at hxs e0 e1
      have hk0 : (0 : Int) ≤ (k : Int) := Int.natCast_nonneg _
      have hk1 : (k : Int) < (l.length : Int) := by omega
      generalize hM : putAll (l.take k) = M at *
      have HM := Lib.hid hM
      clear hM
      go_wp2_with fail
      refine (put_any (xa, xt) _ wr.heap.size g off cp M hRm (Nat.le_refl _) (by omega) hxs.1 hxs.2).mono ?_
      rintro e w4 ⟨g', off', cp', rfl, hR4, hb4⟩
      have hN4 := hNr.below hb4 hNr.plt hNr.blt
      have Hb4 := Lib.hid (below_trans' (Nat.le_refl _) Hbw.out hb4)
      have z4 : wr.heap.size ≤ w4.heap.size := hb4.size
      have e2 : w4.cell? ⟨gl, ol + k * 2, none⟩ = some (.string xa) := (hb4.cell (p := ⟨gl, ol + k * 2, none⟩) (by show gl < wr.heap.size; omega)).trans e0
      have e3 : w4.cell? ⟨gl, ol + k * 2 + 1, none⟩ = some (.string xt) := (hb4.cell (p := ⟨gl, ol + k * 2 + 1, none⟩) (by show gl < wr.heap.size; omega)).trans e1
      have d2 : w4.cell? ⟨w.heap.size, 0, none⟩ = some (.string a) := (hb4.cell (p := ⟨w.heap.size, 0, none⟩) (by show w.heap.size < wr.heap.size; have := hNr.blt; omega)).trans d0
      have d3 : w4.cell? ⟨w.heap.size, 1, none⟩ = some (.string t) := (hb4.cell (p := ⟨w.heap.size, 1, none⟩) (by show w.heap.size < wr.heap.size; have := hNr.blt; omega)).trans d1
      have hglb : gl ≠ b := by omega
      have hgw4 : gl < w4.heap.size := by omega
      clear hb4 e0 e1 d0 d1 hRm hNr
      go_wp2_with fail
      go_region_held3 (fun w' => w'.cell? ⟨gl, ol + k * 2, none⟩ = some (.string xa) ∧ w'.cell? ⟨gl, ol + k * 2 + 1, none⟩ = some (.string xt))
        (first | go_keep)
        (first
          | (go_at_call 15; refine (notarySign_any (xa, xt) _ p b M hN4.drew hxs.1 hxs.2 (by omega)).mono ?_; rintro e w5 ⟨rfl, hN5, hg5⟩; have e4 : w5.cell? ⟨gl, ol + k * 2, none⟩ = some (.string xa) := (keepX hg5 hgw4 hglb).trans e2; have e5 : w5.cell? ⟨gl, ol + k * 2 + 1, none⟩ = some (.string xt) := (keepX hg5 hgw4 hglb).trans e3))
      have z5 : w4.heap.size ≤ w5.heap.size := hg5.size
      have hR5 : Rn w5 w4.heap.size (some ⟨g', off', none⟩) (putN M (xa, xt)) := (show Rn w4.drew w4.heap.size _ _ from hR4).turned hN4.drew (Nat.le_refl _) hg5
      have hbw4 : b < w4.heap.size := hN4.blt
      have Hb5 := Lib.hid (show Below w.heap.size w w5 from (Hb4.out.drew).grown hg5 (by show w.heap.size ≤ w4.heap.size; omega) (fun j hj => by cases hj; omega))
      have d4 : w5.cell? ⟨w.heap.size, 0, none⟩ = some (.string a) := (keepX hg5 (by show w.heap.size < w4.heap.size; omega) (by omega)).trans d2
      have d5 : w5.cell? ⟨w.heap.size, 1, none⟩ = some (.string t) := (keepX hg5 (by show w.heap.size < w4.heap.size; omega) (by omega)).trans d3
      have Hd4 := Lib.hid d4
      have Hd5 := Lib.hid d5
      have Hg5 := Lib.hid hg5
      clear d4 d5 d2 d3 e2 e3 hg5 hN4
      have n0 : ∀ n : WC w5.heap.size w5, n.w.cell? ⟨gl, ol + k * 2, none⟩ = some (.string xa) := fun n => (n.h.cell (p := ⟨gl, ol + k * 2, none⟩) (by show gl < w5.heap.size; omega)).trans e4
      have n1 : ∀ n : WC w5.heap.size w5, n.w.cell? ⟨gl, ol + k * 2 + 1, none⟩ = some (.string xt) := fun n => (n.h.cell (p := ⟨gl, ol + k * 2 + 1, none⟩) (by show gl < w5.heap.size; omega)).trans e5
      clear e4 e5
      cases hok : okN (xa, xt)
      all_goals
        first
          | have hsg : sgnN (xa, xt) = ⟨#[]⟩ := by simp [sgnN, hok]; done
          | have hsg : sgnN (xa, xt) = signB xa xt := by simp [sgnN, hok]; done
        go_wp2_with fail
        refine wp_region_class (by kernel_rfl) (by kernel_rfl) ?_
        repeat (go_big_quiet_step (first
          | (go_at_call 16; exact Calls.class_of (Nat.le_refl _) (refSign_any xa xt _ (by omega) (by omega)))))
        refine wpQuiet_nil ?_
        rintro w' ⟨n, rfl⟩
        clear hok hsg
        go_wp2
        go_roundw
        case rel =>
          have hz5 : w.heap.size < w5.heap.size := by omega
          refine ⟨k + 1, g', off', cp', by omega, by go_num, by rw [HP.out], ?_, ?_, Lib.hid (Hb5.out.trans (n.h.mono (by omega))), (n.h.cell (p := ⟨w.heap.size, 0, none⟩) hz5).trans Hd4.out, (n.h.cell (p := ⟨w.heap.size, 1, none⟩) hz5).trans Hd5.out⟩
          · rw [HP.out]
            exact (hR5.below (n.h.mono z5)).more (Nat.le_trans z5 n.h.size)
          · rw [HP.out]
            exact hN5.below n.h hN5.plt hN5.blt
        case measure => simp [intOf]; omega
    · have ht : l.take k = l := List.take_of_length_le (by omega)
      rw [ht] at hRm hNr ⊢
      clear ht
      have hle2 := putAll_le l
      have hbwr : b < wr.heap.size := hNr.blt
      have n0 : ∀ n : WC wr.heap.size wr, n.w.cell? ⟨w.heap.size, 0, none⟩ = some (.string a) := fun n => (n.h.cell (p := ⟨w.heap.size, 0, none⟩) (by show w.heap.size < wr.heap.size; omega)).trans d0
      have n1 : ∀ n : WC wr.heap.size wr, n.w.cell? ⟨w.heap.size, 1, none⟩ = some (.string t) := fun n => (n.h.cell (p := ⟨w.heap.size, 1, none⟩) (by show w.heap.size < wr.heap.size; omega)).trans d1
      have hNn : ∀ n : WC wr.heap.size wr, Ny n.w p b (putAll l) := fun n => n.ny hNr hNr.plt hNr.blt
      have hRn : ∀ n : WC wr.heap.size wr, Rn n.w wr.heap.size (some ⟨g, off, none⟩) (putAll l) := fun n => n.rn hRm (Nat.le_refl _)
      have hBn : ∀ n : WC wr.heap.size wr, wr.heap.size ≤ n.w.heap.size := fun n => n.sz (Nat.le_refl _)
      generalize putAll l = M at *
      clear d0 d1 hRm hNr
      go_wp2_with fail
      refine wp_region_class (by kernel_rfl) (by kernel_rfl) ?_
      repeat (go_big_quiet_step (first
        | (go_at_call 16; exact Calls.class_of (Nat.le_refl _) (refSign_any a t _ (by omega) (by omega)))
        | (go_at_call 17; exact Calls.class_of (Nat.le_refl _) (even_any a t _ _ p b wr.heap.size (some ⟨g, off, none⟩) cp M M (hNn _) (hRn _) (hBn _) (List.Perm.refl _) (by omega) (by omega) (by omega)))))
      refine wpQuiet_nil ?_
      rintro w' ⟨n, rfl⟩
      go_wp2
      go_ret
      exact ⟨rfl, Hbw.out.trans (n.h.mono (by omega))⟩

theorem signs_any (a t s : ByteArray) (w : World) (A : Option Addr) (c : Nat) (l : List Nt) (hR : Rn w w.heap.size A l) (hS : ∀ x ∈ l, Small x) (hl : l.length ≤ maxLen) (hx : Small (a, t)) (hs : s.size ≤ maxLen) :
    Calls Try.prog 4 #[.slice A l.length c, .agg #[.string a, .string t], .string s] w fun e w' => e = .returned (.bool true) ∧ Below w.heap.size w w' := by
  cases h1 : hv l 20
  · cases h2 : big (a, t)
    · by_cases h3 : 100 < s.size
      · exact signs_heavy a t s w A c l hR hS hl hx hs (.inr (.inr ⟨h1, h2, h3⟩))
      · exact signs_main a t s w A c l hR hS h1 hx h2 (by omega)
    · exact signs_heavy a t s w A c l hR hS hl hx hs (.inr (.inl ⟨h1, h2⟩))
  · exact signs_heavy a t s w A c l hR hS hl hx hs (.inl h1)
end Go.Proofs.Ytlbenmndmoeioaa
