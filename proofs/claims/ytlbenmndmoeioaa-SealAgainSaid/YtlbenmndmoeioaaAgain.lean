/- SealAgain: the walk. -/
import Derived.Test.YtlbenmndmoeioaaSignsB
namespace Go.Proofs.Ytlbenmndmoeioaa
open Go.RowKit Go.Maps
set_option linter.unusedVariables false

theorem again_of (M : List Nt) (x : Nt) : okN x = false ∨ hasN (putN M x) x = true := by
  cases h : okN x
  · exact .inl rfl
  · refine .inr ?_
    unfold putN
    rw [if_pos h]
    cases hh : hasN M x
    · simp [hasN]
    · simpa using hh
theorem notarySign_again (x : Nt) (w : World) (p b : Nat) (L : List Nt) (hN : Ny w p b L) (ha : x.1.size ≤ 100) (ht : x.2.size ≤ 5000) (h : okN x = false ∨ hasN L x = true) :
    Calls Try.prog 15 #[.pointer (some ⟨p, 0, none⟩), .string x.1, .string x.2] w fun e w' => e = .returned (.string (sgnN x)) ∧ Below w.heap.size w w' := by
  obtain ⟨a, t⟩ := x
  cases hok : okN (a, t)
  · have hcs : nameB a.data.toList = false ∨ 4096 < t.size := by
      cases hn : nameB a.data.toList
      · exact .inl rfl
      · simp [okN, hn] at hok
        exact .inr (by omega)
    refine (notarySign_no a t w _ (by simp only at ha; omega) ht hcs).mono fun e w' ⟨he, hw⟩ => ⟨?_, by subst hw; exact Below.refl _ _⟩
    rw [he]; simp [sgnN, hok]
  · have hok' := hok
    simp only [okN, Bool.and_eq_true, decide_eq_true_eq] at hok'
    rcases h with h | h
    · rw [hok] at h; cases h
    · refine (notarySign_old a t w p b L hN hok'.1 (by simp only at ha; omega) hok'.2 h).mono fun e w' ⟨he, hb⟩ => ⟨?_, hb⟩
      rw [he]; simp [sgnN, hok]

set_option maxHeartbeats 2000000 in
set_option maxRecDepth 100000 in
theorem again_heavy (a t : ByteArray) (w : World) (A : Option Addr) (c : Nat) (l : List Nt) (hR : Rn w w.heap.size A l) (hS : ∀ x ∈ l, Small x) (hl : l.length ≤ maxLen) (hx : Small (a, t))
    (h : hv l 16 = true ∨ (hv l 16 = false ∧ big (a, t) = true)) :
    Calls Try.prog 5 #[.slice A l.length c, .agg #[.string a, .string t]] w fun e w' => e = .returned (.bool true) ∧ Below w.heap.size w w' := by
  have hb0 := (Below.refl w.heap.size w).alloc (Nat.le_refl _) (.cells #[.string a, .string t] 27)
  have H0 := Lib.hid hb0
  clear hb0
  rcases h with h | ⟨h, h2⟩
  · have Hh := Lib.hid h
    clear h
    go_enter Try.func5, Try.ntmps5
    go_wp2_with fail
    refine (awake_any _).mono ?_
    rintro e w1 ⟨rfl, hb1⟩
    have H1 := Lib.hid (below_trans' (Nat.le_refl _) H0.out hb1)
    clear hb1
    go_wp2_with fail
    refine (heavy_any 16 _ w.heap.size A c l (hR.below H1.out) hS hl (by omega)).mono ?_
    rintro e w' ⟨rfl, rfl⟩
    rw [Hh.out]
    go_wp2
    go_ret
    exact ⟨rfl, H1.out⟩
  all_goals
    have Hh := Lib.hid h
    have Hh2 := Lib.hid h2
    clear h h2
    go_enter Try.func5, Try.ntmps5
    go_wp2_with fail
    refine (awake_any _).mono ?_
    rintro e w1 ⟨rfl, hb1⟩
    have H1 := Lib.hid (below_trans' (Nat.le_refl _) H0.out hb1)
    have c0 : w1.cell? ⟨w.heap.size, 0, none⟩ = some (.string a) := by
      rw [hb1.cell (p := ⟨w.heap.size, 0, none⟩) (by simp)]; simp
    have c1 : w1.cell? ⟨w.heap.size, 1, none⟩ = some (.string t) := by
      rw [hb1.cell (p := ⟨w.heap.size, 1, none⟩) (by simp)]; simp
    clear hb1
    go_wp2_with fail
    refine (heavy_any 16 _ w.heap.size A c l (hR.below H1.out) hS hl (by omega)).mono ?_
    rintro e w' ⟨rfl, rfl⟩
    rw [Hh.out]
    go_wp2_with fail
    refine (heavy_one a t _ (w1.heap.size + 1) _ 1 (Rn.one w1 a t) hx _ Hh2.out).mono ?_
    rintro e w' ⟨rfl, rfl⟩
    go_wp2
    go_ret
    exact ⟨rfl, H1.out.alloc H1.out.size _⟩

set_option maxHeartbeats 4000000 in
set_option maxRecDepth 100000 in
theorem again_main (a t : ByteArray) (w : World) (A : Option Addr) (c : Nat) (l : List Nt) (hR : Rn w w.heap.size A l) (hS : ∀ x ∈ l, Small x) (hv1 : hv l 16 = false) (hx : Small (a, t)) (hv2 : big (a, t) = false) :
    Calls Try.prog 5 #[.slice A l.length c, .agg #[.string a, .string t]] w fun e w' => e = .returned (.bool true) ∧ Below w.heap.size w w' := by
  obtain ⟨hl, hsm⟩ := hv_false hv1
  obtain ⟨ha, ht⟩ := small_big hv2
  simp only at ha ht
  have hb0 := (Below.refl w.heap.size w).alloc (Nat.le_refl _) (.cells #[.string a, .string t] 27)
  have H0 := Lib.hid hb0
  have Hh := Lib.hid hv1
  have Hh2 := Lib.hid hv2
  clear hb0 hv1 hv2
  go_enter Try.func5, Try.ntmps5
  go_wp2_with fail
  refine (awake_any _).mono ?_
  rintro e w1 ⟨rfl, hb1⟩
  have H1 := Lib.hid (below_trans' (Nat.le_refl _) H0.out hb1)
  have c0 : w1.cell? ⟨w.heap.size, 0, none⟩ = some (.string a) := by
    rw [hb1.cell (p := ⟨w.heap.size, 0, none⟩) (by simp)]; simp
  have c1 : w1.cell? ⟨w.heap.size, 1, none⟩ = some (.string t) := by
    rw [hb1.cell (p := ⟨w.heap.size, 1, none⟩) (by simp)]; simp
  have z1 : w.heap.size < w1.heap.size := by have := hb1.size; simp at this; omega
  clear hb1
  go_wp2_with fail
  refine (heavy_any 16 _ w.heap.size A c l (hR.below H1.out) hS (by unfold maxLen; omega) (by omega)).mono ?_
  rintro e w' ⟨rfl, rfl⟩
  rw [Hh.out]
  go_wp2_with fail
  refine (heavy_one a t _ (w1.heap.size + 1) _ 1 (Rn.one w1 a t) hx _ Hh2.out).mono ?_
  rintro e w' ⟨rfl, rfl⟩
  go_wp2_with fail
  refine (new_any _).mono ?_
  rintro e w2 ⟨rfl, hN2, hb2, hs2⟩
  have H2 := Lib.hid (below_trans' (Nat.le_refl _) (H1.out.alloc H1.out.size (.cells #[.string a, .string t] 27)) hb2)
  have c2 : w2.cell? ⟨w.heap.size, 0, none⟩ = some (.string a) := by
    rw [hb2.cell (p := ⟨w.heap.size, 0, none⟩) (by simp; omega), World.cell?_alloc_lt _ _ _ (by simpa using z1)]; exact c0
  have c3 : w2.cell? ⟨w.heap.size, 1, none⟩ = some (.string t) := by
    rw [hb2.cell (p := ⟨w.heap.size, 1, none⟩) (by simp; omega), World.cell?_alloc_lt _ _ _ (by simpa using z1)]; exact c1
  clear hs2 hb2
  have hpw : w.heap.size + 1 ≤ (w1.alloc (.cells #[.string a, .string t] 27)).heap.size := by simp; omega
  have hN2' : Ny w2 ((w1.alloc (.cells #[.string a, .string t] 27)).heap.size + 1) (w1.alloc (.cells #[.string a, .string t] 27)).heap.size [] := hN2
  generalize hb : (w1.alloc (.cells #[.string a, .string t] 27)).heap.size = b at *
  clear hb hN2
  generalize hp : b + 1 = p at *
  clear hp
  have hbx : w.heap.size < b := by omega
  have hbx2 : w.heap.size < w2.heap.size := by have := hN2'.blt; omega
  go_wp2_with fail
  have HB0 := Lib.hid ((Below.refl w2.heap.size w2).alloc (Nat.le_refl _) (.cells #[] 27))
  go_loopw [6, 7] (fun m i wr => ∃ (k g off cp : Nat), k ≤ l.length ∧ i = .int .i64 k ∧ m = .slice (some ⟨g, off, none⟩) (putAll (l.take k)).length cp ∧ Rn wr wr.heap.size (some ⟨g, off, none⟩) (putAll (l.take k)) ∧ Ny wr p b (putAll (l.take k)) ∧ Hid (Below w.heap.size w wr) ∧ wr.cell? ⟨w.heap.size, 0, none⟩ = some (.string a) ∧ wr.cell? ⟨w.heap.size, 1, none⟩ = some (.string t)) (fun _ i _ => l.length - (intOf i).toNat)
  case atStart =>
    refine ⟨0, w2.heap.size, 0, 0, Nat.zero_le _, rfl, rfl, fun h => absurd h (by simp [putAll]), hN2'.alloc _, Lib.hid (below_trans' (Nat.le_refl _) H2.out HB0.out), ?_, ?_⟩
    · rw [World.cell?_alloc_lt _ _ _ (by simpa using hbx2)]; exact c2
    · rw [World.cell?_alloc_lt _ _ _ (by simpa using hbx2)]; exact c3
  case round =>
    clear c0 c1 c2 c3 hN2' HB0 H2 H1 H0 hbx2
    obtain ⟨k, g, off, cp, hk, rfl, rfl, hRm, hNr, Hbw, d0, d1⟩ := hrel
    have hle := putAll_le (l.take k)
    have hlk : (l.take k).length ≤ k := by simp; omega
    have hRl := hR.below Hbw.out
    have hzw : w.heap.size ≤ wr.heap.size := Hbw.out.size
    by_cases hlt : k < l.length
    · obtain ⟨gl, ol, rfl, hgl, e0, e1⟩ := hRl.at_ hlt
      have hxs := hsm l[k] (List.getElem_mem hlt)
      have HP := Lib.hid (putAll_snoc l k hlt)
      have hnext := putAll_le (l.take (k + 1))
      generalize l[k] = x at *
      obtain ⟨xa, xt⟩ := x
      simp only at hxs e0 e1
      have hk0 : (0 : Int) ≤ (k : Int) := Int.natCast_nonneg _
      have hk1 : (k : Int) < (l.length : Int) := by omega
      generalize hM : putAll (l.take k) = M at *
      have HM := Lib.hid hM
      clear hM
      have hglb : gl ≠ b := by omega
      have hbr : b < wr.heap.size := hNr.blt
      go_wp2_with fail
      go_region_held3 (fun w' => w'.cell? ⟨gl, ol + k * 2, none⟩ = some (.string xa) ∧ w'.cell? ⟨gl, ol + k * 2 + 1, none⟩ = some (.string xt))
        (first | go_keep)
        (first
          | (go_at_call 15; refine (notarySign_any (xa, xt) _ p b M hNr.drew hxs.1 hxs.2 (by omega)).mono ?_; rintro e w5 ⟨rfl, hN5, hg5⟩; have e4 : w5.cell? ⟨gl, ol + k * 2, none⟩ = some (.string xa) := (keepX hg5 (by show gl < wr.heap.size; omega) hglb).trans e0; have e5 : w5.cell? ⟨gl, ol + k * 2 + 1, none⟩ = some (.string xt) := (keepX hg5 (by show gl < wr.heap.size; omega) hglb).trans e1))
      have z5 : wr.heap.size ≤ w5.heap.size := hg5.size
      have hR5 : Rn w5 wr.heap.size (some ⟨g, off, none⟩) M := (show Rn wr.drew wr.heap.size _ _ from hRm).turned hNr.drew (Nat.le_refl _) hg5
      have Hb5 := Lib.hid (show Below w.heap.size w w5 from (Hbw.out.drew).grown hg5 (by show w.heap.size ≤ wr.heap.size; omega) (fun j hj => by cases hj; omega))
      have d4 : w5.cell? ⟨w.heap.size, 0, none⟩ = some (.string a) := (keepX hg5 (by show w.heap.size < wr.heap.size; omega) (by omega)).trans d0
      have d5 : w5.cell? ⟨w.heap.size, 1, none⟩ = some (.string t) := (keepX hg5 (by show w.heap.size < wr.heap.size; omega) (by omega)).trans d1
      have Hd4 := Lib.hid d4
      have Hd5 := Lib.hid d5
      have hag := again_of M (xa, xt)
      have hpl := putN_le M (xa, xt)
      clear d4 d5 d0 d1 e0 e1 hg5 hNr hRm
      generalize hL5 : putN M (xa, xt) = L5 at *
      have HL5 := Lib.hid hL5
      clear hL5
      go_wp2_with fail
      refine (count_any xa _ p b L5 hN5 (by omega)).mono ?_
      rintro e w6 ⟨rfl, hb6⟩
      have hN6 := hN5.below hb6 hN5.plt hN5.blt
      have hR6 := hR5.below (hb6.mono z5)
      have z6 : w5.heap.size ≤ w6.heap.size := hb6.size
      have Hb6 := Lib.hid (below_trans' (Nat.le_refl _) Hb5.out hb6)
      have e6 : w6.cell? ⟨gl, ol + k * 2, none⟩ = some (.string xa) := (hb6.cell (p := ⟨gl, ol + k * 2, none⟩) (by show gl < w5.heap.size; omega)).trans e4
      have e7 : w6.cell? ⟨gl, ol + k * 2 + 1, none⟩ = some (.string xt) := (hb6.cell (p := ⟨gl, ol + k * 2 + 1, none⟩) (by show gl < w5.heap.size; omega)).trans e5
      have Hd6 := Lib.hid ((hb6.cell (p := ⟨w.heap.size, 0, none⟩) (by show w.heap.size < w5.heap.size; omega)).trans Hd4.out)
      have Hd7 := Lib.hid ((hb6.cell (p := ⟨w.heap.size, 1, none⟩) (by show w.heap.size < w5.heap.size; omega)).trans Hd5.out)
      clear hb6 e4 e5 Hd4 Hd5 hN5 hR5
      have n0 : ∀ n : WC w6.heap.size w6, n.w.cell? ⟨gl, ol + k * 2, none⟩ = some (.string xa) := fun n => (n.h.cell (p := ⟨gl, ol + k * 2, none⟩) (by show gl < w6.heap.size; omega)).trans e6
      have n1 : ∀ n : WC w6.heap.size w6, n.w.cell? ⟨gl, ol + k * 2 + 1, none⟩ = some (.string xt) := fun n => (n.h.cell (p := ⟨gl, ol + k * 2 + 1, none⟩) (by show gl < w6.heap.size; omega)).trans e7
      have hNn : ∀ n : WC w6.heap.size w6, Ny n.w p b L5 := fun n => n.ny hN6 hN6.plt hN6.blt
      clear e6 e7
      go_wp2_with fail
      refine wp_region_class (by kernel_rfl) (by kernel_rfl) ?_
      repeat (go_big_quiet_step (first
        | (go_at_call 15; exact Calls.class_of (Nat.le_refl _) (notarySign_again (xa, xt) _ p b L5 (hNn _) hxs.1 hxs.2 hag))
        | (go_at_call 18; exact Calls.class_of (Nat.le_refl _) (count_any xa _ p b L5 (hNn _) (by omega)))))
      refine wpQuiet_nil ?_
      rintro w' ⟨n, rfl⟩
      have m0 := n0 n
      have m1 := n1 n
      have hN7 := hNn n
      have hR7 := hR6.below (n.h.mono (by omega))
      have z7 : w6.heap.size ≤ n.w.heap.size := n.h.size
      have Hb7 := Lib.hid (Hb6.out.trans (n.h.mono (by omega)))
      have Hd8 := Lib.hid ((n.h.cell (p := ⟨w.heap.size, 0, none⟩) (by show w.heap.size < w6.heap.size; omega)).trans Hd6.out)
      have Hd9 := Lib.hid ((n.h.cell (p := ⟨w.heap.size, 1, none⟩) (by show w.heap.size < w6.heap.size; omega)).trans Hd7.out)
      clear n0 n1 hNn Hd6 Hd7
      generalize n.w = w7 at *
      go_wp2_with fail
      refine (put_any (xa, xt) _ wr.heap.size g off cp M hR7 (by omega) (by omega) hxs.1 hxs.2).mono ?_
      rintro e w8 ⟨g', off', cp', rfl, hR8, hb8⟩
      have hN8 := hN7.below hb8 hN7.plt hN7.blt
      rw [HL5.out] at hR8 ⊢
      go_wp2
      go_roundw
      case rel =>
        refine ⟨k + 1, g', off', cp', by omega, by go_num, by rw [HP.out], ?_, ?_, Lib.hid (below_trans' (Nat.le_refl _) Hb7.out hb8), (hb8.cell (p := ⟨w.heap.size, 0, none⟩) (by show w.heap.size < w7.heap.size; omega)).trans Hd8.out, (hb8.cell (p := ⟨w.heap.size, 1, none⟩) (by show w.heap.size < w7.heap.size; omega)).trans Hd9.out⟩
        · rw [HP.out]
          exact hR8
        · rw [HP.out]
          exact hN8
      case measure => simp [intOf]; omega
    · have ht : l.take k = l := List.take_of_length_le (by omega)
      rw [ht] at hRm hNr ⊢
      clear ht
      have hle2 := putAll_le l
      have hbwr : b < wr.heap.size := hNr.blt
      have n0 : ∀ n : WC wr.heap.size wr, n.w.cell? ⟨w.heap.size, 0, none⟩ = some (.string a) := fun n => (n.h.cell (p := ⟨w.heap.size, 0, none⟩) (by show w.heap.size < wr.heap.size; omega)).trans d0
      have n1 : ∀ n : WC wr.heap.size wr, n.w.cell? ⟨w.heap.size, 1, none⟩ = some (.string t) := fun n => (n.h.cell (p := ⟨w.heap.size, 1, none⟩) (by show w.heap.size < wr.heap.size; omega)).trans d1
      have hNn : ∀ n : WC wr.heap.size wr, Ny n.w p b (putAll l) := fun n => n.ny hNr hNr.plt hNr.blt
      have hRn : ∀ n : WC wr.heap.size wr, Rn n.w wr.heap.size (some ⟨g, off, none⟩) (putAll l) := fun n => n.rn hRm (Nat.le_refl _)
      have hBn : ∀ n : WC wr.heap.size wr, wr.heap.size ≤ n.w.heap.size := fun n => n.sz (Nat.le_refl _)
      generalize putAll l = M at *
      clear d0 d1 hRm hNr
      go_wp2_with fail
      refine wp_region_class (by kernel_rfl) (by kernel_rfl) ?_
      repeat (go_big_quiet_step (first
        | (go_at_call 10; exact Calls.class_of (Nat.le_refl _) (digest_any _ _ (by simp [maxLen, sz10]; omega)))
        | (go_at_call 17; exact Calls.class_of (Nat.le_refl _) (even_any a t _ _ p b wr.heap.size (some ⟨g, off, none⟩) cp M M (hNn _) (hRn _) (hBn _) (List.Perm.refl _) (by omega) (by omega) (by omega)))))
      refine wpQuiet_nil ?_
      rintro w' ⟨n, rfl⟩
      go_wp2
      go_ret
      exact ⟨rfl, Hbw.out.trans (n.h.mono (by omega))⟩

theorem again_any (a t : ByteArray) (w : World) (A : Option Addr) (c : Nat) (l : List Nt) (hR : Rn w w.heap.size A l) (hS : ∀ x ∈ l, Small x) (hl : l.length ≤ maxLen) (hx : Small (a, t)) :
    Calls Try.prog 5 #[.slice A l.length c, .agg #[.string a, .string t]] w fun e w' => e = .returned (.bool true) ∧ Below w.heap.size w w' := by
  cases h1 : hv l 16
  · cases h2 : big (a, t)
    · exact again_main a t w A c l hR hS h1 hx h2
    · exact again_heavy a t w A c l hR hS hl hx (.inr ⟨h1, h2⟩)
  · exact again_heavy a t w A c l hR hS hl hx (.inl h1)
end Go.Proofs.Ytlbenmndmoeioaa
