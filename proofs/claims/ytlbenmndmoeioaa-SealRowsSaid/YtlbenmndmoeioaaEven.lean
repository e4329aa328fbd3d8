/- 'even': a notary that has just the notes of a list answers so. -/
import Derived.Test.YtlbenmndmoeioaaPut
import Derived.Test.YtlbenmndmoeioaaClass
namespace Go.Proofs.Ytlbenmndmoeioaa
open Go.RowKit Go.Maps
set_option linter.unusedVariables false

/-- Put, whatever the note -/
theorem put_any (x : Nt) (w : World) (B g off c : Nat) (L : List Nt) (hR : Rn w B (some ⟨g, off, none⟩) L) (hB : B ≤ w.heap.size) (hL : L.length < 4096) (h1 : x.1.size ≤ 100) (h2 : x.2.size ≤ 5000) :
    Calls Try.prog 14 #[.slice (some ⟨g, off, none⟩) L.length c, .agg #[.string x.1, .string x.2]] w fun e w' => ∃ g' off' c', e = .returned (.tuple #[.slice (some ⟨g', off', none⟩) (putN L x).length c', .bool (okN x)]) ∧ Rn w' w'.heap.size (some ⟨g', off', none⟩) (putN L x) ∧ Below w.heap.size w w' := by
  obtain ⟨a, t⟩ := x
  cases hok : okN (a, t)
  · refine (put_no (a, t) w _ (by omega) h2 hok).mono fun e w' ⟨he, hb⟩ => ?_
    have hp : putN L (a, t) = L := by simp [putN, hok]
    rw [hp]
    exact ⟨g, off, c, he, (hR.below (hb.mono hB)).more (Nat.le_trans hB hb.size), hb⟩
  · have hok' := hok
    simp only [okN, Bool.and_eq_true, decide_eq_true_eq] at hok'
    cases hh : hasN L (a, t)
    · refine (put_new a t w B g off c L hR hB hL (by simp at h1; omega) hok'.1 hok'.2 hh).mono fun e w' ⟨g', c', he, hr, hb⟩ => ?_
      have hp : putN L (a, t) = L ++ [(a, t)] := by simp [putN, hok, hh]
      rw [hp]
      exact ⟨g', 0, c', by rw [he]; simp, hr, hb⟩
    · refine (put_old a t w B _ c L hR hB (by omega) (by simp at h1; omega) hok'.1 hok'.2 hh).mono fun e w' ⟨he, hb⟩ => ?_
      have hp : putN L (a, t) = L := by simp [putN, hok, hh]
      rw [hp]
      exact ⟨g, off, c, he, (hR.below (hb.mono hB)).more (Nat.le_trans hB hb.size), hb⟩

theorem holds_mem (a t : ByteArray) (w : World) (p b : Nat) (L : List Nt) (hN : Ny w p b L) (hm : (a, t) ∈ L) :
    Calls Try.prog 20 #[.pointer (some ⟨p, 0, none⟩), .string a, .string t, .string (signB a t)] w fun e w' => e = .returned (.bool true) ∧ Below w.heap.size w w' := by
  have h := hN.small _ hm
  refine (holds_any (a, t) (signB a t) w p b L hN (by simp only at h ⊢; omega) (by simp only at h ⊢; omega)).mono fun e w' ⟨he, hb⟩ => ⟨?_, hb⟩
  rw [he, (hasN_iff L _).2 hm, eqB_self]
  rfl
theorem hasN_perm {L M : List Nt} (h : L.Perm M) (x : Nt) : hasN L x = hasN M x := by
  rw [Bool.eq_iff_iff, hasN_iff, hasN_iff, h.mem_iff]
theorem cntN_perm {L M : List Nt} (h : L.Perm M) (a : ByteArray) : cntN L a = cntN M a := h.countP_eq _
theorem Ny.drew {w : World} {p b : Nat} {L : List Nt} (h : Ny w p b L) : Ny w.drew p b L := ⟨h.cell, h.own, h.nodup, h.small⟩


theorem refCount_perm (a : ByteArray) (w : World) (B : Nat) (A : Option Addr) (c : Nat) (L M : List Nt) (hP : L.Perm M) (hR : Rn w B A M) (hL : M.length ≤ 4096) :
    Calls Try.prog 27 #[.slice A M.length c, .string a] w fun e w' => e = .returned (.int .i64 (cntN L a : Nat)) ∧ w = w' := by
  rw [cntN_perm hP a]
  exact refCount_any a w B A c M hR hL
theorem refHas_perm (a t : ByteArray) (w : World) (B : Nat) (A : Option Addr) (c : Nat) (M : List Nt) (r : Bool) (hr : hasN M (a, t) = r) (hR : Rn w B A M) (hB : B ≤ w.heap.size) (hL : M.length ≤ 4096) :
    Calls Try.prog 24 #[.slice A M.length c, .agg #[.string a, .string t]] w fun e w' => e = .returned (.bool r) ∧ Below w.heap.size w w' := by
  rw [← hr]
  exact refHas_any a t w B A c M hR hB hL
theorem holds_is (a t s : ByteArray) (w : World) (p b : Nat) (L : List Nt) (r : Bool) (hr : (hasN L (a, t) && eqB (signB a t) s) = r) (hN : Ny w p b L) (ha : a.size ≤ 5000) (ht : t.size ≤ 5000) :
    Calls Try.prog 20 #[.pointer (some ⟨p, 0, none⟩), .string a, .string t, .string s] w fun e w' => e = .returned (.bool r) ∧ Below w.heap.size w w' := by
  rw [← hr]
  exact holds_any (a, t) s w p b L hN ha ht

section
variable {B : Nat} {w : World} (n : WC B w)
theorem WC.ny {p b : Nat} {L : List Nt} (h : Ny w p b L) (hp : p < B) (hb : b < B) : Ny n.w p b L := h.below n.h hp hb
theorem WC.rn {B' : Nat} {A : Option Addr} {L : List Nt} (h : Rn w B' A L) (hB : B' ≤ B) : Rn n.w B' A L := h.below (n.h.mono hB)
theorem WC.sz (h : B ≤ w.heap.size) : B ≤ n.w.heap.size := Nat.le_trans h n.h.size
end

set_option maxHeartbeats 2000000 in
set_option maxRecDepth 100000 in
theorem even_any (a t s : ByteArray) (w : World) (p b B : Nat) (A : Option Addr) (c : Nat) (L M : List Nt) (hN : Ny w p b L) (hR : Rn w B A M) (hB : B ≤ w.heap.size) (hP : L.Perm M) (hL : M.length ≤ 4096) (ha : a.size ≤ 5000) (ht : t.size ≤ 5000) :
    Calls Try.prog 17 #[.pointer (some ⟨p, 0, none⟩), .slice A M.length c, .agg #[.string a, .string t], .string s] w fun e w' => e = .returned (.bool true) ∧ Below w.heap.size w w' := by
  have hLL : L.length ≤ 4096 := by rw [hP.length_eq]; exact hL
  go_enter Try.func17, Try.ntmps17
  go_wp2_with fail
  go_loopw [9] (fun i wr => ∃ k : Nat, k ≤ M.length ∧ i = .int .i64 k ∧ Hid (Below (w.heap.size + 1) (w.alloc (.cells #[.string a, .string t] 27)) wr)) (fun i _ => M.length - (intOf i).toNat)
  case atStart => exact ⟨0, Nat.zero_le _, rfl, Lib.hid (Below.refl _ _)⟩
  case round =>
    obtain ⟨k, hk, rfl, Hb⟩ := hrel
    have hb0 := (Below.refl w.heap.size w).alloc (Nat.le_refl _) (.cells #[.string a, .string t] 27)
    have hbw : Below w.heap.size w wr := hb0.trans (Hb.out.mono (by omega))
    have hNr := hN.below hbw hN.plt hN.blt
    have hRr := hR.below (hbw.mono hB)
    have hsw : w.heap.size + 1 ≤ wr.heap.size := by have := Hb.out.size; simp at this; omega
    have hBr : B ≤ wr.heap.size := by omega
    have Hbw := Lib.hid hbw
    have hNn : ∀ n : WC wr.heap.size wr, Ny n.w p b L := fun n => n.ny hNr hNr.plt hNr.blt
    have hRn : ∀ n : WC wr.heap.size wr, Rn n.w B A M := fun n => n.rn hRr hBr
    have hBn : ∀ n : WC wr.heap.size wr, B ≤ n.w.heap.size := fun n => Nat.le_trans hBr (n.sz (Nat.le_refl _))
    clear hb0 hbw
    by_cases hlt : k < M.length
    · obtain ⟨g, off, rfl, hg, hc0, hc1⟩ := hRr.at_ hlt
      have hmem : M[k] ∈ L := hP.mem_iff.2 (List.getElem_mem hlt)
      generalize M[k] = x at *
      obtain ⟨xa, xt⟩ := x
      have hxs := hN.small _ hmem
      simp only at hxs hc0 hc1
      have hk0 : (0 : Int) ≤ (k : Int) := Int.natCast_nonneg _
      have hk1 : (k : Int) < (M.length : Int) := by omega
      have hcn := cntN_perm hP xa
      have Hcn := Lib.hid hcn
      clear hcn
      have d0 : ∀ n : WC wr.heap.size wr, n.w.cell? ⟨g, off + k * 2, none⟩ = some (.string xa) := fun n => (n.h.cell (p := ⟨g, off + k * 2, none⟩) (by show g < wr.heap.size; omega)).trans hc0
      have d1 : ∀ n : WC wr.heap.size wr, n.w.cell? ⟨g, off + k * 2 + 1, none⟩ = some (.string xt) := fun n => (n.h.cell (p := ⟨g, off + k * 2 + 1, none⟩) (by show g < wr.heap.size; omega)).trans hc1
      clear hc0 hc1
      go_wp2_with fail
      refine wp_region_class (by kernel_rfl) (by kernel_rfl) ?_
      repeat (go_big_quiet_step (first
        | (go_at_call 16; exact Calls.class_of (Nat.le_refl _) (refSign_any xa xt _ (by omega) (by omega)))
        | (go_at_call 20; exact Calls.class_of (Nat.le_refl _) (holds_mem xa xt _ p b L (hNn _) hmem))
        | (go_at_call 18; exact Calls.class_of (Nat.le_refl _) (count_any xa _ p b L (hNn _) hLL))
        | (go_at_call 27; exact Calls.class_same (refCount_perm xa _ B (some ⟨g, off, none⟩) c L M hP (hRn _) hL))))
      refine wpQuiet_nil ?_
      rintro w' ⟨n, rfl⟩
      go_wp2
      go_roundw
      case rel => exact ⟨k + 1, by omega, by go_num, Lib.hid (Hb.out.trans (n.h.mono (by omega)))⟩
      case measure => simp [intOf]; omega
    · have hc0 : wr.cell? ⟨w.heap.size, 0, none⟩ = some (.string a) := by
        rw [Hb.out.cell (p := ⟨w.heap.size, 0, none⟩) (by simp)]; simp
      have hc1 : wr.cell? ⟨w.heap.size, 1, none⟩ = some (.string t) := by
        rw [Hb.out.cell (p := ⟨w.heap.size, 1, none⟩) (by simp)]; simp
      have d0 : ∀ n : WC wr.heap.size wr, n.w.cell? ⟨w.heap.size, 0, none⟩ = some (.string a) := fun n => (n.h.cell (p := ⟨w.heap.size, 0, none⟩) (by show w.heap.size < wr.heap.size; omega)).trans hc0
      have d1 : ∀ n : WC wr.heap.size wr, n.w.cell? ⟨w.heap.size, 1, none⟩ = some (.string t) := fun n => (n.h.cell (p := ⟨w.heap.size, 1, none⟩) (by show w.heap.size < wr.heap.size; omega)).trans hc1
      have e12 : (s.toList == (signB a t).toList) = eqB (signB a t) s := by
        rw [Bool.eq_iff_iff]; constructor
        · intro h; rw [eqB_iff]; exact ((eqB_iff s _).1 h).symm
        · intro h; exact (eqB_iff s _).2 ((eqB_iff _ _).1 h).symm
      have hPa := hasN_perm hP (a, t)
      clear hc0 hc1
      cases hh : hasN M (a, t) <;> cases he : eqB (signB a t) s
      all_goals
        first
          | have Hr := Lib.hid (show (hasN L (a, t) && eqB (signB a t) s) = true by rw [hPa, hh, he]; rfl)
          | have Hr := Lib.hid (show (hasN L (a, t) && eqB (signB a t) s) = false by rw [hPa, hh, he]; rfl)
        have e2 := e12
        rw [he] at e2
        have Hh := Lib.hid hh
      all_goals
        clear hPa hh he e12
        go_wp2_with fail
        refine wp_region_class (by kernel_rfl) (by kernel_rfl) ?_
        repeat (go_big_quiet_step (first
          | (go_at_call 16; exact Calls.class_of (Nat.le_refl _) (refSign_any a t _ ha ht))
          | (go_at_call 20; exact Calls.class_of (Nat.le_refl _) (holds_is a t s _ p b L _ Hr.out (hNn _) ha ht))
          | (go_at_call 24; exact Calls.class_of (Nat.le_refl _) (refHas_perm a t _ B A c M _ Hh.out (hRn _) (hBn _) hL))
          | (go_at_call 18; exact Calls.class_of (Nat.le_refl _) (count_any a _ p b L (hNn _) hLL))
          | (go_at_call 27; exact Calls.class_same (refCount_perm a _ B A c L M hP (hRn _) hL))))
        refine wpQuiet_nil ?_
        rintro w' ⟨n, rfl⟩
        go_wp2
        go_ret
        exact ⟨rfl, Hbw.out.trans (n.h.mono (by omega))⟩
end Go.Proofs.Ytlbenmndmoeioaa
