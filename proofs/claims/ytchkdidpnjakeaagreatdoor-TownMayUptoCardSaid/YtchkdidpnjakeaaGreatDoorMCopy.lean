/- town.copySetup: a setup comes back that is the same, and nobody else's. -/
import Derived.Test.YtchkdidpnjakeaaGreatDoorMCopy0
import Derived.Test.YtchkdidpnjakeaaGreatDoorGMDay
import Derived.Deep.RegionWith
import Derived.Deep.Cut
namespace Go.Proofs.YtchkdidpnjakeaaGreatDoor
open Go.RowKit Go.Maps Go.Lib Led
set_option linter.unusedVariables false
set_option maxRecDepth 100000

def zeroSuA : Array Value := #[.slice none 0 0, .slice none 0 0, .slice none 0 0, .slice none 0 0, .slice none 0 0]
/-- the copy as it stands, and the result's cells -/
structure StI (w X : World) (P D F R H : Value) : Prop where
  bw : Below w.heap.size w X
  z : X.heap[w.heap.size]? = some (.cells #[P, D, F, R, H] 29 (0, 0))
  r : X.heap[w.heap.size + 1]? = some (.cells zeroSuA 29 (0, 0))
section
variable {w X Y : World} {P D F R H : Value}
theorem StI.lt (h : StI w X P D F R H) : w.heap.size + 1 < X.heap.size := (Array.getElem?_eq_some_iff.1 h.r).1
theorem StI.cells (h : StI w X P D F R H) : X.cell? ⟨w.heap.size, 0, none⟩ = some P ∧ X.cell? ⟨w.heap.size, 1, none⟩ = some D ∧ X.cell? ⟨w.heap.size, 2, none⟩ = some F ∧ X.cell? ⟨w.heap.size, 3, none⟩ = some R ∧ X.cell? ⟨w.heap.size, 4, none⟩ = some H ∧ (∀ j, X.frozen? ⟨w.heap.size, j, none⟩ = false) ∧ w.heap.size < X.heap.size := by
  have hz := h.z
  have := h.lt
  exact ⟨by simp [World.cell?, hz], by simp [World.cell?, hz], by simp [World.cell?, hz], by simp [World.cell?, hz], by simp [World.cell?, hz], fun j => by simp [World.frozen?, hz], by omega⟩
theorem StI.below (h : StI w X P D F R H) (hb : Below X.heap.size X Y) : StI w Y P D F R H := by
  have := h.lt
  exact ⟨h.bw.trans (hb.mono h.bw.size), (hb.block _ (by omega)).trans h.z, (hb.block _ (by omega)).trans h.r⟩
theorem StI.tk (h : StI w X P D F R H) (j : Nat) (v : Value) : Tk X (X.setCell ⟨w.heap.size, j, none⟩ v) := (Tk.refl X).setCell h.z (by decide) j v
theorem StI.put {P2 D2 F2 R2 H2 : Value} (h : StI w X P D F R H) (j : Nat) (v : Value) (he : (#[P, D, F, R, H] : Array Value).setIfInBounds j v = #[P2, D2, F2, R2, H2]) : StI w (X.setCell ⟨w.heap.size, j, none⟩ v) P2 D2 F2 R2 H2 := by
  refine ⟨h.bw.setCell (Nat.le_refl _) _, ?_, ?_⟩
  · have := heap_setCell_same X w.heap.size j _ _ v h.z
    rw [he] at this
    exact this
  · rw [heap_setCell_other _ _ _ _ (show w.heap.size + 1 ≠ w.heap.size by omega)]
    exact h.r
theorem StI.other (h : StI w X P D F R H) {g : Nat} (hg : w.heap.size + 1 < g) (j : Nat) (v : Value) : StI w (X.setCell ⟨g, j, none⟩ v) P D F R H := by
  refine ⟨h.bw.setCell (show w.heap.size ≤ g by omega) _, ?_, ?_⟩
  · rw [heap_setCell_other _ _ _ _ (show w.heap.size ≠ g by omega)]
    exact h.z
  · rw [heap_setCell_other _ _ _ _ (show w.heap.size + 1 ≠ g by omega)]
    exact h.r
end
theorem setRow_lowC (X : World) (rb : Nat) (V : Array Value) {B : Nat} (h : B ≤ rb) : Below B X (X.setRow rb V) := ⟨rfl, rfl, rfl, by simp [World.setRow], fun k hk => setRow_other _ _ _ _ (by omega)⟩
theorem Tk.setRow {w w' : World} (h : Tk w w') {g : Nat} {cs : Array Value} {t : TypeId} {fr : Nat × Nat} (hg : w'.heap[g]? = some (.cells cs t fr)) (ht : ¬ TkT t) (V : Array Value) : Tk w (w'.setRow g V) := fun q cs' t' fr' h1 h2 => by
  have h3 := h q cs' t' fr' h1 h2
  rw [setRow_other _ _ _ _ (show q ≠ g from fun e => by
    rw [e, hg] at h3
    injection h3 with h3
    injection h3 with _ h3
    exact ht (h3 ▸ h2))]
  exact h3
theorem DyI.done_kp {w0 w X : World} {DA : Option Addr} {c m : Nat} {D : List Dl} {L : List Dpl} {V : Array Value} (h : DyI w0 w X DA c D.length D L) (hT : Tk X (X.setRow m V)) (hm : m < w0.heap.size) (hB : Below w.heap.size X (X.setRow m V)) (_ : True) : DyI w0 w (X.setRow m V) DA c D.length D L := by
  refine ⟨h.pts, ?_, fun i y hy hi => ?_, fun i y hy hi => (h.new i y hy hi).keep hT, h.bel.trans hB⟩
  · refine Led.ownsRow_kp (S := fun q => q = m) h.row ⟨rfl, rfl, rfl, by simp [World.setRow], fun k hk hn => setRow_other _ _ _ _ hn⟩ (fun k hk e => ?_)
    rcases h.row.2 with ⟨h1, _⟩ | ⟨g, cap, cur, he, h2, _⟩
    · rw [h1] at hk; cases hk
    · rw [he] at hk
      injection hk with hk
      have hkk : k = g := hk
      omega
  · have h1 := (List.getElem?_eq_some_iff.1 hy).1
    have h2 := h.len
    omega
/-- a deal's boxes, as they are copied -/
def BoI (X Y : World) (D : List Bx) (A : Option Addr) (c j : Nat) : Prop := Below X.heap.size X Y ∧ ((A = none ∧ D = []) ∨ ∃ g L, A = some ⟨g, 0, none⟩ ∧ Cb X Y g c j D L)
theorem BoI.of {X Y : World} {D : List Bx} {A : Option Addr} {c : Nat} (h : ClB X D A c Y) : BoI X Y D A c 0 := by
  rcases h with ⟨h1, h2, h3⟩ | ⟨g, L, h1, h2⟩
  · exact ⟨h3, .inl ⟨h1, h2⟩⟩
  · exact ⟨h2.bel, .inr ⟨g, L, h1, h2⟩⟩
theorem BoI.bxf {X Y : World} {D : List Bx} {A : Option Addr} {c : Nat} (h : BoI X Y D A c D.length) : BxF Y A D := by
  rcases h.2 with ⟨_, rfl⟩ | ⟨g, L, rfl, h2⟩
  · exact fun h0 => absurd h0 (by simp)
  · have := h2.len
    rw [← this] at h2
    exact h2.bxf
/-- nothing is copied yet: a store into the setup's own cells -/
theorem DyI.put0 {w0 w X : World} {DA : Option Addr} {c : Nat} {D : List Dl} {L : List Dpl} {P D2 F R H : Value} (h : DyI w0 w X DA c 0 D L) (hS : StI w X P D2 F R H) (hw : w.heap.size < w0.heap.size) (j : Nat) (v : Value) : DyI w0 w (X.setCell ⟨w.heap.size, j, none⟩ v) DA c 0 D L := by
  have hbw : Below w.heap.size X (X.setCell ⟨w.heap.size, j, none⟩ v) := (Below.refl _ _).setCell (show w.heap.size ≤ w.heap.size from Nat.le_refl _) _
  refine ⟨h.pts, ?_, fun i y hy hi => ⟨(h.old i y hy hi).1.kept hbw, (h.old i y hy hi).2⟩, fun i y _ hi => absurd hi (by omega), h.bel.trans hbw⟩
  refine Led.ownsRow_kp (S := fun q => q = w.heap.size) h.row ⟨rfl, rfl, rfl, by simp [World.setCell], fun k hk hn => heap_setCell_other _ _ _ _ hn⟩ (fun k hk e => ?_)
  rcases h.row.2 with ⟨h1, _⟩ | ⟨g, cap, cur, he, h2, _⟩
  · rw [h1] at hk; cases hk
  · rw [he] at hk
    injection hk with hk
    have hkk : k = g := hk
    omega
def CyQ (u : Su) (w : World) (e : Ending) (w' : World) : Prop := ∃ a', e = .returned (.agg (suA u a')) ∧ SuAt w' w'.heap.size u a' ∧ Below w.heap.size w w'
/-- what the operations give that lay the days -/
def cyR (z : Nat) (u : Su) (a : Sa) : Nat → Value → World → Prop
  | 0, v, _ => v = .pointer (some ⟨z, 3, none⟩)
  | 1, v, _ => v = .pointer (some ⟨z, 3, none⟩)
  | 2, v, _ => v = .slice a.RA u.rest.length a.rc
  | 3, v, X => ∃ A c, v = .slice A u.rest.length c ∧ Rw X A (u.rest.map inC)
  | 4, v, _ => v = .pointer (some ⟨z, 3, none⟩)
  | 5, v, _ => v = .pointer (some ⟨z, 4, none⟩)
  | 6, v, _ => v = .slice a.HA u.hol.length a.hc
  | 7, v, X => ∃ A c, v = .slice A u.hol.length c ∧ Rw X A (u.hol.map inC)
  | 8, v, X => ∃ A c A2 c2, v = .agg #[.slice A u.rest.length c, .slice A2 u.hol.length c2] ∧ Rw X A (u.rest.map inC) ∧ Rw X A2 (u.hol.map inC)
  | 9, v, _ => v = .pointer (some ⟨z, 3, none⟩)
  | _, _, _ => True
theorem cyR_kept {z : Nat} {u : Su} {a : Sa} (i : Nat) (v : Value) (w w' : World) (hb : Below w.heap.size w w') (h : cyR z u a i v w) : cyR z u a i v w' := by
  match i, h with
  | 0, h => exact h
  | 1, h => exact h
  | 2, h => exact h
  | 3, ⟨A, c, h1, h2⟩ => exact ⟨A, c, h1, h2.keep (Tk.of_below hb)⟩
  | 4, h => exact h
  | 5, h => exact h
  | 6, h => exact h
  | 7, ⟨A, c, h1, h2⟩ => exact ⟨A, c, h1, h2.keep (Tk.of_below hb)⟩
  | 8, ⟨A, c, A2, c2, h1, h2, h3⟩ => exact ⟨A, c, A2, c2, h1, h2.keep (Tk.of_below hb), h3.keep (Tk.of_below hb)⟩
  | 9, h => exact h
  | n + 10, h => trivial
set_option maxHeartbeats 16000000 in
theorem copy_t {w : World} {u : Su} {a : Sa} (hA : SuAt w w.heap.size u a) (hz : SuSz u) :
    Calls Tryz.prog 19 #[.agg #[.slice a.PA u.par.length a.pc, .slice a.DA u.dl.length a.dc, .slice a.FA u.fd.length a.fc, .slice a.RA u.rest.length a.rc, .slice a.HA u.hol.length a.hc]] w fun e w' => CyQ u w e w' := by
  obtain ⟨W2, hW2⟩ : ∃ W2, W2 = (w.alloc (.cells #[.slice a.PA u.par.length a.pc, .slice a.DA u.dl.length a.dc, .slice a.FA u.fd.length a.fc, .slice a.RA u.rest.length a.rc, .slice a.HA u.hol.length a.hc] 29)).alloc (.cells zeroSuA 29) := ⟨_, rfl⟩
  have HS0 : Hid (StI w W2 (.slice a.PA u.par.length a.pc) (.slice a.DA u.dl.length a.dc) (.slice a.FA u.fd.length a.fc) (.slice a.RA u.rest.length a.rc) (.slice a.HA u.hol.length a.hc)) := Lib.hid (by
    have h1 : (w.alloc (.cells #[.slice a.PA u.par.length a.pc, .slice a.DA u.dl.length a.dc, .slice a.FA u.fd.length a.fc, .slice a.RA u.rest.length a.rc, .slice a.HA u.hol.length a.hc] 29)).heap.size = w.heap.size + 1 := by simp
    refine ⟨?_, ?_, ?_⟩
    · rw [hW2]; exact ((Below.refl _ _).alloc (Nat.le_refl _) _).alloc (by omega) _
    · rw [hW2, Below.heap_alloc _ _ _ (by omega)]; exact heap_alloc_new _ _
    · rw [hW2, ← h1]; exact heap_alloc_new _ _)
  have HA : Hid (∀ X, Below w.heap.size w X → SuAt X w.heap.size u a) := Lib.hid fun X hX => hA.below hX
  have HA0 := Lib.hid hA
  have HZ := Lib.hid hz
  have hp16 := hz.few.par
  have hd6 := hz.few.dl
  have HW : Hid ((w.alloc (.cells #[.slice a.PA u.par.length a.pc, .slice a.DA u.dl.length a.dc, .slice a.FA u.fd.length a.fc, .slice a.RA u.rest.length a.rc, .slice a.HA u.hol.length a.hc] 29)).alloc (.cells #[.slice none 0 0, .slice none 0 0, .slice none 0 0, .slice none 0 0, .slice none 0 0] 29) = W2) := Lib.hid hW2.symm
  have HC1 : Hid (∀ Y, Below w.heap.size w Y → Calls Tryz.prog 41 #[.slice a.PA u.par.length a.pc] Y fun e w' => ∃ A c, e = .returned (.slice A u.par.length c) ∧ Rw w' A (u.par.flatMap pyC) ∧ Below Y.heap.size Y w') := Lib.hid fun Y hY => copyPy (hA.below hY).par a.pc (by omega)
  have HC2 : Hid (∀ Y, Below w.heap.size w Y → Calls Tryz.prog 42 #[.slice a.FA u.fd.length a.fc] Y fun e w' => ∃ A c, e = .returned (.slice A u.fd.length c) ∧ Rw w' A (u.fd.flatMap enC) ∧ Below Y.heap.size Y w') := Lib.hid fun Y hY => copyEn (hA.below hY).fd a.fc (by have := hz.few.fd; omega)
  have HC3 : Hid (∀ Y, Below w.heap.size w Y → Calls Tryz.prog 43 #[.slice a.RA u.rest.length a.rc] Y fun e w' => ∃ A c, e = .returned (.slice A u.rest.length c) ∧ Rw w' A (u.rest.map inC) ∧ Below Y.heap.size Y w') := Lib.hid fun Y hY => copyIt (hA.below hY).rest a.rc (by have := hz.few.rest; omega)
  have HC4 : Hid (∀ Y, Below w.heap.size w Y → Calls Tryz.prog 43 #[.slice a.HA u.hol.length a.hc] Y fun e w' => ∃ A c, e = .returned (.slice A u.hol.length c) ∧ Rw w' A (u.hol.map inC) ∧ Below Y.heap.size Y w') := Lib.hid fun Y hY => copyIt (hA.below hY).hol a.hc (by have := hz.few.hol; omega)
  have HC5 : Hid (∀ Y, Below w.heap.size w Y → Calls Tryz.prog 44 #[.slice a.DA u.dl.length a.dc] Y fun e w' => ∃ A c L, e = .returned (.slice A u.dl.length c) ∧ DyI Y w w' A c 0 u.dl L ∧ Below Y.heap.size Y w') := Lib.hid fun Y hY => copyDl hA.dl a.dc (by omega) hY
  clear hW2 hA hz
  generalize hCP : CyQ u w = CP at *
  have HCP := Lib.hid hCP
  clear hCP
  go_enter Tryz.func19, Tryz.ntmps19
  go_upto_region 1 with fail
  rw [HW.out]
  clear HW HA
  obtain ⟨k0, k1, k2, k3, k4, kf, kl⟩ := HS0.out.cells
  have kf0 := kf 0
  clear kf
  go_upto_region 2 with (first | (go_at_call 41; refine (HC1.out _ HS0.out.bw).mono ?_; rintro e v1 ⟨A1, c1, rfl, hr1, hb1⟩; obtain ⟨l0, l1, l2, l3, l4, lf, ll⟩ := (HS0.out.below hb1).cells; have lf0 := lf 0; clear lf k0 k1 k2 k3 k4 kf0 kl) | fail)
  obtain ⟨X1, hX1⟩ : ∃ X1, X1 = v1.setCell ⟨w.heap.size, 0, none⟩ (.slice A1 u.par.length c1) := ⟨_, rfl⟩
  have HS1 := Lib.hid ((HS0.out.below hb1).put 0 (.slice A1 u.par.length c1) rfl)
  have HR1 := Lib.hid (hr1.keep ((HS0.out.below hb1).tk 0 (.slice A1 u.par.length c1)))
  rw [← hX1] at HS1 HR1 ⊢
  clear hX1 hr1 hb1 HC1 HS0 l0 l1 l2 l3 l4 lf0 ll
  obtain ⟨k0, k1, k2, k3, k4, kf, kl⟩ := HS1.out.cells
  have kf2 := kf 2
  clear kf
  go_upto_region 3 with (first | (go_at_call 42; refine (HC2.out _ HS1.out.bw).mono ?_; rintro e v2 ⟨A2, c2, rfl, hr2, hb2⟩; obtain ⟨l0, l1, l2, l3, l4, lf, ll⟩ := (HS1.out.below hb2).cells; have lf2 := lf 2; clear lf k0 k1 k2 k3 k4 kf2 kl) | fail)
  obtain ⟨X2, hX2⟩ : ∃ X2, X2 = v2.setCell ⟨w.heap.size, 2, none⟩ (.slice A2 u.fd.length c2) := ⟨_, rfl⟩
  have HS2 := Lib.hid ((HS1.out.below hb2).put 2 (.slice A2 u.fd.length c2) rfl)
  have HR2 : Hid (Rw X2 A1 (u.par.flatMap pyC) ∧ Rw X2 A2 (u.fd.flatMap enC)) := Lib.hid (by
    have hk := (HS1.out.below hb2).tk 2 (.slice A2 u.fd.length c2)
    rw [hX2]
    exact ⟨(HR1.out.keep (Tk.of_below hb2)).keep hk, hr2.keep hk⟩)
  rw [← hX2] at HS2 ⊢
  clear hX2 hr2 hb2 HC2 HS1 HR1 l0 l1 l2 l3 l4 lf2 ll
  have hlX2 := HS2.out.lt
  refine wp_region_facts (Le := fun w w' => Below w.heap.size w w') (C := fun X => Below X2.heap.size X2 X) (R := cyR w.heap.size u a) 10 10 [] (by kernel_rfl) (by kernel_rfl) (by kernel_rfl) rfl (Below.refl _ _).drew (fun W W' h1 h2 => h2.trans (h1.mono h2.size)) (fun i v w w' hb h => cyR_kept i v w w' hb h) (steps_take ?_) ?_
  · simp only [List.take_succ_cons, List.take_zero, StepsFrom]
    refine ⟨fact_step ?_, fact_step ?_, fact_step ?_, fact_step ?_, fact_step ?_, fact_step ?_, fact_step ?_, fact_step ?_, fact_step ?_, fact_step ?_, trivial⟩
    all_goals (intro a2 W hs hc hd9 K9 hK)
    all_goals have t1 : a2.tmps[1]? = some (.pointer (some ⟨w.heap.size, 0, none⟩)) := (hs.rest 1 (of_decide_eq_true (by kernel_rfl))).trans rfl
    all_goals clear hs
    -- 0
    · go_simp
      exact hK _ _ (Below.refl _ _) rfl
    -- 1
    · obtain ⟨v0, s0, r0⟩ := hd9 { on := 0, ground := .data } (by simp) (by rfl) _ (by rfl)
      replace s0 := s0 _ rfl
      obtain rfl := r0
      go_simp
      exact hK _ _ (Below.refl _ _) rfl
    -- 2
    · obtain ⟨v1, s1, r1⟩ := hd9 { on := 1, ground := .data } (by simp) (by rfl) _ (by rfl)
      replace s1 := s1 _ rfl
      obtain rfl := r1
      obtain ⟨m0, m1, m2, m3, m4, mf, ml⟩ := (HS2.out.below hc).cells
      go_simp
      exact hK _ _ (Below.refl _ _) rfl
    -- 3
    · obtain ⟨v2, s2, r2⟩ := hd9 { on := 2, ground := .data } (by simp) (by rfl) _ (by rfl)
      replace s2 := s2 _ rfl
      obtain rfl := r2
      have HC := Lib.hid (HC3.out W (HS2.out.below hc).bw)
      go_simp
      refine HC.out.mono ?_
      rintro e w5 ⟨A, c, rfl, hr5, hb5⟩
      exact hK _ _ hb5 ⟨A, c, rfl, hr5⟩
    -- 4
    · go_simp
      exact hK _ _ (Below.refl _ _) rfl
    -- 5
    · obtain ⟨v4, s4, r4⟩ := hd9 { on := 4, ground := .data } (by simp) (by rfl) _ (by rfl)
      replace s4 := s4 _ rfl
      obtain rfl := r4
      go_simp
      exact hK _ _ (Below.refl _ _) rfl
    -- 6
    · obtain ⟨v5, s5, r5⟩ := hd9 { on := 5, ground := .data } (by simp) (by rfl) _ (by rfl)
      replace s5 := s5 _ rfl
      obtain rfl := r5
      obtain ⟨m0, m1, m2, m3, m4, mf, ml⟩ := (HS2.out.below hc).cells
      go_simp
      exact hK _ _ (Below.refl _ _) rfl
    -- 7
    · obtain ⟨v6, s6, r6⟩ := hd9 { on := 6, ground := .data } (by simp) (by rfl) _ (by rfl)
      replace s6 := s6 _ rfl
      obtain rfl := r6
      have HC := Lib.hid (HC4.out W (HS2.out.below hc).bw)
      go_simp
      refine HC.out.mono ?_
      rintro e w5 ⟨A, c, rfl, hr5, hb5⟩
      exact hK _ _ hb5 ⟨A, c, rfl, hr5⟩
    -- 8
    · obtain ⟨v3, s3, r3⟩ := hd9 { on := 3, ground := .data } (by simp) (by rfl) _ (by rfl)
      replace s3 := s3 _ rfl
      obtain ⟨A, c, rfl, q1⟩ := r3
      obtain ⟨v7, s7, r7⟩ := hd9 { on := 7, ground := .data } (by simp) (by rfl) _ (by rfl)
      replace s7 := s7 _ rfl
      obtain ⟨A3, c3, rfl, q2⟩ := r7
      go_simp
      exact hK _ _ (Below.refl _ _) ⟨_, _, _, _, rfl, q1, q2⟩
    -- 9
    · go_simp
      exact hK _ _ (Below.refl _ _) rfl
  · intro a2 W hs hc hf
    obtain ⟨v8, s8, A3, c3, A4, c4, rfl, q1, q2⟩ := hf 8 _ rfl (by omega)
    obtain ⟨v9, s9, rfl⟩ := hf 9 _ rfl (by omega)
    replace s8 := s8 _ rfl
    replace s9 := s9 _ rfl
    obtain ⟨m0, m1, m2, m3, m4, mf, ml⟩ := (HS2.out.below hc).cells
    have mf3 := mf 3
    have mf4 := mf 4
    have hp := hs.puts [14, 15, 16, 17, 18, 19, 20, 21, 22, 23] (by kernel_rfl)
    simp only [List.foldl_cons, List.foldl_nil] at hp
    have g22 : a2.tmps.getD 22 undef = .agg #[.slice A3 u.rest.length c3, .slice A4 u.hol.length c4] := by simp [s8]
    have g23 : a2.tmps.getD 23 undef = .pointer (some ⟨w.heap.size, 3, none⟩) := by simp [s9]
    rw [g22, g23] at hp
    generalize a2.tmps.getD 14 undef = f14 at hp
    generalize a2.tmps.getD 15 undef = f15 at hp
    generalize a2.tmps.getD 16 undef = f16 at hp
    generalize a2.tmps.getD 17 undef = f17 at hp
    generalize a2.tmps.getD 18 undef = f18 at hp
    generalize a2.tmps.getD 19 undef = f19 at hp
    generalize a2.tmps.getD 20 undef = f20 at hp
    generalize a2.tmps.getD 21 undef = f21 at hp
    clear g22 g23 s8 s9 hs hf mf
    rw [hp]
    clear hp
    refine wpOps_more (by rfl) rfl ?_
    go_simp
    refine wpOps_done ?_
    obtain ⟨X3, hX3⟩ : ∃ X3, X3 = (W.setCell ⟨w.heap.size, 3, none⟩ (.slice A3 u.rest.length c3)).setCell ⟨w.heap.size, 4, none⟩ (.slice A4 u.hol.length c4) := ⟨_, rfl⟩
    have HS3 := Lib.hid (((HS2.out.below hc).put 3 (.slice A3 u.rest.length c3) rfl).put 4 (.slice A4 u.hol.length c4) rfl)
    have HR3 : Hid (Rw X3 A1 (u.par.flatMap pyC) ∧ Rw X3 A2 (u.fd.flatMap enC) ∧ Rw X3 A3 (u.rest.map inC) ∧ Rw X3 A4 (u.hol.map inC)) := Lib.hid (by
      have hk1 := (HS2.out.below hc).tk 3 (.slice A3 u.rest.length c3)
      have hk2 := ((HS2.out.below hc).put 3 (.slice A3 u.rest.length c3) rfl).tk 4 (.slice A4 u.hol.length c4)
      have hk := hk1.trans hk2
      have hb := Tk.of_below hc
      rw [hX3]
      exact ⟨(HR2.out.1.keep hb).keep hk, (HR2.out.2.keep hb).keep hk, q1.keep hk, q2.keep hk⟩)
    rw [← hX3] at HS3 ⊢
    clear hX3 q1 q2 hc m0 m1 m2 m3 m4 ml mf3 mf4 HS2 HR2 HC3 HC4 hlX2 W a2
    generalize hPv : Value.slice A1 u.par.length c1 = PV at *
    generalize hFv : Value.slice A2 u.fd.length c2 = FV at *
    generalize hRv : Value.slice A3 u.rest.length c3 = RV at *
    generalize hHv : Value.slice A4 u.hol.length c4 = HV at *
    have HPV := Lib.hid hPv
    have HFV := Lib.hid hFv
    have HRV := Lib.hid hRv
    have HHV := Lib.hid hHv
    clear hPv hFv hRv hHv
    obtain ⟨k0, k1, k2, k3, k4, kf, kl⟩ := HS3.out.cells
    have kf1 := kf 1
    clear kf k0 k2 k3 k4
    go_upto_region 5 with (first | (go_at_call 44; refine (HC5.out _ HS3.out.bw).mono ?_; rintro e v4 ⟨DA, dc, L0, rfl, hy4, hb4⟩; obtain ⟨l0, l1, l2, l3, l4, lf, ll⟩ := (HS3.out.below hb4).cells; have lf1 := lf 1; clear lf k1 kf1 kl l0 l2 l3 l4) | fail)
    obtain ⟨X4, hX4⟩ : ∃ X4, X4 = v4.setCell ⟨w.heap.size, 1, none⟩ (.slice DA u.dl.length dc) := ⟨_, rfl⟩
    have hlX3 := HS3.out.lt
    have HS4 := Lib.hid ((HS3.out.below hb4).put 1 (.slice DA u.dl.length dc) rfl)
    have HR4 : Hid (Rw X4 A1 (u.par.flatMap pyC) ∧ Rw X4 A2 (u.fd.flatMap enC) ∧ Rw X4 A3 (u.rest.map inC) ∧ Rw X4 A4 (u.hol.map inC)) := Lib.hid (by
      have hk := (Tk.of_below hb4).trans ((HS3.out.below hb4).tk 1 (.slice DA u.dl.length dc))
      rw [hX4]
      obtain ⟨r1, r2, r3, r4⟩ := HR3.out
      exact ⟨r1.keep hk, r2.keep hk, r3.keep hk, r4.keep hk⟩)
    have HY4 : Hid (DyI X3 w X4 DA dc 0 u.dl L0) := Lib.hid (by
      rw [hX4]
      exact hy4.put0 (HS3.out.below hb4) (by omega) _ _)
    rw [← hX4] at HS4 ⊢
    clear hX4 hy4 hb4 HC5 HS3 HR3 l1 lf1 ll
    have HJ0 : Hid (∃ L, StI w X4 PV (.slice DA u.dl.length dc) FV RV HV ∧ (Rw X4 A1 (u.par.flatMap pyC) ∧ Rw X4 A2 (u.fd.flatMap enC) ∧ Rw X4 A3 (u.rest.map inC) ∧ Rw X4 A4 (u.hol.map inC)) ∧ DyI X3 w X4 DA dc 0 u.dl L) := Lib.hid ⟨L0, HS4.out, HR4.out, HY4.out⟩
    obtain ⟨k0, k1, k2, k3, k4, kf, kl⟩ := HS4.out.cells
    clear k0 k2 k3 k4 kf HS4 HR4 HY4
    go_wp2_with fail
    clear k1 kl
    go_loopw [31, 3, 4, 5] (fun i _ _ _ wr => ∃ k : Nat, k ≤ u.dl.length ∧ i = .int .i64 (k : Int) ∧ Hid (∃ L, StI w wr PV (.slice DA u.dl.length dc) FV RV HV ∧ (Rw wr A1 (u.par.flatMap pyC) ∧ Rw wr A2 (u.fd.flatMap enC) ∧ Rw wr A3 (u.rest.map inC) ∧ Rw wr A4 (u.hol.map inC)) ∧ DyI X3 w wr DA dc k u.dl L)) (fun i _ _ _ _ => u.dl.length - (RowKit.intOf i).toNat)
    case atStart => exact ⟨0, Nat.zero_le _, rfl, HJ0⟩
    case round =>
      clear HJ0
      obtain ⟨k, hk, rfl, HI⟩ := hrel
      obtain ⟨X, rfl⟩ : ∃ X, X = wr := ⟨_, rfl⟩
      obtain ⟨L, hS, hR, hY⟩ := HI.out
      have HS := Lib.hid hS
      have HR := Lib.hid hR
      have HY := Lib.hid hY
      obtain ⟨k0, k1, k2, k3, k4, kf, kl⟩ := hS.cells
      clear k0 k2 k3 k4 kf
      by_cases hlt : k < u.dl.length
      · have b1 : (k : Int) < (u.dl.length : Int) := by omega
        obtain ⟨gd, rfl, hgd0, hgdl, _⟩ := hY.addr (by omega)
        have hlL : k < L.length := by rw [hY.len]; exact hlt
        obtain ⟨y, hy⟩ : ∃ y, L[k]? = some y := ⟨L[k], List.getElem?_eq_getElem hlL⟩
        have hyx : y.x ∈ u.dl := by rw [← hY.pts]; exact List.mem_map.2 ⟨y, List.mem_of_getElem? hy, rfl⟩
        obtain ⟨y11, _⟩ := hY.at_ hy
        have y11 : X.cell? ⟨gd, k * 17 + 11, none⟩ = some (.slice y.A y.x.box.length y.c) := y11 11 _ rfl
        have hbl := HZ.out.dl.box y.x hyx
        have hold := (hY.old k y hy (Nat.le_refl _)).1
        have HCb : Hid (∀ Y, Below X.heap.size X Y → Calls Tryz.prog 45 #[.slice y.A y.x.box.length y.c] Y fun e w' => ∃ A2 c2, e = .returned (.slice A2 y.x.box.length c2) ∧ Hid (BoI X w' y.x.box A2 c2 0)) := Lib.hid fun Y hY2 => by
          refine (cloneBx (w0 := X) y.c hY2 ((hold.more hY.bel.size).kept hY2) hbl).mono ?_
          rintro e w' ⟨A2, c2, rfl, h1, h2⟩
          exact ⟨A2, c2, rfl, Lib.hid (BoI.of h1)⟩
        have HLw : Hid (∀ b ∈ y.x.box, b.l.length ≤ 100000000) := Lib.hid fun b hb => (HZ.out.dl.bx y.x hyx b hb).few
        have hgw : w.heap.size + 1 < gd := by omega
        have HLk := Lib.hid hy
        clear hyx hold hy hlL HI hS hR hY
        go_upto_region 9 with (first | (go_at_call 45; refine (HCb.out _ (by first | exact (Below.refl _ _).drew | exact Below.refl _ _)).mono ?_; rintro e w5 ⟨B2, c2, rfl, HB0⟩) | fail)
        clear HCb y11 k1 kl
        go_wp2_with fail
        go_loopw [43, 5] (fun i _ wx => ∃ j : Nat, j ≤ y.x.box.length ∧ i = .int .i64 (j : Int) ∧ Hid (BoI X wx y.x.box B2 c2 j)) (fun i _ _ => y.x.box.length - (RowKit.intOf i).toNat)
        case atStart => exact ⟨0, Nat.zero_le _, rfl, HB0⟩
        case round =>
          clear HB0
          obtain ⟨j, hj, rfl, HB⟩ := hrel
          by_cases hlj : j < y.x.box.length
          · have b3 : (j : Int) < (y.x.box.length : Int) := by omega
            obtain ⟨g2, L2, rfl, hCb⟩ : ∃ g L, B2 = some ⟨g, 0, none⟩ ∧ Cb X wr g c2 j y.x.box L := by
              rcases HB.out.2 with ⟨_, h2⟩ | h
              · rw [h2] at hlj; exact absurd hlj (by simp)
              · exact h
            have hlL : j < L2.length := by rw [hCb.len]; exact hlj
            obtain ⟨x2, f2⟩ := hCb.at_ hlL
            obtain ⟨z, hz⟩ : ∃ z : Bp, L2[j] = z := ⟨_, rfl⟩
            have hzg : L2[j]? = some z := by rw [List.getElem?_eq_getElem hlL, hz]
            have hzx : z.x ∈ y.x.box := by rw [← hCb.pts]; exact List.mem_map.2 ⟨z, List.mem_of_getElem? hzg, rfl⟩
            rw [hz] at x2
            have hgl := hCb.glt
            have HRc : Hid (∀ Y, Below wr.heap.size wr Y → Calls Tryz.prog 46 #[.slice z.A z.x.l.length z.c] Y fun e w' => ∃ A3 c3, e = .returned (.slice A3 z.x.l.length c3) ∧ Hid (BoI X (w'.setCell ⟨g2, j * 3 + 2, none⟩ (.slice A3 z.x.l.length c3)) y.x.box (some ⟨g2, 0, none⟩) c2 (j + 1)) ∧ w'.cell? ⟨g2, j * 3 + 2, none⟩ = some (.slice z.A z.x.l.length z.c) ∧ w'.frozen? ⟨g2, j * 3 + 2, none⟩ = false ∧ g2 < w'.heap.size) := Lib.hid fun Y hY => by
              have hCY := hCb.below hY
              refine (cloneLt z.c (hCY.old j z hzg (Nat.le_refl _)).1 (HLw.out _ hzx)).mono ?_
              rintro e w' ⟨A3, c3, rfl, h1, h2, h3⟩
              have hbw := hY.trans (h3.mono hY.size)
              have hst := hCb.step hlL (A' := A3) (c' := c3) hbw (by rw [hz]; exact h1) h2
              rw [hz] at hst
              exact ⟨A3, c3, rfl, Lib.hid ⟨hst.bel, .inr ⟨g2, _, rfl, hst⟩⟩, (hbw.cell (p := ⟨g2, j * 3 + 2, none⟩) hgl.2).trans x2, (hbw.frozen (p := ⟨g2, j * 3 + 2, none⟩) hgl.2).trans f2, Nat.lt_of_lt_of_le hgl.2 hbw.size⟩
            have hgl2 := hgl.2
            clear HB hCb hlL hz hzg hzx hgl
            generalize z.x.l.length = zl at *
            generalize y.x.box.length = yl at *
            go_wp2_with (first | (go_at_call 46; refine (HRc.out _ (by first | exact (Below.refl _ _).drew | exact Below.refl _ _)).mono ?_; rintro e w5 ⟨A3, c3, rfl, HB5, q2, qf2, ql2⟩; clear HRc x2 f2) | fail)
            go_roundw
            case rel => exact ⟨j + 1, by omega, by go_num, HB5⟩
            case measure => simp [RowKit.intOf] <;> omega
          · have b3 : ¬ (j : Int) < (y.x.box.length : Int) := by omega
            obtain rfl : j = y.x.box.length := by omega
            have hbw := HB.out.1
            obtain ⟨k0, k1, k2, k3, k4, kf, kl⟩ := (HS.out.below hbw).cells
            obtain ⟨y11, yf⟩ := (HY.out.below hbw).at_ HLk.out
            have y11 : wr.cell? ⟨gd, k * 17 + 11, none⟩ = some (.slice y.A y.x.box.length y.c) := y11 11 _ rfl
            have yf11 := yf (k * 17 + 11)
            have hgl : gd < wr.heap.size := Nat.lt_of_lt_of_le hgdl hbw.size
            have HX1 : Hid (∃ L, StI w (wr.setCell ⟨gd, k * 17 + 11, none⟩ (.slice B2 y.x.box.length c2)) PV (.slice (some ⟨gd, 0, none⟩) u.dl.length dc) FV RV HV ∧ (Rw (wr.setCell ⟨gd, k * 17 + 11, none⟩ (.slice B2 y.x.box.length c2)) A1 (u.par.flatMap pyC) ∧ Rw (wr.setCell ⟨gd, k * 17 + 11, none⟩ (.slice B2 y.x.box.length c2)) A2 (u.fd.flatMap enC) ∧ Rw (wr.setCell ⟨gd, k * 17 + 11, none⟩ (.slice B2 y.x.box.length c2)) A3 (u.rest.map inC) ∧ Rw (wr.setCell ⟨gd, k * 17 + 11, none⟩ (.slice B2 y.x.box.length c2)) A4 (u.hol.map inC)) ∧ DyI X3 w (wr.setCell ⟨gd, k * 17 + 11, none⟩ (.slice B2 y.x.box.length c2)) (some ⟨gd, 0, none⟩) dc (k + 1) u.dl L) := Lib.hid (by
              obtain ⟨g9, he9, _, _, cs, hcs2⟩ := (HY.out.below hbw).addr (by omega)
              injection he9 with he9
              injection he9 with he9
              subst he9
              have hT := (Tk.of_below hbw).trans ((Tk.refl wr).setCell hcs2 (by decide) (k * 17 + 11) (.slice B2 y.x.box.length c2))
              obtain ⟨r1, r2, r3, r4⟩ := HR.out
              exact ⟨_, (HS.out.below hbw).other hgw _ _, ⟨r1.keep hT, r2.keep hT, r3.keep hT, r4.keep hT⟩, HY.out.step (by omega) HLk.out hbw HB.out.bxf⟩)
            clear HB HS HR HY HLk hbw k0 k2 k3 k4 kf yf
            generalize y.x.box.length = yl at *
            go_wp2_with fail
            go_roundw
            case rel => exact ⟨k + 1, by omega, by go_num, HX1⟩
            case measure => simp [RowKit.intOf] <;> omega
      · have b1 : ¬ (k : Int) < (u.dl.length : Int) := by omega
        obtain rfl : k = u.dl.length := by omega
        have HRg := Lib.hid (show X.rangeAt w.heap.size 0 ([PV, .slice DA u.dl.length dc, FV, RV, HV] : List Value) from fun j v hv => by
          show X.cell? ⟨w.heap.size, 0 + j, none⟩ = some v
          rw [Nat.zero_add, World.cell?, hS.z]
          simpa using hv)
        have HR1 := Lib.hid hS.r
        have HOn : Hid ((#[PV, .slice DA u.dl.length dc, FV, RV, HV] : Array Value).all (·.oneCell') = true) := Lib.hid (by rw [← HPV.out, ← HFV.out, ← HRV.out, ← HHV.out]; simp [Value.oneCell'])
        have HSr := Lib.hid (setRow_heap X (w.heap.size + 1) zeroSuA #[PV, .slice DA u.dl.length dc, FV, RV, HV] 29 (0, 0) hS.r)
        have HF : Hid (CP (.returned (.agg #[PV, .slice DA u.dl.length dc, FV, RV, HV])) (X.setRow (w.heap.size + 1) #[PV, .slice DA u.dl.length dc, FV, RV, HV])) := Lib.hid (by
          rw [← HCP.out]
          obtain ⟨r1, r2, r3, r4⟩ := hR
          have hT : Tk X (X.setRow (w.heap.size + 1) #[PV, .slice DA u.dl.length dc, FV, RV, HV]) := (Tk.refl X).setRow hS.r (by decide) _
          have hB := setRow_lowC X (w.heap.size + 1) #[PV, .slice DA u.dl.length dc, FV, RV, HV] (show w.heap.size ≤ w.heap.size + 1 by omega)
          exact ⟨⟨A1, c1, DA, dc, A2, c2, A3, c3, A4, c4⟩, by rw [← HPV.out, ← HFV.out, ← HRV.out, ← HHV.out]; rfl, ⟨(r1.keep hT).pys, (hY.done_kp hT (by omega) hB trivial).dlw, (r2.keep hT).ent, (r3.keep hT).it, (r4.keep hT).it⟩, hS.bw.trans hB⟩)
        have HIb : Hid ((Tryz.prog.info? 29).map (·.size) = some ([PV, .slice DA u.dl.length dc, FV, RV, HV] : List Value).length) := Lib.hid infoSu5
        have HIs : Hid ((Tryz.prog.info? 29).map (·.size) = some (#[PV, .slice DA u.dl.length dc, FV, RV, HV] : Array Value).size) := Lib.hid infoSu5
        clear HI hS hR hY HS HR HY HPV HFV HRV HHV HCP HA0 HZ hk hlt k1 kl
        generalize Value.slice DA u.dl.length dc = DV at *
        go_upto_region 16 with fail
        go_wp2_with (first
          | (refine wpList_load_mid rfl 29 (.tmp 1) rfl w.heap.size 0 rfl [PV, DV, FV, RV, HV] _ HRg.out Tryz.underlying29 rfl HIb.out ?_)
          | (refine wpList_store_row rfl 29 (.tmp 2) (.tmp 64) rfl (w.heap.size + 1) #[PV, DV, FV, RV, HV] rfl rfl 29 zeroSuA HR1.out HIs.out rfl HOn.out ?_)
          | fail)
        refine bodyPost_ret (results_cell_row rfl _ _ (w.heap.size + 1) 29 #[PV, DV, FV, RV, HV] (0, 0) _ (by rfl) HSr.out Tryz.underlying29 rfl HIs.out) rfl ?_
        exact HF.out
end Go.Proofs.YtchkdidpnjakeaaGreatDoor
