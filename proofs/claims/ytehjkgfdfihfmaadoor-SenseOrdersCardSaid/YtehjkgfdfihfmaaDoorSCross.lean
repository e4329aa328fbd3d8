/- sense.crossed. -/
import Derived.Test.YtehjkgfdfihfmaaDoorSLL
import Derived.Deep.RegionLaw
import Derived.Deep.AppendLies
namespace Go.Proofs.YtehjkgfdfihfmaaDoor
open Go.RowKit Go.Maps Go.Lib
set_option linter.unusedVariables false
set_option maxRecDepth 100000

def crossL (ls ms : List (List Nat)) : List (List Nat) := ls.flatMap fun a => ms.map fun b => a ++ b
section
variable {w w' : World} {base : Nat} {v v' : Value} {ls ms : List (List Nat)} {vs xs : List Value}
theorem LL.app (h : LL w base v ls vs) (hrow : w'.ownsRow base 43 1 v' (ls.length + ms.length) (vs ++ xs)) (hg : w.grownBy w' v.ownBlock) (hlen : xs.length = ms.length)
    (hx : ∀ (i : Nat) (u : Value) (l : List Nat), xs[i]? = some u → ms[i]? = some l → Ri w base u l) (hap : ∀ (i j : Nat) (u u' : Value), xs[i]? = some u → xs[j]? = some u' → i ≠ j → u.ownBlock = none ∨ u.ownBlock ≠ u'.ownBlock)
    (hcr : ∀ u ∈ vs, ∀ x ∈ xs, ∀ q, u.ownBlock = some q → x.ownBlock ≠ some q) : LL w' base v' (ls ++ ms) (vs ++ xs) := by
  have hni : ∀ (u : Value) (l : List Nat), Ri w base u l → ∀ q, u.ownBlock = some q → some q ≠ v.ownBlock := by
    intro u l hR q hq e
    obtain ⟨_, _, c1, e1⟩ := h.rowlt e.symm
    obtain ⟨_, _, c2, e2⟩ := hR.lt hq
    rw [e1] at e2
    simp at e2
  refine ⟨by rw [List.length_append]; exact hrow, by simp [h.len, hlen], ?_, ?_⟩
  · intro i u l hu hl
    have hR : Ri w base u l := by
      rcases Nat.lt_or_ge i vs.length with hi | hi
      · rw [List.getElem?_append_left hi] at hu
        rw [List.getElem?_append_left (by rw [← h.len]; exact hi)] at hl
        exact h.each i u l hu hl
      · rw [List.getElem?_append_right hi] at hu
        rw [List.getElem?_append_right (by rw [← h.len]; exact hi), ← h.len] at hl
        exact hx _ u l hu hl
    exact hR.keep fun q hq => hg.block q (hR.lt hq).2.1 (hni u l hR q hq)
  · intro i j u u' hu hu' hij
    rcases Nat.lt_or_ge i vs.length with hi | hi
    · rw [List.getElem?_append_left hi] at hu
      rcases Nat.lt_or_ge j vs.length with hj | hj
      · rw [List.getElem?_append_left hj] at hu'
        exact h.apart i j u u' hu hu' hij
      · rw [List.getElem?_append_right hj] at hu'
        cases hq : u.ownBlock with
        | none => exact .inl rfl
        | some q => exact .inr fun e => hcr u (List.mem_of_getElem? hu) u' (List.mem_of_getElem? hu') q hq e.symm
    · rw [List.getElem?_append_right hi] at hu
      rcases Nat.lt_or_ge j vs.length with hj | hj
      · rw [List.getElem?_append_left hj] at hu'
        cases hq : u.ownBlock with
        | none => exact .inl rfl
        | some q => exact .inr fun e => hcr u' (List.mem_of_getElem? hu') u (List.mem_of_getElem? hu) q e.symm hq
      · rw [List.getElem?_append_right hj] at hu'
        exact hap _ _ u u' hu hu' (by omega)
theorem LL.lt (h : LL w base v ls vs) {u : Value} (hu : u ∈ vs) {q : Nat} (hq : u.ownBlock = some q) : base ≤ q ∧ q < w.heap.size := by
  obtain ⟨i, hi, rfl⟩ := List.getElem_of_mem hu
  have := (h.each i vs[i] _ (List.getElem?_eq_getElem hi) (List.getElem?_eq_getElem (by rw [← h.len]; exact hi))).lt hq
  exact ⟨this.1, this.2.1⟩
/-- the elements' blocks lie below bm or from N on -/
def Out (bm N : Nat) (vs : List Value) : Prop := ∀ u ∈ vs, ∀ q, u.ownBlock = some q → q < bm ∨ N ≤ q
end

def midL (ls : List (List Nat)) (m : List Nat) (k : Nat) : List (List Nat) := (ls.take k).map (fun a => a ++ m) ++ ls.drop k
theorem midL_len (ls : List (List Nat)) (m : List Nat) (k : Nat) : (midL ls m k).length = ls.length := by simp [midL]; omega
theorem midL_get (ls : List (List Nat)) (m : List Nat) (k : Nat) (hk : k < ls.length) : (midL ls m k)[k]'(by rw [midL_len]; exact hk) = ls[k] := by
  have h1 : ((ls.take k).map (fun a => a ++ m)).length = k := by simp; omega
  unfold midL
  rw [List.getElem_append_right (by omega)]
  simp only [h1, Nat.sub_self]
  rw [List.getElem_drop]
  simp
theorem midL_set (ls : List (List Nat)) (m : List Nat) (k : Nat) (hk : k < ls.length) : (midL ls m k).set k (ls[k] ++ m) = midL ls m (k + 1) := by
  have h1 : ((ls.take k).map (fun a => a ++ m)).length = k := by simp; omega
  unfold midL
  rw [List.set_append_right _ _ (by omega), h1, Nat.sub_self, List.drop_eq_getElem_cons hk, List.set_cons_zero, List.take_succ_eq_append_getElem hk, List.map_append, List.append_assoc]
  rfl
theorem midL_end (ls : List (List Nat)) (m : List Nat) (k : Nat) (hk : ls.length ≤ k) : midL ls m k = crossL ls [m] := by
  unfold midL crossL
  rw [List.take_of_length_le hk, List.drop_eq_nil_of_le hk, List.append_nil]
  simp
  induction ls with
  | nil => rfl
  | cons a l ih => simp at hk ⊢; exact ih (by omega)
/-- the nodes' blocks are what they were -/
def KN (w w' : World) : Prop := ∀ (q : Nat) (cur : Array Value), w.heap[q]? = some (.cells cur 24 (0, 0)) → w'.heap[q]? = w.heap[q]?
theorem KN.refl (w : World) : KN w w := fun _ _ _ => rfl
theorem KN.of_below {w w' : World} (h : Below w.heap.size w w') : KN w w' := fun q _ hq => h.block q (Array.getElem?_eq_some_iff.1 hq).1
set_option maxHeartbeats 4000000 in
theorem crossed_one (w : World) (base bm : Nat) (v x : Value) (ls : List (List Nat)) (m : List Nat) (vs us : List Value) (hL : LL w base v ls vs) (hM : LL w bm x [m] us) (hb : base ≤ bm) (hbm : bm ≤ w.heap.size) (hv : ∀ q, v.ownBlock = some q → q < bm) (hvs : ∀ u ∈ vs, ∀ q, u.ownBlock = some q → q < bm) (h1 : ls.length ≤ 5000) (h2 : ∀ l ∈ ls, l.length ≤ 10000) (h3 : m.length ≤ 10000) :
    Calls Tryd.prog 30 #[v, x] w fun e w' => ∃ v', e = .returned v' ∧ (∃ vs', LL w' base v' (crossL ls [m]) vs') ∧ Below base w w' ∧ KN w w' := by
  obtain ⟨A, c, rfl⟩ := hL.form
  obtain ⟨gm, cm, Am, c2, rfl, hgm, hgml, hum, hcm, hRm⟩ := hM.at_ (i := 0) (by simp)
  simp only [List.getElem_cons_zero, List.length_cons, List.length_nil, Nat.zero_add] at hum hcm hRm ⊢
  have HL := Lib.hid hL
  have HRm := Lib.hid hRm
  have Hv := Lib.hid hv
  have Hvs := Lib.hid hvs
  have H2 := Lib.hid h2
  clear hL hM hv hvs hRm h2 hum
  go_enter Tryd.func30, Tryd.ntmps30
  go_wp2_with fail
  go_loopw [5, 16] (fun s i wr => ∃ (k : Nat) (vk : List Value), i = .int .i64 (k : Int) ∧ k ≤ ls.length ∧ Hid (LL wr base (.slice A ls.length c) (midL ls m k) vk) ∧ Hid (Out bm w.heap.size vk) ∧ Hid (∀ q, bm ≤ q → q < w.heap.size → wr.heap[q]? = w.heap[q]?) ∧ Hid (Below base w wr) ∧ Hid (KN w wr)) (fun _ i _ => ls.length - (RowKit.intOf i).toNat)
  case atStart => exact ⟨0, vs, rfl, Nat.zero_le _, Lib.hid (by simpa [midL] using HL.out), Lib.hid (fun u hu q hq => .inl (Hvs.out u hu q hq)), Lib.hid (fun _ _ _ => rfl), Lib.hid (Below.refl _ _), Lib.hid (KN.refl _)⟩
  case round =>
    obtain ⟨k, vk, rfl, hk, HLk, HO, HK, HB, HKN⟩ := hrel
    have hbs := HB.out.size
    by_cases hlt : k < ls.length
    · have hlt' : (k : Int) < (ls.length : Int) := by omega
      have hlen := midL_len ls m k
      have hget := midL_get ls m k hlt
      obtain ⟨g, cap, Ak, ck, he, hgb, hgl, huk, hck, hRk⟩ := HLk.out.at_ (i := k) (by rw [hlen]; exact hlt)
      rw [hget] at huk hck hRk
      injection he with e1 e3 e2
      clear e3
      subst e1
      subst e2
      have hcm' : wr.cell? ⟨gm, 0, none⟩ = some (.slice Am m.length c2) := (World.cell?_of_block (HK.out gm hgm hgml)).trans hcm
      have hRm' : Ri wr bm (.slice Am m.length c2) m := HRm.out.keep fun q hq => HK.out q (HRm.out.lt hq).1 (HRm.out.lt hq).2.1
      have hl1 := H2.out _ (List.getElem_mem hlt)
      obtain ⟨u', w1, hr, hR1, hg1, hloc⟩ := app_Ri (w := wr.drew) 43 (hRk.keep (w' := wr.drew) (fun _ _ => rfl)) (hRm'.keep (w' := wr.drew) (fun _ _ => rfl)) (by omega) (show base ≤ wr.heap.size by omega)
      have hLn := HLk.out
      have hwd : LL wr.drew base (.slice (some ⟨g, 0, none⟩) ls.length c) (midL ls m k) vk := hLn.keep (fun _ _ _ => rfl)
      obtain ⟨A1, c1, rfl⟩ := hR1.form
      have hset := hwd.set (i := k) (by rw [hlen]; exact hlt) (g := g) (cap := c) (by rw [hlen]) huk hg1 hR1 hloc
      rw [midL_set ls m k hlt] at hset
      obtain ⟨_, _, cur, hgc⟩ := hwd.rowlt (q := g) (by simp [Value.ownBlock])
      have hgu : some g ≠ (Value.slice Ak ls[k].length ck).ownBlock := fun e => hwd.row_ne huk e.symm (by simp [Value.ownBlock])
      have hg1c : w1.heap[g]? = some (.cells cur 43 (0, 0)) := (hg1.block g hgl hgu).trans hgc
      have f0 : wr.frozen? ⟨g, k, none⟩ = false := by
        have hgc' : wr.heap[g]? = some (.cells cur 43 (0, 0)) := hgc
        simp [World.frozen?, hgc']
      have f1 : w1.frozen? ⟨g, k, none⟩ = false := by simp [World.frozen?, hg1c]
      have k1 : w1.cell? ⟨g, k, none⟩ = some (.slice Ak ls[k].length ck) := (World.cell?_of_block (hg1.block g hgl hgu)).trans hck
      have HS := Lib.hid hset
      have HO2 : Hid (Out bm w.heap.size (vk.set k (.slice A1 (ls[k] ++ m).length c1))) := Lib.hid (by
        intro u hu q hq
        rcases List.mem_or_eq_of_mem_set hu with hu | rfl
        · exact HO.out u hu q hq
        · rcases hloc with e | e
          · exact HO.out _ (List.mem_of_getElem? huk) q (by rw [← e]; exact hq)
          · rw [hq] at e
            injection e with e
            right
            have : wr.drew.heap.size = wr.heap.size := rfl
            omega)
      have HK2 : Hid (∀ q, bm ≤ q → q < w.heap.size → (w1.setCell ⟨g, k, none⟩ (.slice A1 (ls[k] ++ m).length c1)).heap[q]? = w.heap[q]?) := Lib.hid (by
        intro q hq1 hq2
        have hqg : q ≠ g := by
          have := Hv.out g (by simp [Value.ownBlock])
          omega
        rw [Below.heap_setCell _ _ _ q hqg]
        refine (hg1.block q (by show q < wr.heap.size; omega) ?_).trans (HK.out q hq1 hq2)
        intro e
        have := HO.out _ (List.mem_of_getElem? huk) q e.symm
        omega)
      have HB2 : Hid (Below base w (w1.setCell ⟨g, k, none⟩ (.slice A1 (ls[k] ++ m).length c1))) := Lib.hid ((HB.out.drew.grown hg1 (by show base ≤ wr.heap.size; omega) (fun q e => (hRk.lt e).1)).setCell (p := ⟨g, k, none⟩) hgb _)
      have HKN2 : Hid (KN w (w1.setCell ⟨g, k, none⟩ (.slice A1 (ls[k] ++ m).length c1))) := Lib.hid (by
        intro q cur hq
        have hq1 : wr.heap[q]? = some (.cells cur 24 (0, 0)) := (HKN.out q cur hq).trans hq
        have hql : q < wr.heap.size := (Array.getElem?_eq_some_iff.1 hq1).1
        have hqg : q ≠ g := by
          rintro rfl
          have hgc' : wr.heap[q]? = some (.cells _ 43 (0, 0)) := hgc
          rw [hgc'] at hq1
          simp at hq1
        rw [Below.heap_setCell _ _ _ q hqg]
        refine (hg1.block q hql ?_).trans (HKN.out q cur hq)
        intro e
        obtain ⟨_, _, cur2, e2⟩ := hRk.lt e.symm
        rw [hq1] at e2
        simp at e2)
      clear hset hwd hLn hRk hRm' hR1 hg1 hloc hgu hgc hg1c huk hlen hget
      generalize (ls[k] ++ m).length = n1 at *
      generalize ls[k].length = n0 at *
      go_wp2_with fail
      go_region_law ((try simp only [Act.put, List.setIfInBounds_toArray, List.set_cons_zero, List.set_cons_succ]); rw [if_pos (by rfl)]; refine Lib.wp_append_run _ (.tmp 24) (.tmp 27) 43 43 (by rfl) (.slice Ak n0 ck) (.slice Am m.length c2) (by rfl) (by rfl) _ _ hr ?_)
      all_goals generalize hww : w1.setCell ⟨g, k, none⟩ (.slice A1 n1 c1) = ww at *
      all_goals go_wp2
      all_goals go_roundw
      all_goals first
        | exact ⟨k + 1, _, by go_num, by omega, HS, HO2, HK2, HB2, HKN2⟩
        | (simp [RowKit.intOf]; omega)
    · have hlt' : ¬ (k : Int) < (ls.length : Int) := by omega
      have HE := Lib.hid (midL_end ls m k (by omega))
      go_wp2
      go_ret
      exact ⟨_, rfl, ⟨vk, by rw [← HE.out]; exact HLk.out⟩, HB.out, HKN.out⟩
end Go.Proofs.YtehjkgfdfihfmaaDoor
