/- sense.crossed. sense.crossed: the other branch. -/
import Derived.Test.YtbkffdfboloogaaGreatDoorMD
import Derived.Deep.RegionLaw
import Derived.Deep.AppendLies
namespace Go.Proofs.YtbkffdfboloogaaGreatDoor
open Go.RowKit Go.Maps Go.Lib
set_option linter.unusedVariables false
set_option maxRecDepth 100000

def crossL (ls ms : List (List Nat)) : List (List Nat) := ls.flatMap fun a => ms.map fun b => a ++ b
section
variable {w w' : World} {base : Nat} {v v' : Value} {ls ms : List (List Nat)} {vs xs : List Value}
theorem LL.app (h : LL w base v ls vs) (hrow : w'.ownsRow base 75 1 v' (ls.length + ms.length) (vs ++ xs)) (hg : w.grownBy w' v.ownBlock) (hlen : xs.length = ms.length)
    (hx : ∀ (i : Nat) (u : Value) (l : List Nat), xs[i]? = some u → ms[i]? = some l → Ri w base u l) (hap : ∀ (i j : Nat) (u u' : Value), xs[i]? = some u → xs[j]? = some u' → i ≠ j → u.ownBlock = none ∨ u.ownBlock ≠ u'.ownBlock)
    (hcr : ∀ u ∈ vs, ∀ x ∈ xs, ∀ q, u.ownBlock = some q → x.ownBlock ≠ some q) : LL w' base v' (ls ++ ms) (vs ++ xs) := by
  have hni : ∀ (u : Value) (l : List Nat), Ri w base u l → ∀ q, u.ownBlock = some q → some q ≠ v.ownBlock := by
    intro u l hR q hq e
    obtain ⟨_, _, c1, e1⟩ := h.rowlt e.symm
    obtain ⟨_, _, c2, e2⟩ := hR.lt hq
    rw [e1] at e2
    simp at e2
  refine ⟨by rw [List.length_append]; exact hrow, by simp [h.len, hlen], ?_, ?_⟩
  · intro i u l hu hl
    have hR : Ri w base u l := by
      rcases Nat.lt_or_ge i vs.length with hi | hi
      · rw [List.getElem?_append_left hi] at hu
        rw [List.getElem?_append_left (by rw [← h.len]; exact hi)] at hl
        exact h.each i u l hu hl
      · rw [List.getElem?_append_right hi] at hu
        rw [List.getElem?_append_right (by rw [← h.len]; exact hi), ← h.len] at hl
        exact hx _ u l hu hl
    exact hR.keep fun q hq => hg.block q (hR.lt hq).2.1 (hni u l hR q hq)
  · intro i j u u' hu hu' hij
    rcases Nat.lt_or_ge i vs.length with hi | hi
    · rw [List.getElem?_append_left hi] at hu
      rcases Nat.lt_or_ge j vs.length with hj | hj
      · rw [List.getElem?_append_left hj] at hu'
        exact h.apart i j u u' hu hu' hij
      · rw [List.getElem?_append_right hj] at hu'
        cases hq : u.ownBlock with
        | none => exact .inl rfl
        | some q => exact .inr fun e => hcr u (List.mem_of_getElem? hu) u' (List.mem_of_getElem? hu') q hq e.symm
    · rw [List.getElem?_append_right hi] at hu
      rcases Nat.lt_or_ge j vs.length with hj | hj
      · rw [List.getElem?_append_left hj] at hu'
        cases hq : u.ownBlock with
        | none => exact .inl rfl
        | some q => exact .inr fun e => hcr u' (List.mem_of_getElem? hu') u (List.mem_of_getElem? hu) q e.symm hq
      · rw [List.getElem?_append_right hj] at hu'
        exact hap _ _ u u' hu hu' (by omega)
theorem LL.lt (h : LL w base v ls vs) {u : Value} (hu : u ∈ vs) {q : Nat} (hq : u.ownBlock = some q) : base ≤ q ∧ q < w.heap.size := by
  obtain ⟨i, hi, rfl⟩ := List.getElem_of_mem hu
  have := (h.each i vs[i] _ (List.getElem?_eq_getElem hi) (List.getElem?_eq_getElem (by rw [← h.len]; exact hi))).lt hq
  exact ⟨this.1, this.2.1⟩
/-- the elements' blocks lie below bm or from N on -/
def Out (bm N : Nat) (vs : List Value) : Prop := ∀ u ∈ vs, ∀ q, u.ownBlock = some q → q < bm ∨ N ≤ q
end

def midL (ls : List (List Nat)) (m : List Nat) (k : Nat) : List (List Nat) := (ls.take k).map (fun a => a ++ m) ++ ls.drop k
theorem midL_len (ls : List (List Nat)) (m : List Nat) (k : Nat) : (midL ls m k).length = ls.length := by simp [midL]; omega
theorem midL_get (ls : List (List Nat)) (m : List Nat) (k : Nat) (hk : k < ls.length) : (midL ls m k)[k]'(by rw [midL_len]; exact hk) = ls[k] := by
  have h1 : ((ls.take k).map (fun a => a ++ m)).length = k := by simp; omega
  unfold midL
  rw [List.getElem_append_right (by omega)]
  simp only [h1, Nat.sub_self]
  rw [List.getElem_drop]
  simp
theorem midL_set (ls : List (List Nat)) (m : List Nat) (k : Nat) (hk : k < ls.length) : (midL ls m k).set k (ls[k] ++ m) = midL ls m (k + 1) := by
  have h1 : ((ls.take k).map (fun a => a ++ m)).length = k := by simp; omega
  unfold midL
  rw [List.set_append_right _ _ (by omega), h1, Nat.sub_self, List.drop_eq_getElem_cons hk, List.set_cons_zero, List.take_succ_eq_append_getElem hk, List.map_append, List.append_assoc]
  rfl
theorem midL_end (ls : List (List Nat)) (m : List Nat) (k : Nat) (hk : ls.length ≤ k) : midL ls m k = crossL ls [m] := by
  unfold midL crossL
  rw [List.take_of_length_le hk, List.drop_eq_nil_of_le hk, List.append_nil]
  simp
  induction ls with
  | nil => rfl
  | cons a l ih => simp at hk ⊢; exact ih (by omega)
/-- the nodes' blocks are what they were -/
def KN (w w' : World) : Prop := ∀ (q : Nat) (cur : Array Value), w.heap[q]? = some (.cells cur 33 (0, 0)) → w'.heap[q]? = w.heap[q]?
theorem KN.refl (w : World) : KN w w := fun _ _ _ => rfl
theorem KN.of_below {w w' : World} (h : Below w.heap.size w w') : KN w w' := fun q _ hq => h.block q (Array.getElem?_eq_some_iff.1 hq).1
set_option maxHeartbeats 4000000 in
theorem crossed_one (w : World) (base bm : Nat) (v x : Value) (ls : List (List Nat)) (m : List Nat) (vs us : List Value) (hL : LL w base v ls vs) (hM : LL w bm x [m] us) (hb : base ≤ bm) (hbm : bm ≤ w.heap.size) (hv : ∀ q, v.ownBlock = some q → q < bm) (hvs : ∀ u ∈ vs, ∀ q, u.ownBlock = some q → q < bm) (h1 : ls.length ≤ 5000) (h2 : ∀ l ∈ ls, l.length ≤ 10000) (h3 : m.length ≤ 10000) :
    Calls Tryz.prog 66 #[v, x] w fun e w' => ∃ v', e = .returned v' ∧ (∃ vs', LL w' base v' (crossL ls [m]) vs') ∧ Below base w w' ∧ KN w w' := by
  obtain ⟨A, c, rfl⟩ := hL.form
  obtain ⟨gm, cm, Am, c2, rfl, hgm, hgml, hum, hcm, hRm⟩ := hM.at_ (i := 0) (by simp)
  simp only [List.getElem_cons_zero, List.length_cons, List.length_nil, Nat.zero_add] at hum hcm hRm ⊢
  have HL := Lib.hid hL
  have HRm := Lib.hid hRm
  have Hv := Lib.hid hv
  have Hvs := Lib.hid hvs
  have H2 := Lib.hid h2
  clear hL hM hv hvs hRm h2 hum
  go_enter Tryz.func66, Tryz.ntmps66
  go_wp2_with fail
  go_loopw [5, 16] (fun s i wr => ∃ (k : Nat) (vk : List Value), i = .int .i64 (k : Int) ∧ k ≤ ls.length ∧ Hid (LL wr base (.slice A ls.length c) (midL ls m k) vk) ∧ Hid (Out bm w.heap.size vk) ∧ Hid (∀ q, bm ≤ q → q < w.heap.size → wr.heap[q]? = w.heap[q]?) ∧ Hid (Below base w wr) ∧ Hid (KN w wr)) (fun _ i _ => ls.length - (RowKit.intOf i).toNat)
  case atStart => exact ⟨0, vs, rfl, Nat.zero_le _, Lib.hid (by simpa [midL] using HL.out), Lib.hid (fun u hu q hq => .inl (Hvs.out u hu q hq)), Lib.hid (fun _ _ _ => rfl), Lib.hid (Below.refl _ _), Lib.hid (KN.refl _)⟩
  case round =>
    obtain ⟨k, vk, rfl, hk, HLk, HO, HK, HB, HKN⟩ := hrel
    have hbs := HB.out.size
    by_cases hlt : k < ls.length
    · have hlt' : (k : Int) < (ls.length : Int) := by omega
      have hlen := midL_len ls m k
      have hget := midL_get ls m k hlt
      obtain ⟨g, cap, Ak, ck, he, hgb, hgl, huk, hck, hRk⟩ := HLk.out.at_ (i := k) (by rw [hlen]; exact hlt)
      rw [hget] at huk hck hRk
      injection he with e1 e3 e2
      clear e3
      subst e1
      subst e2
      have hcm' : wr.cell? ⟨gm, 0, none⟩ = some (.slice Am m.length c2) := (World.cell?_of_block (HK.out gm hgm hgml)).trans hcm
      have hRm' : Ri wr bm (.slice Am m.length c2) m := HRm.out.keep fun q hq => HK.out q (HRm.out.lt hq).1 (HRm.out.lt hq).2.1
      have hl1 := H2.out _ (List.getElem_mem hlt)
      obtain ⟨u', w1, hr, hR1, hg1, hloc⟩ := app_Ri (w := wr.drew) 75 (hRk.keep (w' := wr.drew) (fun _ _ => rfl)) (hRm'.keep (w' := wr.drew) (fun _ _ => rfl)) (by omega) (show base ≤ wr.heap.size by omega)
      have hLn := HLk.out
      have hwd : LL wr.drew base (.slice (some ⟨g, 0, none⟩) ls.length c) (midL ls m k) vk := hLn.keep (fun _ _ _ => rfl)
      obtain ⟨A1, c1, rfl⟩ := hR1.form
      have hset := hwd.set (i := k) (by rw [hlen]; exact hlt) (g := g) (cap := c) (by rw [hlen]) huk hg1 hR1 hloc
      rw [midL_set ls m k hlt] at hset
      obtain ⟨_, _, cur, hgc⟩ := hwd.rowlt (q := g) (by simp [Value.ownBlock])
      have hgu : some g ≠ (Value.slice Ak ls[k].length ck).ownBlock := fun e => hwd.row_ne huk e.symm (by simp [Value.ownBlock])
      have hg1c : w1.heap[g]? = some (.cells cur 75 (0, 0)) := (hg1.block g hgl hgu).trans hgc
      have f0 : wr.frozen? ⟨g, k, none⟩ = false := by
        have hgc' : wr.heap[g]? = some (.cells cur 75 (0, 0)) := hgc
        simp [World.frozen?, hgc']
      have f1 : w1.frozen? ⟨g, k, none⟩ = false := by simp [World.frozen?, hg1c]
      have k1 : w1.cell? ⟨g, k, none⟩ = some (.slice Ak ls[k].length ck) := (World.cell?_of_block (hg1.block g hgl hgu)).trans hck
      have HS := Lib.hid hset
      have HO2 : Hid (Out bm w.heap.size (vk.set k (.slice A1 (ls[k] ++ m).length c1))) := Lib.hid (by
        intro u hu q hq
        rcases List.mem_or_eq_of_mem_set hu with hu | rfl
        · exact HO.out u hu q hq
        · rcases hloc with e | e
          · exact HO.out _ (List.mem_of_getElem? huk) q (by rw [← e]; exact hq)
          · rw [hq] at e
            injection e with e
            right
            have : wr.drew.heap.size = wr.heap.size := rfl
            omega)
      have HK2 : Hid (∀ q, bm ≤ q → q < w.heap.size → (w1.setCell ⟨g, k, none⟩ (.slice A1 (ls[k] ++ m).length c1)).heap[q]? = w.heap[q]?) := Lib.hid (by
        intro q hq1 hq2
        have hqg : q ≠ g := by
          have := Hv.out g (by simp [Value.ownBlock])
          omega
        rw [Below.heap_setCell _ _ _ q hqg]
        refine (hg1.block q (by show q < wr.heap.size; omega) ?_).trans (HK.out q hq1 hq2)
        intro e
        have := HO.out _ (List.mem_of_getElem? huk) q e.symm
        omega)
      have HB2 : Hid (Below base w (w1.setCell ⟨g, k, none⟩ (.slice A1 (ls[k] ++ m).length c1))) := Lib.hid ((HB.out.drew.grown hg1 (by show base ≤ wr.heap.size; omega) (fun q e => (hRk.lt e).1)).setCell (p := ⟨g, k, none⟩) hgb _)
      have HKN2 : Hid (KN w (w1.setCell ⟨g, k, none⟩ (.slice A1 (ls[k] ++ m).length c1))) := Lib.hid (by
        intro q cur hq
        have hq1 : wr.heap[q]? = some (.cells cur 33 (0, 0)) := (HKN.out q cur hq).trans hq
        have hql : q < wr.heap.size := (Array.getElem?_eq_some_iff.1 hq1).1
        have hqg : q ≠ g := by
          rintro rfl
          have hgc' : wr.heap[q]? = some (.cells _ 75 (0, 0)) := hgc
          rw [hgc'] at hq1
          simp at hq1
        rw [Below.heap_setCell _ _ _ q hqg]
        refine (hg1.block q hql ?_).trans (HKN.out q cur hq)
        intro e
        obtain ⟨_, _, cur2, e2⟩ := hRk.lt e.symm
        rw [hq1] at e2
        simp at e2)
      clear hset hwd hLn hRk hRm' hR1 hg1 hloc hgu hgc hg1c huk hlen hget
      generalize (ls[k] ++ m).length = n1 at *
      generalize ls[k].length = n0 at *
      go_wp2_with fail
      go_region_law ((try simp only [Act.put, List.setIfInBounds_toArray, List.set_cons_zero, List.set_cons_succ]); rw [if_pos (by rfl)]; refine Lib.wp_append_run _ (.tmp 24) (.tmp 27) 75 75 (by rfl) (.slice Ak n0 ck) (.slice Am m.length c2) (by rfl) (by rfl) _ _ hr ?_)
      all_goals generalize hww : w1.setCell ⟨g, k, none⟩ (.slice A1 n1 c1) = ww at *
      all_goals go_wp2
      all_goals go_roundw
      all_goals first
        | exact ⟨k + 1, _, by go_num, by omega, HS, HO2, HK2, HB2, HKN2⟩
        | (simp [RowKit.intOf]; omega)
    · have hlt' : ¬ (k : Int) < (ls.length : Int) := by omega
      have HE := Lib.hid (midL_end ls m k (by omega))
      go_wp2
      go_ret
      exact ⟨_, rfl, ⟨vk, by rw [← HE.out]; exact HLk.out⟩, HB.out, HKN.out⟩
end Go.Proofs.YtbkffdfboloogaaGreatDoor
namespace Go.Proofs.YtbkffdfboloogaaGreatDoor
open Go.RowKit Go.Maps Go.Lib
set_option linter.unusedVariables false
set_option maxRecDepth 100000

theorem LL.base_le {w : World} {base base' : Nat} {v : Value} {ls : List (List Nat)} {vs : List Value} (h : LL w base v ls vs) (hb : base' ≤ base) : LL w base' v ls vs := by
  refine ⟨⟨h.row.1, ?_⟩, h.len, fun i u l hu hl => (h.each i u l hu hl).base hb, h.apart⟩
  rcases h.row.2 with h0 | ⟨g, cap, cur, h1, h2, h3, h4⟩
  · exact .inl h0
  · exact .inr ⟨g, cap, cur, h1, by omega, h3, h4⟩
/-- one more slice, of a block of its own -/
theorem LL.push {w0 w w3 : World} {base : Nat} {v : Value} {ls : List (List Nat)} {vs : List Value} (ty : TypeId) {u : Value} {l : List Nat} (h : LL w base v ls vs) (hbase : base ≤ w.heap.size) (h0 : Below base w0 w) (hb : Below w.heap.size w w3) (hR : Ri w3 w.heap.size u l) (hn : ls.length ≤ 100000) :
    ∃ v' w4, (Builtin.append_ #[73, 73] ty #[v, .slice (some ⟨w3.heap.size, 0, none⟩) 1 1]).run Tryz.prog (w3.alloc (.cells #[u] 75)) = .ok v' w4 ∧ LL w4 base v' (ls ++ [l]) (vs ++ [u]) ∧ Below base w0 w4 ∧ (v'.ownBlock = v.ownBlock ∨ v'.ownBlock = some (w3.heap.size + 1)) := by
  have hs := hb.size
  have h3 : LL (w3.alloc (.cells #[u] 75)) base v ls vs := h.keep fun q _ hq => by
    rw [heap_alloc_old _ _ (by omega : q < w3.heap.size)]
    exact hb.block q hq
  obtain ⟨A, c, rfl⟩ := hR.form
  have hR3 : Ri (w3.alloc (.cells #[.slice A l.length c] 75)) w.heap.size (.slice A l.length c) l := hR.alloc _
  have hx : (w3.alloc (.cells #[.slice A l.length c] 75)).ownsRow w3.heap.size 75 1 (.slice (some ⟨w3.heap.size, 0, none⟩) 1 1) 1 [.slice A l.length c] :=
    ⟨rfl, .inr ⟨w3.heap.size, 1, #[.slice A l.length c], rfl, Nat.le_refl _, heap_alloc_new _ _, Nat.le_refl _, by unfold maxLen; omega, rfl, rfl⟩⟩
  obtain ⟨v', w4, hr, hrow, hg, hloc⟩ := app_rows (P := Tryz.prog) (t := 73) (e := 75) ty Tryz.underlying73 info_ints rfl h3.row hx (by simp [Value.oneCell']) (by omega) (by omega) (by simp; omega)
  refine ⟨v', w4, hr, h3.app (ms := [l]) (xs := [.slice A l.length c]) hrow hg rfl ?_ ?_ ?_, ?_, by simpa using hloc⟩
  · intro i u l' hu hl
    match i, hu, hl with
    | 0, hu, hl => cases hu; cases hl; exact hR3.base (by omega)
    | i + 1, hu, hl => simp at hu
  · intro i j u u' hu hu' hij
    match i, j, hu, hu' with
    | 0, 0, _, _ => exact absurd rfl hij
    | i + 1, _, hu, _ => simp at hu
    | 0, j + 1, _, hu' => simp at hu'
  · intro u hu x hx q hq
    rw [List.mem_singleton] at hx
    subst hx
    intro e
    have h1 := h.lt hu hq
    have h2 := hR.lt e
    omega
  · exact ((h0.trans (hb.mono hbase)).alloc (by omega) _).grown hg (by simp; omega) (fun q e => (h.rowlt e).1)
theorem cross_step (ls ms : List (List Nat)) (k : Nat) (hk : k < ls.length) : crossL (ls.take (k + 1)) ms = crossL (ls.take k) ms ++ ms.map fun b => ls[k] ++ b := by
  rw [List.take_succ_eq_append_getElem hk]
  simp only [crossL, List.flatMap_append, List.flatMap_cons, List.flatMap_nil, List.append_nil]
theorem map_step (ms : List (List Nat)) (a : List Nat) (j : Nat) (hj : j < ms.length) : ((ms.take (j + 1)).map fun b => a ++ b) = ((ms.take j).map fun b => a ++ b) ++ [a ++ ms[j]] := by
  rw [List.take_succ_eq_append_getElem hj]
  simp only [List.map_append, List.map_cons, List.map_nil]
theorem cross_len (ls ms : List (List Nat)) : (crossL ls ms).length = ls.length * ms.length := by
  induction ls with
  | nil => simp [crossL]
  | cons a l ih => unfold crossL at ih ⊢; simp [List.flatMap_cons, ih, Nat.succ_mul]; omega
set_option maxHeartbeats 4000000 in
theorem crossed_many (w : World) (base bm : Nat) (v x : Value) (ls ms : List (List Nat)) (vs us : List Value) (hL : LL w base v ls vs) (hM : LL w bm x ms us) (hb : base ≤ w.heap.size) (hm1 : ms.length ≠ 1) (hl5 : ls.length ≤ 5000) (hm5 : ms.length ≤ 5000) (h1 : ls.length * ms.length ≤ 5000) (h2 : ∀ l ∈ ls, l.length ≤ 10000) (h3 : ∀ l ∈ ms, l.length ≤ 10000) :
    Calls Tryz.prog 66 #[v, x] w fun e w' => ∃ v', e = .returned v' ∧ (∃ vs', LL w' w.heap.size v' (crossL ls ms) vs') ∧ Below w.heap.size w w' := by
  obtain ⟨A, c, rfl⟩ := hL.form
  obtain ⟨Am, cm, rfl⟩ := hM.form
  have HL := Lib.hid hL
  have HM := Lib.hid hM
  have H2 := Lib.hid h2
  have H3 := Lib.hid h3
  have H1 := Lib.hid h1
  have t1 : ((ms.length : Int) == 1) = false := by simpa using (by omega : (ms.length : Int) ≠ 1)
  clear hL hM h2 h3 h1 hm1
  go_enter Tryz.func66, Tryz.ntmps66
  go_wp2_with fail
  go_loopw [6, 8, 10, 34] (fun z _ _ i wr => ∃ (k : Nat) (A6 : Option Addr) (c6 n6 : Nat) (vk : List Value), i = .int .i64 (k : Int) ∧ k ≤ ls.length ∧ z = .slice A6 n6 c6 ∧ Hid (n6 = (crossL (ls.take k) ms).length) ∧ Hid (LL wr w.heap.size (.slice A6 n6 c6) (crossL (ls.take k) ms) vk) ∧ Hid (Below w.heap.size w wr)) (fun _ _ _ i _ => ls.length - (RowKit.intOf i).toNat)
  case atStart => exact ⟨0, none, 0, 0, [], rfl, Nat.zero_le _, rfl, Lib.hid rfl, Lib.hid (LL.nil _ _), Lib.hid (Below.refl _ _)⟩
  case round =>
    obtain ⟨k, A6, c6, n6, vk, rfl, hk, rfl, Hn, HLk, HB⟩ := hrel
    by_cases hlt : k < ls.length
    · have hlt' : (k : Int) < (ls.length : Int) := by omega
      have HLw := Lib.hid (HL.out.below HB.out)
      obtain ⟨g, cap, Ak, ck, he, hgb, hgl, huk, hck, hRk⟩ := HL.out.at_ hlt
      injection he with e1 e3 e2
      clear e3
      subst e1 e2
      have hck' := (HB.out.cell (p := ⟨g, k, none⟩) hgl).trans hck
      have HRk := Lib.hid hRk
      have Hla := Lib.hid (H2.out _ (List.getElem_mem hlt))
      have Hst := Lib.hid (cross_step ls ms k hlt)
      have Hbd : Hid ((crossL (ls.take k) ms).length + ms.length ≤ 5000) := Lib.hid (by
        rw [cross_len, List.length_take]
        have : (min k ls.length + 1) * ms.length ≤ ls.length * ms.length := Nat.mul_le_mul_right _ (by omega)
        rw [Nat.succ_mul] at this
        have := H1.out
        omega)
      have Hk := Lib.hid hlt
      clear hRk huk hck HLw
      generalize ls[k] = a at *
      generalize crossL (ls.take k) ms = X at *
      go_wp2_with fail
      go_loopw [6, 10, 40] (fun z _ i wx => ∃ (j : Nat) (A7 : Option Addr) (c7 n7 : Nat) (vj : List Value), i = .int .i64 (j : Int) ∧ j ≤ ms.length ∧ z = .slice A7 n7 c7 ∧ Hid (n7 = (X ++ (ms.take j).map fun b => a ++ b).length) ∧ Hid (LL wx w.heap.size (.slice A7 n7 c7) (X ++ (ms.take j).map fun b => a ++ b) vj) ∧ Hid (Below w.heap.size w wx)) (fun _ _ i _ => ms.length - (RowKit.intOf i).toNat)
      case atStart => exact ⟨0, _, _, _, vk, rfl, Nat.zero_le _, rfl, Lib.hid (by simpa using Hn.out), Lib.hid (by simpa using HLk.out), HB⟩
      case round =>
        obtain ⟨j, A7, c7, n7, vj, rfl, hj, rfl, Hn7, HLj, HBj⟩ := hrel
        by_cases hjl : j < ms.length
        · have hjl' : (j : Int) < (ms.length : Int) := by omega
          obtain ⟨gm, capm, Aj, cj, he, hgmb, hgml, huj, hcj, hRj⟩ := HM.out.at_ hjl
          injection he with e1 e3 e2
          clear e3
          subst e1 e2
          have hcj' := (HBj.out.cell (p := ⟨gm, j, none⟩) hgml).trans hcj
          have hbs := HBj.out.size
          have hlb := H3.out _ (List.getElem_mem hjl)
          have hla := Hla.out
          have HAl := Lib.hid ((HRk.out.below HBj.out).alloc (.cells #[.slice Ak a.length ck, .slice Aj ms[j].length cj] 75))
          have HBl := Lib.hid ((hRj.below HBj.out).alloc (.cells #[.slice Ak a.length ck, .slice Aj ms[j].length cj] 75))
          have HC := Lib.hid (concat_any a ms[j] Ak Aj ck cj wr.heap.size 2 (wr.alloc (.cells #[.slice Ak a.length ck, .slice Aj ms[j].length cj] 75)) _ _ HAl.out HBl.out (by simp) (by simp) (by simp) (by omega) (by omega))
          have HLn : Hid (X.length + ms.length ≤ 5000 → ((X ++ (ms.take j).map fun b => a ++ b).length ≤ 100000)) := Lib.hid (by intro h; simp; omega)
          have Hms := Lib.hid (map_step ms a j hjl)
          clear hRj huj hcj HAl HBl
          generalize ms[j] = b at *
          go_wp2_with (first
            | (go_at_call 100; refine HC.out.mono ?_; rintro e w3 ⟨u, rfl, hRu, hb3⟩; obtain ⟨Au, cu, rfl⟩ := hRu.form; obtain ⟨v', w4, hr, hL4, hB4, hloc⟩ := HLj.out.push 73 hbs HBj.out (u := .slice Au (a ++ b).length cu) (l := a ++ b) (w3 := w3) (((Below.refl _ _).alloc (Nat.le_refl _) _).trans (hb3.mono (by simp))) (hRu.base (by simp)) (HLn.out Hbd.out); have HL4 := Lib.hid hL4; have HB4 := Lib.hid hB4; clear hL4 hB4 hloc hRu hb3; rw [List.length_append] at hr)
            | (at_builtin; refine Lib.wpList_append_run _ rfl _ _ _ _ rfl _ _ rfl rfl _ _ hr ?_)
            | fail)
          have Hf := Lib.hid HL4.out.form
          have hpl : (X ++ (ms.take j).map (fun b => a ++ b)) ++ [a ++ b] = X ++ (ms.take (j + 1)).map (fun b => a ++ b) := by rw [Hms.out, List.append_assoc]
          rw [hpl] at HL4 Hf
          obtain ⟨A8, c8, rfl⟩ := Hf.out
          clear Hf hpl hr
          go_roundw
          case rel => exact ⟨j + 1, _, _, _, _, by go_num, by omega, rfl, Lib.hid rfl, HL4, HB4⟩
          case measure => simp [RowKit.intOf]; omega
        · have hje : j = ms.length := by omega
          subst hje
          rw [List.take_length] at Hn7 HLj
          go_wp2_with fail
          go_roundw
          case rel => exact ⟨k + 1, _, _, _, vj, by go_num, Hk.out, rfl, by rw [Hst.out]; exact Hn7, by rw [Hst.out]; exact HLj, HBj⟩
          case measure => have := Hk.out; simp [RowKit.intOf]; omega
    · have hlt' : ¬ (k : Int) < (ls.length : Int) := by omega
      have hke : k = ls.length := by omega
      subst hke
      rw [List.take_length] at Hn HLk
      go_wp2
      go_ret
      exact ⟨_, rfl, ⟨vk, HLk.out⟩, HB.out⟩
/-- sense.crossed -/
theorem crossed_any (w : World) (base bm : Nat) (v x : Value) (ls ms : List (List Nat)) (vs us : List Value) (hL : LL w base v ls vs) (hM : LL w bm x ms us) (hb : base ≤ bm) (hbm : bm ≤ w.heap.size) (hv : ∀ q, v.ownBlock = some q → q < bm) (hvs : ∀ u ∈ vs, ∀ q, u.ownBlock = some q → q < bm) (hl5 : ls.length ≤ 5000) (hm5 : ms.length ≤ 5000) (h1 : ls.length * ms.length ≤ 5000) (h2 : ∀ l ∈ ls, l.length ≤ 10000) (h3 : ∀ l ∈ ms, l.length ≤ 10000) :
    Calls Tryz.prog 66 #[v, x] w fun e w' => ∃ v', e = .returned v' ∧ (∃ vs', LL w' base v' (crossL ls ms) vs') ∧ Below base w w' ∧ KN w w' := by
  by_cases hm : ms.length = 1
  · obtain ⟨m, rfl⟩ := List.length_eq_one_iff.1 hm
    exact crossed_one w base bm v x ls m vs us hL hM hb hbm hv hvs hl5 h2 (h3 m (by simp))
  · refine (crossed_many w base bm v x ls ms vs us hL hM (by omega) hm hl5 hm5 h1 h2 h3).mono ?_
    rintro e w' ⟨v', rfl, ⟨vs', h⟩, hB⟩
    exact ⟨v', rfl, ⟨vs', h.base_le (by omega)⟩, hB.mono (by omega), KN.of_below hB⟩
end Go.Proofs.YtbkffdfboloogaaGreatDoor
