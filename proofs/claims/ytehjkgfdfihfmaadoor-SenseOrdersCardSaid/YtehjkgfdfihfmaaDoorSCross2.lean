/- sense.crossed: the other branch. -/
import Derived.Test.YtehjkgfdfihfmaaDoorSCross
namespace Go.Proofs.YtehjkgfdfihfmaaDoor
open Go.RowKit Go.Maps Go.Lib
set_option linter.unusedVariables false
set_option maxRecDepth 100000

theorem LL.base_le {w : World} {base base' : Nat} {v : Value} {ls : List (List Nat)} {vs : List Value} (h : LL w base v ls vs) (hb : base' ≤ base) : LL w base' v ls vs := by
  refine ⟨⟨h.row.1, ?_⟩, h.len, fun i u l hu hl => (h.each i u l hu hl).base hb, h.apart⟩
  rcases h.row.2 with h0 | ⟨g, cap, cur, h1, h2, h3, h4⟩
  · exact .inl h0
  · exact .inr ⟨g, cap, cur, h1, by omega, h3, h4⟩
/-- one more slice, of a block of its own -/
theorem LL.push {w0 w w3 : World} {base : Nat} {v : Value} {ls : List (List Nat)} {vs : List Value} (ty : TypeId) {u : Value} {l : List Nat} (h : LL w base v ls vs) (hbase : base ≤ w.heap.size) (h0 : Below base w0 w) (hb : Below w.heap.size w w3) (hR : Ri w3 w.heap.size u l) (hn : ls.length ≤ 100000) :
    ∃ v' w4, (Builtin.append_ #[41, 41] ty #[v, .slice (some ⟨w3.heap.size, 0, none⟩) 1 1]).run Tryd.prog (w3.alloc (.cells #[u] 43)) = .ok v' w4 ∧ LL w4 base v' (ls ++ [l]) (vs ++ [u]) ∧ Below base w0 w4 ∧ (v'.ownBlock = v.ownBlock ∨ v'.ownBlock = some (w3.heap.size + 1)) := by
  have hs := hb.size
  have h3 : LL (w3.alloc (.cells #[u] 43)) base v ls vs := h.keep fun q _ hq => by
    rw [heap_alloc_old _ _ (by omega : q < w3.heap.size)]
    exact hb.block q hq
  obtain ⟨A, c, rfl⟩ := hR.form
  have hR3 : Ri (w3.alloc (.cells #[.slice A l.length c] 43)) w.heap.size (.slice A l.length c) l := hR.alloc _
  have hx : (w3.alloc (.cells #[.slice A l.length c] 43)).ownsRow w3.heap.size 43 1 (.slice (some ⟨w3.heap.size, 0, none⟩) 1 1) 1 [.slice A l.length c] :=
    ⟨rfl, .inr ⟨w3.heap.size, 1, #[.slice A l.length c], rfl, Nat.le_refl _, heap_alloc_new _ _, Nat.le_refl _, by unfold maxLen; omega, rfl, rfl⟩⟩
  obtain ⟨v', w4, hr, hrow, hg, hloc⟩ := app_rows (P := Tryd.prog) (t := 41) (e := 43) ty Tryd.underlying41 info_ints rfl h3.row hx (by simp [Value.oneCell']) (by omega) (by omega) (by simp; omega)
  refine ⟨v', w4, hr, h3.app (ms := [l]) (xs := [.slice A l.length c]) hrow hg rfl ?_ ?_ ?_, ?_, by simpa using hloc⟩
  · intro i u l' hu hl
    match i, hu, hl with
    | 0, hu, hl => cases hu; cases hl; exact hR3.base (by omega)
    | i + 1, hu, hl => simp at hu
  · intro i j u u' hu hu' hij
    match i, j, hu, hu' with
    | 0, 0, _, _ => exact absurd rfl hij
    | i + 1, _, hu, _ => simp at hu
    | 0, j + 1, _, hu' => simp at hu'
  · intro u hu x hx q hq
    rw [List.mem_singleton] at hx
    subst hx
    intro e
    have h1 := h.lt hu hq
    have h2 := hR.lt e
    omega
  · exact ((h0.trans (hb.mono hbase)).alloc (by omega) _).grown hg (by simp; omega) (fun q e => (h.rowlt e).1)
theorem cross_step (ls ms : List (List Nat)) (k : Nat) (hk : k < ls.length) : crossL (ls.take (k + 1)) ms = crossL (ls.take k) ms ++ ms.map fun b => ls[k] ++ b := by
  rw [List.take_succ_eq_append_getElem hk]
  simp only [crossL, List.flatMap_append, List.flatMap_cons, List.flatMap_nil, List.append_nil]
theorem map_step (ms : List (List Nat)) (a : List Nat) (j : Nat) (hj : j < ms.length) : ((ms.take (j + 1)).map fun b => a ++ b) = ((ms.take j).map fun b => a ++ b) ++ [a ++ ms[j]] := by
  rw [List.take_succ_eq_append_getElem hj]
  simp only [List.map_append, List.map_cons, List.map_nil]
theorem cross_len (ls ms : List (List Nat)) : (crossL ls ms).length = ls.length * ms.length := by
  induction ls with
  | nil => simp [crossL]
  | cons a l ih => unfold crossL at ih ⊢; simp [List.flatMap_cons, ih, Nat.succ_mul]; omega
set_option maxHeartbeats 4000000 in
theorem crossed_many (w : World) (base bm : Nat) (v x : Value) (ls ms : List (List Nat)) (vs us : List Value) (hL : LL w base v ls vs) (hM : LL w bm x ms us) (hb : base ≤ w.heap.size) (hm1 : ms.length ≠ 1) (hl5 : ls.length ≤ 5000) (hm5 : ms.length ≤ 5000) (h1 : ls.length * ms.length ≤ 5000) (h2 : ∀ l ∈ ls, l.length ≤ 10000) (h3 : ∀ l ∈ ms, l.length ≤ 10000) :
    Calls Tryd.prog 30 #[v, x] w fun e w' => ∃ v', e = .returned v' ∧ (∃ vs', LL w' w.heap.size v' (crossL ls ms) vs') ∧ Below w.heap.size w w' := by
  obtain ⟨A, c, rfl⟩ := hL.form
  obtain ⟨Am, cm, rfl⟩ := hM.form
  have HL := Lib.hid hL
  have HM := Lib.hid hM
  have H2 := Lib.hid h2
  have H3 := Lib.hid h3
  have H1 := Lib.hid h1
  have t1 : ((ms.length : Int) == 1) = false := by simpa using (by omega : (ms.length : Int) ≠ 1)
  clear hL hM h2 h3 h1 hm1
  go_enter Tryd.func30, Tryd.ntmps30
  go_wp2_with fail
  go_loopw [6, 8, 10, 34] (fun z _ _ i wr => ∃ (k : Nat) (A6 : Option Addr) (c6 n6 : Nat) (vk : List Value), i = .int .i64 (k : Int) ∧ k ≤ ls.length ∧ z = .slice A6 n6 c6 ∧ Hid (n6 = (crossL (ls.take k) ms).length) ∧ Hid (LL wr w.heap.size (.slice A6 n6 c6) (crossL (ls.take k) ms) vk) ∧ Hid (Below w.heap.size w wr)) (fun _ _ _ i _ => ls.length - (RowKit.intOf i).toNat)
  case atStart => exact ⟨0, none, 0, 0, [], rfl, Nat.zero_le _, rfl, Lib.hid rfl, Lib.hid (LL.nil _ _), Lib.hid (Below.refl _ _)⟩
  case round =>
    obtain ⟨k, A6, c6, n6, vk, rfl, hk, rfl, Hn, HLk, HB⟩ := hrel
    by_cases hlt : k < ls.length
    · have hlt' : (k : Int) < (ls.length : Int) := by omega
      have HLw := Lib.hid (HL.out.below HB.out)
      obtain ⟨g, cap, Ak, ck, he, hgb, hgl, huk, hck, hRk⟩ := HL.out.at_ hlt
      injection he with e1 e3 e2
      clear e3
      subst e1 e2
      have hck' := (HB.out.cell (p := ⟨g, k, none⟩) hgl).trans hck
      have HRk := Lib.hid hRk
      have Hla := Lib.hid (H2.out _ (List.getElem_mem hlt))
      have Hst := Lib.hid (cross_step ls ms k hlt)
      have Hbd : Hid ((crossL (ls.take k) ms).length + ms.length ≤ 5000) := Lib.hid (by
        rw [cross_len, List.length_take]
        have : (min k ls.length + 1) * ms.length ≤ ls.length * ms.length := Nat.mul_le_mul_right _ (by omega)
        rw [Nat.succ_mul] at this
        have := H1.out
        omega)
      have Hk := Lib.hid hlt
      clear hRk huk hck HLw
      generalize ls[k] = a at *
      generalize crossL (ls.take k) ms = X at *
      go_wp2_with fail
      go_loopw [6, 10, 40] (fun z _ i wx => ∃ (j : Nat) (A7 : Option Addr) (c7 n7 : Nat) (vj : List Value), i = .int .i64 (j : Int) ∧ j ≤ ms.length ∧ z = .slice A7 n7 c7 ∧ Hid (n7 = (X ++ (ms.take j).map fun b => a ++ b).length) ∧ Hid (LL wx w.heap.size (.slice A7 n7 c7) (X ++ (ms.take j).map fun b => a ++ b) vj) ∧ Hid (Below w.heap.size w wx)) (fun _ _ i _ => ms.length - (RowKit.intOf i).toNat)
      case atStart => exact ⟨0, _, _, _, vk, rfl, Nat.zero_le _, rfl, Lib.hid (by simpa using Hn.out), Lib.hid (by simpa using HLk.out), HB⟩
      case round =>
        obtain ⟨j, A7, c7, n7, vj, rfl, hj, rfl, Hn7, HLj, HBj⟩ := hrel
        by_cases hjl : j < ms.length
        · have hjl' : (j : Int) < (ms.length : Int) := by omega
          obtain ⟨gm, capm, Aj, cj, he, hgmb, hgml, huj, hcj, hRj⟩ := HM.out.at_ hjl
          injection he with e1 e3 e2
          clear e3
          subst e1 e2
          have hcj' := (HBj.out.cell (p := ⟨gm, j, none⟩) hgml).trans hcj
          have hbs := HBj.out.size
          have hlb := H3.out _ (List.getElem_mem hjl)
          have hla := Hla.out
          have HAl := Lib.hid ((HRk.out.below HBj.out).alloc (.cells #[.slice Ak a.length ck, .slice Aj ms[j].length cj] 43))
          have HBl := Lib.hid ((hRj.below HBj.out).alloc (.cells #[.slice Ak a.length ck, .slice Aj ms[j].length cj] 43))
          have HC := Lib.hid (concat_any a ms[j] Ak Aj ck cj wr.heap.size 2 (wr.alloc (.cells #[.slice Ak a.length ck, .slice Aj ms[j].length cj] 43)) _ _ HAl.out HBl.out (by simp) (by simp) (by simp) (by omega) (by omega))
          have HLn : Hid (X.length + ms.length ≤ 5000 → ((X ++ (ms.take j).map fun b => a ++ b).length ≤ 100000)) := Lib.hid (by intro h; simp; omega)
          have Hms := Lib.hid (map_step ms a j hjl)
          clear hRj huj hcj HAl HBl
          generalize ms[j] = b at *
          go_wp2_with (first
            | (go_at_call 38; refine HC.out.mono ?_; rintro e w3 ⟨u, rfl, hRu, hb3⟩; obtain ⟨Au, cu, rfl⟩ := hRu.form; obtain ⟨v', w4, hr, hL4, hB4, hloc⟩ := HLj.out.push 41 hbs HBj.out (u := .slice Au (a ++ b).length cu) (l := a ++ b) (w3 := w3) (((Below.refl _ _).alloc (Nat.le_refl _) _).trans (hb3.mono (by simp))) (hRu.base (by simp)) (HLn.out Hbd.out); have HL4 := Lib.hid hL4; have HB4 := Lib.hid hB4; clear hL4 hB4 hloc hRu hb3; rw [List.length_append] at hr)
            | (at_builtin; refine Lib.wpList_append_run _ rfl _ _ _ _ rfl _ _ rfl rfl _ _ hr ?_)
            | fail)
          have Hf := Lib.hid HL4.out.form
          have hpl : (X ++ (ms.take j).map (fun b => a ++ b)) ++ [a ++ b] = X ++ (ms.take (j + 1)).map (fun b => a ++ b) := by rw [Hms.out, List.append_assoc]
          rw [hpl] at HL4 Hf
          obtain ⟨A8, c8, rfl⟩ := Hf.out
          clear Hf hpl hr
          go_roundw
          case rel => exact ⟨j + 1, _, _, _, _, by go_num, by omega, rfl, Lib.hid rfl, HL4, HB4⟩
          case measure => simp [RowKit.intOf]; omega
        · have hje : j = ms.length := by omega
          subst hje
          rw [List.take_length] at Hn7 HLj
          go_wp2_with fail
          go_roundw
          case rel => exact ⟨k + 1, _, _, _, vj, by go_num, Hk.out, rfl, by rw [Hst.out]; exact Hn7, by rw [Hst.out]; exact HLj, HBj⟩
          case measure => have := Hk.out; simp [RowKit.intOf]; omega
    · have hlt' : ¬ (k : Int) < (ls.length : Int) := by omega
      have hke : k = ls.length := by omega
      subst hke
      rw [List.take_length] at Hn HLk
      go_wp2
      go_ret
      exact ⟨_, rfl, ⟨vk, HLk.out⟩, HB.out⟩
/-- sense.crossed -/
theorem crossed_any (w : World) (base bm : Nat) (v x : Value) (ls ms : List (List Nat)) (vs us : List Value) (hL : LL w base v ls vs) (hM : LL w bm x ms us) (hb : base ≤ bm) (hbm : bm ≤ w.heap.size) (hv : ∀ q, v.ownBlock = some q → q < bm) (hvs : ∀ u ∈ vs, ∀ q, u.ownBlock = some q → q < bm) (hl5 : ls.length ≤ 5000) (hm5 : ms.length ≤ 5000) (h1 : ls.length * ms.length ≤ 5000) (h2 : ∀ l ∈ ls, l.length ≤ 10000) (h3 : ∀ l ∈ ms, l.length ≤ 10000) :
    Calls Tryd.prog 30 #[v, x] w fun e w' => ∃ v', e = .returned v' ∧ (∃ vs', LL w' base v' (crossL ls ms) vs') ∧ Below base w w' ∧ KN w w' := by
  by_cases hm : ms.length = 1
  · obtain ⟨m, rfl⟩ := List.length_eq_one_iff.1 hm
    exact crossed_one w base bm v x ls m vs us hL hM hb hbm hv hvs hl5 h2 (h3 m (by simp))
  · refine (crossed_many w base bm v x ls ms vs us hL hM (by omega) hm hl5 hm5 h1 h2 h3).mono ?_
    rintro e w' ⟨v', rfl, ⟨vs', h⟩, hB⟩
    exact ⟨v', rfl, ⟨vs', h.base_le (by omega)⟩, hB.mono (by omega), KN.of_below hB⟩
end Go.Proofs.YtehjkgfdfihfmaaDoor
