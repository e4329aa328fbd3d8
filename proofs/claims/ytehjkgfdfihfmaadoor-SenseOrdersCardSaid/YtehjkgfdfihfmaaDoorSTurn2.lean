/- The law's turned: its walk. -/
import Derived.Test.YtehjkgfdfihfmaaDoorSTurn
namespace Go.Proofs.YtehjkgfdfihfmaaDoor
open Go.RowKit Go.Maps Go.Lib
set_option linter.unusedVariables false
set_option maxRecDepth 100000

theorem turnL_len (l : List Rl) : (turnL l).length = l.length := by rw [turnL_eq]; simp
theorem turnL_at (l : List Rl) (k : Nat) (hk : k < l.length) : (turnL l).take (k + 1) = (turnL l).take k ++ [turnR (l[l.length - 1 - k]'(by omega))] := by
  have h : k < (turnL l).length := by rw [turnL_len]; exact hk
  rw [← List.take_append_getElem h]
  congr 2
  simp only [turnL_eq, List.getElem_reverse, List.getElem_map, List.length_map]
theorem six_set (W : World) (g : Nat) (v0 v1 v2 v3 v4 v5 : Value) {c0 c1 c2 c3 c4 c5 : Value} {t : TypeId} (h : W.heap[g]? = some (.cells #[c0, c1, c2, c3, c4, c5] t (0, 0))) :
    ((((((W.setCell ⟨g, 0, none⟩ v0).setCell ⟨g, 1, none⟩ v1).setCell ⟨g, 2, none⟩ v2).setCell ⟨g, 3, none⟩ v3).setCell ⟨g, 4, none⟩ v4).setCell ⟨g, 5, none⟩ v5).heap[g]? = some (.cells #[v0, v1, v2, v3, v4, v5] t (0, 0)) := by
  have h0 := heap_setCell_same W g 0 _ t v0 h
  have h1 := heap_setCell_same _ g 1 _ t v1 h0
  have h2 := heap_setCell_same _ g 2 _ t v2 h1
  have h3 := heap_setCell_same _ g 3 _ t v3 h2
  have h4 := heap_setCell_same _ g 4 _ t v4 h3
  exact heap_setCell_same _ g 5 _ t v5 h4
def six6 (W : World) (g : Nat) (v0 v1 v2 v3 v4 v5 : Value) : World := (((((W.setCell ⟨g, 0, none⟩ v0).setCell ⟨g, 1, none⟩ v1).setCell ⟨g, 2, none⟩ v2).setCell ⟨g, 3, none⟩ v3).setCell ⟨g, 4, none⟩ v4).setCell ⟨g, 5, none⟩ v5
theorem six6_def (W : World) (g : Nat) (v0 v1 v2 v3 v4 v5 : Value) : (((((W.setCell ⟨g, 0, none⟩ v0).setCell ⟨g, 1, none⟩ v1).setCell ⟨g, 2, none⟩ v2).setCell ⟨g, 3, none⟩ v3).setCell ⟨g, 4, none⟩ v4).setCell ⟨g, 5, none⟩ v5 = six6 W g v0 v1 v2 v3 v4 v5 := by
  unfold six6
  with_reducible rfl
theorem six6_other (W : World) (g : Nat) (v0 v1 v2 v3 v4 v5 : Value) (q : Nat) (hq : q ≠ g) : (six6 W g v0 v1 v2 v3 v4 v5).heap[q]? = W.heap[q]? := by
  unfold six6
  iterate 6 rw [Below.heap_setCell _ _ _ q hq]
theorem six6_os (W : World) (g : Nat) (v0 v1 v2 v3 v4 v5 : Value) : (six6 W g v0 v1 v2 v3 v4 v5).os = W.os ∧ (six6 W g v0 v1 v2 v3 v4 v5).tape = W.tape ∧ (six6 W g v0 v1 v2 v3 v4 v5).output = W.output ∧ (six6 W g v0 v1 v2 v3 v4 v5).heap.size = W.heap.size := by
  unfold six6
  exact os5 (set1_os _ _ _) (os5 (set1_os _ _ _) (os5 (set1_os _ _ _) (os5 (set1_os _ _ _) (os5 (set1_os _ _ _) (set1_os _ _ _)))))
/-- what is left of the two boxes -/
theorem two_boxes {wr : World} {Av : Option Addr} {l cv : Nat} {k p n : Int} {f t : ByteArray} {S : Nat} {c0 c1 c2 c3 c4 c5 : Value} (hbr : wr.heap[S + 1]? = some (.cells #[c0, c1, c2, c3, c4, c5] 24 (0, 0))) :
    ∀ W, W = six6 (wr.setCell ⟨S, 5, none⟩ (.slice Av l cv)) (S + 1) (.int .i64 k) (.int .i64 p) (.string f) (.string t) (.int .i64 n) (.slice Av l cv) →
      W.heap[S + 1]? = some (.cells #[.int .i64 k, .int .i64 p, .string f, .string t, .int .i64 n, .slice Av l cv] 24 (0, 0)) ∧ (∀ q, q ≠ S → q ≠ S + 1 → W.heap[q]? = wr.heap[q]?) ∧ W.heap.size = wr.heap.size ∧ W.os = wr.os ∧ W.tape = wr.tape ∧ W.output = wr.output := by
  intro W hW
  subst hW
  have ho := six6_os (wr.setCell ⟨S, 5, none⟩ (.slice Av l cv)) (S + 1) (.int .i64 k) (.int .i64 p) (.string f) (.string t) (.int .i64 n) (.slice Av l cv)
  have h1 := set1_os wr ⟨S, 5, none⟩ (.slice Av l cv)
  refine ⟨?_, fun q h1 h2 => ?_, ho.2.2.2.trans h1.2.2.2, ho.1.trans h1.1, ho.2.1.trans h1.2.1, ho.2.2.1.trans h1.2.2.1⟩
  · unfold six6
    exact six_set _ (S + 1) _ _ _ _ _ _ ((Below.heap_setCell _ _ _ _ (by simp)).trans hbr)
  · rw [six6_other _ _ _ _ _ _ _ _ q h2]
    exact Below.heap_setCell _ _ _ q h1
theorem infoNode : (Tryd.prog.info? 24).map (·.size) = some 6 := by kernel_rfl
theorem ret_node {fn : Func} {p : Tmp} (hr : fn.results = #[.cell p 24]) {tmps : Array Value} {w : World} {b : Nat} {k q n : Int} {f t : ByteArray} {A : Option Addr} {l c : Nat} (hp : tmps.getD p undef = .pointer (some ⟨b, 0, none⟩)) (hb : w.heap[b]? = some (.cells #[.int .i64 k, .int .i64 q, .string f, .string t, .int .i64 n, .slice A l c] 24 (0, 0))) :
    (results fn tmps).run Tryd.prog w = .ok (.agg #[.int .i64 k, .int .i64 q, .string f, .string t, .int .i64 n, .slice A l c]) w := by
  have e : (results fn tmps).run Tryd.prog w = ((asAddr (tmps.getD p undef)).run Tryd.prog w).andThen fun a w₁ => (loadVar 24 a).run Tryd.prog w₁ := by
    simp only [results, hr]
    simp [Sem.run_bind, Result.andThen]
  rw [e, hp]
  simp [asAddr, run_loadVar_row w b 24 24 _ (0, 0) _ hb Tryd.underlying24 rfl infoNode]
def TurnSaid (x : Rl) : Prop := ∀ (A : Option Addr) (c : Nat) (w : World) (B : Nat), NL w B A x.l → B ≤ w.heap.size → nsz x ≤ 1000 →
  Calls Tryd.prog 8 #[.agg #[.int .i64 x.k, .int .i64 x.p, .string x.f, .string x.t, .int .i64 x.n, .slice A x.l.length c]] w fun e w' => ∃ A' c', e = .returned (.agg #[.int .i64 x.k, .int .i64 x.p, .string x.f, .string x.t, .int .i64 x.n, .slice A' (turnL x.l).length c']) ∧ NS w' (fun q => w.heap.size ≤ q ∧ q < w'.heap.size) A' (turnL x.l) ∧ Below w.heap.size w w'

set_option maxHeartbeats 4000000 in
theorem turn_step (x : Rl) (hC : ∀ y ∈ x.l, TurnSaid y) : TurnSaid x := by
  intro A c w B hN hB hm
  have hb1 : Below w.heap.size w (w.alloc (.cells #[.int .i64 x.k, .int .i64 x.p, .string x.f, .string x.t, .int .i64 x.n, .slice A x.l.length c] 24)) := (Below.refl _ _).alloc (Nat.le_refl _) _
  have hs1 : (w.alloc (.cells #[.int .i64 x.k, .int .i64 x.p, .string x.f, .string x.t, .int .i64 x.n, .slice A x.l.length c] 24)).heap.size = w.heap.size + 1 := by simp
  have h6 : C6 (w.alloc (.cells #[.int .i64 x.k, .int .i64 x.p, .string x.f, .string x.t, .int .i64 x.n, .slice A x.l.length c] 24)) w.heap.size 0 x A c := ⟨by simp, by simp, by simp, by simp, by simp, by simp⟩
  have hb2 := hb1.alloc (by omega) (.cells #[.int .i64 0, .int .i64 0, .string ⟨#[]⟩, .string ⟨#[]⟩, .int .i64 0, .slice none 0 0] 24)
  have hs2 : ((w.alloc (.cells #[.int .i64 x.k, .int .i64 x.p, .string x.f, .string x.t, .int .i64 x.n, .slice A x.l.length c] 24)).alloc (.cells #[.int .i64 0, .int .i64 0, .string ⟨#[]⟩, .string ⟨#[]⟩, .int .i64 0, .slice none 0 0] 24)).heap.size = w.heap.size + 1 + 1 := by simp
  have hr0 := Tr.begun ((w.alloc (.cells #[.int .i64 x.k, .int .i64 x.p, .string x.f, .string x.t, .int .i64 x.n, .slice A x.l.length c] 24)).alloc (.cells #[.int .i64 0, .int .i64 0, .string ⟨#[]⟩, .string ⟨#[]⟩, .int .i64 0, .slice none 0 0] 24))
  rw [hs2] at hr0
  have hb3 := hb2.alloc (by omega) (.cells #[] 24)
  have HNs := Lib.hid (nsz_l x)
  have hXl : x.l.length ≤ 1000 := by have := len_nszL x.l; have := nsz_l x; omega
  have HN := Lib.hid hN
  have HC := Lib.hid hC
  have HR0 := Lib.hid hr0
  have HB3 := Lib.hid hb3
  clear hN hC hr0 hb3 hb2 hb1 h6
  generalize nsz x = nx at *
  generalize x.l = X at *
  generalize x.k = xk at *
  generalize x.p = xp at *
  generalize x.f = xf at *
  generalize x.t = xt at *
  generalize x.n = xn at *
  go_enter Tryd.func8, Tryd.ntmps8
  go_wp2
  have hbx : (((w.alloc (.cells #[.int .i64 xk, .int .i64 xp, .string xf, .string xt, .int .i64 xn, .slice A X.length c] 24)).alloc (.cells #[.int .i64 0, .int .i64 0, .string ⟨#[]⟩, .string ⟨#[]⟩, .int .i64 0, .slice none 0 0] 24)).alloc (.cells #[] 24)).heap[w.heap.size]? = some (.cells #[.int .i64 xk, .int .i64 xp, .string xf, .string xt, .int .i64 xn, .slice A X.length c] 24 (0, 0)) := by
    rw [heap_alloc_old _ _ (by omega), heap_alloc_old _ _ (by omega)]
    exact heap_alloc_new _ _
  have hbr : (((w.alloc (.cells #[.int .i64 xk, .int .i64 xp, .string xf, .string xt, .int .i64 xn, .slice A X.length c] 24)).alloc (.cells #[.int .i64 0, .int .i64 0, .string ⟨#[]⟩, .string ⟨#[]⟩, .int .i64 0, .slice none 0 0] 24)).alloc (.cells #[] 24)).heap[w.heap.size + 1]? = some (.cells #[.int .i64 0, .int .i64 0, .string ⟨#[]⟩, .string ⟨#[]⟩, .int .i64 0, .slice none 0 0] 24 (0, 0)) := by
    rw [heap_alloc_old _ _ (by omega), ← hs1]
    exact heap_alloc_new _ _
  have hsV : (((w.alloc (.cells #[.int .i64 xk, .int .i64 xp, .string xf, .string xt, .int .i64 xn, .slice A X.length c] 24)).alloc (.cells #[.int .i64 0, .int .i64 0, .string ⟨#[]⟩, .string ⟨#[]⟩, .int .i64 0, .slice none 0 0] 24)).alloc (.cells #[] 24)).heap.size = w.heap.size + 1 + 1 + 1 := by simp
  generalize ((w.alloc (.cells #[.int .i64 xk, .int .i64 xp, .string xf, .string xt, .int .i64 xn, .slice A X.length c] 24)).alloc (.cells #[.int .i64 0, .int .i64 0, .string ⟨#[]⟩, .string ⟨#[]⟩, .int .i64 0, .slice none 0 0] 24)).alloc (.cells #[] 24) = V at *
  clear hs1 hs2
  have Hbx := Lib.hid hbx
  have Hbr := Lib.hid hbr
  have HsV := Lib.hid hsV
  clear hbx hbr hsV
  go_loopw [3, 9] (fun v i wr => ∃ (k : Nat) (Av : Option Addr) (cv : Nat) (cs : List Value), k ≤ X.length ∧ i = .int .i64 (k : Int) ∧ v = .slice Av k cv ∧ Hid (Tr wr (w.heap.size + 1 + 1) (.slice Av k cv) ((turnL X).take k) cs) ∧ Hid (Below (w.heap.size + 1 + 1) V wr)) (fun _ i _ => X.length - (RowKit.intOf i).toNat)
  case atStart => exact ⟨0, some ⟨w.heap.size + 1 + 1, 0, none⟩, 0, [], Nat.zero_le _, rfl, rfl, HR0, Lib.hid (Below.refl _ _)⟩
  case round =>
    clear HR0
    obtain ⟨k, Av, cv, cs, hk, rfl, rfl, HT, HB⟩ := hrel
    have hwz : w.heap.size + 1 + 1 + 1 ≤ wr.heap.size := by have := HB.out.size; have := HsV.out; omega
    have hbx : wr.heap[w.heap.size]? = some (.cells #[.int .i64 xk, .int .i64 xp, .string xf, .string xt, .int .i64 xn, .slice A X.length c] 24 (0, 0)) := (HB.out.block w.heap.size (by omega)).trans Hbx.out
    have HBw := Lib.hid (HB3.out.trans (HB.out.mono (by omega)))
    have d5 : wr.cell? ⟨w.heap.size, 5, none⟩ = some (.slice A X.length c) := by simp [World.cell?, hbx]
    have Hbx2 := Lib.hid hbx
    clear hbx
    by_cases hlt : k < X.length
    · have hj : X.length - 1 - k < X.length := by omega
      have HTA := Lib.hid (turnL_at X k hlt)
      obtain ⟨j, hje⟩ : ∃ j, j = X.length - 1 - k := ⟨_, rfl⟩
      simp only [← hje] at HTA hj
      have b1 : (k : Int) < (X.length : Int) := by omega
      have q1 : IntKind.i64.wrap ((X.length : Int) - 1) = (X.length : Int) - 1 := IntWalk.i64_in _ (by omega)
      have q2 : IntKind.i64.wrap ((X.length : Int) - 1 - (k : Int)) = (j : Int) := by rw [IntWalk.i64_in _ (by omega)]; omega
      have b2 : (0 : Int) ≤ (j : Int) := by omega
      have b3 : (j : Int) < (X.length : Int) := by omega
      obtain ⟨g, off, A', c', rfl, hg, h6, hch⟩ := (HN.out.kept (HBw.out.mono hB)).at_ hj
      obtain ⟨c0, c1, c2, c3, c4, c5⟩ := h6
      have hnl : nsz X[j] ≤ nszL X := by
        have h1 := nszL_take_step X j hj
        have h2 := nszL_take_more X (j + 1)
        omega
      have hns := HNs.out
      have HCk := Lib.hid (HC.out X[j] (List.getElem_mem hj) A' c' wr B hch (by omega) (by omega))
      have hlen : ((turnL X).take k).length ≤ 100000 := by rw [List.length_take, turnL_len]; omega
      have Hlen := Lib.hid hlen
      have Hln : Hid (((turnL X).take (k + 1)).length = k + 1) := Lib.hid (by rw [List.length_take, turnL_len]; omega)
      have HP : Hid (∀ (w3 : World) (A3 : Option Addr) (c3 : Nat), Below wr.heap.size wr w3 → NS w3 (fun q => wr.heap.size ≤ q ∧ q < w3.heap.size) A3 (turnL X[j].l) → ∃ v' w4, (Builtin.append_ #[22, 22] 22 #[.slice Av k cv, .slice (some ⟨w3.heap.size, 0, none⟩) 1 1]).run Tryd.prog (w3.alloc (.cells #[.int .i64 X[j].k, .int .i64 X[j].p, .string X[j].f, .string X[j].t, .int .i64 X[j].n, .slice A3 (turnL X[j].l).length c3] 24)) = .ok v' w4 ∧ Tr w4 (w.heap.size + 1 + 1) v' ((turnL X).take (k + 1)) (cs ++ six (turnR X[j]) A3 c3) ∧ Below (w.heap.size + 1 + 1) wr w4) := Lib.hid (by
        intro w3 A3 c3 hb3 hn3
        have h := HT.out.push (y := turnR X[j]) (A := A3) (c := c3) hb3 (by rw [turn_l]; exact hn3) (by omega) Hlen.out 22
        rw [← HTA.out] at h
        simpa only [turn_k, turn_p, turn_f, turn_t, turn_n, turn_l] using h)
      clear hch HC hnl hns hlen HTA hje
      generalize X[j].l.length = yl at *
      generalize (turnL X[j].l) = tl at *
      generalize turnR X[j] = tR at *
      generalize X[j].k = yk at *
      generalize X[j].p = yp at *
      generalize X[j].f = yf at *
      generalize X[j].t = yt at *
      generalize X[j].n = yn at *
      go_wp2_with (first
        | (go_at_call 8; refine HCk.out.mono ?_; rintro e w3 ⟨A3, c3', rfl, hn3, hb3⟩; obtain ⟨v4, w4, hrn, htr, hb4⟩ := HP.out w3 A3 c3' hb3 hn3; have HT4 := Lib.hid htr; have HB4 := Lib.hid (HB.out.trans hb4); clear htr hb4 hn3 hb3 HCk HP)
        | (at_builtin; refine Lib.wpList_append_run _ rfl _ _ _ _ rfl _ _ rfl rfl _ _ hrn ?_)
        | fail)
      obtain ⟨A4, c4', rfl⟩ : ∃ A4 c4', v4 = .slice A4 (k + 1) c4' := by
        obtain ⟨A4, c4', e⟩ := HT4.out.ar.form
        rw [Hln.out] at e
        exact ⟨A4, c4', e⟩
      go_roundw
      case rel => exact ⟨k + 1, A4, c4', _, by omega, by go_num, rfl, HT4, HB4⟩
      case measure => simp [RowKit.intOf]; omega
    · have b1 : ¬ (k : Int) < (X.length : Int) := by omega
      have HK : Hid ((turnL X).take k = turnL X) := Lib.hid (List.take_of_length_le (by rw [turnL_len]; omega))
      rw [HK.out] at HT
      have hbr : wr.heap[w.heap.size + 1]? = some (.cells #[.int .i64 0, .int .i64 0, .string ⟨#[]⟩, .string ⟨#[]⟩, .int .i64 0, .slice none 0 0] 24 (0, 0)) := (HB.out.block (w.heap.size + 1) (by omega)).trans Hbr.out
      have hbx := Hbx2.out
      have a0 : wr.cell? ⟨w.heap.size, 0, none⟩ = some (.int .i64 xk) := by simp [World.cell?, hbx]
      have a1 : wr.cell? ⟨w.heap.size, 1, none⟩ = some (.int .i64 xp) := by simp [World.cell?, hbx]
      have a2 : wr.cell? ⟨w.heap.size, 2, none⟩ = some (.string xf) := by simp [World.cell?, hbx]
      have a3 : wr.cell? ⟨w.heap.size, 3, none⟩ = some (.string xt) := by simp [World.cell?, hbx]
      have a4 : wr.cell? ⟨w.heap.size, 4, none⟩ = some (.int .i64 xn) := by simp [World.cell?, hbx]
      have z0 : wr.cell? ⟨w.heap.size + 1, 0, none⟩ = some (.int .i64 0) := by simp [World.cell?, hbr]
      have z1 : wr.cell? ⟨w.heap.size + 1, 1, none⟩ = some (.int .i64 0) := by simp [World.cell?, hbr]
      have z2 : wr.cell? ⟨w.heap.size + 1, 2, none⟩ = some (.string ⟨#[]⟩) := by simp [World.cell?, hbr]
      have z3 : wr.cell? ⟨w.heap.size + 1, 3, none⟩ = some (.string ⟨#[]⟩) := by simp [World.cell?, hbr]
      have z4 : wr.cell? ⟨w.heap.size + 1, 4, none⟩ = some (.int .i64 0) := by simp [World.cell?, hbr]
      have z5 : wr.cell? ⟨w.heap.size + 1, 5, none⟩ = some (.slice none 0 0) := by simp [World.cell?, hbr]
      have g5 : wr.frozen? ⟨w.heap.size, 5, none⟩ = false := by simp [World.frozen?, hbx]
      have f0 : wr.frozen? ⟨w.heap.size + 1, 0, none⟩ = false := by simp [World.frozen?, hbr]
      have f1 : wr.frozen? ⟨w.heap.size + 1, 1, none⟩ = false := by simp [World.frozen?, hbr]
      have f2 : wr.frozen? ⟨w.heap.size + 1, 2, none⟩ = false := by simp [World.frozen?, hbr]
      have f3 : wr.frozen? ⟨w.heap.size + 1, 3, none⟩ = false := by simp [World.frozen?, hbr]
      have f4 : wr.frozen? ⟨w.heap.size + 1, 4, none⟩ = false := by simp [World.frozen?, hbr]
      have f5 : wr.frozen? ⟨w.heap.size + 1, 5, none⟩ = false := by simp [World.frozen?, hbr]
      have Hbx3 := Hbx2
      have Hbr3 := Lib.hid hbr
      clear hbx hbr Hbx2
      go_wp2
      obtain rfl : k = X.length := by omega
      have hbx := Hbx3.out
      have hbr := Hbr3.out
      clear a0 a1 a2 a3 a4 z0 z1 z2 z3 z4 z5 g5 f0 f1 f2 f3 f4 f5 d5
      have HBX := Lib.hid (two_boxes (Av := Av) (l := X.length) (cv := cv) (k := xk) (p := xp) (n := xn) (f := xf) (t := xt) hbr)
      clear hbx hbr
      rw [six6_def]
      obtain ⟨W, hW⟩ : ∃ W, W = six6 (wr.setCell ⟨w.heap.size, 5, none⟩ (.slice Av X.length cv)) (w.heap.size + 1) (.int .i64 xk) (.int .i64 xp) (.string xf) (.string xt) (.int .i64 xn) (.slice Av X.length cv) := ⟨_, rfl⟩
      obtain ⟨hblk, hoth, hsz, ho1, ho2, ho3⟩ := HBX.out W hW
      rw [← hW]
      clear hW HBX
      refine bodyPost_ret (ret_node rfl rfl hblk) rfl ?_
      have hTr := HT.out
      have hlx := turnL_len X
      rw [← hlx] at hTr
      refine ⟨Av, ⟨cv, by rw [hlx]⟩, hTr.ns (B := w.heap.size) (by omega) (by omega) (fun q h1 h2 => hoth q (by omega) (by omega)), ⟨ho1.trans HBw.out.os, ho2.trans HBw.out.tape, ho3.trans HBw.out.output, by rw [hsz]; exact HBw.out.size, fun q hq => (hoth q (by omega) (by omega)).trans (HBw.out.block q hq)⟩⟩
theorem turn_fuel (N : Nat) : ∀ x, SizeOf.sizeOf x ≤ N → TurnSaid x := by
  induction N with
  | zero =>
    intro x h
    obtain ⟨k, p, f, t, n, l⟩ := x
    simp at h
  | succ N ih => intro x hN; exact turn_step x fun y hy => ih y (by have := Rl.lt_mem hy; omega)
theorem turned_any (x : Rl) : TurnSaid x := turn_fuel _ x (Nat.le_refl _)
end Go.Proofs.YtehjkgfdfihfmaaDoor
