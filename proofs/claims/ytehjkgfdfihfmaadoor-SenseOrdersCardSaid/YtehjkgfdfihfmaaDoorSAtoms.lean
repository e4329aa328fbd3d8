/- The document's atoms of a rule. -/
import Derived.Test.YtehjkgfdfihfmaaDoorSRows
import Derived.Test.YtehjkgfdfihfmaaDoorSSize
namespace Go.Proofs.YtehjkgfdfihfmaaDoor
open Go.RowKit Go.Maps Go.Lib
set_option linter.unusedVariables false
set_option maxRecDepth 100000

theorem atomsL_take (l : List Rl) (k : Nat) (hk : k < l.length) : atomsL (l.take (k + 1)) = atomsL (l.take k) ++ atomsR l[k] := by
  have key : ∀ a b : List Rl, atomsL (a ++ b) = atomsL a ++ atomsL b := by
    intro a b
    induction a with
    | nil => rfl
    | cons x a ih => rw [List.cons_append, atomsL, atomsL, ih, List.append_assoc]
  rw [← List.take_append_getElem hk, key, atomsL, atomsL, List.append_nil]
theorem atoms_len (N : Nat) : ∀ x, SizeOf.sizeOf x ≤ N → (atomsR x).length ≤ nsz x := by
  induction N with
  | zero =>
    intro x h
    obtain ⟨k, p, f, t, n, l⟩ := x
    simp at h
  | succ N ih =>
    intro x h
    have hk : ∀ y ∈ x.l, (atomsR y).length ≤ nsz y := fun y hy => ih y (by have := Rl.lt_mem hy; omega)
    have key : ∀ l : List Rl, (∀ y ∈ l, (atomsR y).length ≤ nsz y) → (atomsL l).length ≤ nszL l := by
      intro l
      induction l with
      | nil => intro _; simp [atomsL, nszL]
      | cons y l il =>
        intro h
        rw [atomsL, List.length_append, nszL]
        have := h y (by simp)
        have := il fun z hz => h z (by simp [hz])
        omega
    rw [nsz_l]
    cases ha : atomB x.k with
    | true => rw [atoms_a x ha]; simp
    | false =>
      by_cases h2 : 0 ≤ x.k ∧ x.k ≤ 2
      · rw [atoms_l x h2]
        have := key x.l hk
        omega
      · rw [atoms_o x ha h2]; simp
theorem atomsL_len (l : List Rl) : (atomsL l).length ≤ nszL l := by
  induction l with
  | nil => simp [atomsL, nszL]
  | cons y l il =>
    rw [atomsL, List.length_append, nszL]
    have := atoms_len _ y (Nat.le_refl _)
    omega
def AtomsSaid (x : Rl) : Prop := ∀ (A : Option Addr) (c : Nat) (w : World) (B : Nat), NL w B A x.l → B ≤ w.heap.size → nsz x ≤ 1000 →
  Calls Tryd.prog 19 #[.agg #[.int .i64 x.k, .int .i64 x.p, .string x.f, .string x.t, .int .i64 x.n, .slice A x.l.length c]] w fun e w' => ∃ A' c' cs, e = .returned (.slice A' (atomsR x).length c') ∧ Ar w' w.heap.size (.slice A' (atomsR x).length c') (atomsR x) cs ∧ Below w.heap.size w w'

set_option maxHeartbeats 4000000 in
theorem atoms_step (x : Rl) (hC : ∀ y ∈ x.l, AtomsSaid y) : AtomsSaid x := by
  intro A c w B hN hB hm
  have hb1 : Below w.heap.size w (w.alloc (.cells #[.int .i64 x.k, .int .i64 x.p, .string x.f, .string x.t, .int .i64 x.n, .slice A x.l.length c] 24)) := (Below.refl _ _).alloc (Nat.le_refl _) _
  have hs1 : (w.alloc (.cells #[.int .i64 x.k, .int .i64 x.p, .string x.f, .string x.t, .int .i64 x.n, .slice A x.l.length c] 24)).heap.size = w.heap.size + 1 := by simp
  have h6 : C6 (w.alloc (.cells #[.int .i64 x.k, .int .i64 x.p, .string x.f, .string x.t, .int .i64 x.n, .slice A x.l.length c] 24)) w.heap.size 0 x A c := ⟨by simp, by simp, by simp, by simp, by simp, by simp⟩
  have hr0 := no_node (w.alloc (.cells #[.int .i64 x.k, .int .i64 x.p, .string x.f, .string x.t, .int .i64 x.n, .slice A x.l.length c] 24))
  rw [hs1] at hr0
  have hb2 := hb1.alloc (by omega) (.cells #[] 24)
  have hs2 : ((w.alloc (.cells #[.int .i64 x.k, .int .i64 x.p, .string x.f, .string x.t, .int .i64 x.n, .slice A x.l.length c] 24)).alloc (.cells #[] 24)).heap.size = w.heap.size + 2 := by simp
  have h6' : C6 ((w.alloc (.cells #[.int .i64 x.k, .int .i64 x.p, .string x.f, .string x.t, .int .i64 x.n, .slice A x.l.length c] 24)).alloc (.cells #[] 24)) w.heap.size 0 x A c := h6.keep fun p hp => ((Below.refl (w.heap.size + 1) _).alloc (by omega) _).cell (by rw [hp]; omega)
  obtain ⟨d0, d1, d2, d3, d4, d5⟩ := h6'
  simp only [Nat.zero_add] at d1 d2 d3 d4 d5
  cases ha : atomB x.k with
  | true =>
    have hk37 : 3 ≤ x.k ∧ x.k ≤ 7 := by
      simp [atomB] at ha
      omega
    obtain ⟨hk3, hk7⟩ := hk37
    have hone := one_node ((w.alloc (.cells #[.int .i64 x.k, .int .i64 x.p, .string x.f, .string x.t, .int .i64 x.n, .slice A x.l.length c] 24)).alloc (.cells #[] 24)) x A c
    rw [hs2] at hone
    have hb3 := hb2.alloc (by omega) (.cells #[.int .i64 x.k, .int .i64 x.p, .string x.f, .string x.t, .int .i64 x.n, .slice A x.l.length c] 24)
    have hr1 := hr0.keep (w' := ((w.alloc (.cells #[.int .i64 x.k, .int .i64 x.p, .string x.f, .string x.t, .int .i64 x.n, .slice A x.l.length c] 24)).alloc (.cells #[] 24)).alloc (.cells #[.int .i64 x.k, .int .i64 x.p, .string x.f, .string x.t, .int .i64 x.n, .slice A x.l.length c] 24)) (fun q hq => heap_alloc_old _ _ (by have := (hr0.lt hq).2; omega))
    have hrun := fun ty => app_nodes ty hr1 hone (by simp) (by simp)
    simp only [List.nil_append] at hrun
    have HE : Hid (atomsR x = [x]) := Lib.hid (atoms_a x ha)
    have HB3 := Lib.hid hb3
    have HR := Lib.hid hrun
    clear hb1 hb2 h6 hr0 hr1 hone hb3 hrun ha hN hC hm
    generalize atomsR x = aR at *
    have hy : aR = [x] := HE.out
    subst hy
    obtain ⟨v4, w4, hrn, har, hg4, hloc4⟩ := HR.out 22
    obtain ⟨A4, c4, rfl⟩ := har.form
    have HA4 := Lib.hid har
    have HG4 := Lib.hid (HB3.out.grown hg4 (by simp; omega) (fun j hj => by simp [Value.ownBlock] at hj; omega))
    clear HR har hg4 hloc4 HE
    generalize x.k = xk at *
    generalize x.p = xp at *
    generalize x.f = xf at *
    generalize x.t = xt at *
    generalize x.n = xn at *
    generalize x.l.length = xl at *
    go_enter Tryd.func19, Tryd.ntmps19
    go_wp2_with (first
      | (at_builtin; refine Lib.wpList_append_run _ rfl _ _ _ _ rfl _ _ rfl rfl _ _ hrn ?_)
      | fail)
    go_ret
    exact ⟨A4, c4, _, rfl, HA4.out.base_le (by omega), HG4.out⟩
  | false =>
    have hno := atoms_o x ha
    have hB0 := hr0.form
    by_cases h2 : 0 ≤ x.k ∧ x.k ≤ 2
    · have HE := Lib.hid (atoms_l x h2)
      have HNs := Lib.hid (nsz_l x)
      have hXl : x.l.length ≤ 1000 := by have := len_nszL x.l; have := nsz_l x; omega
      have HN := Lib.hid hN
      have HC := Lib.hid hC
      have HR0 := Lib.hid hr0
      have HB2 := Lib.hid hb2
      obtain ⟨q0, q2⟩ := h2
      have q3 : ¬ (3 : Int) ≤ x.k := by omega
      clear hno hB0 hb1 h6 hr0 hb2 ha hN hC
      generalize atomsR x = aR at *
      have hy : aR = atomsL x.l := HE.out
      subst hy
      generalize nsz x = nx at *
      generalize x.l = X at *
      generalize x.k = xk at *
      generalize x.p = xp at *
      generalize x.f = xf at *
      generalize x.t = xt at *
      generalize x.n = xn at *
      go_enter Tryd.func19, Tryd.ntmps19
      go_wp2
      generalize hV : (w.alloc (.cells #[.int .i64 xk, .int .i64 xp, .string xf, .string xt, .int .i64 xn, .slice A X.length c] 24)).alloc (.cells #[] 24) = V at *
      clear hV d0 d1 d2 d3 d4
      go_loopw [3, 4] (fun v i wr => ∃ (k : Nat) (Av : Option Addr) (cv : Nat) (cs : List Value), k ≤ X.length ∧ i = .int .i64 (k : Int) ∧ v = .slice Av (atomsL (X.take k)).length cv ∧ Hid (Ar wr (w.heap.size + 1) (.slice Av (atomsL (X.take k)).length cv) (atomsL (X.take k)) cs) ∧ Hid (Below (w.heap.size + 1) V wr)) (fun _ i _ => X.length - (RowKit.intOf i).toNat)
      case atStart => exact ⟨0, some ⟨w.heap.size + 1, 0, none⟩, 0, [], Nat.zero_le _, rfl, rfl, HR0, Lib.hid (Below.refl _ _)⟩
      case round =>
        clear HR0
        obtain ⟨k, Av, cv, cs, hk, rfl, rfl, HA, HB⟩ := hrel
        have hz := HB.out.size
        have e5 : wr.cell? ⟨w.heap.size, 5, none⟩ = some (.slice A X.length c) := (HB.out.cell (p := ⟨w.heap.size, 5, none⟩) (by show w.heap.size < _; omega)).trans d5
        have HBw := Lib.hid (HB2.out.trans (HB.out.mono (by omega)))
        have hwz := HBw.out.size
        by_cases hlt : k < X.length
        · have b1 : (k : Int) < (X.length : Int) := by omega
          obtain ⟨g, off, A', c', rfl, hg, h6, hch⟩ := (HN.out.kept (HBw.out.mono hB)).at_ hlt
          obtain ⟨c0, c1, c2, c3, c4, c5⟩ := h6
          have hst := nszL_take_step X k hlt
          have hmo := nszL_take_more X (k + 1)
          have hns := HNs.out
          have hal := atomsL_len (X.take k)
          have hal2 := atoms_len _ X[k] (Nat.le_refl _)
          have HCk := Lib.hid (HC.out X[k] (List.getElem_mem hlt) A' c' wr B hch (by omega) (by omega))
          have HT := Lib.hid (atomsL_take X k hlt)
          have Hlen : Hid ((atomsL (X.take k)).length + (atomsR X[k]).length ≤ 1000000) := Lib.hid (by omega)
          clear hch HC hst hmo hns hal hal2
          generalize X[k].l.length = yl at *
          generalize X[k].k = yk at *
          generalize X[k].p = yp at *
          generalize X[k].f = yf at *
          generalize X[k].t = yt at *
          generalize X[k].n = yn at *
          generalize atomsR X[k] = aY at *
          go_wp2_with (first
            | (go_at_call 19; refine HCk.out.mono ?_; rintro e w3 ⟨A3, c3', cs3, rfl, hr3, hb3⟩; obtain ⟨v4, w4, hrn, har, hg4, hloc⟩ := app_nodes 22 (HA.out.below hb3) hr3 Hlen.out (by have := hb3.size; omega); have HA4 := Lib.hid har; have HB4 := Lib.hid (HB.out.trans ((hb3.mono (by omega)).grown hg4 (by have := hb3.size; omega) (fun j hj => (HA.out.lt hj).1))); clear har hg4 hloc hr3 hb3 HCk)
            | (at_builtin; refine Lib.wpList_append_run _ rfl _ _ _ _ rfl _ _ rfl rfl _ _ hrn ?_)
            | fail)
          rw [← HT.out] at HA4
          obtain ⟨A4, c4', rfl⟩ := HA4.out.form
          go_roundw
          case rel => exact ⟨k + 1, A4, c4', _, by omega, by go_num, rfl, HA4, HB4⟩
          case measure => simp [RowKit.intOf]; omega
        · have b1 : ¬ (k : Int) < (X.length : Int) := by omega
          have HK : Hid (X.take k = X) := Lib.hid (List.take_of_length_le (by omega))
          rw [HK.out] at HA ⊢
          go_wp2
          go_ret
          first | exact ⟨_, _, _, rfl, HA.out.base_le (by omega), HBw.out⟩ | exact ⟨_, _, rfl, ⟨_, HA.out.base_le (by omega)⟩, HBw.out⟩
    · have HE := Lib.hid (hno h2)
      have HR0 := Lib.hid hr0
      have HB2 := Lib.hid hb2
      have hk : x.k < 0 ∨ 7 < x.k := by
        simp [atomB] at ha
        omega
      clear hno hB0 hb1 h6 hr0 hb2 ha hN hC h2
      generalize atomsR x = aR at *
      have hy : aR = [] := HE.out
      subst hy
      generalize x.l.length = xl at *
      generalize x.k = xk at *
      generalize x.p = xp at *
      generalize x.f = xf at *
      generalize x.t = xt at *
      generalize x.n = xn at *
      rcases hk with hk | hk
      · have q3 : ¬ (3 : Int) ≤ xk := by omega
        have q0 : ¬ (0 : Int) ≤ xk := by omega
        go_enter Tryd.func19, Tryd.ntmps19
        go_wp2
        go_ret
        first | exact ⟨_, _, _, rfl, HR0.out.base_le (by omega), HB2.out⟩ | exact ⟨_, _, rfl, ⟨_, HR0.out.base_le (by omega)⟩, HB2.out⟩
      · have q3 : (3 : Int) ≤ xk := by omega
        have q7 : ¬ xk ≤ (7 : Int) := by omega
        have q0 : (0 : Int) ≤ xk := by omega
        have q2 : ¬ xk ≤ (2 : Int) := by omega
        go_enter Tryd.func19, Tryd.ntmps19
        go_wp2
        go_ret
        first | exact ⟨_, _, _, rfl, HR0.out.base_le (by omega), HB2.out⟩ | exact ⟨_, _, rfl, ⟨_, HR0.out.base_le (by omega)⟩, HB2.out⟩
theorem atoms_fuel (N : Nat) : ∀ x, SizeOf.sizeOf x ≤ N → AtomsSaid x := by
  induction N with
  | zero =>
    intro x h
    obtain ⟨k, p, f, t, n, l⟩ := x
    simp at h
  | succ N ih => intro x hN; exact atoms_step x fun y hy => ih y (by have := Rl.lt_mem hy; omega)
theorem atoms_any (x : Rl) : AtomsSaid x := atoms_fuel _ x (Nat.le_refl _)
end Go.Proofs.YtehjkgfdfihfmaaDoor
