/- (*town.Town).open: a desk comes back. A setup that may be is one that banks take. A town that is being made. -/
import Derived.Test.YtchkdidpnjakeaaGreatDoorGMMach
import Derived.Test.YtchkdidpnjakeaaGreatDoorGMFresh
import Derived.Test.YtchkdidpnjakeaaGreatDoorGMClone
import Derived.Test.YtchkdidpnjakeaaGreatDoorGBNew3
import Derived.Test.YtchkdidpnjakeaaGreatDoorGMHeavy2
namespace Go.Proofs.YtchkdidpnjakeaaGreatDoor
open Go.RowKit Go.Maps Go.Lib Led
set_option linter.unusedVariables false
set_option maxRecDepth 100000

def OnP (w : World) (b s : Nat) (nm : ByteArray) (e : Ending) (w' : World) : Prop :=
  ∃ q mv bk em A c L', e = .returned (.tuple #[.pointer (some ⟨q, 0, none⟩), .int .i64 0]) ∧ DkAt w' b s q nm mv bk em A c L' ∧ Below w.heap.size w w'
theorem zeroSto (w : World) : (zeroValue 60).run Tryz.prog w = .ok (ptV none) w := by kernel_rfl
theorem othersOk {nm : ByteArray} {L : List ByteArray} (hnd : L.Nodup) (h16 : L.length ≤ 16) (hn : ∀ o ∈ L, nameB o.data.toList = true ∧ o.size ≤ 1000) : OtOk nm (L.filter fun o => decide (o ≠ nm)) := by
  refine ⟨Nat.le_trans (List.length_filter_le _ _) h16, hnd.filter _, fun o ho => ?_⟩
  obtain ⟨h1, h2⟩ := List.mem_filter.1 ho
  exact ⟨(hn o h1).1, by simpa using h2, (hn o h1).2⟩
theorem filter_take {nm o : ByteArray} {L : List ByteArray} {k : Nat} (h : L[k]? = some o) : (L.take (k + 1)).filter (fun o => decide (o ≠ nm)) = (L.take k).filter (fun o => decide (o ≠ nm)) ++ if o = nm then [] else [o] := by
  rw [take_snoc' h, List.filter_append]
  congr 1
  by_cases e : o = nm
  · simp [e]
  · simp [e]
/-- what the operations give that open a desk -/
def toR (b s t sm : Nat) (nm : ByteArray) (V6 : Value) : Nat → Value → World → Prop
  | 0, v, _ => v = .string nm
  | 1, v, _ => v = .pointer (some ⟨t, 0, none⟩)
  | 2, v, _ => v = .pointer (some ⟨t, 0, none⟩)
  | 3, v, _ => v = .pointer (some ⟨t, 6, none⟩)
  | 4, v, _ => v = .map (some sm)
  | 5, v, _ => v = .string nm
  | 6, v, _ => v = .pointer (some ⟨s, 0, none⟩)
  | 7, v, _ => v = .pointer (some ⟨t, 0, none⟩)
  | 8, v, _ => v = .string nm
  | 9, v, _ => ∃ ty p, v = .iface ty (.pointer (some ⟨p, 0, none⟩))
  | 10, v, _ => v = V6
  | 11, v, X => ∃ q mv bk em A c L', v = .tuple #[.pointer (some ⟨q, 0, none⟩), .int .i64 0] ∧ DkAt X b s q nm mv bk em A c L'
  | 12, v, X => ∃ q mv bk em A c L', v = .pointer (some ⟨q, 0, none⟩) ∧ DkAt X b s q nm mv bk em A c L'
  | 13, v, _ => v = .int .i64 0
  | 14, v, X => ∃ q mv bk em A c L', v = .pointer (some ⟨q, 0, none⟩) ∧ DkAt X b s q nm mv bk em A c L'
  | _, _, _ => True
theorem toR_kept {b s t sm : Nat} {nm : ByteArray} {V6 : Value} (i : Nat) (v : Value) (w w' : World) (hb : Below w.heap.size w w') (h : toR b s t sm nm V6 i v w) : toR b s t sm nm V6 i v w' := by
  match i, h with
  | 0, h => exact h
  | 1, h => exact h
  | 2, h => exact h
  | 3, h => exact h
  | 4, h => exact h
  | 5, h => exact h
  | 6, h => exact h
  | 7, h => exact h
  | 8, h => exact h
  | 9, h => exact h
  | 10, h => exact h
  | 11, ⟨q, mv, bk, em, A, c, L2, h1, h2⟩ => exact ⟨q, mv, bk, em, A, c, L2, h1, h2.below hb⟩
  | 12, ⟨q, mv, bk, em, A, c, L2, h1, h2⟩ => exact ⟨q, mv, bk, em, A, c, L2, h1, h2.below hb⟩
  | 14, ⟨q, mv, bk, em, A, c, L2, h1, h2⟩ => exact ⟨q, mv, bk, em, A, c, L2, h1, h2.below hb⟩
  | 13, h => exact h
  | n + 15, h => trivial
set_option maxHeartbeats 16000000 in
theorem topen_w {w : World} {t b s sm n nc : Nat} {nm : ByteArray} {u : Su} {a : Sa} {NA : Option Addr} {L : List ByteArray} {DV : Value} {F : ByteArray → Option (Option Nat)} (hT : TwB w t u a (.slice NA L.length nc) (.map (some sm)) DV) (hA : SuAt w w.heap.size u a) (hz : SuSz u) (ho : SuOk u) (h8 : ∀ d ∈ u.dl, d.box.length ≤ 8) (h12 : 12 ≤ w.heap.size)
    (hN : Ow w b (.slice NA L.length nc) L) (hM : Mp curC ptE w sm n F) (hF : F nm = some (some s)) (hS : StoreAt w s) (hbs : b ≤ s) (hb : b ≤ w.heap.size) (hnd : L.Nodup) (h16 : L.length ≤ 16) (hnB : ∀ o ∈ L, nameB o.data.toList = true ∧ o.size ≤ 1000) (hn : nameB nm.data.toList = true) (hns : nm.size ≤ 1000) :
    Calls Tryz.prog 22 #[.pointer (some ⟨t, 0, none⟩), .string nm] w fun e w' => OnP w b s nm e w' := by
  have HT : Hid (∀ X, Below w.heap.size w X → TwB X t u a (.slice NA L.length nc) (.map (some sm)) DV ∧ t < X.heap.size) := Lib.hid fun X hX => ⟨hT.below hX hT.lt, Nat.lt_of_lt_of_le hT.lt hX.size⟩
  have HNw : Hid (∀ X, Below w.heap.size w X → Ow X b (.slice NA L.length nc) L) := Lib.hid fun X hX => hN.below hX
  have HMa : Hid (∀ X, Below w.heap.size w X → Calls Tryz.prog 50 #[.pointer (some ⟨t, 0, none⟩), .string nm] X fun e w' => MiQ X e w') := Lib.hid fun X hX => machine_w (hT.below hX hT.lt) ((hA.below hX).more hX.size) hz ho h8 (Nat.le_trans h12 hX.size) (by omega)
  have HLk : Hid (∀ X, Below w.heap.size w X → (Instr.lookup 54 (.map (some sm)) (.string nm) false).run Tryz.prog X = .ok (.pointer (some ⟨s, 0, none⟩)) X) := Lib.hid fun X hX => by
    have h5 := (hM.below hX hM.lt).look Tryz.underlying54 (z := none) (zeroSto X) trivial (x := nm) (show curC.ok nm from by show nm.size ≤ maxLen; unfold maxLen; omega)
    rw [hF] at h5
    exact h5
  have hOt := othersOk (nm := nm) hnd h16 hnB
  have HOp : Hid (∀ X ty p A c, Below w.heap.size w X → Ow X b (.slice A (L.filter fun o => decide (o ≠ nm)).length c) (L.filter fun o => decide (o ≠ nm)) → Calls Tryz.prog 49 #[.string nm, .pointer (some ⟨s, 0, none⟩), .iface ty (.pointer (some ⟨p, 0, none⟩)), .slice A (L.filter fun o => decide (o ≠ nm)).length c] X fun e w' => ∃ q mv bk em A c L', e = .returned (.tuple #[.pointer (some ⟨q, 0, none⟩), .int .i64 0]) ∧ DkAt w' b s q nm mv bk em A c L' ∧ Below X.heap.size X w') := Lib.hid fun X ty p A c hX hO =>
    (open_d hO (Nat.le_trans hb hX.size) (hS.below hX) hbs hn hns hOt).mono fun e w' ⟨q, bk, em, A, c, L', h1, h2, _, h3⟩ => ⟨q, _, bk, em, A, c, L', h1, h2, h3⟩
  have HF : Hid (∀ q mv bk em A c L' X, DkAt X b s q nm mv bk em A c L' → Below w.heap.size w X → OnP w b s nm (.returned (.tuple #[.pointer (some ⟨q, 0, none⟩), .int .i64 0])) X) := Lib.hid fun q mv bk em A c L' X h1 h2 => ⟨q, mv, bk, em, A, c, L', rfl, h1, h2⟩
  have HI0 : Hid (Below w.heap.size w w ∧ ∃ M, M = (L.take 0).filter (fun o => decide (o ≠ nm)) ∧ Ow w w.heap.size (.slice none M.length 0) M) := Lib.hid ⟨Below.refl _ _, [], by simp, Ow.nil _ _⟩
  clear hT hA hz ho h8 h12 hN hM hF hS hbs hn hns hnB hnd hOt
  generalize OnP w b s nm = CP at *
  obtain ⟨_, k5, _⟩ := (HT.out w (Below.refl _ _)).1.cells
  have kl := (HT.out w (Below.refl _ _)).2
  go_enter Tryz.func22, Tryz.ntmps22
  go_wp2_with fail
  clear k5 kl
  go_loopw [14, 8, 6] (fun i _ v wr => ∃ (k : Nat) (A : Option Addr) (c : Nat) (M : List ByteArray), k ≤ L.length ∧ i = .int .i64 (k : Int) ∧ v = .slice A M.length c ∧ M.length ≤ k ∧ Hid (Below w.heap.size w wr ∧ M = (L.take k).filter (fun o => decide (o ≠ nm)) ∧ Ow wr w.heap.size (.slice A M.length c) M)) (fun i _ _ _ => L.length - (RowKit.intOf i).toNat)
  case atStart =>
    refine ⟨0, none, 0, [], Nat.zero_le _, rfl, rfl, Nat.le_refl _, Lib.hid ⟨Below.refl _ _, by simp, Ow.nil _ _⟩⟩
  case round =>
    clear HI0
    obtain ⟨k, A1, c1, M, hk, rfl, rfl, hmk, HI⟩ := hrel
    by_cases hlt : k < L.length
    · have b1 : (k : Int) < (L.length : Int) := by omega
      obtain ⟨o, ho⟩ : ∃ o, L[k]? = some o := ⟨L[k], List.getElem?_eq_getElem hlt⟩
      have heq : L[k] = o := (List.getElem?_eq_some_iff.1 ho).2
      obtain ⟨g, rfl, _, hg, c0⟩ := (HNw.out wr HI.out.1).at_ hlt
      rw [heq] at c0
      have hft := filter_take (nm := nm) ho
      by_cases hs : o = nm
      · have b2 : (o.toList == nm.toList) = true := by rw [ba_beq]; simp [hs]
        have b3 : (o.toList != nm.toList) = false := by rw [bne, b2]; rfl
        have HX : Hid (Below w.heap.size w wr ∧ M = (L.take (k + 1)).filter (fun o => decide (o ≠ nm)) ∧ Ow wr w.heap.size (.slice A1 M.length c1) M) := Lib.hid ⟨HI.out.1, by rw [hft, if_pos hs, List.append_nil]; exact HI.out.2.1, HI.out.2.2⟩
        clear heq ho hs hft HI
        go_wp2_with fail
        go_roundw
        case rel => exact ⟨k + 1, A1, c1, M, by omega, by go_num, rfl, by omega, HX⟩
        case measure => simp [RowKit.intOf] <;> omega
      · have b2 : (o.toList == nm.toList) = false := by rw [ba_beq]; simp [hs]
        have b3 : (o.toList != nm.toList) = true := by rw [bne, b2]; rfl
        have b4 : ¬ o.toList = nm.toList := by simpa using b2
        obtain ⟨A2, c2, w9, hrn, hO9, hB9⟩ := HI.out.2.2.push HI.out.1 HI.out.1.size o (by omega)
        have HX : Hid (Below w.heap.size w w9 ∧ (M ++ [o]) = (L.take (k + 1)).filter (fun o => decide (o ≠ nm)) ∧ Ow w9 w.heap.size (.slice A2 (M ++ [o]).length c2) (M ++ [o])) := Lib.hid ⟨hB9, by rw [hft, if_neg hs, ← HI.out.2.1], hO9⟩
        have hml : (M ++ [o]).length = M.length + 1 := by simp
        clear heq ho hs hft HI hO9 hB9
        go_wp2_with (at_builtin; refine Lib.wpList_append_run _ rfl (.tmp 21) (.tmp 23) 47 47 rfl (.slice A1 M.length c1) (.slice (some ⟨wr.heap.size, 0, none⟩) 1 1) (by rfl) (by rfl) _ _ hrn ?_)
        go_roundw
        case rel => exact ⟨k + 1, A2, c2, M ++ [o], by omega, by go_num, by rw [hml], by rw [hml]; omega, HX⟩
        case measure => simp [RowKit.intOf] <;> omega
    · have b1 : ¬ (k : Int) < (L.length : Int) := by omega
      obtain rfl : k = L.length := by omega
      have HI2 : Hid (Below w.heap.size w wr ∧ M = L.filter (fun o => decide (o ≠ nm)) ∧ Ow wr w.heap.size (.slice A1 M.length c1) M) := Lib.hid (by
        have h := HI.out
        rw [List.take_length] at h
        exact h)
      clear HI hk hmk
      obtain ⟨V6, hV6⟩ : ∃ V6, V6 = Value.slice A1 M.length c1 := ⟨_, rfl⟩
      have HV6 := Lib.hid hV6
      rw [← hV6]
      clear hV6
      go_upto_region 8 with fail
      refine wp_region_facts (Le := fun w w' => Below w.heap.size w w') (C := fun X => Below wr.heap.size wr X) (R := toR b s t sm nm V6) 15 15 [] (by kernel_rfl) (by kernel_rfl) (by kernel_rfl) rfl (Below.refl _ _).drew (fun W W' h1 h2 => h2.trans (h1.mono h2.size)) (fun i v w w' hb h => toR_kept i v w w' hb h) (steps_take ?_) ?_
      · simp only [List.take_succ_cons, List.take_zero, StepsFrom]
        refine ⟨fact_step ?_, fact_step ?_, fact_step ?_, fact_step ?_, fact_step ?_, fact_step ?_, fact_step ?_, fact_step ?_, fact_step ?_, fact_step ?_, fact_step ?_, fact_step ?_, fact_step ?_, fact_step ?_, fact_step ?_, trivial⟩
        all_goals (intro a2 W hs hc hd9 K9 hK)
        all_goals have t0 : a2.tmps[0]? = some (.pointer (some ⟨t, 0, none⟩)) := (hs.rest 0 (of_decide_eq_true (by kernel_rfl))).trans rfl
        all_goals have t1 : a2.tmps[1]? = some (.string nm) := (hs.rest 1 (of_decide_eq_true (by kernel_rfl))).trans rfl
        all_goals have t6 : a2.tmps[6]? = some V6 := (hs.rest 6 (of_decide_eq_true (by kernel_rfl))).trans rfl
        all_goals clear hs
        -- 0
        · go_simp
          exact hK _ _ (Below.refl _ _) rfl
        -- 1
        · go_simp
          exact hK _ _ (Below.refl _ _) rfl
        -- 2
        · obtain ⟨v1, s1, r1⟩ := hd9 { on := 1, ground := .data } (by simp) (by rfl) _ (by rfl)
          replace s1 := s1 _ rfl
          obtain rfl := r1
          obtain ⟨_, k5, k6, _⟩ := (HT.out W (HI2.out.1.trans (hc.mono HI2.out.1.size))).1.cells
          have kl := (HT.out W (HI2.out.1.trans (hc.mono HI2.out.1.size))).2
          go_simp
          exact hK _ _ (Below.refl _ _) rfl
        -- 3
        · obtain ⟨v2, s2, r2⟩ := hd9 { on := 2, ground := .data } (by simp) (by rfl) _ (by rfl)
          replace s2 := s2 _ rfl
          obtain rfl := r2
          go_simp
          exact hK _ _ (Below.refl _ _) rfl
        -- 4
        · obtain ⟨v3, s3, r3⟩ := hd9 { on := 3, ground := .data } (by simp) (by rfl) _ (by rfl)
          replace s3 := s3 _ rfl
          obtain rfl := r3
          obtain ⟨_, k5, k6, _⟩ := (HT.out W (HI2.out.1.trans (hc.mono HI2.out.1.size))).1.cells
          have kl := (HT.out W (HI2.out.1.trans (hc.mono HI2.out.1.size))).2
          go_simp
          exact hK _ _ (Below.refl _ _) rfl
        -- 5
        · go_simp
          exact hK _ _ (Below.refl _ _) rfl
        -- 6
        · obtain ⟨v4, s4, r4⟩ := hd9 { on := 4, ground := .data } (by simp) (by rfl) _ (by rfl)
          replace s4 := s4 _ rfl
          obtain rfl := r4
          obtain ⟨v5, s5, r5⟩ := hd9 { on := 5, ground := .data } (by simp) (by rfl) _ (by rfl)
          replace s5 := s5 _ rfl
          obtain rfl := r5
          have hlk := HLk.out W (HI2.out.1.trans (hc.mono HI2.out.1.size))
          go_simp
          exact hK _ _ (Below.refl _ _) rfl
        -- 7
        · go_simp
          exact hK _ _ (Below.refl _ _) rfl
        -- 8
        · go_simp
          exact hK _ _ (Below.refl _ _) rfl
        -- 9
        · obtain ⟨v7, s7, r7⟩ := hd9 { on := 7, ground := .data } (by simp) (by rfl) _ (by rfl)
          replace s7 := s7 _ rfl
          obtain rfl := r7
          obtain ⟨v8, s8, r8⟩ := hd9 { on := 8, ground := .data } (by simp) (by rfl) _ (by rfl)
          replace s8 := s8 _ rfl
          obtain rfl := r8
          have HC := Lib.hid (HMa.out W (HI2.out.1.trans (hc.mono HI2.out.1.size)))
          go_simp
          refine HC.out.mono ?_
          rintro e w5 ⟨ty, p, rfl, hb5⟩
          exact hK _ _ hb5 ⟨ty, p, rfl⟩
        -- 10
        · go_simp
          exact hK _ _ (Below.refl _ _) rfl
        -- 11
        · obtain ⟨v0, s0, r0⟩ := hd9 { on := 0, ground := .data } (by simp) (by rfl) _ (by rfl)
          replace s0 := s0 _ rfl
          obtain rfl := r0
          obtain ⟨v6, s6, r6⟩ := hd9 { on := 6, ground := .data } (by simp) (by rfl) _ (by rfl)
          replace s6 := s6 _ rfl
          obtain rfl := r6
          obtain ⟨v9, s9, r9⟩ := hd9 { on := 9, ground := .data } (by simp) (by rfl) _ (by rfl)
          replace s9 := s9 _ rfl
          obtain ⟨ty, p, rfl⟩ := r9
          obtain ⟨v10, s10, r10⟩ := hd9 { on := 10, ground := .data } (by simp) (by rfl) _ (by rfl)
          replace s10 := s10 _ rfl
          obtain rfl := r10
          have HC := Lib.hid (HOp.out W ty p A1 c1 (HI2.out.1.trans (hc.mono HI2.out.1.size)) (by
            have h := (HI2.out.2.2.below hc).weaken hb
            rw [HI2.out.2.1] at h
            exact h))
          rw [← HI2.out.2.1, ← HV6.out] at HC
          go_simp
          refine HC.out.mono ?_
          rintro e w5 ⟨q, mv, bk, em, A2, c2, L2, rfl, hD, hb5⟩
          exact hK _ _ hb5 ⟨q, mv, bk, em, A2, c2, L2, rfl, hD⟩
        -- 12
        · obtain ⟨v11, s11, r11⟩ := hd9 { on := 11, ground := .data } (by simp) (by rfl) _ (by rfl)
          replace s11 := s11 _ rfl
          obtain ⟨q, mv, bk, em, A2, c2, L2, rfl, hD⟩ := r11
          go_simp
          exact hK _ _ (Below.refl _ _) ⟨q, mv, bk, em, A2, c2, L2, rfl, hD⟩
        -- 13
        · obtain ⟨v11, s11, r11⟩ := hd9 { on := 11, ground := .data } (by simp) (by rfl) _ (by rfl)
          replace s11 := s11 _ rfl
          obtain ⟨q, mv, bk, em, A2, c2, L2, rfl, hD⟩ := r11
          go_simp
          exact hK _ _ (Below.refl _ _) rfl
        -- 14
        · obtain ⟨v12, s12, r12⟩ := hd9 { on := 12, ground := .data } (by simp) (by rfl) _ (by rfl)
          replace s12 := s12 _ rfl
          obtain ⟨q, mv, bk, em, A2, c2, L2, rfl, hD⟩ := r12
          go_simp
          exact hK _ _ (Below.refl _ _) ⟨q, mv, bk, em, A2, c2, L2, rfl, hD⟩
      · intro a2 W hs hc hf
        obtain ⟨v13, s13, rfl⟩ := hf 13 _ rfl (by omega)
        obtain ⟨v14, s14, q, mv, bk, em, A2, c2, L2, rfl, hD⟩ := hf 14 _ rfl (by omega)
        replace s13 := s13 _ rfl
        replace s14 := s14 _ rfl
        have HX := Lib.hid (HF.out q mv bk em A2 c2 L2 W hD (HI2.out.1.trans (hc.mono HI2.out.1.size)))
        have hp := hs.puts [26, 27, 28, 29, 30, 31, 32, 33, 34, 35, 36, 37, 38, 39, 4, 5] (by kernel_rfl)
        simp only [List.foldl_cons, List.foldl_nil] at hp
        have g39 : a2.tmps.getD 39 undef = .int .i64 0 := by simp [s13]
        have g4 : a2.tmps.getD 4 undef = .pointer (some ⟨q, 0, none⟩) := by simp [s14]
        rw [g39, g4] at hp
        generalize a2.tmps.getD 26 undef = f26 at hp
        generalize a2.tmps.getD 27 undef = f27 at hp
        generalize a2.tmps.getD 28 undef = f28 at hp
        generalize a2.tmps.getD 29 undef = f29 at hp
        generalize a2.tmps.getD 30 undef = f30 at hp
        generalize a2.tmps.getD 31 undef = f31 at hp
        generalize a2.tmps.getD 32 undef = f32 at hp
        generalize a2.tmps.getD 33 undef = f33 at hp
        generalize a2.tmps.getD 34 undef = f34 at hp
        generalize a2.tmps.getD 35 undef = f35 at hp
        generalize a2.tmps.getD 36 undef = f36 at hp
        generalize a2.tmps.getD 37 undef = f37 at hp
        generalize a2.tmps.getD 38 undef = f38 at hp
        generalize a2.tmps.getD 5 undef = f5 at hp
        clear g39 g4 s13 s14 hs hf HT HNw HMa HLk HOp hD hc
        rw [hp]
        clear hp
        refine wpOps_more (by rfl) rfl ?_
        go_simp
        refine wpOps_done ?_
        go_wp2_with fail
        first
          | exact HX.out
          | (go_ret; exact HX.out)
          | (go_ret2; exact HX.out)
end Go.Proofs.YtchkdidpnjakeaaGreatDoor
namespace Go.Proofs.YtchkdidpnjakeaaGreatDoor
open Go.RowKit Go.Maps Go.Lib
set_option linter.unusedVariables false
set_option maxRecDepth 100000

theorem nmOk.size {s : ByteArray} (h : nmOk s) : s.size ≤ 16 := by
  unfold nmOk nameB at h
  simp only [Bool.and_eq_true, decide_eq_true_eq] at h
  have := h.1.2
  simpa using this
theorem parF_of {l : List Py} {s : ByteArray} {y : Py} (h : parF l s = some y) : y ∈ l ∧ y.nm = s := by
  unfold parF at h
  have h2 := List.find?_some h
  exact ⟨List.mem_of_find?_eq_some h, by simpa using h2⟩
theorem PartiesOk.nm {l : List Py} (h : PartiesOk l) {y : Py} (hy : y ∈ l) : nmOk y.nm := by
  obtain ⟨i, hi⟩ := List.mem_iff_getElem?.1 hy
  exact (h.one i y hi).1
theorem PartiesOk.who {l : List Py} (h : PartiesOk l) {s : ByteArray} {k : Int} (hk : IsK l s k) : s.size ≤ 16 := by
  obtain ⟨y, hy, _⟩ := hk
  obtain ⟨h1, h2⟩ := parF_of hy
  rw [← h2]
  exact (h.nm h1).size
theorem PartiesOk.names {l : List Py} (h : PartiesOk l) : (l.map (·.nm)).Nodup ∧ ∀ o ∈ l.map (·.nm), nameB o.data.toList = true ∧ o.size ≤ 1000 := by
  constructor
  · rw [List.nodup_iff_pairwise_ne, List.pairwise_iff_getElem]
    intro i j hi hj hij e
    simp only [List.length_map] at hi hj
    rw [List.getElem_map, List.getElem_map] at e
    exact (h.one j _ (List.getElem?_eq_getElem hj)).2.2.2 i _ hij (List.getElem?_eq_getElem hi) e
  · intro o ho
    obtain ⟨y, hy, rfl⟩ := List.mem_map.1 ho
    have := (h.nm hy).size
    exact ⟨h.nm hy, by omega⟩
theorem joinT_size_le (L : List ByteArray) (m : Nat) (h : ∀ s ∈ L, s.size ≤ m) : (joinT L).size ≤ L.length * (m + 1) := by
  have tail : ∀ r : List ByteArray, (∀ s ∈ r, s.size ≤ m) → (Lib.joinTail [44] (r.map (·.data.toList))).length ≤ r.length * (m + 1) := by
    intro r
    induction r with
    | nil => intro _; simp [Lib.joinTail]
    | cons x r ih =>
      intro h
      have h1 := ih fun s hs => h s (List.mem_cons_of_mem _ hs)
      have h2 : x.data.toList.length ≤ m := h x List.mem_cons_self
      unfold Lib.joinTail at *
      rw [List.map_cons, List.map_cons, List.flatten_cons, List.length_append, List.length_append]
      have e : (x :: r).length * (m + 1) = r.length * (m + 1) + (m + 1) := by rw [List.length_cons, Nat.succ_mul]
      rw [e]
      simp only [List.length_cons, List.length_nil]
      omega
  cases L with
  | nil => exact Nat.zero_le _
  | cons x r =>
    have h1 := tail r fun s hs => h s (List.mem_cons_of_mem _ hs)
    have h2 : x.data.toList.length ≤ m := h x List.mem_cons_self
    have e : (joinT (x :: r)).size = (Lib.join ((x :: r).map (·.data.toList)) [44]).length := by simp [joinT, ByteArray.size]
    rw [e, List.map_cons, Lib.join_cons, List.length_append, List.length_cons, Nat.succ_mul]
    omega
theorem lotsOf_le {L : List Bx} (h : ∀ b ∈ L, BoxOk b) : (lotsOf L).length ≤ L.length * 2 := by
  induction L with
  | nil => simp [lotsOf]
  | cons b L ih =>
    have h1 := (h b List.mem_cons_self).few.2
    have h2 := ih fun x hx => h x (List.mem_cons_of_mem _ hx)
    unfold lotsOf at *
    rw [List.flatMap_cons, List.length_append, List.length_cons]
    omega
theorem fund_le {c : ByteArray} {l : List Led.Ent} {i : Nat} {f : Led.Ent} (hn : ∀ e ∈ l, 0 ≤ e.n) (hf : l[i]? = some f) : f.n ≤ curSum f.cur (l.take (i + 1)) := by
  rw [take_snoc' hf, curSum_app]
  have := curSum_nn (c := f.cur) (l := l.take i) fun e he => hn e (List.mem_of_mem_take he)
  simp [curSum]
  omega
theorem MayP.ok {u : Su} (h : MayP u) (hf : FewU u) : SuOk u := by
  have hP := h.par
  have hwho := fun {s k} => @PartiesOk.who u.par hP s k
  have hw0 : ∀ {s : ByteArray} {k : Int}, s.size = 0 ∨ IsK u.par s k → s.size ≤ 16 := fun {s k} hs => by
    rcases hs with h0 | h0
    · omega
    · exact hwho h0
  refine ⟨hf.par, hf.dl, hf.fd, hf.rest, by have := hf.hol; omega, fun y hy => ?_, fun d hd => ?_, fun e he => ?_⟩
  · obtain ⟨i, hi⟩ := List.mem_iff_getElem?.1 hy
    obtain ⟨h1, h2, h3, _⟩ := hP.one i y hi
    have hb : y.bk.size ≤ 16 := by
      have := hP.bank y hy
      unfold BkOk at this
      split at this
      · omega
      · obtain ⟨z, hz, _⟩ := this
        obtain ⟨q1, q2⟩ := parF_of hz
        rw [← q2]
        exact (hP.nm q1).size
    have := h1.size
    exact ⟨by omega, by omega, by omega, by omega⟩
  · have hD := h.dl.one d hd
    have hB := h.dl.box d hd
    have h8 := (h.dl.size d hd).2
    have n1 := hD.num.2
    have n2 := hwho hD.who.2.1
    have n3 := hwho hD.who.2.2
    have n4 := hwho hD.car
    have n5 := hwho hD.iss.1
    have n6 := hw0 hD.hou
    have n7 := hw0 hD.ins
    have n8 := hD.at_.1.size
    have n9 := hD.at_.2.size
    have n10 := hD.price.1.size
    obtain ⟨_, a1, a2⟩ := hD.price
    obtain ⟨t1, t2⟩ := hD.trm
    obtain ⟨e1, e2, e3⟩ := hD.days
    obtain ⟨r1, r2, r3, r4⟩ := hD.rest
    have hm : ∀ b ∈ d.box, b.m.size ≤ 1048576 := fun b hb => by have := (hB b hb).mark.size; omega
    refine ⟨?_, ?_, ⟨by omega, ⟨?_, fun x hx => ?_⟩, hm⟩, h8, hm, ?_, ⟨by omega, by omega⟩, ⟨by omega, by omega⟩⟩
    · intro s hs
      simp only [List.mem_cons, List.not_mem_nil, or_false] at hs
      rcases hs with rfl | rfl | rfl | rfl | rfl | rfl | rfl | rfl | rfl | rfl <;> omega
    · intro n hn
      simp only [List.mem_cons, List.not_mem_nil, or_false] at hn
      rcases hn with rfl | rfl | rfl | rfl | rfl | rfl <;> omega
    · have := lotsOf_le hB
      omega
    · obtain ⟨b, hb, hxb⟩ := List.mem_flatMap.1 hx
      obtain ⟨g1, g2, g3⟩ := (hB b hb).lots x hxb
      have := g1.size
      exact ⟨by omega, by omega, by omega⟩
    · have := joinT_size_le (d.box.map (·.m)) 12 (fun s hs => by
        obtain ⟨b, hb, rfl⟩ := List.mem_map.1 hs
        have := (hB b hb).mark.size
        omega)
      unfold marksT
      simp only [List.length_map] at this
      omega
  · obtain ⟨k1, k2, k3⟩ := h.fd.one e he
    obtain ⟨i, hi⟩ := List.mem_iff_getElem?.1 he
    have hs := h.fd.sum i e hi
    have hle := fund_le (c := e.cur) (fun x hx => (h.fd.one x hx).2.2) hi
    have hacc : e.acc.size ≤ 16 := by
      unfold bankF at k1
      cases hp : parF u.par e.acc with
      | none => rw [hp] at k1; exact absurd rfl k1
      | some y =>
        obtain ⟨q1, q2⟩ := parF_of hp
        rw [← q2]
        exact (hP.nm q1).size
    have := k2.size
    exact ⟨by omega, by omega, by omega, by omega⟩
end Go.Proofs.YtchkdidpnjakeaaGreatDoor
namespace Go.Proofs.YtchkdidpnjakeaaGreatDoor
open Go.RowKit Go.Maps Go.Lib Led
set_option linter.unusedVariables false
set_option maxRecDepth 100000

structure TnI (w3 X : World) (u : Su) (a : Sa) (M : List ByteArray) (A : Option Addr) (c n1 n2 : Nat) (F G : ByteArray → Option (Option Nat)) : Prop where
  bw : Below w3.heap.size w3 X
  tw : TwB X (w3.heap.size + 2) u a (.slice A M.length c) (.map (some w3.heap.size)) (.map (some (w3.heap.size + 1)))
  row : Ow X (w3.heap.size + 3) (.slice A M.length c) M
  st : Mp curC ptE X w3.heap.size n1 F
  dk : Mp curC ptE X (w3.heap.size + 1) n2 G
section
variable {w3 X Y : World} {u : Su} {a : Sa} {M : List ByteArray} {A : Option Addr} {c n1 n2 : Nat} {F G : ByteArray → Option (Option Nat)}
theorem TnI.lt (h : TnI w3 X u a M A c n1 n2 F G) : w3.heap.size + 2 < X.heap.size := h.tw.lt
theorem TnI.made (W : World) (u : Su) (a : Sa) : TnI W (((W.alloc (.map #[] 0)).alloc (.map #[] 0)).alloc (.cells #[.slice a.PA u.par.length a.pc, .slice a.DA u.dl.length a.dc, .slice a.FA u.fd.length a.fc, .slice a.RA u.rest.length a.rc, .slice a.HA u.hol.length a.hc, .slice none 0 0, .map (some W.heap.size), .map (some (W.heap.size + 1)), .int .i64 0, .slice none 0 0, .slice none 0 0] 58)) u a [] none 0 0 0 (fun _ => none) (fun _ => none) := by
  have hsm : (W.alloc (.map #[] 0)).heap.size = W.heap.size + 1 := by simp
  have hsm2 : ((W.alloc (.map #[] 0)).alloc (.map #[] 0)).heap.size = W.heap.size + 2 := by simp
  have hbm : Below W.heap.size W (W.alloc (.map #[] 0)) := (Below.refl _ _).alloc (Nat.le_refl _) _
  have hbn : Below W.heap.size W ((W.alloc (.map #[] 0)).alloc (.map #[] 0)) := hbm.alloc (by omega) _
  have h1 := (Mp.made (C := curC) (E := ptE) W).alloc (.map #[] 0)
  have h2 := Mp.made (C := curC) (E := ptE) (W.alloc (.map #[] 0))
  rw [hsm] at h2
  refine ⟨hbn.alloc (by omega) _, ?_, Ow.nil _ _, h1.alloc _, h2.alloc _⟩
  unfold TwB
  rw [← hsm2]
  exact heap_alloc_new _ _
theorem TnI.below (h : TnI w3 X u a M A c n1 n2 F G) (hb : Below X.heap.size X Y) : TnI w3 Y u a M A c n1 n2 F G :=
  ⟨h.bw.trans (hb.mono h.bw.size), h.tw.below hb h.tw.lt, h.row.below hb, h.st.below hb h.st.lt, h.dk.below hb h.dk.lt⟩
theorem TnI.cells (h : TnI w3 X u a M A c n1 n2 F G) : X.cell? ⟨w3.heap.size + 2, 0, none⟩ = some (.slice a.PA u.par.length a.pc) ∧ X.cell? ⟨w3.heap.size + 2, 5, none⟩ = some (.slice A M.length c) ∧ X.frozen? ⟨w3.heap.size + 2, 5, none⟩ = false ∧ X.cell? ⟨w3.heap.size + 2, 6, none⟩ = some (.map (some w3.heap.size)) ∧ X.cell? ⟨w3.heap.size + 2, 7, none⟩ = some (.map (some (w3.heap.size + 1))) ∧ w3.heap.size + 2 < X.heap.size := by
  obtain ⟨h0, h5, h6, h7, _⟩ := h.tw.cells
  refine ⟨h0, h5, ?_, h6, h7, h.lt⟩
  have := h.tw
  unfold TwB at this
  simp [World.frozen?, this]
theorem Ow.own {b : Nat} {v : Value} {L : List ByteArray} (h : Ow X b v L) {k : Nat} (hk : some k = v.ownBlock) : b ≤ k := (h.lt hk.symm).1
theorem TnI.step (h : TnI w3 X u a M A c n1 n2 F G) (hm : M.length ≤ 1000) (x : ByteArray) :
    ∃ A2 c2 w9, (Builtin.append_ #[47, 47] 47 #[.slice A M.length c, .slice (some ⟨X.heap.size, 0, none⟩) 1 1]).run Tryz.prog (X.alloc (.cells #[.string x] 9)) = .ok (.slice A2 (M.length + 1) c2) w9 ∧ w9.cell? ⟨w3.heap.size + 2, 5, none⟩ = some (.slice A M.length c) ∧ w9.frozen? ⟨w3.heap.size + 2, 5, none⟩ = false ∧ w3.heap.size + 2 < w9.heap.size ∧ TnI w3 (w9.setCell ⟨w3.heap.size + 2, 5, none⟩ (.slice A2 (M ++ [x]).length c2)) u a (M ++ [x]) A2 c2 n1 n2 F G := by
  have hl := h.lt
  obtain ⟨A', c', w', h1, h2, h3⟩ := h.row.more x (by omega) (by omega)
  have hold : ∀ k, k < w3.heap.size + 3 → w'.heap[k]? = X.heap[k]? := fun k hk => by
    rw [h3.block k (by simp; omega) (fun e => by have := h.row.own e; omega)]
    exact Below.heap_alloc _ _ _ (by omega)
  have hll : (M ++ [x]).length = M.length + 1 := by simp
  have htw := (hold (w3.heap.size + 2) (by omega)).trans h.tw
  have hba : Below w3.heap.size w3 (X.alloc (.cells #[.string x] 9)) := h.bw.alloc h.bw.size _
  have hb9 : Below w3.heap.size w3 w' := hba.grown h3 hba.size fun j hj => by have := h.row.own hj.symm; omega
  have hset : ∀ k, k ≠ w3.heap.size + 2 → (w'.setCell ⟨w3.heap.size + 2, 5, none⟩ (.slice A' (M ++ [x]).length c')).heap[k]? = w'.heap[k]? := fun k hk => heap_setCell_other _ _ _ _ hk
  refine ⟨A', c', w', h1, by simp [World.cell?, htw], by simp [World.frozen?, htw], (Array.getElem?_eq_some_iff.1 htw).1, hb9.setCell (show w3.heap.size ≤ w3.heap.size + 2 by omega) _, ?_, ?_, h.st.of_block ?_, h.dk.of_block ?_⟩
  · exact heap_setCell_same w' _ 5 _ _ _ htw
  · rw [hll]
    refine h2.keep fun k hk => heap_setCell_other _ _ _ _ ?_
    have := (h2.lt hk).1
    show k ≠ w3.heap.size + 2
    omega
  · rw [hset _ (by omega)]; exact hold _ (by omega)
  · rw [hset _ (by omega)]; exact hold _ (by omega)
theorem TnI.sorted {M' : List ByteArray} (h : TnI w3 X u a M A c n1 n2 F G) (hp : M'.Perm M) (hO : Ow Y (w3.heap.size + 3) (.slice A M'.length c) M') (hg : X.grownBy Y (Value.slice A M.length c).ownBlock) : TnI w3 Y u a M' A c n1 n2 F G := by
  have hl := h.lt
  have hold : ∀ k, k < w3.heap.size + 3 → Y.heap[k]? = X.heap[k]? := fun k hk => hg.block k (by omega) (fun e => by have := h.row.own e; omega)
  refine ⟨h.bw.grown hg h.bw.size fun j hj => by have := h.row.own hj.symm; omega, ?_, hO, h.st.of_block (hold _ (by omega)), h.dk.of_block (hold _ (by omega))⟩
  rw [hp.length_eq]
  exact (hold _ (by omega)).trans h.tw
theorem TnI.putS (h : TnI w3 X u a M A c n1 n2 F G) (hn : n1 ≤ 1000) {x : ByteArray} (hx : x.size ≤ maxLen) (s : Nat) : ∃ w', (Instr.mapUpdate 54 (.map (some w3.heap.size)) (.string x) (.pointer (some ⟨s, 0, none⟩))).run Tryz.prog X = .ok () w' ∧ TnI w3 w' u a M A c (n1 + 1) n2 (putG F x (some s)) G ∧ Kf (w3.heap.size + 3) X w' := by
  obtain ⟨w', e1, e2, e3⟩ := h.st.store Tryz.underlying54 (by unfold maxLen; omega) (x := x) (show curC.ok x from hx) (v := some s) trivial
  have hsame : ∀ k, k ≠ w3.heap.size → k < X.heap.size → w'.heap[k]? = X.heap[k]? := fun k hk hks => e3.grown.block k hks (fun e => by injection e with e; omega)
  have hl := h.lt
  exact ⟨w', e1, ⟨turned_below h.bw e3 (Nat.le_refl _) h.bw.size, (hsame _ (by omega) (by omega)).trans h.tw, h.row.keep fun k hk => hsame k (by have := (h.row.lt hk).1; omega) (h.row.lt hk).2, e2, h.dk.of_block (hsame _ (by omega) (by omega))⟩, e3.grown.size, fun k h1 h2 => hsame k (by omega) h2⟩
theorem TnI.putD (h : TnI w3 X u a M A c n1 n2 F G) (hn : n2 ≤ 1000) {x : ByteArray} (hx : x.size ≤ maxLen) (q : Nat) : ∃ w', (Instr.mapUpdate 55 (.map (some (w3.heap.size + 1))) (.string x) (.pointer (some ⟨q, 0, none⟩))).run Tryz.prog X = .ok () w' ∧ TnI w3 w' u a M A c n1 (n2 + 1) F (putG G x (some q)) ∧ Kf (w3.heap.size + 3) X w' := by
  obtain ⟨w', e1, e2, e3⟩ := h.dk.store Tryz.underlying55 (by unfold maxLen; omega) (x := x) (show curC.ok x from hx) (v := some q) trivial
  have hsame : ∀ k, k ≠ w3.heap.size + 1 → k < X.heap.size → w'.heap[k]? = X.heap[k]? := fun k hk hks => e3.grown.block k hks (fun e => by injection e with e; omega)
  have hl := h.lt
  exact ⟨w', e1, ⟨turned_below h.bw e3 (by omega) h.bw.size, (hsame _ (by omega) (by omega)).trans h.tw, h.row.keep fun k hk => hsame k (by have := (h.row.lt hk).1; omega) (h.row.lt hk).2, h.st.of_block (hsame _ (by omega) (by omega)), e2⟩, e3.grown.size, fun k h1 h2 => hsame k (by omega) h2⟩
end
/-- desks of these names stand -/
def DksAt (X : World) (b : Nat) (G : ByteArray → Option (Option Nat)) (M : List ByteArray) : Prop := ∀ x ∈ M, x.size ≤ maxLen ∧ ∃ s q mv bk em A c L', G x = some (some q) ∧ DkAt X b s q x mv bk em A c L'
theorem DksAt.kf {X Y : World} {b : Nat} {G : ByteArray → Option (Option Nat)} {M : List ByteArray} (h : DksAt X b G M) (hk : Kf b X Y) : DksAt Y b G M := fun x hx => by
  obtain ⟨h0, s, q, mv, bk, em, A, c, L', h1, h2⟩ := h x hx
  exact ⟨h0, s, q, mv, bk, em, A, c, L', h1, h2.kf hk⟩
theorem DksAt.put {X : World} {b s q bk em c : Nat} {mv : Value} {A : Option Addr} {L' : List ByteArray} {G : ByteArray → Option (Option Nat)} {M : List ByteArray} {x : ByteArray} (h : DksAt X b G M) (hs : x.size ≤ maxLen) (hD : DkAt X b s q x mv bk em A c L') : DksAt X b (putG G x (some q)) (M ++ [x]) := fun y hy => by
  by_cases e : y = x
  · subst e
    exact ⟨hs, s, q, mv, bk, em, A, c, L', putG_same _ _ _, hD⟩
  · rcases List.mem_append.1 hy with hy | hy
    · obtain ⟨h0, s, q, mv, bk, em, A, c, L', h1, h2⟩ := h y hy
      exact ⟨h0, s, q, mv, bk, em, A, c, L', (putG_other _ _ e).trans h1, h2⟩
    · exact absurd (by simpa using hy) e
/-- a town that stands, nothing done -/
def TwI (X : World) (t : Nat) (u : Su) : Prop := ∃ w3 a M A c n1 n2 F G, TnI w3 X u a M A c n1 n2 F G ∧ t = w3.heap.size + 2 ∧ M.Perm (u.par.map (·.nm)) ∧ DksAt X (w3.heap.size + 3) G M
def TnQ (u : Su) (w : World) (e : Ending) (w' : World) : Prop := Below w.heap.size w w' ∧ ((¬ MayP u ∧ e = .returned (.tuple #[.pointer none, .int .i64 1])) ∨ (MayP u ∧ ∃ t, e = .returned (.tuple #[.pointer (some ⟨t, 0, none⟩), .int .i64 0]) ∧ TwI w' t u))
end Go.Proofs.YtchkdidpnjakeaaGreatDoor
