/- Notary.Merge with another notary: the walk. -/
import Derived.Test.YtlbenmndmoeioaaMerge
namespace Go.Proofs.Ytlbenmndmoeioaa
open Go.RowKit Go.Maps
set_option linter.unusedVariables false

theorem rg_drewN {w : World} {P : Program} {k : TypeId} {R : Value → Option (DataW Unit × List MemPlace)} {b r n : Nat} {D : DataW Unit} {left : Lit → Bool} {cnt : Nat} (h : w.ranges P k R b r n D left cnt) (m : Nat) : (w.drewN m).ranges P k R b r n D left cnt := h
theorem row_drewN {w : World} {base : Nat} {e : TypeId} {size n : Nat} {v : Value} {xs : List Value} (h : w.ownsRow base e size v n xs) (m : Nat) : (w.drewN m).ownsRow base e size v n xs := h
theorem own_ne {w : World} {base : Nat} {e : TypeId} {size n : Nat} {v : Value} {xs : List Value} (h : w.ownsRow base e size v n xs) (k : Nat) (hk : k < base) : v.ownBlock ≠ some k := fun he => by
  have := (h.lt k he).1
  omega

theorem fresh_step {L F : List Nt} (hF : F.Nodup) (hd : ∀ x ∈ F, x ∉ L) {j : Nat} (hj : j < F.length) : hasN (L ++ F.take j) F[j] = false := by
  rw [hasN_false, List.mem_append]
  rintro (h | h)
  · exact hd _ (List.getElem_mem hj) h
  · obtain ⟨i, hi, he⟩ := List.getElem_of_mem h
    have hil : i < j := by simp at hi; omega
    rw [List.getElem_take] at he
    exact List.pairwise_iff_getElem.1 hF i j (by omega) hj hil he

set_option maxHeartbeats 4000000 in
set_option maxRecDepth 100000 in
theorem merge_other (w : World) (p b q d : Nat) (L M : List Nt) (hN : Ny w p b L) (hO : Ny w q d M) (hpq : p ≠ q) (hbd : b ≠ d) (hl : L.length + M.length ≤ 4096) :
    Calls Try.prog 21 #[.pointer (some ⟨p, 0, none⟩), .pointer (some ⟨q, 0, none⟩)] w fun e w' => ∃ L', e = .returned (.bool true) ∧ Ny w' p b L' ∧ L'.Perm (L ++ freshOf L M) ∧ w.grownBy w' (some b) := by
  obtain ⟨i0, hi0, hz0, hz1, hz2⟩ := info_parts infoNote2
  have hq := fun W (hp : W.heap[p]? = some (.cells #[.map (some b)] 53 (0, 0))) (ho : W.heap[q]? = some (.cells #[.map (some d)] 53 (0, 0))) => eql_notary W p q b d hpq hp ho
  have heq := hq w hN.cell hO.cell
  clear hq
  have co := hO.cell0
  have cp := hN.cell0
  have hpl := hN.plt
  have hql := hO.plt
  have hown := hO.own
  go_enter Try.func21, Try.ntmps21
  go_wp2_with (first
    | (at_range; refine wpList_range_own _ rfl _ 51 rfl 55 4 lawNote Try.underlying51 _ d M.length _ rfl hown ?_; intro w0 hrg0 hg0 hs0)
    | go_in)
  go_frame
  clear hown heq
  go_loopw [5] (fun v wr => ∃ (left : Lit → Bool) (cnt : Nat) (F : List Nt), wr.ranges Try.prog 55 (plainElem (H := Unit) Try.prog 4) d w.heap.size M.length (setD M) left cnt ∧ (∀ k, left k = true → Maps.has (setD M) k = true) ∧ wr.ownsRow (w.heap.size + 1) 55 2 v F.length (cellsN F) ∧ Hid (Col L M F left) ∧ F.length ≤ M.length ∧ Below w.heap.size w wr ∧ w.heap.size + 1 ≤ wr.heap.size)
    (fun _ wr => wr.rangeLeft d w.heap.size)
  case atStart => exact ⟨_, _, [], hrg0, fun _ h => h, World.ownsRow_nil _ _ _ _, Lib.hid (Col.start L M hO.smalls), by simp, (Below.refl _ _).grown hg0 (Nat.le_refl _) (by simp), by omega⟩
  case round =>
    obtain ⟨left, cnt, F, hrg, hsub, hrow, HC, hFl, hbw, hsz⟩ := hrel
    obtain ⟨A, cap, rfl, hRF, hAF⟩ := Rn.of_row hrow
    clear hrg0 hg0 hs0
    have hNr := hN.below hbw hN.plt hN.blt
    go_wp2_with (first
      | (at_next; refine wpList_next_notes _ rfl _ rfl d w.heap.size M.length M hO.smalls _ _ rfl hsub hrg ?_ ?_)
      | go_in)
    · intro _ hl0
      have HF := Lib.hid (HC.out.done hl0)
      have HFn := Lib.hid HC.out.nd
      have HFs := Lib.hid (fun x hx => hO.small x (((HC.out.mem x).1 hx).1.1))
      clear hl0 HC
      have hln : (Builtin.len_ #[51] 3 #[.map (some b)]).run Try.prog wr = .ok (.int .i64 (L.length : Nat)) wr := by
        have := hNr.own.len Try.underlying51 3
        rw [size_setD L hNr.smalls hNr.nodup] at this
        exact this
      have hnl := fun W => run_eql_map_nil (P := Try.prog) W 51 55 4 (some b) Try.underlying51
      have cr := hNr.cell0
      have hFL : L.length + F.length ≤ 4096 := by omega
      clear hrg hsub hrow co cp
      go_wp2_with fail
      obtain ⟨wo, rfl⟩ : ∃ wo : World, wo = wr := ⟨_, rfl⟩
      go_loopw [54] (fun i w2 => ∃ j : Nat, j ≤ F.length ∧ i = .int .i64 j ∧ Ny w2 p b (L ++ F.take j) ∧ Rn w2 wo.heap.size A F ∧ Hid (wo.grownBy w2 (some b))) (fun i _ => F.length - (intOf i).toNat)
      case atStart => exact ⟨0, Nat.zero_le _, rfl, by simpa using hNr, hRF, Lib.hid (World.grownBy.refl _ _)⟩
      case round =>
        obtain ⟨j, hj, rfl, hN2, hR2, Hg2⟩ := hrel
        by_cases hlt : j < F.length
        · obtain ⟨g, off, hA, hgz, e0, e1⟩ := hR2.at_ hlt
          subst hA
          have hmem : F[j] ∈ F := List.getElem_mem hlt
          have hxs := HFs.out _ hmem
          have Hfr := Lib.hid (fresh_step (L := L) HFn.out (fun x hx => ((HF.out x).1 hx).2) hlt)
          have HT := Lib.hid (show F.take (j + 1) = F.take j ++ [F[j]] from List.take_succ_eq_append_getElem hlt)
          generalize F[j] = x at *
          obtain ⟨xa, xt⟩ := x
          have hsm : Small (xa, xt) := small_of hxs
          simp only at hxs e0 e1
          have hgl : g < wr.heap.size := by have := Hg2.out.size; omega
          have hjl : (F.take j).length ≤ j := by simp; omega
          generalize hLL : L ++ F.take j = LL at *
          have hLLl : LL.length ≤ 4096 := by rw [← hLL]; simp; omega
          have HLL := Lib.hid hLL
          clear hLL
          go_wp2_with fail
          have hNW := hN2.alloc (.cells #[.string xa, .string xt] 55)
          have hRW : Rn (wr.alloc (.cells #[.string xa, .string xt] 55)) wo.heap.size (some ⟨g, off, none⟩) F := hR2.below ((Below.refl _ _).alloc (by have := Hg2.out.size; omega) _)
          have HgW := Lib.hid (show wo.grownBy (wr.alloc (.cells #[.string xa, .string xt] 55)) (some b) from Hg2.out.trans (World.grownBy_alloc wr _ _))
          have d0 : (wr.alloc (.cells #[.string xa, .string xt] 55)).cell? ⟨wr.heap.size, 0, none⟩ = some (.string xa) := by simp
          have d1 : (wr.alloc (.cells #[.string xa, .string xt] 55)).cell? ⟨wr.heap.size, 1, none⟩ = some (.string xt) := by simp
          have hzo : wo.heap.size ≤ wr.heap.size := Hg2.out.size
          have hzW : wr.heap.size < (wr.alloc (.cells #[.string xa, .string xt] 55)).heap.size := by simp
          have hbr : b < wr.heap.size := hN2.blt
          clear e0 e1 hN2 hR2 cr
          generalize (wr.alloc (.cells #[.string xa, .string xt] 55)) = W at *
          generalize wr.heap.size = bx at *
          have cp := hNW.cell0
          obtain ⟨w3, hrun, hown3, hg3⟩ := (show W.drew.ownsMap Try.prog 55 (plainElem (H := Unit) Try.prog 4) b LL.length (setD LL) from hNW.own).update lawNote Try.underlying51 (by unfold maxLen; omega) (keyOf_note (xa, xt) hsm) (plainElem_bool Try.underlying4 true)
          have hgW3 : W.grownBy w3 (some b) := ⟨hg3.os, hg3.tape, hg3.output, hg3.size, hg3.block⟩
          have HN3 := Lib.hid (hNW.turned Hfr.out hxs hgW3 hown3)
          have HR3 := Lib.hid (hRW.turned hNW (by omega) hgW3)
          have HG3 := Lib.hid (HgW.out.trans hgW3)
          unfold nval at hrun
          clear hg3 hgW3 hown3 hNW hRW
          go_region
          go_wp2_with fail
          go_roundw
          case rel =>
            refine ⟨j + 1, by omega, by go_num, ?_, HR3.out, HG3⟩
            rw [HT.out, ← List.append_assoc, HLL.out]
            exact HN3.out
          case measure => simp [intOf]; omega
        · have ht : F.take j = F := List.take_of_length_le (by omega)
          have HT := Lib.hid ht
          clear ht
          go_wp2
          go_ret
          refine ⟨L ++ F, rfl, by rw [HT.out] at hN2; exact hN2, ?_, ?_⟩
          · exact List.Perm.append_left L (fresh_perm hO.nodup HFn.out HF.out)
          · have h2 := Hg2.out
            exact ⟨h2.os.trans hbw.os, h2.tape.trans hbw.tape, h2.output.trans hbw.output, Nat.le_trans hbw.size h2.size, fun i hi hne => (h2.block i (Nat.lt_of_lt_of_le hi hbw.size) hne).trans (hbw.block i hi)⟩
    · intro x t w1 cnt1 hxM hlx hrg1 hlt hg1 hs1 hen
      have Hs1 := Lib.hid hs1
      have hb1 : Below w.heap.size w w1 := hbw.grown hg1 hbw.size (fun j hj => by cases hj; exact Nat.le_refl _)
      have hz : w.heap.size + 1 ≤ w1.heap.size := by omega
      clear hs1
      have hxs := hO.small _ hxM
      have hx : Small (x, t) := small_of hxs
      have hN1 := hN.below hb1 hN.plt hN.blt
      have hdl := hO.blt
      have hrow1 := hrow.kept hg1 (.inr (own_ne hrow w.heap.size (by omega)))
      have c1 := hN1.cell0
      have hz1' : p < w1.heap.size := hN1.plt
      have hlk : ∀ o n, (Instr.lookup 51 (.map (some b)) (.agg #[.string x, .string t]) false).run Try.prog ((w1.alloc o).drewN n) = .ok (.bool (hasN L (x, t))) ((w1.alloc o).drewN n) := fun o n => ((hN1.alloc o).drewN n).look (x, t) hx
      have Hsub2 := Lib.hid (show ∀ k, (left k && !k.sameKey (nkey (x, t))) = true → Maps.has (setD M) k = true from fun k hk => hsub k (by simp at hk; exact hk.1))
      have Hlt := Lib.hid hlt
      have Hrg := Lib.hid hrg
      have Hrg1 := Lib.hid hrg1
      have Hb1 := Lib.hid hb1
      have Hrow1 := Lib.hid hrow1
      cases hh : hasN L (x, t)
      · rw [hh] at hlk
        have HC2 := Lib.hid (HC.out.take hO.smalls hxM hlx hh)
        have hFl2 := HC2.out.le hO.nodup
        clear hh hrg hrg1 hrow hrow1 hb1 hg1 hlx hsub co cp hbw hNr hRF hAF
        go_wp2_with fail
        go_quiet (fail)
        clear hlk
        have HrgW := Lib.hid (show ((w1.alloc (.cells #[.string x, .string t] 55)).drewN nq).ranges Try.prog 55 (plainElem (H := Unit) Try.prog 4) d w.heap.size M.length (setD M) (fun z => left z && !z.sameKey (nkey (x, t))) cnt1 from Hrg1.out.alloc _)
        have HrowW := Lib.hid (show ((w1.alloc (.cells #[.string x, .string t] 55)).drewN nq).ownsRow (w.heap.size + 1) 55 2 (.slice A F.length cap) F.length (cellsN F) from Hrow1.out.alloc _)
        have HbW := Lib.hid (show Below w.heap.size w ((w1.alloc (.cells #[.string x, .string t] 55)).drewN nq) from below_drewN (Hb1.out.alloc (by omega) _) nq)
        have d0 : ((w1.alloc (.cells #[.string x, .string t] 55)).drewN nq).cell? ⟨w1.heap.size, 0, none⟩ = some (.string x) := by simp
        have d1 : ((w1.alloc (.cells #[.string x, .string t] 55)).drewN nq).cell? ⟨w1.heap.size, 1, none⟩ = some (.string t) := by simp
        have hzW : w.heap.size + 1 ≤ ((w1.alloc (.cells #[.string x, .string t] 55)).drewN nq).heap.size := by simp; omega
        generalize ((w1.alloc (.cells #[.string x, .string t] 55)).drewN nq) = W at *
        have hrowA := HrowW.out.alloc (.cells #[.string x, .string t] 55)
        go_wp2_with (first
          | (at_builtin; refine wpList_append_own _ rfl _ _ 58 rfl (w.heap.size + 1) 55 i0 _ 2 32 Try.underlying58 hi0 hz0 hz1 hz2 rfl (by decide) _ _ _ rfl hrowA ⟨W.heap.size, 0, none⟩ 1 1 [.string x, .string t] rfl rfl (World.news_of_block (cs := #[.string x, .string t]) (t := 55) (fr := (0, 0)) (heap_alloc_new W _)) (by simp [Value.oneCell']) (by unfold maxLen; omega) (by omega) (by simp; omega) ?_; intro v2 w2 hown2 hg2 hnil2)
          | fail)
        have hrk : w2.ranges Try.prog 55 (plainElem (H := Unit) Try.prog 4) d w.heap.size M.length (setD M) (fun z => left z && !z.sameKey (nkey (x, t))) cnt1 := (HrgW.out.alloc _).kept hg2 (Ne.symm (own_ne HrowW.out d (by omega))) (Ne.symm (own_ne HrowW.out w.heap.size (by omega)))
        have Hrk := Lib.hid hrk
        clear hrk
        go_roundw
        case rel =>
          refine ⟨_, cnt1, F ++ [(x, t)], Hrk.out, Hsub2.out, ?_, HC2, by simpa using hFl2, ?_, ?_⟩
          · rw [cellsN_snoc]
            simpa using hown2
          · exact (HbW.out.alloc (by omega) _).grown hg2 (by simp; omega) (fun j hj => by have := (HrowW.out.lt j hj).1; omega)
          · have := hg2.size
            simp at this
            omega
        case measure => rw [Hrk.out.left_eq, Hrg.out.left_eq]; exact Hlt.out
      · rw [hh] at hlk
        have HC2 := Lib.hid (HC.out.skip hO.smalls hxM hh)
        clear hh hrg hrg1 hrow hrow1 hb1 hg1 hlx hsub co cp hbw hNr hRF hAF
        go_wp2_with fail
        go_quiet (fail)
        go_wp2_with fail
        go_roundw
        case rel => exact ⟨_, cnt1, F, rg_drewN (Hrg1.out.alloc _) _, Hsub2.out, row_drewN (Hrow1.out.alloc _) _, HC2, hFl, below_drewN (Hb1.out.alloc (by omega) _) _, by simp; omega⟩
        case measure => rw [(rg_drewN (Hrg1.out.alloc _) _).left_eq, Hrg.out.left_eq]; exact Hlt.out
end Go.Proofs.Ytlbenmndmoeioaa
