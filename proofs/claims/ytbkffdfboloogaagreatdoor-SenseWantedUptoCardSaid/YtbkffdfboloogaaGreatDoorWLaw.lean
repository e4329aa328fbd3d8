/- The law SenseWanted. -/
import Derived.Test.YtbkffdfboloogaaGreatDoorMY
import Derived.Test.YtbkffdfboloogaaGreatDoorWPlain
import Derived.Test.YtbkffdfboloogaaGreatDoorWOpen
import Derived.Test.YtbkffdfboloogaaGreatDoorWReg
import Derived.Test.YtbkffdfboloogaaGreatDoorNF
import Derived.Test.YtbkffdfboloogaaGreatDoorMO
import Derived.Deep.Cut
namespace Go.Proofs.YtbkffdfboloogaaGreatDoor
open Go.RowKit Go.Maps Go.Lib
set_option linter.unusedVariables false
set_option maxRecDepth 100000

theorem bc_stepW {B : Nat} {a W w' : World} (h : Below B a W) (hB : B ≤ a.heap.size) (hb : Below W.heap.size W w') : Below B a w' := h.trans (hb.mono (Nat.le_trans hB h.size))
theorem setRow_allocW (W : World) (cs ds : Array Value) (t : TypeId) : (W.alloc (.cells cs t)).setRow W.heap.size ds = W.alloc (.cells ds t) := by
  unfold World.setRow World.alloc
  simp only
  congr 1
  apply Array.ext
  · simp
  · intro i h1 h2
    rw [Array.getElem_modify]
    by_cases hi : W.heap.size = i
    · subst hi; simp
    · have hlt : i < W.heap.size := by simp at h1; omega
      simp [hi, Array.getElem_push, hlt]
def LwW (w : World) (e : Ending) (w' : World) : Prop := e = .returned (.bool true) ∧ Below w.heap.size w w'
/-- what the law needs of the credit -/
structure CrOk (C : Cr) : Prop where
  thin : Thin C
  kind : ∀ x ∈ C.needs, -9223372036854775808 ≤ x.k ∧ x.k ≤ 9223372036854775807
  days : mayB C = true → (Faulty C ↔ C.exp < C.lat)
/-- what the last region's operations yield -/
def lawR (C : Cr) (A : Option Addr) (cp q : Nat) (r : Bool) : Nat → Value → World → Prop
  | 0, v, _ => v = .agg (crA C A cp)
  | 1, v, _ => v = .bool r
  | 2, v, _ => v = .pointer (some ⟨q, 11, none⟩)
  | 3, v, _ => v = .int .i64 C.lat
  | 4, v, _ => v = .pointer (some ⟨q, 12, none⟩)
  | 5, v, _ => v = .int .i64 C.exp
  | 6, v, _ => v = .bool r
  | 7, v, _ => v = .bool true
  | _, _, _ => True
theorem lawR_kept {C : Cr} {A : Option Addr} {cp q : Nat} {r : Bool} (i : Nat) (v : Value) (w w' : World) (h : lawR C A cp q r i v w) : lawR C A cp q r i v w' := by
  match i, h with
  | 0, h => exact h
  | 1, h => exact h
  | 2, h => exact h
  | 3, h => exact h
  | 4, h => exact h
  | 5, h => exact h
  | 6, h => exact h
  | 7, h => exact h
  | n + 8, h => trivial
set_option maxHeartbeats 16000000 in
theorem wantedLaw_any (d : Dl) (hg : GoodD d) (A : Option Addr) (c : Nat) (w : World) (hN : Bxs w w.heap.size A d.box) (hE : Ev w) :
    Calls Tryz.prog 4 #[.agg (dlA d A c)] w fun e w' => LwW w e w' := by
  have hb1 : Below w.heap.size w (w.alloc (.cells (dlA d A c) 39)) := (Below.refl _ _).alloc (Nat.le_refl _) _
  have hz1 : (w.alloc (.cells (dlA d A c) 39)).heap.size = w.heap.size + 1 := by simp
  have HAw : Hid (∀ W, Below w.heap.size w W → Calls Tryz.prog 6 #[] W fun e w' => e = .returned (.bool true) ∧ Below W.heap.size W w') := Lib.hid (fun W hb => awake_any W (hE.all hb).gl)
  have hs0 : d.num.size ≤ 1048576 := hg.str _ (by simp)
  have hi0 := hg.int d.amt (by simp)
  have hi1 := hg.int d.trm (by simp)
  have HWn : Hid (d.box.length ≤ 20 → (∀ b ∈ d.box, b.m.size ≤ 60) → ∀ W, Below w.heap.size w W → Calls Tryz.prog 10 #[.agg (dlA d A c)] W fun e w' => ∃ (C : Cr) (A' : Option Addr) (cp : Nat), e = .returned (.agg (crA C A' cp)) ∧ Ns w' w'.heap.size A' C.needs ∧ Below W.heap.size W w' ∧ CrOk C) := Lib.hid (fun h20 h60 W hb =>
    (wantedD_any d A c w.heap.size W (hE.all hb) (hN.kept hb) hb.size hs0 h20 h60 hg.box hi0.1 hi0.2 hi1.1 hi1.2).mono (by
      rintro e w' ⟨mk, ls, mk2, A', cp, hm, hm2, rfl, hNs, hb2⟩
      have hok : WOk d mk mk2 := ⟨hg.str, hg.int, hg.box.few, hm, hm2⟩
      exact ⟨wantC d mk ls mk2, A', cp, rfl, hNs, hb2, want_thin d mk ls mk2 hok, want_kind d mk ls mk2, want_faulty d mk ls mk2 hok⟩))
  have HMy : Hid (∀ C : Cr, CrOk C → ∀ (A' : Option Addr) (cp B : Nat) (W : World), Ns W B A' C.needs → B ≤ W.heap.size → Below w.heap.size w W → Calls Tryz.prog 11 #[.agg (crA C A' cp)] W fun e w' => e = .returned (.bool (mayB C)) ∧ Below W.heap.size W w') := Lib.hid (fun C hC A' cp B W h1 h2 hb => may_any C hC.thin A' cp W B h1 h2 (hE.all hb))
  have HFn : Hid (∀ C : Cr, CrOk C → ∀ (A' : Option Addr) (cp B : Nat) (W : World), Ns W B A' C.needs → B ≤ W.heap.size → Below w.heap.size w W → Calls Tryz.prog 7 #[.agg (crA C A' cp)] W fun e w' => ∃ r : Bool, e = .returned (.bool r) ∧ (r = true ↔ mayB C = true ∧ C.lat ≤ C.exp) ∧ Below W.heap.size W w') := Lib.hid (fun C hC A' cp B W h1 h2 hb =>
    (fine_any C hC.thin hC.kind A' cp B W h1 h2 (hE.all hb)).mono (by
      rintro e w' ⟨r, rfl, hr, hb2⟩
      refine ⟨r, rfl, ?_, hb2⟩
      rw [hr]
      refine and_congr_right fun hm => ?_
      rw [hC.days hm]
      omega))
  have HN := Lib.hid hN
  have HB1 := Lib.hid hb1
  have k11 : (w.alloc (.cells (dlA d A c) 39)).cell? ⟨w.heap.size, 11, none⟩ = some (.slice A d.box.length c) := by simp [dlA]
  have HD : Hid (∀ W, Below (w.heap.size + 1) (w.alloc (.cells (dlA d A c) 39)) W → W.heap[w.heap.size]? = some (.cells (dlA d A c) 39 (0, 0))) := Lib.hid (fun W hb => (hb.block _ (by omega)).trans (heap_alloc_new w _))
  have HI := Lib.hid (fun C : Cr => crA_sizeW C)
  have hID : (Tryz.prog.info? 39).map (·.size) = some (dlA d A c).size := by kernel_rfl
  have HID := Lib.hid hID
  have HYes : Hid (∀ W, Below w.heap.size w W → LwW w (.returned (.bool true)) W) := Lib.hid (fun W hb => ⟨rfl, hb⟩)
  have hfew : d.box.length ≤ 1048576 := hg.box.few
  clear hg hN hb1 hE hs0 hi0 hi1 hID
  generalize LwW w = CP at *
  go_enter Tryz.func4, Tryz.ntmps4
  by_cases h20 : d.box.length ≤ 20
  · have q1 : ¬ (20 : Int) < (d.box.length : Int) := by omega
    go_wp2_with fail
    go_loopw [14] (fun i wr => ∃ k : Nat, k ≤ d.box.length ∧ i = .int .i64 (k : Int) ∧ Hid (Below (w.heap.size + 1) (w.alloc (.cells (dlA d A c) 39)) wr) ∧ Hid (∀ b ∈ d.box.take k, b.m.size ≤ 60)) (fun i _ => d.box.length - (RowKit.intOf i).toNat)
    case atStart => exact ⟨0, Nat.zero_le _, rfl, Lib.hid (Below.refl _ _), Lib.hid (fun x hx => by simp at hx)⟩
    case round =>
      obtain ⟨k, hkl, rfl, HB, HP⟩ := hrel
      have HBw := Lib.hid (HB1.out.trans (HB.out.mono (by omega)))
      have hz := HB.out.size
      rw [hz1] at hz
      by_cases hlt : k < d.box.length
      · have b1 : (k : Int) < (d.box.length : Int) := by omega
        have b0 : (0 : Int) ≤ (k : Int) := by omega
        obtain ⟨g, off, A', c', rfl, hgb, h3⟩ := HN.out.at_ hlt
        obtain ⟨c0, c1, c2, _, _⟩ := h3.kept HBw.out hgb
        have HPs : Hid (d.box[k].m.size ≤ 60 → ∀ b ∈ d.box.take (k + 1), b.m.size ≤ 60) := Lib.hid (fun h x hx => by
          rw [← List.take_append_getElem hlt] at hx
          rcases List.mem_append.1 hx with hx | hx
          · exact HP.out x hx
          · simp at hx; subst hx; exact h)
        have hba : Below wr.heap.size wr (wr.alloc (.cells (bxA d.box[k] A' c') 42)) := (Below.refl _ _).alloc (Nat.le_refl _) _
        have HBa := Lib.hid (HB.out.trans (hba.mono hz))
        have HBb := Lib.hid (HB1.out.trans (HBa.out.mono (by omega)))
        clear h3 hba HP
        generalize d.box[k] = x at *
        unfold bxA at HBa HBb
        by_cases hm : x.m.size ≤ 60
        · have b2 : ¬ (60 : Int) < (x.m.size : Int) := by omega
          have HP3 := Lib.hid (HPs.out hm)
          clear HPs
          go_wp2_with fail
          exact ⟨⟨k + 1, by omega, by go_num, HBa, HP3⟩, by simp [RowKit.intOf]; omega⟩
        · have b2 : (60 : Int) < (x.m.size : Int) := by omega
          clear HPs
          go_wp2_with (first
            | (go_at_call 6; (with_reducible refine (HAw.out _ HBb.out).mono ?_); rintro e w3 ⟨rfl, hb3⟩; have HF := Lib.hid (HYes.out _ (HBb.out.trans (hb3.mono HBb.out.size))); clear hb3)
            | fail)
          first
            | exact HF.out
            | (go_ret; exact HF.out)
      · have b1 : ¬ (k : Int) < (d.box.length : Int) := by omega
        have h60 : ∀ b ∈ d.box, b.m.size ≤ 60 := fun b hb => HP.out b (by rw [List.take_of_length_le (by omega)]; exact hb)
        have HWn' := Lib.hid (HWn.out h20 h60 wr HBw.out)
        clear HP HWn h60
        go_wp2_with (first
          | (refine wpList_load_row rfl 39 (.tmp 1) rfl w.heap.size rfl 39 (dlA d A c) (0, 0) _ (HD.out _ HB.out) Tryz.underlying39 rfl HID.out ?_)
          | fail)
        refine HWn'.out.mono ?_
        rintro e w2 ⟨C, A2, cp2, rfl, hNs, hb2, hC⟩
        have hB3 : Below w.heap.size w w2 := HBw.out.trans (hb2.mono HBw.out.size)
        have hB4 : Below w.heap.size w (w2.alloc (.cells (crA C A2 cp2) 26)) := hB3.alloc hB3.size _
        have hB5 : Below w2.heap.size w2 (w2.alloc (.cells (crA C A2 cp2) 26)) := (Below.refl _ _).alloc (Nat.le_refl _) _
        have Hz3 : Hid (w2.heap.size + 1 ≤ (w2.alloc (.cells (crA C A2 cp2) 26)).heap.size) := Lib.hid (by simp)
        have HK : Hid (∀ W, Below (w2.heap.size + 1) (w2.alloc (.cells (crA C A2 cp2) 26)) W → W.heap[w2.heap.size]? = some (.cells (crA C A2 cp2) 26 (0, 0))) := Lib.hid (fun W hb => (hb.block _ (by omega)).trans (heap_alloc_new w2 _))
        have HBx : Hid (∀ W, Below (w2.heap.size + 1) (w2.alloc (.cells (crA C A2 cp2) 26)) W → Below w.heap.size w W) := Lib.hid (fun W hb => hB4.trans (hb.mono (by have := hB3.size; omega)))
        have HMy' : Hid (∀ W, Below (w2.heap.size + 1) (w2.alloc (.cells (crA C A2 cp2) 26)) W → Calls Tryz.prog 11 #[.agg (crA C A2 cp2)] W fun e w' => e = .returned (.bool (mayB C)) ∧ Below W.heap.size W w') := Lib.hid (fun W hb => HMy.out C hC A2 cp2 w2.heap.size W (hNs.kept (hB5.trans (hb.mono (by omega)))) (by have := hb.size; have := Hz3.out; omega) (HBx.out W hb))
        have HFn' : Hid (∀ W, Below (w2.heap.size + 1) (w2.alloc (.cells (crA C A2 cp2) 26)) W → Calls Tryz.prog 7 #[.agg (crA C A2 cp2)] W fun e w' => ∃ r : Bool, e = .returned (.bool r) ∧ (r = true ↔ mayB C = true ∧ C.lat ≤ C.exp) ∧ Below W.heap.size W w') := Lib.hid (fun W hb => HFn.out C hC A2 cp2 w2.heap.size W (hNs.kept (hB5.trans (hb.mono (by omega)))) (by have := hb.size; have := Hz3.out; omega) (HBx.out W hb))
        have HBc : Hid (Below (w2.heap.size + 1) (w2.alloc (.cells (crA C A2 cp2) 26)) (w2.alloc (.cells (crA C A2 cp2) 26))) := Lib.hid (Below.refl _ _)
        clear hNs hB3 hB4 hB5 hb2 HMy HFn hC HB HBw HWn' HN HB1 HD k11
        cases hm : mayB C with
        | false =>
          rw [hm] at HMy' HFn'
          go_wp2_with (first
            | (refine wpList_store_row rfl 26 (.tmp 5) (.tmp 25) rfl w2.heap.size (crA C A2 cp2) rfl rfl 26 _ (heap_alloc_new _ _) (HI.out C _ _) rfl (crA_allW C _ _) ?_; rw [setRow_allocW])
            | (refine wpList_load_row rfl 26 (.tmp 5) rfl w2.heap.size rfl 26 (crA C A2 cp2) (0, 0) _ (HK.out _ HBc.out) Tryz.underlying26 rfl (HI.out C _ _) ?_)
            | (go_at_call 11; (with_reducible refine (HMy'.out _ HBc.out).mono ?_); rintro e w4 ⟨rfl, hb⟩; have HBd := Lib.hid (bc_stepW HBc.out Hz3.out hb); clear HBc hb HMy'; have HBc := HBd; clear HBd)
            | (go_at_call 7; (with_reducible refine (HFn'.out _ HBc.out).mono ?_); rintro e w5 ⟨r, rfl, hr, hb⟩; have hr0 : r = false := (by cases r with | false => rfl | true => exact absurd (hr.1 rfl).1 (by simp)); subst hr0; have HBd := Lib.hid (bc_stepW HBc.out Hz3.out hb); clear HBc hb HFn' hr; have HBc := HBd; clear HBd)
            | (go_at_call 6; (with_reducible refine (HAw.out _ (HBx.out _ HBc.out)).mono ?_); rintro e w6 ⟨rfl, hb⟩; have HF := Lib.hid (HYes.out _ (HBx.out _ (bc_stepW HBc.out Hz3.out hb))); clear hb)
            | fail)
          first
            | exact HF.out
            | (go_ret; exact HF.out)
        | true =>
          rw [hm] at HMy' HFn'
          go_upto_region 12 with (first
            | (refine wpList_store_row rfl 26 (.tmp 5) (.tmp 25) rfl w2.heap.size (crA C A2 cp2) rfl rfl 26 _ (heap_alloc_new _ _) (HI.out C _ _) rfl (crA_allW C _ _) ?_; rw [setRow_allocW])
            | (refine wpList_load_row rfl 26 (.tmp 5) rfl w2.heap.size rfl 26 (crA C A2 cp2) (0, 0) _ (HK.out _ HBc.out) Tryz.underlying26 rfl (HI.out C _ _) ?_)
            | (go_at_call 11; (with_reducible refine (HMy'.out _ HBc.out).mono ?_); rintro e w4 ⟨rfl, hb⟩; have HBd := Lib.hid (bc_stepW HBc.out Hz3.out hb); clear HBc hb HMy'; have HBc := HBd; clear HBd)
            | fail)
          rename_i K4 hk4
          have HKc : Hid (∀ W, Below w4.heap.size w4 W → Below (w2.heap.size + 1) (w2.alloc (.cells (crA C A2 cp2) 26)) W) := Lib.hid (fun W hb => bc_stepW HBc.out Hz3.out hb)
          clear HBc
          obtain ⟨rb, hrb⟩ : ∃ rb : Bool, rb = decide (C.lat ≤ C.exp) := ⟨_, rfl⟩
          have HRb := Lib.hid hrb
          clear hrb
          refine wp_frame3 46 5 5 5 (u := .pointer (some ⟨w2.heap.size, 0, none⟩)) (v := .pointer (some ⟨w2.heap.size, 0, none⟩)) (x := .pointer (some ⟨w2.heap.size, 0, none⟩)) rfl rfl rfl rfl rfl ?_
          intro a0 g0 gd g5 _ _
          refine wp_region_factsG (Le := fun w w' => Below w.heap.size w w') (C := fun W => Below w4.heap.size w4 W) (R := lawR C A2 cp2 w2.heap.size rb) 8 8 [9, 10, 11] (by kernel_rfl) (by rw [g0]; kernel_rfl) (by kernel_rfl) rfl (Below.refl _ _).drew (fun W W' h1 h2 => h2.trans (h1.mono h2.size)) (fun i v w w' _ h => lawR_kept i v w w' h) (steps_take ?_) ?_
          · simp only [List.take_succ_cons, List.take_zero, StepsFrom]
            refine ⟨fact_step ?_, fact_step ?_, fact_step ?_, fact_step ?_, fact_step ?_, fact_step ?_, fact_step ?_, fact_step ?_, trivial⟩
            all_goals (intro a W hs hc hd K hK)
            all_goals have t5 := hs.slot g5 (by kernel_rfl)
            all_goals clear hs
            · refine wp_load_row 26 (.tmp 5) rfl w2.heap.size (by simp [Act.eval, t5]) 26 (crA C A2 cp2) (0, 0) _ (HK.out _ (HKc.out W hc)) Tryz.underlying26 rfl (HI.out C _ _) ?_
              exact hK _ _ (Below.refl _ _) rfl
            · obtain ⟨v0, s0, r0⟩ := hd { on := 0, ground := .data } (by simp) (by rfl) _ (by rfl)
              replace s0 := s0 _ rfl
              obtain rfl := r0
              have HC := Lib.hid (HFn'.out W (HKc.out W hc))
              go_simp
              refine HC.out.mono ?_
              rintro e w' ⟨r, rfl, hr, hb'⟩
              exact hK _ _ hb' (show Value.bool r = .bool rb by rw [HRb.out]; congr 1; rw [Bool.eq_iff_iff, hr, decide_eq_true_iff]; simp)
            · go_simp
              exact hK _ _ (Below.refl _ _) rfl
            · obtain ⟨v2, s2, r2⟩ := hd { on := 2, ground := .data } (by simp) (by rfl) _ (by rfl)
              replace s2 := s2 _ rfl
              obtain rfl := r2
              have k : W.cell? ⟨w2.heap.size, 11, none⟩ = some (.int .i64 C.lat) := by
                rw [cell_of_row _ _ _ _ _ _ (HK.out _ (HKc.out W hc))]
                rfl
              go_simp
              exact hK _ _ (Below.refl _ _) rfl
            · go_simp
              exact hK _ _ (Below.refl _ _) rfl
            · obtain ⟨v4, s4, r4⟩ := hd { on := 4, ground := .data } (by simp) (by rfl) _ (by rfl)
              replace s4 := s4 _ rfl
              obtain rfl := r4
              have k : W.cell? ⟨w2.heap.size, 12, none⟩ = some (.int .i64 C.exp) := by
                rw [cell_of_row _ _ _ _ _ _ (HK.out _ (HKc.out W hc))]
                rfl
              go_simp
              exact hK _ _ (Below.refl _ _) rfl
            · obtain ⟨v3, s3, r3⟩ := hd { on := 3, ground := .data } (by simp) (by rfl) _ (by rfl)
              replace s3 := s3 _ rfl
              obtain ⟨v5, s5, r5⟩ := hd { on := 5, ground := .data } (by simp) (by rfl) _ (by rfl)
              replace s5 := s5 _ rfl
              obtain rfl := r3
              obtain rfl := r5
              go_simp
              exact hK _ _ (Below.refl _ _) (by show Value.bool _ = .bool rb; rw [HRb.out])
            · obtain ⟨v1, s1, r1⟩ := hd { on := 1, ground := .data } (by simp) (by rfl) _ (by rfl)
              replace s1 := s1 _ rfl
              obtain ⟨v6, s6, r6⟩ := hd { on := 6, ground := .data } (by simp) (by rfl) _ (by rfl)
              replace s6 := s6 _ rfl
              obtain rfl := r1
              obtain rfl := r6
              go_simp
              exact hK _ _ (Below.refl _ _) (by first | rfl | (show Value.bool _ = .bool true; simp))
          · intro a W hs hc hf
            obtain ⟨v7, s7, rfl⟩ := hf 7 _ rfl (by omega)
            replace s7 := s7 _ rfl
            have G0 := Lib.hid (hs.size.trans g0)
            have GD := Lib.hid (hs.defers.trans gd)
            clear hf hs g0 gd g5
            refine wpOps_more (by rfl) rfl ?_
            go_simp
            refine put_more 46 42 42 42 42 43 G0.out GD.out s7 s7 s7 s7 (by omega) (by omega) ?_
            clear G0 GD s7
            clear a
            intro a g0' gd' s7 x1 x2 x3 s43
            clear x1 x2 x3
            have G0 := Lib.hid g0'
            have GD := Lib.hid gd'
            clear g0' gd'
            refine wpOps_moreG (by rfl) (by simp [Region.wanted, yielded, s43]) ?_
            go_simp
            refine (HAw.out W (HBx.out W (HKc.out W hc))).mono ?_
            rintro e w6 ⟨rfl, hb6⟩
            have HF := Lib.hid (HYes.out w6 ((HBx.out W (HKc.out W hc)).trans (hb6.mono (HBx.out W (HKc.out W hc)).size)))
            clear hb6
            refine put_more 46 42 42 42 43 44 G0.out GD.out s7 s7 s7 s43 (by omega) (by omega) ?_
            clear G0 GD s7 s43
            clear a
            intro a g0' gd' s7 x1 x2 s43 s44
            clear x1 x2
            have G0 := Lib.hid g0'
            have GD := Lib.hid gd'
            clear g0' gd'
            refine wpOps_more (by rfl) rfl ?_
            go_simp
            refine put_more 46 42 42 42 43 45 G0.out GD.out s7 s7 s7 s43 (by omega) (by omega) ?_
            clear G0 GD s7 s43 s44
            clear a
            intro a g0' gd' s7 x1 x2 x3 s45
            clear x1 x2 x3
            have G0 := Lib.hid g0'
            have GD := Lib.hid gd'
            clear g0' gd'
            refine wpOps_more (by rfl) rfl ?_
            go_simp
            refine put_more 46 42 42 42 45 2 G0.out GD.out s7 s7 s7 s45 (by omega) (by omega) ?_
            clear G0 GD s7 s45
            clear a
            intro a g0' gd' _ _ _ _ s2
            refine wpOps_done ?_
            refine hk4 _ _ (wp_ret (bodyPost_ret (results_tmp rfl _ _ _) gd' ?_))
            rw [getD_of s2]
            exact HF.out
  · have q1 : (20 : Int) < (d.box.length : Int) := by omega
    go_wp2_with (first
      | (go_at_call 6; (with_reducible refine (HAw.out _ HB1.out).mono ?_); rintro e w3 ⟨rfl, hb3⟩; have HF := Lib.hid (HYes.out _ (HB1.out.trans (hb3.mono HB1.out.size))); clear hb3)
      | fail)
    first
      | exact HF.out
      | (go_ret; exact HF.out)
end Go.Proofs.YtbkffdfboloogaaGreatDoor
