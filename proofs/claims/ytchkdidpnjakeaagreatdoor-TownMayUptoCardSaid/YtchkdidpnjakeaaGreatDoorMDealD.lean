/- ref54.deal: may a deal be, by itself? -/
import Derived.Test.YtchkdidpnjakeaaGreatDoorGMDealT
import Derived.Test.YtchkdidpnjakeaaGreatDoorGClass
import Derived.Deep.MidRow
import Derived.Deep.Cut
import Derived.Deep.CutRange
namespace Go.Proofs.YtchkdidpnjakeaaGreatDoor
open Go.RowKit Go.Maps Go.Lib Led
set_option linter.unusedVariables false
set_option maxRecDepth 100000

theorem wpQuiet_load {P : Program} {ops : Array Oper} {C : World → Prop} {Q : Act → Prop} {a : Act} {o : Oper} {rest : List Oper} (hw : Region.wanted o (yielded ops a.tmps) = true) (ty : TypeId) (x : Operand) (ho : o.op = .load ty x) (p : Addr) (hx : a.eval x = .pointer (some p)) (v : Value)
    (hl : ∀ w, C w → (Instr.loadAt ty (.pointer (some p))).run P w = .ok v w) (h : wpQuiet P ops C Q rest (a.put o.dst v)) : wpQuiet P ops C Q (o :: rest) a := by
  refine BigFrame.wpQuiet_want hw fun K hK => ⟨v, fun w hcw => ?_, hK _ h⟩
  have e : (execOp a.eval o).run P w = .ok (.value v) w := by
    unfold execOp
    simp only [ho, hx, Sem.run_bind, hl w hcw, Result.andThen_ok, Sem.run_pure]
  unfold Oper.quietAt
  rw [e]
  exact ⟨rfl, rfl⟩
theorem infoSu5 : (Tryz.prog.info? 29).map (·.size) = some 5 := by kernel_rfl
def Da1 (l : List Py) (d : Dl) : Prop := (nmOk d.num ∧ d.num.size ≤ 13) ∧ kindF l d.sel = 0 ∧ kindF l d.buy = 0 ∧ d.sel ≠ d.buy ∧ kindF l d.car = 1 ∧ kindF l d.iss = 2 ∧ bankF l d.buy = d.iss
def Da2 (l : List Py) (d : Dl) : Prop := (d.hou.size = 0 ∨ kindF l d.hou = 3) ∧ (d.ins.size = 0 ∨ kindF l d.ins = 4) ∧ nmOk d.frm ∧ nmOk d.dst
def Da3 (d : Dl) : Prop := curOk d.cur ∧ 1 ≤ d.amt ∧ d.amt ≤ 1073741824 ∧ 1 ≤ d.box.length ∧ d.box.length ≤ 8
def Da4 (d : Dl) : Prop := (0 ≤ d.trm ∧ d.trm ≤ 7) ∧ (0 ≤ d.exp ∧ d.exp ≤ 1048576) ∧ (0 ≤ d.lat ∧ d.lat ≤ d.exp) ∧ (0 ≤ d.ten ∧ d.ten ≤ 1000) ∧ 0 ≤ d.dut ∧ d.dut ≤ 1000
/-- a test that falls just if P is not so -/
def Falls (b : Bool) (P : Prop) : Prop := b = false ↔ P
/-- a deal by itself, with the number of its boxes -/
def Deal8 (l : List Py) (d : Dl) : Prop := DealOk l d ∧ 1 ≤ d.box.length ∧ d.box.length ≤ 8
theorem deal8 {l : List Py} {d : Dl} : Deal8 l d ↔ Da1 l d ∧ Da2 l d ∧ Da3 d ∧ Da4 d := by
  constructor
  · rintro ⟨h, h8⟩
    refine ⟨⟨h.num, (kindF_two (by omega)).2 h.who.2.1, (kindF_two (by omega)).2 h.who.2.2, h.who.1, (kindF_two (by omega)).2 h.car, (kindF_two (by omega)).2 h.iss.1, h.iss.2⟩, ⟨h.hou.imp id (kindF_two (by omega)).2, h.ins.imp id (kindF_two (by omega)).2, h.at_.1, h.at_.2⟩, ⟨h.price.1, h.price.2.1, h.price.2.2, h8.1, h8.2⟩, h.trm, ?_, ?_, ⟨h.rest.1, h.rest.2.1⟩, h.rest.2.2⟩
    · have := h.days; omega
    · have := h.days; omega
  · rintro ⟨h1, h2, h3, h4⟩
    refine ⟨⟨h1.1, ⟨h1.2.2.2.1, (kindF_two (by omega)).1 h1.2.1, (kindF_two (by omega)).1 h1.2.2.1⟩, (kindF_two (by omega)).1 h1.2.2.2.2.1, ⟨(kindF_two (by omega)).1 h1.2.2.2.2.2.1, h1.2.2.2.2.2.2⟩, h2.1.imp id (kindF_two (by omega)).1, h2.2.1.imp id (kindF_two (by omega)).1, h2.2.2, ⟨h3.1, h3.2.1, h3.2.2.1⟩, h4.1, ?_, ⟨h4.2.2.2.1.1, h4.2.2.2.1.2, h4.2.2.2.2⟩⟩, h3.2.2.2⟩
    have := h4.2.1
    have := h4.2.2.1
    omega
set_option maxHeartbeats 16000000 in
theorem deal_d {w : World} {u : Su} {a : Sa} (hA : SuAt w w.heap.size u a) (hp0 : u.par.length ≤ 100000000) {d : Dl} {A : Option Addr} {c : Nat} (hz : DlSz d) (hbl : d.box.length ≤ 100000000) :
    Calls Tryz.prog 36 #[.agg #[.slice a.PA u.par.length a.pc, .slice a.DA u.dl.length a.dc, .slice a.FA u.fd.length a.fc, .slice a.RA u.rest.length a.rc, .slice a.HA u.hol.length a.hc], .agg (dlA d A c)] w fun e w' => BoolQ (Deal8 u.par d) w e w' := by
  obtain ⟨U, hU⟩ : ∃ U, U = dlA d A c := ⟨_, rfl⟩
  obtain ⟨w1, hw1⟩ : ∃ w1, w1 = w.alloc (.cells #[.slice a.PA u.par.length a.pc, .slice a.DA u.dl.length a.dc, .slice a.FA u.fd.length a.fc, .slice a.RA u.rest.length a.rc, .slice a.HA u.hol.length a.hc] 29) := ⟨_, rfl⟩
  obtain ⟨W2, hW2⟩ : ∃ W2, W2 = w1.alloc (.cells U 72) := ⟨_, rfl⟩
  have hs1 : w1.heap.size = w.heap.size + 1 := by rw [hw1]; simp
  have hb12 : Below w1.heap.size w1 W2 := by rw [hW2]; exact (Below.refl _ _).alloc (Nat.le_refl _) _
  have hd2 : W2.heap[w.heap.size + 1]? = some (.cells (dlA d A c) 72 (0, 0)) := by rw [hW2, ← hs1, hU]; exact heap_alloc_new _ _
  have hdl : w.heap.size + 1 < W2.heap.size := (Array.getElem?_eq_some_iff.1 hd2).1
  have HS : Hid (∀ X, Below W2.heap.size W2 X → SbX w X u a) := Lib.hid fun X hX => SbX.of hA hw1 (hb12.trans (hX.mono hb12.size))
  have HDc : Hid (∀ X, Below W2.heap.size W2 X → ∀ j v, (dlA d A c)[j]? = some v → X.cell? ⟨w.heap.size + 1, j, none⟩ = some v) := Lib.hid fun X hX j v hv => by
    have h := (hX.block _ hdl).trans hd2
    simp only [World.cell?, h]
    exact hv
  have HKd : Hid (∀ X s, Below W2.heap.size W2 X → Calls Tryz.prog 35 #[.agg #[.slice a.PA u.par.length a.pc, .slice a.DA u.dl.length a.dc, .slice a.FA u.fd.length a.fc, .slice a.RA u.rest.length a.rc, .slice a.HA u.hol.length a.hc], .string s] X fun e w' => e = .returned (.int .i64 (kindF u.par s)) ∧ Below X.heap.size X w') := Lib.hid fun X s hX => kind_any ((HS.out X hX).su.more (Nat.le_of_lt (HS.out X hX).lt)) s hp0
  have HBd : Hid (∀ X s, Below W2.heap.size W2 X → Calls Tryz.prog 38 #[.agg #[.slice a.PA u.par.length a.pc, .slice a.DA u.dl.length a.dc, .slice a.FA u.fd.length a.fc, .slice a.RA u.rest.length a.rc, .slice a.HA u.hol.length a.hc], .string s] X fun e w' => e = .returned (.string (bankF u.par s)) ∧ Below X.heap.size X w') := Lib.hid fun X s hX => bank_any ((HS.out X hX).su.more (Nat.le_of_lt (HS.out X hX).lt)) s hp0
  have HLd : Hid (∀ X, (∃ n : WC W2.heap.size W2, X = n.w) → (Instr.loadAt 29 (.pointer (some ⟨w.heap.size, 0, none⟩))).run Tryz.prog X = .ok (.agg #[.slice a.PA u.par.length a.pc, .slice a.DA u.dl.length a.dc, .slice a.FA u.fd.length a.fc, .slice a.RA u.rest.length a.rc, .slice a.HA u.hol.length a.hc]) X) := Lib.hid fun X ⟨n, h⟩ => by
    rw [h]
    exact run_loadAt_mid n.w w.heap.size 0 29 (suA u a).toList _ (fun j v hv => by
      have hk := (HS.out n.w n.h).blk
      rw [Nat.zero_add]
      simp only [World.cell?, hk]
      rw [← Array.getElem?_toList]
      exact hv) Tryz.underlying29 rfl infoSu5
  have HN : Hid (¬ Deal8 u.par d → ∀ X, Below W2.heap.size W2 X → BoolQ (Deal8 u.par d) w (.returned (.bool false)) X) := Lib.hid fun h X hX => BoolQ.no h (HS.out X hX).bw
  have HY : Hid (Da1 u.par d → Da2 u.par d → Da3 d → ∀ (r : Bool) X, (r = true ↔ Da4 d) → Below W2.heap.size W2 X → BoolQ (Deal8 u.par d) w (.returned (.bool r)) X) := Lib.hid fun h1 h2 h3 r X hr hX => ⟨r, rfl, by rw [hr, deal8]; exact ⟨fun h4 => ⟨h1, h2, h3, h4⟩, fun h => h.2.2.2⟩, (HS.out X hX).bw⟩
  generalize BoolQ (Deal8 u.par d) w = CP at *
  have HW : Hid ((w.alloc (.cells #[.slice a.PA u.par.length a.pc, .slice a.DA u.dl.length a.dc, .slice a.FA u.fd.length a.fc, .slice a.RA u.rest.length a.rc, .slice a.HA u.hol.length a.hc] 29)).alloc (.cells U 72) = W2) := Lib.hid (by rw [hW2, hw1])
  have HIs := Lib.hid (show (Tryz.prog.info? 72).map (·.size) = some U.size by rw [hU]; exact infoDl17)
  have HZ := Lib.hid hz
  rw [← hU]
  clear hw1 hW2 hs1 hb12 hd2 hdl hA hU hz
  go_enter Tryz.func36, Tryz.ntmps36
  go_upto_region 1 with fail
  rw [HW.out]
  clear HW
  go_cut [58] from 5 to 58 (fun v wx => ∃ b : Bool, v = .bool b ∧ Hid (Falls b (Da1 u.par d)) ∧ Hid (Below W2.heap.size W2 wx))
  case first =>
    clear HN HY HIs
    have o0 : ∀ n : WC W2.heap.size W2, n.w.cell? ⟨w.heap.size + 1, 0, none⟩ = some (.string d.num) := fun n => HDc.out n.w n.h 0 _ rfl
    have o1 : ∀ n : WC W2.heap.size W2, n.w.cell? ⟨w.heap.size + 1, 1, none⟩ = some (.string d.sel) := fun n => HDc.out n.w n.h 1 _ rfl
    have o2 : ∀ n : WC W2.heap.size W2, n.w.cell? ⟨w.heap.size + 1, 2, none⟩ = some (.string d.buy) := fun n => HDc.out n.w n.h 2 _ rfl
    have o3 : ∀ n : WC W2.heap.size W2, n.w.cell? ⟨w.heap.size + 1, 3, none⟩ = some (.string d.car) := fun n => HDc.out n.w n.h 3 _ rfl
    have o4 : ∀ n : WC W2.heap.size W2, n.w.cell? ⟨w.heap.size + 1, 4, none⟩ = some (.string d.iss) := fun n => HDc.out n.w n.h 4 _ rfl
    have HK1 := Lib.hid (fun n : WC W2.heap.size W2 => HKd.out n.w d.sel n.h)
    have HK2 := Lib.hid (fun n : WC W2.heap.size W2 => HKd.out n.w d.buy n.h)
    have HK3 := Lib.hid (fun n : WC W2.heap.size W2 => HKd.out n.w d.car n.h)
    have HK4 := Lib.hid (fun n : WC W2.heap.size W2 => HKd.out n.w d.iss n.h)
    have HBk := Lib.hid (fun n : WC W2.heap.size W2 => HBd.out n.w d.buy n.h)
    have HNm : Hid (∀ n : WC W2.heap.size W2, Calls Tryz.prog 33 #[.string d.num] n.w fun e w' => e = .returned (.bool (nameB d.num.data.toList)) ∧ Below n.w.heap.size n.w w') := Lib.hid fun n => (ref6Name_any d.num n.w (HZ.out _ (by simp))).mono fun _ _ ⟨h1, h2⟩ => ⟨h1, h2 ▸ Below.refl _ _⟩
    have hD1 : Da1 u.par d ↔ (nmOk d.num ∧ d.num.size ≤ 13) ∧ kindF u.par d.sel = 0 ∧ kindF u.par d.buy = 0 ∧ d.sel ≠ d.buy ∧ kindF u.par d.car = 1 ∧ kindF u.par d.iss = 2 ∧ bankF u.par d.buy = d.iss := Iff.rfl
    generalize kindF u.par d.sel = ks at *
    generalize kindF u.par d.buy = kb at *
    generalize kindF u.par d.car = kc at *
    generalize kindF u.par d.iss = ki at *
    generalize bankF u.par d.buy = bf at *
    have HD := Lib.hid hD1
    clear hD1 HS HDc HKd HBd
    by_cases h0 : nameB d.num.data.toList = true
    · rw [h0] at HNm
      by_cases h1 : d.num.size ≤ 13
      · have b1 : decide ((13 : Int) < (d.num.size : Int)) = false := by simp; omega
        by_cases h2 : ks = 0
        · have b2 : (ks == 0) = true := by rw [beq_iff_eq]; exact h2
          have c2 : (ks != 0) = false := by rw [bne, b2]; rfl
          by_cases h3 : kb = 0
          · have b3 : (kb == 0) = true := by rw [beq_iff_eq]; exact h3
            have c3 : (kb != 0) = false := by rw [bne, b3]; rfl
            by_cases h4 : d.sel ≠ d.buy
            · have b4 : (d.sel.toList == d.buy.toList) = false := by rw [ba_beq]; simp [h4]
              by_cases h5 : kc = 1
              · have b5 : (kc == 1) = true := by rw [beq_iff_eq]; exact h5
                have c5 : (kc != 1) = false := by rw [bne, b5]; rfl
                by_cases h6 : ki = 2
                · have b6 : (ki == 2) = true := by rw [beq_iff_eq]; exact h6
                  have c6 : (ki != 2) = false := by rw [bne, b6]; rfl
                  by_cases h7 : bf = d.iss
                  · have b7 : (bf.toList == d.iss.toList) = true := by rw [h7]; simp
                    have c7 : (bf.toList != d.iss.toList) = false := by rw [bne, b7]; rfl
                    have HX : Hid (Falls false (Da1 u.par d)) := Lib.hid (show (false : Bool) = false ↔ Da1 u.par d from ⟨fun _ => HD.out.2 ⟨⟨h0, h1⟩, h2, h3, h4, h5, h6, h7⟩, fun _ => rfl⟩)
                    clear HD h0 h1 h2 h3 h4 h5 h6 h7
                    refine wp_region_class (by kernel_rfl) (by kernel_rfl) ?_
                    repeat (first
                      | (refine wpQuiet_load (by rfl) 29 (.tmp 2) rfl ⟨w.heap.size, 0, none⟩ rfl (.agg #[.slice a.PA u.par.length a.pc, .slice a.DA u.dl.length a.dc, .slice a.FA u.fd.length a.fc, .slice a.RA u.rest.length a.rc, .slice a.HA u.hol.length a.hc]) HLd.out ?_; simp only [Act.put, List.setIfInBounds_toArray, List.set_cons_zero, List.set_cons_succ])
                      | go_big_quiet_step (first
                        | (go_at_call 33; with_reducible exact Calls.class_of (Nat.le_refl _) (HNm.out _))
                        | (go_at_call 35; first | (with_reducible exact Calls.class_of (Nat.le_refl _) (HK1.out _)) | (with_reducible exact Calls.class_of (Nat.le_refl _) (HK2.out _)) | (with_reducible exact Calls.class_of (Nat.le_refl _) (HK3.out _)) | (with_reducible exact Calls.class_of (Nat.le_refl _) (HK4.out _)))
                        | (go_at_call 38; with_reducible exact Calls.class_of (Nat.le_refl _) (HBk.out _))))
                    refine wpQuiet_nil ?_
                    rintro w' ⟨n, rfl⟩
                    have HBn := Lib.hid n.h
                    generalize n.w = w3 at *
                    go_wp2_with fail
                    go_meet
                    case rel => exact ⟨false, rfl, HX, HBn⟩
                  · have b7 : (bf.toList == d.iss.toList) = false := by rw [ba_beq]; simp [h7]
                    have c7 : (bf.toList != d.iss.toList) = true := by rw [bne, b7]; rfl
                    have c8 : ¬ bf.toList = d.iss.toList := by simpa using b7
                    have HX : Hid (Falls true (Da1 u.par d)) := Lib.hid (show (true : Bool) = false ↔ Da1 u.par d from ⟨fun h => (by cases h), fun h => absurd h (fun h => h7 (HD.out.1 h).2.2.2.2.2.2)⟩)
                    clear HD h0 h1 h2 h3 h4 h5 h6 h7
                    refine wp_region_class (by kernel_rfl) (by kernel_rfl) ?_
                    repeat (first
                      | (refine wpQuiet_load (by rfl) 29 (.tmp 2) rfl ⟨w.heap.size, 0, none⟩ rfl (.agg #[.slice a.PA u.par.length a.pc, .slice a.DA u.dl.length a.dc, .slice a.FA u.fd.length a.fc, .slice a.RA u.rest.length a.rc, .slice a.HA u.hol.length a.hc]) HLd.out ?_; simp only [Act.put, List.setIfInBounds_toArray, List.set_cons_zero, List.set_cons_succ])
                      | go_big_quiet_step (first
                        | (go_at_call 33; with_reducible exact Calls.class_of (Nat.le_refl _) (HNm.out _))
                        | (go_at_call 35; first | (with_reducible exact Calls.class_of (Nat.le_refl _) (HK1.out _)) | (with_reducible exact Calls.class_of (Nat.le_refl _) (HK2.out _)) | (with_reducible exact Calls.class_of (Nat.le_refl _) (HK3.out _)) | (with_reducible exact Calls.class_of (Nat.le_refl _) (HK4.out _)))
                        | (go_at_call 38; with_reducible exact Calls.class_of (Nat.le_refl _) (HBk.out _))))
                    refine wpQuiet_nil ?_
                    rintro w' ⟨n, rfl⟩
                    have HBn := Lib.hid n.h
                    generalize n.w = w3 at *
                    go_wp2_with fail
                    go_meet
                    case rel => exact ⟨true, rfl, HX, HBn⟩
                · have b6 : (ki == 2) = false := by rw [beq_eq_false_iff_ne]; exact h6
                  have c6 : (ki != 2) = true := by rw [bne, b6]; rfl
                  have HX : Hid (Falls true (Da1 u.par d)) := Lib.hid (show (true : Bool) = false ↔ Da1 u.par d from ⟨fun h => (by cases h), fun h => absurd h (fun h => h6 (HD.out.1 h).2.2.2.2.2.1)⟩)
                  clear HD h0 h1 h2 h3 h4 h5 h6
                  refine wp_region_class (by kernel_rfl) (by kernel_rfl) ?_
                  repeat (first
                    | (refine wpQuiet_load (by rfl) 29 (.tmp 2) rfl ⟨w.heap.size, 0, none⟩ rfl (.agg #[.slice a.PA u.par.length a.pc, .slice a.DA u.dl.length a.dc, .slice a.FA u.fd.length a.fc, .slice a.RA u.rest.length a.rc, .slice a.HA u.hol.length a.hc]) HLd.out ?_; simp only [Act.put, List.setIfInBounds_toArray, List.set_cons_zero, List.set_cons_succ])
                    | go_big_quiet_step (first
                      | (go_at_call 33; with_reducible exact Calls.class_of (Nat.le_refl _) (HNm.out _))
                      | (go_at_call 35; first | (with_reducible exact Calls.class_of (Nat.le_refl _) (HK1.out _)) | (with_reducible exact Calls.class_of (Nat.le_refl _) (HK2.out _)) | (with_reducible exact Calls.class_of (Nat.le_refl _) (HK3.out _)) | (with_reducible exact Calls.class_of (Nat.le_refl _) (HK4.out _)))
                      | (go_at_call 38; with_reducible exact Calls.class_of (Nat.le_refl _) (HBk.out _))))
                  refine wpQuiet_nil ?_
                  rintro w' ⟨n, rfl⟩
                  have HBn := Lib.hid n.h
                  generalize n.w = w3 at *
                  go_wp2_with fail
                  go_meet
                  case rel => exact ⟨true, rfl, HX, HBn⟩
              · have b5 : (kc == 1) = false := by rw [beq_eq_false_iff_ne]; exact h5
                have c5 : (kc != 1) = true := by rw [bne, b5]; rfl
                have HX : Hid (Falls true (Da1 u.par d)) := Lib.hid (show (true : Bool) = false ↔ Da1 u.par d from ⟨fun h => (by cases h), fun h => absurd h (fun h => h5 (HD.out.1 h).2.2.2.2.1)⟩)
                clear HD h0 h1 h2 h3 h4 h5
                refine wp_region_class (by kernel_rfl) (by kernel_rfl) ?_
                repeat (first
                  | (refine wpQuiet_load (by rfl) 29 (.tmp 2) rfl ⟨w.heap.size, 0, none⟩ rfl (.agg #[.slice a.PA u.par.length a.pc, .slice a.DA u.dl.length a.dc, .slice a.FA u.fd.length a.fc, .slice a.RA u.rest.length a.rc, .slice a.HA u.hol.length a.hc]) HLd.out ?_; simp only [Act.put, List.setIfInBounds_toArray, List.set_cons_zero, List.set_cons_succ])
                  | go_big_quiet_step (first
                    | (go_at_call 33; with_reducible exact Calls.class_of (Nat.le_refl _) (HNm.out _))
                    | (go_at_call 35; first | (with_reducible exact Calls.class_of (Nat.le_refl _) (HK1.out _)) | (with_reducible exact Calls.class_of (Nat.le_refl _) (HK2.out _)) | (with_reducible exact Calls.class_of (Nat.le_refl _) (HK3.out _)) | (with_reducible exact Calls.class_of (Nat.le_refl _) (HK4.out _)))
                    | (go_at_call 38; with_reducible exact Calls.class_of (Nat.le_refl _) (HBk.out _))))
                refine wpQuiet_nil ?_
                rintro w' ⟨n, rfl⟩
                have HBn := Lib.hid n.h
                generalize n.w = w3 at *
                go_wp2_with fail
                go_meet
                case rel => exact ⟨true, rfl, HX, HBn⟩
            · have b4 : (d.sel.toList == d.buy.toList) = true := by rw [ba_beq]; simpa using h4
              have HX : Hid (Falls true (Da1 u.par d)) := Lib.hid (show (true : Bool) = false ↔ Da1 u.par d from ⟨fun h => (by cases h), fun h => absurd h (fun h => h4 (HD.out.1 h).2.2.2.1)⟩)
              clear HD h0 h1 h2 h3 h4
              refine wp_region_class (by kernel_rfl) (by kernel_rfl) ?_
              repeat (first
                | (refine wpQuiet_load (by rfl) 29 (.tmp 2) rfl ⟨w.heap.size, 0, none⟩ rfl (.agg #[.slice a.PA u.par.length a.pc, .slice a.DA u.dl.length a.dc, .slice a.FA u.fd.length a.fc, .slice a.RA u.rest.length a.rc, .slice a.HA u.hol.length a.hc]) HLd.out ?_; simp only [Act.put, List.setIfInBounds_toArray, List.set_cons_zero, List.set_cons_succ])
                | go_big_quiet_step (first
                  | (go_at_call 33; with_reducible exact Calls.class_of (Nat.le_refl _) (HNm.out _))
                  | (go_at_call 35; first | (with_reducible exact Calls.class_of (Nat.le_refl _) (HK1.out _)) | (with_reducible exact Calls.class_of (Nat.le_refl _) (HK2.out _)) | (with_reducible exact Calls.class_of (Nat.le_refl _) (HK3.out _)) | (with_reducible exact Calls.class_of (Nat.le_refl _) (HK4.out _)))
                  | (go_at_call 38; with_reducible exact Calls.class_of (Nat.le_refl _) (HBk.out _))))
              refine wpQuiet_nil ?_
              rintro w' ⟨n, rfl⟩
              have HBn := Lib.hid n.h
              generalize n.w = w3 at *
              go_wp2_with fail
              go_meet
              case rel => exact ⟨true, rfl, HX, HBn⟩
          · have b3 : (kb == 0) = false := by rw [beq_eq_false_iff_ne]; exact h3
            have c3 : (kb != 0) = true := by rw [bne, b3]; rfl
            have HX : Hid (Falls true (Da1 u.par d)) := Lib.hid (show (true : Bool) = false ↔ Da1 u.par d from ⟨fun h => (by cases h), fun h => absurd h (fun h => h3 (HD.out.1 h).2.2.1)⟩)
            clear HD h0 h1 h2 h3
            refine wp_region_class (by kernel_rfl) (by kernel_rfl) ?_
            repeat (first
              | (refine wpQuiet_load (by rfl) 29 (.tmp 2) rfl ⟨w.heap.size, 0, none⟩ rfl (.agg #[.slice a.PA u.par.length a.pc, .slice a.DA u.dl.length a.dc, .slice a.FA u.fd.length a.fc, .slice a.RA u.rest.length a.rc, .slice a.HA u.hol.length a.hc]) HLd.out ?_; simp only [Act.put, List.setIfInBounds_toArray, List.set_cons_zero, List.set_cons_succ])
              | go_big_quiet_step (first
                | (go_at_call 33; with_reducible exact Calls.class_of (Nat.le_refl _) (HNm.out _))
                | (go_at_call 35; first | (with_reducible exact Calls.class_of (Nat.le_refl _) (HK1.out _)) | (with_reducible exact Calls.class_of (Nat.le_refl _) (HK2.out _)) | (with_reducible exact Calls.class_of (Nat.le_refl _) (HK3.out _)) | (with_reducible exact Calls.class_of (Nat.le_refl _) (HK4.out _)))
                | (go_at_call 38; with_reducible exact Calls.class_of (Nat.le_refl _) (HBk.out _))))
            refine wpQuiet_nil ?_
            rintro w' ⟨n, rfl⟩
            have HBn := Lib.hid n.h
            generalize n.w = w3 at *
            go_wp2_with fail
            go_meet
            case rel => exact ⟨true, rfl, HX, HBn⟩
        · have b2 : (ks == 0) = false := by rw [beq_eq_false_iff_ne]; exact h2
          have c2 : (ks != 0) = true := by rw [bne, b2]; rfl
          have HX : Hid (Falls true (Da1 u.par d)) := Lib.hid (show (true : Bool) = false ↔ Da1 u.par d from ⟨fun h => (by cases h), fun h => absurd h (fun h => h2 (HD.out.1 h).2.1)⟩)
          clear HD h0 h1 h2
          refine wp_region_class (by kernel_rfl) (by kernel_rfl) ?_
          repeat (first
            | (refine wpQuiet_load (by rfl) 29 (.tmp 2) rfl ⟨w.heap.size, 0, none⟩ rfl (.agg #[.slice a.PA u.par.length a.pc, .slice a.DA u.dl.length a.dc, .slice a.FA u.fd.length a.fc, .slice a.RA u.rest.length a.rc, .slice a.HA u.hol.length a.hc]) HLd.out ?_; simp only [Act.put, List.setIfInBounds_toArray, List.set_cons_zero, List.set_cons_succ])
            | go_big_quiet_step (first
              | (go_at_call 33; with_reducible exact Calls.class_of (Nat.le_refl _) (HNm.out _))
              | (go_at_call 35; first | (with_reducible exact Calls.class_of (Nat.le_refl _) (HK1.out _)) | (with_reducible exact Calls.class_of (Nat.le_refl _) (HK2.out _)) | (with_reducible exact Calls.class_of (Nat.le_refl _) (HK3.out _)) | (with_reducible exact Calls.class_of (Nat.le_refl _) (HK4.out _)))
              | (go_at_call 38; with_reducible exact Calls.class_of (Nat.le_refl _) (HBk.out _))))
          refine wpQuiet_nil ?_
          rintro w' ⟨n, rfl⟩
          have HBn := Lib.hid n.h
          generalize n.w = w3 at *
          go_wp2_with fail
          go_meet
          case rel => exact ⟨true, rfl, HX, HBn⟩
      · have b1 : decide ((13 : Int) < (d.num.size : Int)) = true := by simp; omega
        have HX : Hid (Falls true (Da1 u.par d)) := Lib.hid (show (true : Bool) = false ↔ Da1 u.par d from ⟨fun h => (by cases h), fun h => absurd h (fun h => h1 (HD.out.1 h).1.2)⟩)
        clear HD h0 h1
        refine wp_region_class (by kernel_rfl) (by kernel_rfl) ?_
        repeat (first
          | (refine wpQuiet_load (by rfl) 29 (.tmp 2) rfl ⟨w.heap.size, 0, none⟩ rfl (.agg #[.slice a.PA u.par.length a.pc, .slice a.DA u.dl.length a.dc, .slice a.FA u.fd.length a.fc, .slice a.RA u.rest.length a.rc, .slice a.HA u.hol.length a.hc]) HLd.out ?_; simp only [Act.put, List.setIfInBounds_toArray, List.set_cons_zero, List.set_cons_succ])
          | go_big_quiet_step (first
            | (go_at_call 33; with_reducible exact Calls.class_of (Nat.le_refl _) (HNm.out _))
            | (go_at_call 35; first | (with_reducible exact Calls.class_of (Nat.le_refl _) (HK1.out _)) | (with_reducible exact Calls.class_of (Nat.le_refl _) (HK2.out _)) | (with_reducible exact Calls.class_of (Nat.le_refl _) (HK3.out _)) | (with_reducible exact Calls.class_of (Nat.le_refl _) (HK4.out _)))
            | (go_at_call 38; with_reducible exact Calls.class_of (Nat.le_refl _) (HBk.out _))))
        refine wpQuiet_nil ?_
        rintro w' ⟨n, rfl⟩
        have HBn := Lib.hid n.h
        generalize n.w = w3 at *
        go_wp2_with fail
        go_meet
        case rel => exact ⟨true, rfl, HX, HBn⟩
    · rw [Bool.not_eq_true] at h0
      rw [h0] at HNm
      have HX : Hid (Falls true (Da1 u.par d)) := Lib.hid (show (true : Bool) = false ↔ Da1 u.par d from ⟨fun h => (by cases h), fun h => absurd h (fun h => by have := (HD.out.1 h).1.1; unfold nmOk at this; rw [h0] at this; cases this)⟩)
      clear HD h0
      refine wp_region_class (by kernel_rfl) (by kernel_rfl) ?_
      repeat (first
        | (refine wpQuiet_load (by rfl) 29 (.tmp 2) rfl ⟨w.heap.size, 0, none⟩ rfl (.agg #[.slice a.PA u.par.length a.pc, .slice a.DA u.dl.length a.dc, .slice a.FA u.fd.length a.fc, .slice a.RA u.rest.length a.rc, .slice a.HA u.hol.length a.hc]) HLd.out ?_; simp only [Act.put, List.setIfInBounds_toArray, List.set_cons_zero, List.set_cons_succ])
        | go_big_quiet_step (first
          | (go_at_call 33; with_reducible exact Calls.class_of (Nat.le_refl _) (HNm.out _))
          | (go_at_call 35; first | (with_reducible exact Calls.class_of (Nat.le_refl _) (HK1.out _)) | (with_reducible exact Calls.class_of (Nat.le_refl _) (HK2.out _)) | (with_reducible exact Calls.class_of (Nat.le_refl _) (HK3.out _)) | (with_reducible exact Calls.class_of (Nat.le_refl _) (HK4.out _)))
          | (go_at_call 38; with_reducible exact Calls.class_of (Nat.le_refl _) (HBk.out _))))
      refine wpQuiet_nil ?_
      rintro w' ⟨n, rfl⟩
      have HBn := Lib.hid n.h
      generalize n.w = w3 at *
      go_wp2_with fail
      go_meet
      case rel => exact ⟨true, rfl, HX, HBn⟩
  case rest =>
    obtain ⟨b, rfl, HC1, HB⟩ := hcut
    cases b with
    | true =>
      have HX := Lib.hid (HN.out (fun h => by have := HC1.out.2 (deal8.1 h).1; cases this) _ HB.out)
      clear HN HY
      go_wp2_with fail
      first
        | exact HX.out
        | (go_ret; exact HX.out)
    | false =>
      have HH1 := Lib.hid (HC1.out.1 rfl)
      clear HC1

      go_upto_region 3 with fail
      go_cut [92] from 59 to 92 (fun v wx => ∃ b : Bool, v = .bool b ∧ Hid (Falls b (Da2 u.par d)) ∧ Hid (Below W2.heap.size W2 wx))
      case first =>
        clear HN HY HIs HH1 HLd HBd
        have HBC := HB
        clear HB
        have HNf := Lib.hid (fun X => ref6Name_any d.frm X (HZ.out _ (by simp)))
        have HNd := Lib.hid (fun X => ref6Name_any d.dst X (HZ.out _ (by simp)))
        obtain ⟨k0, k1, k2, k3, k4, kl, _, _⟩ := HS.out wc HBC.out
        have e5 := HDc.out wc HBC.out 5 _ (show (dlA d A c)[5]? = some (.string d.hou) from rfl)
        have e6 := HDc.out wc HBC.out 6 _ (show (dlA d A c)[6]? = some (.string d.ins) from rfl)
        have e7 := HDc.out wc HBC.out 7 _ (show (dlA d A c)[7]? = some (.string d.frm) from rfl)
        have e8 := HDc.out wc HBC.out 8 _ (show (dlA d A c)[8]? = some (.string d.dst) from rfl)
        by_cases hh : d.hou.size = 0
        · have i0 : (d.hou.toList == []) = true := by rw [size0.1 hh]; rfl
          have i1 : (d.hou.toList != []) = false := by rw [bne, i0]; rfl
          by_cases hi : d.ins.size = 0
          · have j0 : (d.ins.toList == []) = true := by rw [size0.1 hi]; rfl
            have j1 : (d.ins.toList != []) = false := by rw [bne, j0]; rfl
            by_cases hf : nameB d.frm.data.toList = true
            · rw [hf] at HNf
              by_cases hd : nameB d.dst.data.toList = true
              · rw [hd] at HNd
                have HX : Hid (Falls false (Da2 u.par d)) := Lib.hid (show (false : Bool) = false ↔ Da2 u.par d from ⟨fun _ => ⟨.inl hh, .inl hi, hf, hd⟩, fun _ => rfl⟩)
                clear hf hd
                clear hi
                clear hh
                go_wp2_with (first
                  | (go_at_call 33; (with_reducible refine (HNf.out _).mono ?_); rintro e w' ⟨rfl, h⟩; subst h)
                  | (go_at_call 33; (with_reducible refine (HNd.out _).mono ?_); rintro e w' ⟨rfl, h⟩; subst h)
                  | fail)
                go_meet
                case rel => exact ⟨false, rfl, HX, HBC⟩
              · rw [Bool.not_eq_true] at hd
                rw [hd] at HNd
                have HX : Hid (Falls true (Da2 u.par d)) := Lib.hid (show (true : Bool) = false ↔ Da2 u.par d from ⟨fun h => (by cases h), fun h => absurd h (fun h => by have := h.2.2.2; unfold nmOk at this; rw [hd] at this; cases this)⟩)
                clear hf hd
                clear hi
                clear hh
                go_wp2_with (first
                  | (go_at_call 33; (with_reducible refine (HNf.out _).mono ?_); rintro e w' ⟨rfl, h⟩; subst h)
                  | (go_at_call 33; (with_reducible refine (HNd.out _).mono ?_); rintro e w' ⟨rfl, h⟩; subst h)
                  | fail)
                go_meet
                case rel => exact ⟨true, rfl, HX, HBC⟩
            · rw [Bool.not_eq_true] at hf
              rw [hf] at HNf
              have HX : Hid (Falls true (Da2 u.par d)) := Lib.hid (show (true : Bool) = false ↔ Da2 u.par d from ⟨fun h => (by cases h), fun h => absurd h (fun h => by have := h.2.2.1; unfold nmOk at this; rw [hf] at this; cases this)⟩)
              clear hf
              clear hi
              clear hh
              go_wp2_with (first
                | (go_at_call 33; (with_reducible refine (HNf.out _).mono ?_); rintro e w' ⟨rfl, h⟩; subst h)
                | (go_at_call 33; (with_reducible refine (HNd.out _).mono ?_); rintro e w' ⟨rfl, h⟩; subst h)
                | fail)
              go_meet
              case rel => exact ⟨true, rfl, HX, HBC⟩
          · have j0 : (d.ins.toList == []) = false := by
              rw [beq_eq_false_iff_ne]
              exact fun h => hi (size0.2 h)
            have j1 : (d.ins.toList != []) = true := by rw [bne, j0]; rfl
            by_cases hk : kindF u.par d.ins = 4
            · by_cases hf : nameB d.frm.data.toList = true
              · rw [hf] at HNf
                by_cases hd : nameB d.dst.data.toList = true
                · rw [hd] at HNd
                  have HX : Hid (Falls false (Da2 u.par d)) := Lib.hid (show (false : Bool) = false ↔ Da2 u.par d from ⟨fun _ => ⟨.inl hh, .inr hk, hf, hd⟩, fun _ => rfl⟩)
                  clear hf hd
                  clear hi
                  clear hh
                  go_wp2_with fail
                  refine (HKd.out _ d.ins HBC.out).mono ?_
                  rintro e w5 ⟨rfl, hb5⟩
                  have HB5 := Lib.hid (HBC.out.trans (hb5.mono HBC.out.size))
                  clear hb5 HBC k0 k1 k2 k3 k4 kl
                  have HBC := HB5
                  clear HB5
                  obtain ⟨k0, k1, k2, k3, k4, kl, _, _⟩ := HS.out w5 HBC.out
                  clear e5 e6 e7 e8
                  have e5 := HDc.out w5 HBC.out 5 _ (show (dlA d A c)[5]? = some (.string d.hou) from rfl)
                  have e6 := HDc.out w5 HBC.out 6 _ (show (dlA d A c)[6]? = some (.string d.ins) from rfl)
                  have e7 := HDc.out w5 HBC.out 7 _ (show (dlA d A c)[7]? = some (.string d.frm) from rfl)
                  have e8 := HDc.out w5 HBC.out 8 _ (show (dlA d A c)[8]? = some (.string d.dst) from rfl)
                  rw [hk]
                  clear hk
                  go_wp2_with (first
                    | (go_at_call 33; (with_reducible refine (HNf.out _).mono ?_); rintro e w' ⟨rfl, h⟩; subst h)
                    | (go_at_call 33; (with_reducible refine (HNd.out _).mono ?_); rintro e w' ⟨rfl, h⟩; subst h)
                    | fail)
                  go_meet
                  case rel => exact ⟨false, rfl, HX, HBC⟩
                · rw [Bool.not_eq_true] at hd
                  rw [hd] at HNd
                  have HX : Hid (Falls true (Da2 u.par d)) := Lib.hid (show (true : Bool) = false ↔ Da2 u.par d from ⟨fun h => (by cases h), fun h => absurd h (fun h => by have := h.2.2.2; unfold nmOk at this; rw [hd] at this; cases this)⟩)
                  clear hf hd
                  clear hi
                  clear hh
                  go_wp2_with fail
                  refine (HKd.out _ d.ins HBC.out).mono ?_
                  rintro e w5 ⟨rfl, hb5⟩
                  have HB5 := Lib.hid (HBC.out.trans (hb5.mono HBC.out.size))
                  clear hb5 HBC k0 k1 k2 k3 k4 kl
                  have HBC := HB5
                  clear HB5
                  obtain ⟨k0, k1, k2, k3, k4, kl, _, _⟩ := HS.out w5 HBC.out
                  clear e5 e6 e7 e8
                  have e5 := HDc.out w5 HBC.out 5 _ (show (dlA d A c)[5]? = some (.string d.hou) from rfl)
                  have e6 := HDc.out w5 HBC.out 6 _ (show (dlA d A c)[6]? = some (.string d.ins) from rfl)
                  have e7 := HDc.out w5 HBC.out 7 _ (show (dlA d A c)[7]? = some (.string d.frm) from rfl)
                  have e8 := HDc.out w5 HBC.out 8 _ (show (dlA d A c)[8]? = some (.string d.dst) from rfl)
                  rw [hk]
                  clear hk
                  go_wp2_with (first
                    | (go_at_call 33; (with_reducible refine (HNf.out _).mono ?_); rintro e w' ⟨rfl, h⟩; subst h)
                    | (go_at_call 33; (with_reducible refine (HNd.out _).mono ?_); rintro e w' ⟨rfl, h⟩; subst h)
                    | fail)
                  go_meet
                  case rel => exact ⟨true, rfl, HX, HBC⟩
              · rw [Bool.not_eq_true] at hf
                rw [hf] at HNf
                have HX : Hid (Falls true (Da2 u.par d)) := Lib.hid (show (true : Bool) = false ↔ Da2 u.par d from ⟨fun h => (by cases h), fun h => absurd h (fun h => by have := h.2.2.1; unfold nmOk at this; rw [hf] at this; cases this)⟩)
                clear hf
                clear hi
                clear hh
                go_wp2_with fail
                refine (HKd.out _ d.ins HBC.out).mono ?_
                rintro e w5 ⟨rfl, hb5⟩
                have HB5 := Lib.hid (HBC.out.trans (hb5.mono HBC.out.size))
                clear hb5 HBC k0 k1 k2 k3 k4 kl
                have HBC := HB5
                clear HB5
                obtain ⟨k0, k1, k2, k3, k4, kl, _, _⟩ := HS.out w5 HBC.out
                clear e5 e6 e7 e8
                have e5 := HDc.out w5 HBC.out 5 _ (show (dlA d A c)[5]? = some (.string d.hou) from rfl)
                have e6 := HDc.out w5 HBC.out 6 _ (show (dlA d A c)[6]? = some (.string d.ins) from rfl)
                have e7 := HDc.out w5 HBC.out 7 _ (show (dlA d A c)[7]? = some (.string d.frm) from rfl)
                have e8 := HDc.out w5 HBC.out 8 _ (show (dlA d A c)[8]? = some (.string d.dst) from rfl)
                rw [hk]
                clear hk
                go_wp2_with (first
                  | (go_at_call 33; (with_reducible refine (HNf.out _).mono ?_); rintro e w' ⟨rfl, h⟩; subst h)
                  | (go_at_call 33; (with_reducible refine (HNd.out _).mono ?_); rintro e w' ⟨rfl, h⟩; subst h)
                  | fail)
                go_meet
                case rel => exact ⟨true, rfl, HX, HBC⟩
            · have l0 : (kindF u.par d.ins == 4) = false := by rw [beq_eq_false_iff_ne]; exact hk
              have l1 : (kindF u.par d.ins != 4) = true := by rw [bne, l0]; rfl
              have HX : Hid (Falls true (Da2 u.par d)) := Lib.hid (show (true : Bool) = false ↔ Da2 u.par d from ⟨fun h => (by cases h), fun h => absurd h (fun h => h.2.1.elim hi hk)⟩)
              clear hi hk
              clear hh
              go_wp2_with fail
              refine (HKd.out _ d.ins HBC.out).mono ?_
              rintro e w5 ⟨rfl, hb5⟩
              have HB5 := Lib.hid (HBC.out.trans (hb5.mono HBC.out.size))
              clear hb5 HBC k0 k1 k2 k3 k4 kl
              have HBC := HB5
              clear HB5
              obtain ⟨k0, k1, k2, k3, k4, kl, _, _⟩ := HS.out w5 HBC.out
              clear e5 e6 e7 e8
              have e5 := HDc.out w5 HBC.out 5 _ (show (dlA d A c)[5]? = some (.string d.hou) from rfl)
              have e6 := HDc.out w5 HBC.out 6 _ (show (dlA d A c)[6]? = some (.string d.ins) from rfl)
              have e7 := HDc.out w5 HBC.out 7 _ (show (dlA d A c)[7]? = some (.string d.frm) from rfl)
              have e8 := HDc.out w5 HBC.out 8 _ (show (dlA d A c)[8]? = some (.string d.dst) from rfl)
              generalize kindF u.par d.ins = kx at *
              go_wp2_with (first
                | (go_at_call 33; (with_reducible refine (HNf.out _).mono ?_); rintro e w' ⟨rfl, h⟩; subst h)
                | (go_at_call 33; (with_reducible refine (HNd.out _).mono ?_); rintro e w' ⟨rfl, h⟩; subst h)
                | fail)
              go_meet
              case rel => exact ⟨true, rfl, HX, HBC⟩
        · have i0 : (d.hou.toList == []) = false := by
            rw [beq_eq_false_iff_ne]
            exact fun h => hh (size0.2 h)
          have i1 : (d.hou.toList != []) = true := by rw [bne, i0]; rfl
          by_cases hg : kindF u.par d.hou = 3
          · by_cases hi : d.ins.size = 0
            · have j0 : (d.ins.toList == []) = true := by rw [size0.1 hi]; rfl
              have j1 : (d.ins.toList != []) = false := by rw [bne, j0]; rfl
              by_cases hf : nameB d.frm.data.toList = true
              · rw [hf] at HNf
                by_cases hd : nameB d.dst.data.toList = true
                · rw [hd] at HNd
                  have HX : Hid (Falls false (Da2 u.par d)) := Lib.hid (show (false : Bool) = false ↔ Da2 u.par d from ⟨fun _ => ⟨.inr hg, .inl hi, hf, hd⟩, fun _ => rfl⟩)
                  clear hf hd
                  clear hi
                  clear hh
                  go_wp2_with fail
                  refine (HKd.out _ d.hou HBC.out).mono ?_
                  rintro e w5 ⟨rfl, hb5⟩
                  have HB5 := Lib.hid (HBC.out.trans (hb5.mono HBC.out.size))
                  clear hb5 HBC k0 k1 k2 k3 k4 kl
                  have HBC := HB5
                  clear HB5
                  obtain ⟨k0, k1, k2, k3, k4, kl, _, _⟩ := HS.out w5 HBC.out
                  clear e5 e6 e7 e8
                  have e5 := HDc.out w5 HBC.out 5 _ (show (dlA d A c)[5]? = some (.string d.hou) from rfl)
                  have e6 := HDc.out w5 HBC.out 6 _ (show (dlA d A c)[6]? = some (.string d.ins) from rfl)
                  have e7 := HDc.out w5 HBC.out 7 _ (show (dlA d A c)[7]? = some (.string d.frm) from rfl)
                  have e8 := HDc.out w5 HBC.out 8 _ (show (dlA d A c)[8]? = some (.string d.dst) from rfl)
                  rw [hg]
                  clear hg
                  go_wp2_with (first
                    | (go_at_call 33; (with_reducible refine (HNf.out _).mono ?_); rintro e w' ⟨rfl, h⟩; subst h)
                    | (go_at_call 33; (with_reducible refine (HNd.out _).mono ?_); rintro e w' ⟨rfl, h⟩; subst h)
                    | fail)
                  go_meet
                  case rel => exact ⟨false, rfl, HX, HBC⟩
                · rw [Bool.not_eq_true] at hd
                  rw [hd] at HNd
                  have HX : Hid (Falls true (Da2 u.par d)) := Lib.hid (show (true : Bool) = false ↔ Da2 u.par d from ⟨fun h => (by cases h), fun h => absurd h (fun h => by have := h.2.2.2; unfold nmOk at this; rw [hd] at this; cases this)⟩)
                  clear hf hd
                  clear hi
                  clear hh
                  go_wp2_with fail
                  refine (HKd.out _ d.hou HBC.out).mono ?_
                  rintro e w5 ⟨rfl, hb5⟩
                  have HB5 := Lib.hid (HBC.out.trans (hb5.mono HBC.out.size))
                  clear hb5 HBC k0 k1 k2 k3 k4 kl
                  have HBC := HB5
                  clear HB5
                  obtain ⟨k0, k1, k2, k3, k4, kl, _, _⟩ := HS.out w5 HBC.out
                  clear e5 e6 e7 e8
                  have e5 := HDc.out w5 HBC.out 5 _ (show (dlA d A c)[5]? = some (.string d.hou) from rfl)
                  have e6 := HDc.out w5 HBC.out 6 _ (show (dlA d A c)[6]? = some (.string d.ins) from rfl)
                  have e7 := HDc.out w5 HBC.out 7 _ (show (dlA d A c)[7]? = some (.string d.frm) from rfl)
                  have e8 := HDc.out w5 HBC.out 8 _ (show (dlA d A c)[8]? = some (.string d.dst) from rfl)
                  rw [hg]
                  clear hg
                  go_wp2_with (first
                    | (go_at_call 33; (with_reducible refine (HNf.out _).mono ?_); rintro e w' ⟨rfl, h⟩; subst h)
                    | (go_at_call 33; (with_reducible refine (HNd.out _).mono ?_); rintro e w' ⟨rfl, h⟩; subst h)
                    | fail)
                  go_meet
                  case rel => exact ⟨true, rfl, HX, HBC⟩
              · rw [Bool.not_eq_true] at hf
                rw [hf] at HNf
                have HX : Hid (Falls true (Da2 u.par d)) := Lib.hid (show (true : Bool) = false ↔ Da2 u.par d from ⟨fun h => (by cases h), fun h => absurd h (fun h => by have := h.2.2.1; unfold nmOk at this; rw [hf] at this; cases this)⟩)
                clear hf
                clear hi
                clear hh
                go_wp2_with fail
                refine (HKd.out _ d.hou HBC.out).mono ?_
                rintro e w5 ⟨rfl, hb5⟩
                have HB5 := Lib.hid (HBC.out.trans (hb5.mono HBC.out.size))
                clear hb5 HBC k0 k1 k2 k3 k4 kl
                have HBC := HB5
                clear HB5
                obtain ⟨k0, k1, k2, k3, k4, kl, _, _⟩ := HS.out w5 HBC.out
                clear e5 e6 e7 e8
                have e5 := HDc.out w5 HBC.out 5 _ (show (dlA d A c)[5]? = some (.string d.hou) from rfl)
                have e6 := HDc.out w5 HBC.out 6 _ (show (dlA d A c)[6]? = some (.string d.ins) from rfl)
                have e7 := HDc.out w5 HBC.out 7 _ (show (dlA d A c)[7]? = some (.string d.frm) from rfl)
                have e8 := HDc.out w5 HBC.out 8 _ (show (dlA d A c)[8]? = some (.string d.dst) from rfl)
                rw [hg]
                clear hg
                go_wp2_with (first
                  | (go_at_call 33; (with_reducible refine (HNf.out _).mono ?_); rintro e w' ⟨rfl, h⟩; subst h)
                  | (go_at_call 33; (with_reducible refine (HNd.out _).mono ?_); rintro e w' ⟨rfl, h⟩; subst h)
                  | fail)
                go_meet
                case rel => exact ⟨true, rfl, HX, HBC⟩
            · have j0 : (d.ins.toList == []) = false := by
                rw [beq_eq_false_iff_ne]
                exact fun h => hi (size0.2 h)
              have j1 : (d.ins.toList != []) = true := by rw [bne, j0]; rfl
              by_cases hk : kindF u.par d.ins = 4
              · by_cases hf : nameB d.frm.data.toList = true
                · rw [hf] at HNf
                  by_cases hd : nameB d.dst.data.toList = true
                  · rw [hd] at HNd
                    have HX : Hid (Falls false (Da2 u.par d)) := Lib.hid (show (false : Bool) = false ↔ Da2 u.par d from ⟨fun _ => ⟨.inr hg, .inr hk, hf, hd⟩, fun _ => rfl⟩)
                    clear hf hd
                    clear hi
                    clear hh
                    go_wp2_with fail
                    refine (HKd.out _ d.hou HBC.out).mono ?_
                    rintro e w5 ⟨rfl, hb5⟩
                    have HB5 := Lib.hid (HBC.out.trans (hb5.mono HBC.out.size))
                    clear hb5 HBC k0 k1 k2 k3 k4 kl
                    have HBC := HB5
                    clear HB5
                    obtain ⟨k0, k1, k2, k3, k4, kl, _, _⟩ := HS.out w5 HBC.out
                    clear e5 e6 e7 e8
                    have e5 := HDc.out w5 HBC.out 5 _ (show (dlA d A c)[5]? = some (.string d.hou) from rfl)
                    have e6 := HDc.out w5 HBC.out 6 _ (show (dlA d A c)[6]? = some (.string d.ins) from rfl)
                    have e7 := HDc.out w5 HBC.out 7 _ (show (dlA d A c)[7]? = some (.string d.frm) from rfl)
                    have e8 := HDc.out w5 HBC.out 8 _ (show (dlA d A c)[8]? = some (.string d.dst) from rfl)
                    rw [hg]
                    clear hg
                    go_wp2_with fail
                    refine (HKd.out _ d.ins HBC.out).mono ?_
                    rintro e w5 ⟨rfl, hb5⟩
                    have HB5 := Lib.hid (HBC.out.trans (hb5.mono HBC.out.size))
                    clear hb5 HBC k0 k1 k2 k3 k4 kl
                    have HBC := HB5
                    clear HB5
                    obtain ⟨k0, k1, k2, k3, k4, kl, _, _⟩ := HS.out w5 HBC.out
                    clear e5 e6 e7 e8
                    have e5 := HDc.out w5 HBC.out 5 _ (show (dlA d A c)[5]? = some (.string d.hou) from rfl)
                    have e6 := HDc.out w5 HBC.out 6 _ (show (dlA d A c)[6]? = some (.string d.ins) from rfl)
                    have e7 := HDc.out w5 HBC.out 7 _ (show (dlA d A c)[7]? = some (.string d.frm) from rfl)
                    have e8 := HDc.out w5 HBC.out 8 _ (show (dlA d A c)[8]? = some (.string d.dst) from rfl)
                    rw [hk]
                    clear hk
                    go_wp2_with (first
                      | (go_at_call 33; (with_reducible refine (HNf.out _).mono ?_); rintro e w' ⟨rfl, h⟩; subst h)
                      | (go_at_call 33; (with_reducible refine (HNd.out _).mono ?_); rintro e w' ⟨rfl, h⟩; subst h)
                      | fail)
                    go_meet
                    case rel => exact ⟨false, rfl, HX, HBC⟩
                  · rw [Bool.not_eq_true] at hd
                    rw [hd] at HNd
                    have HX : Hid (Falls true (Da2 u.par d)) := Lib.hid (show (true : Bool) = false ↔ Da2 u.par d from ⟨fun h => (by cases h), fun h => absurd h (fun h => by have := h.2.2.2; unfold nmOk at this; rw [hd] at this; cases this)⟩)
                    clear hf hd
                    clear hi
                    clear hh
                    go_wp2_with fail
                    refine (HKd.out _ d.hou HBC.out).mono ?_
                    rintro e w5 ⟨rfl, hb5⟩
                    have HB5 := Lib.hid (HBC.out.trans (hb5.mono HBC.out.size))
                    clear hb5 HBC k0 k1 k2 k3 k4 kl
                    have HBC := HB5
                    clear HB5
                    obtain ⟨k0, k1, k2, k3, k4, kl, _, _⟩ := HS.out w5 HBC.out
                    clear e5 e6 e7 e8
                    have e5 := HDc.out w5 HBC.out 5 _ (show (dlA d A c)[5]? = some (.string d.hou) from rfl)
                    have e6 := HDc.out w5 HBC.out 6 _ (show (dlA d A c)[6]? = some (.string d.ins) from rfl)
                    have e7 := HDc.out w5 HBC.out 7 _ (show (dlA d A c)[7]? = some (.string d.frm) from rfl)
                    have e8 := HDc.out w5 HBC.out 8 _ (show (dlA d A c)[8]? = some (.string d.dst) from rfl)
                    rw [hg]
                    clear hg
                    go_wp2_with fail
                    refine (HKd.out _ d.ins HBC.out).mono ?_
                    rintro e w5 ⟨rfl, hb5⟩
                    have HB5 := Lib.hid (HBC.out.trans (hb5.mono HBC.out.size))
                    clear hb5 HBC k0 k1 k2 k3 k4 kl
                    have HBC := HB5
                    clear HB5
                    obtain ⟨k0, k1, k2, k3, k4, kl, _, _⟩ := HS.out w5 HBC.out
                    clear e5 e6 e7 e8
                    have e5 := HDc.out w5 HBC.out 5 _ (show (dlA d A c)[5]? = some (.string d.hou) from rfl)
                    have e6 := HDc.out w5 HBC.out 6 _ (show (dlA d A c)[6]? = some (.string d.ins) from rfl)
                    have e7 := HDc.out w5 HBC.out 7 _ (show (dlA d A c)[7]? = some (.string d.frm) from rfl)
                    have e8 := HDc.out w5 HBC.out 8 _ (show (dlA d A c)[8]? = some (.string d.dst) from rfl)
                    rw [hk]
                    clear hk
                    go_wp2_with (first
                      | (go_at_call 33; (with_reducible refine (HNf.out _).mono ?_); rintro e w' ⟨rfl, h⟩; subst h)
                      | (go_at_call 33; (with_reducible refine (HNd.out _).mono ?_); rintro e w' ⟨rfl, h⟩; subst h)
                      | fail)
                    go_meet
                    case rel => exact ⟨true, rfl, HX, HBC⟩
                · rw [Bool.not_eq_true] at hf
                  rw [hf] at HNf
                  have HX : Hid (Falls true (Da2 u.par d)) := Lib.hid (show (true : Bool) = false ↔ Da2 u.par d from ⟨fun h => (by cases h), fun h => absurd h (fun h => by have := h.2.2.1; unfold nmOk at this; rw [hf] at this; cases this)⟩)
                  clear hf
                  clear hi
                  clear hh
                  go_wp2_with fail
                  refine (HKd.out _ d.hou HBC.out).mono ?_
                  rintro e w5 ⟨rfl, hb5⟩
                  have HB5 := Lib.hid (HBC.out.trans (hb5.mono HBC.out.size))
                  clear hb5 HBC k0 k1 k2 k3 k4 kl
                  have HBC := HB5
                  clear HB5
                  obtain ⟨k0, k1, k2, k3, k4, kl, _, _⟩ := HS.out w5 HBC.out
                  clear e5 e6 e7 e8
                  have e5 := HDc.out w5 HBC.out 5 _ (show (dlA d A c)[5]? = some (.string d.hou) from rfl)
                  have e6 := HDc.out w5 HBC.out 6 _ (show (dlA d A c)[6]? = some (.string d.ins) from rfl)
                  have e7 := HDc.out w5 HBC.out 7 _ (show (dlA d A c)[7]? = some (.string d.frm) from rfl)
                  have e8 := HDc.out w5 HBC.out 8 _ (show (dlA d A c)[8]? = some (.string d.dst) from rfl)
                  rw [hg]
                  clear hg
                  go_wp2_with fail
                  refine (HKd.out _ d.ins HBC.out).mono ?_
                  rintro e w5 ⟨rfl, hb5⟩
                  have HB5 := Lib.hid (HBC.out.trans (hb5.mono HBC.out.size))
                  clear hb5 HBC k0 k1 k2 k3 k4 kl
                  have HBC := HB5
                  clear HB5
                  obtain ⟨k0, k1, k2, k3, k4, kl, _, _⟩ := HS.out w5 HBC.out
                  clear e5 e6 e7 e8
                  have e5 := HDc.out w5 HBC.out 5 _ (show (dlA d A c)[5]? = some (.string d.hou) from rfl)
                  have e6 := HDc.out w5 HBC.out 6 _ (show (dlA d A c)[6]? = some (.string d.ins) from rfl)
                  have e7 := HDc.out w5 HBC.out 7 _ (show (dlA d A c)[7]? = some (.string d.frm) from rfl)
                  have e8 := HDc.out w5 HBC.out 8 _ (show (dlA d A c)[8]? = some (.string d.dst) from rfl)
                  rw [hk]
                  clear hk
                  go_wp2_with (first
                    | (go_at_call 33; (with_reducible refine (HNf.out _).mono ?_); rintro e w' ⟨rfl, h⟩; subst h)
                    | (go_at_call 33; (with_reducible refine (HNd.out _).mono ?_); rintro e w' ⟨rfl, h⟩; subst h)
                    | fail)
                  go_meet
                  case rel => exact ⟨true, rfl, HX, HBC⟩
              · have l0 : (kindF u.par d.ins == 4) = false := by rw [beq_eq_false_iff_ne]; exact hk
                have l1 : (kindF u.par d.ins != 4) = true := by rw [bne, l0]; rfl
                have HX : Hid (Falls true (Da2 u.par d)) := Lib.hid (show (true : Bool) = false ↔ Da2 u.par d from ⟨fun h => (by cases h), fun h => absurd h (fun h => h.2.1.elim hi hk)⟩)
                clear hi hk
                clear hh
                go_wp2_with fail
                refine (HKd.out _ d.hou HBC.out).mono ?_
                rintro e w5 ⟨rfl, hb5⟩
                have HB5 := Lib.hid (HBC.out.trans (hb5.mono HBC.out.size))
                clear hb5 HBC k0 k1 k2 k3 k4 kl
                have HBC := HB5
                clear HB5
                obtain ⟨k0, k1, k2, k3, k4, kl, _, _⟩ := HS.out w5 HBC.out
                clear e5 e6 e7 e8
                have e5 := HDc.out w5 HBC.out 5 _ (show (dlA d A c)[5]? = some (.string d.hou) from rfl)
                have e6 := HDc.out w5 HBC.out 6 _ (show (dlA d A c)[6]? = some (.string d.ins) from rfl)
                have e7 := HDc.out w5 HBC.out 7 _ (show (dlA d A c)[7]? = some (.string d.frm) from rfl)
                have e8 := HDc.out w5 HBC.out 8 _ (show (dlA d A c)[8]? = some (.string d.dst) from rfl)
                rw [hg]
                clear hg
                go_wp2_with fail
                refine (HKd.out _ d.ins HBC.out).mono ?_
                rintro e w5 ⟨rfl, hb5⟩
                have HB5 := Lib.hid (HBC.out.trans (hb5.mono HBC.out.size))
                clear hb5 HBC k0 k1 k2 k3 k4 kl
                have HBC := HB5
                clear HB5
                obtain ⟨k0, k1, k2, k3, k4, kl, _, _⟩ := HS.out w5 HBC.out
                clear e5 e6 e7 e8
                have e5 := HDc.out w5 HBC.out 5 _ (show (dlA d A c)[5]? = some (.string d.hou) from rfl)
                have e6 := HDc.out w5 HBC.out 6 _ (show (dlA d A c)[6]? = some (.string d.ins) from rfl)
                have e7 := HDc.out w5 HBC.out 7 _ (show (dlA d A c)[7]? = some (.string d.frm) from rfl)
                have e8 := HDc.out w5 HBC.out 8 _ (show (dlA d A c)[8]? = some (.string d.dst) from rfl)
                generalize kindF u.par d.ins = kx at *
                go_wp2_with (first
                  | (go_at_call 33; (with_reducible refine (HNf.out _).mono ?_); rintro e w' ⟨rfl, h⟩; subst h)
                  | (go_at_call 33; (with_reducible refine (HNd.out _).mono ?_); rintro e w' ⟨rfl, h⟩; subst h)
                  | fail)
                go_meet
                case rel => exact ⟨true, rfl, HX, HBC⟩
          · have g0 : (kindF u.par d.hou == 3) = false := by rw [beq_eq_false_iff_ne]; exact hg
            have g1 : (kindF u.par d.hou != 3) = true := by rw [bne, g0]; rfl
            have HX : Hid (Falls true (Da2 u.par d)) := Lib.hid (show (true : Bool) = false ↔ Da2 u.par d from ⟨fun h => (by cases h), fun h => absurd h (fun h => h.1.elim hh hg)⟩)
            clear hh hg
            go_wp2_with fail
            refine (HKd.out _ d.hou HBC.out).mono ?_
            rintro e w5 ⟨rfl, hb5⟩
            have HB5 := Lib.hid (HBC.out.trans (hb5.mono HBC.out.size))
            clear hb5 HBC k0 k1 k2 k3 k4 kl
            have HBC := HB5
            clear HB5
            obtain ⟨k0, k1, k2, k3, k4, kl, _, _⟩ := HS.out w5 HBC.out
            clear e5 e6 e7 e8
            have e5 := HDc.out w5 HBC.out 5 _ (show (dlA d A c)[5]? = some (.string d.hou) from rfl)
            have e6 := HDc.out w5 HBC.out 6 _ (show (dlA d A c)[6]? = some (.string d.ins) from rfl)
            have e7 := HDc.out w5 HBC.out 7 _ (show (dlA d A c)[7]? = some (.string d.frm) from rfl)
            have e8 := HDc.out w5 HBC.out 8 _ (show (dlA d A c)[8]? = some (.string d.dst) from rfl)
            generalize kindF u.par d.hou = kx at *
            go_wp2_with (first
              | (go_at_call 33; (with_reducible refine (HNf.out _).mono ?_); rintro e w' ⟨rfl, h⟩; subst h)
              | (go_at_call 33; (with_reducible refine (HNd.out _).mono ?_); rintro e w' ⟨rfl, h⟩; subst h)
              | fail)
            go_meet
            case rel => exact ⟨true, rfl, HX, HBC⟩
      case rest =>
        clear HB
        obtain ⟨b, rfl, HC2, HB⟩ := hcut
        cases b with
        | true =>
          have HX := Lib.hid (HN.out (fun h => by have := HC2.out.2 (deal8.1 h).2.1; cases this) _ HB.out)
          clear HN HY
          go_wp2_with fail
          first
            | exact HX.out
            | (go_ret; exact HX.out)
        | false =>
          have HH2 := Lib.hid (HC2.out.1 rfl)
          clear HC2 HLd HKd HBd
          go_upto_region 5 with fail
          go_cut [115] from 93 to 115 (fun v wx => ∃ b : Bool, v = .bool b ∧ Hid (Falls b (Da3 d)) ∧ Hid (Below W2.heap.size W2 wx))
          case first =>
            clear HN HY HIs HH1 HH2
            have HMn := Lib.hid (refMoney_m d.cur d.amt wc (HZ.out _ (by simp)))
            have HIn := Lib.hid (in_m (d.box.length : Int) 1 8)
            have e9 := HDc.out wc HB.out 9 _ (show (dlA d A c)[9]? = some (.string d.cur) from rfl)
            have e10 := HDc.out wc HB.out 10 _ (show (dlA d A c)[10]? = some (.int .i64 d.amt) from rfl)
            go_wp2_with fail
            refine HMn.out.mono ?_
            rintro e w5 ⟨r, rfl, hr, hb⟩
            have HBC := Lib.hid (HB.out.trans (hb.mono HB.out.size))
            have HR := Lib.hid hr
            clear hr hb HMn HB e9 e10
            have e10 := HDc.out w5 HBC.out 10 _ (show (dlA d A c)[10]? = some (.int .i64 d.amt) from rfl)
            have e11 := HDc.out w5 HBC.out 11 _ (show (dlA d A c)[11]? = some (.slice A d.box.length c) from rfl)
            cases r with
            | false =>
              have HX : Hid (Falls true (Da3 d)) := Lib.hid (show (true : Bool) = false ↔ Da3 d from ⟨fun h => (by cases h), fun h => absurd h (fun h => by have := HR.out.2 ⟨h.1, by have := h.2.1; omega, by have := h.2.2.1; omega⟩; cases this)⟩)
              go_wp2_with (first
                | (go_at_call 34; (with_reducible refine (HIn.out _).mono ?_); rintro e w' ⟨rfl, h⟩; subst h)
                | fail)
              go_meet
              case rel => exact ⟨true, rfl, HX, HBC⟩
            | true =>
              have hcu := (HR.out.1 rfl).1
              have HCu := Lib.hid hcu
              clear hcu HR
              by_cases h1 : 1 ≤ d.amt
              · have b1 : decide (d.amt < 1) = false := decide_eq_false (by omega)
                by_cases h2 : d.amt ≤ 1073741824
                · have b2 : decide ((1073741824 : Int) < d.amt) = false := decide_eq_false (by omega)
                  by_cases h3 : (1 : Int) ≤ (d.box.length : Int) ∧ (d.box.length : Int) ≤ 8
                  · rw [decide_eq_true h3] at HIn
                    have HX : Hid (Falls false (Da3 d)) := Lib.hid (show (false : Bool) = false ↔ Da3 d from ⟨fun _ => ⟨HCu.out, h1, h2, by omega, by omega⟩, fun _ => rfl⟩)
                    clear h1 h2 h3
                    go_wp2_with (first
                      | (go_at_call 34; (with_reducible refine (HIn.out _).mono ?_); rintro e w' ⟨rfl, h⟩; subst h)
                      | fail)
                    go_meet
                    case rel => exact ⟨false, rfl, HX, HBC⟩
                  · rw [decide_eq_false h3] at HIn
                    have HX : Hid (Falls true (Da3 d)) := Lib.hid (show (true : Bool) = false ↔ Da3 d from ⟨fun h => (by cases h), fun h => absurd h (fun h => h3 (by have := h.2.2.2; omega))⟩)
                    clear h1 h2 h3
                    go_wp2_with (first
                      | (go_at_call 34; (with_reducible refine (HIn.out _).mono ?_); rintro e w' ⟨rfl, h⟩; subst h)
                      | fail)
                    go_meet
                    case rel => exact ⟨true, rfl, HX, HBC⟩
                · have b2 : decide ((1073741824 : Int) < d.amt) = true := decide_eq_true (by omega)
                  have HX : Hid (Falls true (Da3 d)) := Lib.hid (show (true : Bool) = false ↔ Da3 d from ⟨fun h => (by cases h), fun h => absurd h (fun h => h2 h.2.2.1)⟩)
                  clear h1 h2
                  go_wp2_with (first
                    | (go_at_call 34; (with_reducible refine (HIn.out _).mono ?_); rintro e w' ⟨rfl, h⟩; subst h)
                    | fail)
                  go_meet
                  case rel => exact ⟨true, rfl, HX, HBC⟩
              · have b1 : decide (d.amt < 1) = true := decide_eq_true (by omega)
                have HX : Hid (Falls true (Da3 d)) := Lib.hid (show (true : Bool) = false ↔ Da3 d from ⟨fun h => (by cases h), fun h => absurd h (fun h => h1 h.2.1)⟩)
                clear h1
                go_wp2_with (first
                  | (go_at_call 34; (with_reducible refine (HIn.out _).mono ?_); rintro e w' ⟨rfl, h⟩; subst h)
                  | fail)
                go_meet
                case rel => exact ⟨true, rfl, HX, HBC⟩
          case rest =>
            clear HB
            obtain ⟨b, rfl, HC3, HB⟩ := hcut
            cases b with
            | true =>
              have HX := Lib.hid (HN.out (fun h => by have := HC3.out.2 (deal8.1 h).2.2.1; cases this) _ HB.out)
              clear HN HY
              go_wp2_with fail
              first
                | exact HX.out
                | (go_ret; exact HX.out)
            | false =>
              have HY2 : Hid (∀ r : Bool, (r = true ↔ Da4 d) → CP (.returned (.bool r)) wc) := Lib.hid fun r hr => HY.out HH1.out HH2.out (HC3.out.1 rfl) r wc hr HB.out
              clear HC3 HN HY HH1 HH2 HZ HIs
              have HI0 := Lib.hid (in_m d.trm 0 7)
              have HI1 := Lib.hid (in_m d.exp 0 1048576)
              have HI2 := Lib.hid (in_m d.lat 0 d.exp)
              have HI3 := Lib.hid (in_m d.ten 0 1000)
              have HI4 := Lib.hid (in_m d.dut 0 1000)
              have e12 := HDc.out wc HB.out 12 _ (show (dlA d A c)[12]? = some (.int .i64 d.trm) from rfl)
              have e14 := HDc.out wc HB.out 14 _ (show (dlA d A c)[14]? = some (.int .i64 d.exp) from rfl)
              have e13 := HDc.out wc HB.out 13 _ (show (dlA d A c)[13]? = some (.int .i64 d.lat) from rfl)
              have e15 := HDc.out wc HB.out 15 _ (show (dlA d A c)[15]? = some (.int .i64 d.ten) from rfl)
              have e16 := HDc.out wc HB.out 16 _ (show (dlA d A c)[16]? = some (.int .i64 d.dut) from rfl)
              clear HDc HS HB
              by_cases h0 : 0 ≤ d.trm ∧ d.trm ≤ 7
              · rw [decide_eq_true h0] at HI0
                by_cases h1 : 0 ≤ d.exp ∧ d.exp ≤ 1048576
                · rw [decide_eq_true h1] at HI1
                  by_cases h2 : 0 ≤ d.lat ∧ d.lat ≤ d.exp
                  · rw [decide_eq_true h2] at HI2
                    by_cases h3 : 0 ≤ d.ten ∧ d.ten ≤ 1000
                    · rw [decide_eq_true h3] at HI3
                      by_cases h4 : 0 ≤ d.dut ∧ d.dut ≤ 1000
                      · rw [decide_eq_true h4] at HI4
                        have HX := Lib.hid (HY2.out true ⟨fun _ => ⟨h0, h1, h2, h3, h4⟩, fun _ => rfl⟩)
                        clear HY2 h0 h1 h2 h3 h4
                        go_wp2_with (first
                          | (go_at_call 34; (with_reducible refine (HI0.out _).mono ?_); rintro e w' ⟨rfl, h⟩; subst h)
                          | (go_at_call 34; (with_reducible refine (HI1.out _).mono ?_); rintro e w' ⟨rfl, h⟩; subst h)
                          | (go_at_call 34; (with_reducible refine (HI2.out _).mono ?_); rintro e w' ⟨rfl, h⟩; subst h)
                          | (go_at_call 34; (with_reducible refine (HI3.out _).mono ?_); rintro e w' ⟨rfl, h⟩; subst h)
                          | (go_at_call 34; (with_reducible refine (HI4.out _).mono ?_); rintro e w' ⟨rfl, h⟩; subst h)
                          | fail)
                        first
                          | exact HX.out
                          | (go_ret; exact HX.out)
                      · rw [decide_eq_false h4] at HI4
                        have HX := Lib.hid (HY2.out false ⟨fun h => (by cases h), fun h => absurd h.2.2.2.2 h4⟩)
                        clear HY2 h0 h1 h2 h3 h4
                        go_wp2_with (first
                          | (go_at_call 34; (with_reducible refine (HI0.out _).mono ?_); rintro e w' ⟨rfl, h⟩; subst h)
                          | (go_at_call 34; (with_reducible refine (HI1.out _).mono ?_); rintro e w' ⟨rfl, h⟩; subst h)
                          | (go_at_call 34; (with_reducible refine (HI2.out _).mono ?_); rintro e w' ⟨rfl, h⟩; subst h)
                          | (go_at_call 34; (with_reducible refine (HI3.out _).mono ?_); rintro e w' ⟨rfl, h⟩; subst h)
                          | (go_at_call 34; (with_reducible refine (HI4.out _).mono ?_); rintro e w' ⟨rfl, h⟩; subst h)
                          | fail)
                        first
                          | exact HX.out
                          | (go_ret; exact HX.out)
                    · rw [decide_eq_false h3] at HI3
                      have HX := Lib.hid (HY2.out false ⟨fun h => (by cases h), fun h => absurd h.2.2.2.1 h3⟩)
                      clear HY2 h0 h1 h2 h3
                      go_wp2_with (first
                        | (go_at_call 34; (with_reducible refine (HI0.out _).mono ?_); rintro e w' ⟨rfl, h⟩; subst h)
                        | (go_at_call 34; (with_reducible refine (HI1.out _).mono ?_); rintro e w' ⟨rfl, h⟩; subst h)
                        | (go_at_call 34; (with_reducible refine (HI2.out _).mono ?_); rintro e w' ⟨rfl, h⟩; subst h)
                        | (go_at_call 34; (with_reducible refine (HI3.out _).mono ?_); rintro e w' ⟨rfl, h⟩; subst h)
                        | (go_at_call 34; (with_reducible refine (HI4.out _).mono ?_); rintro e w' ⟨rfl, h⟩; subst h)
                        | fail)
                      first
                        | exact HX.out
                        | (go_ret; exact HX.out)
                  · rw [decide_eq_false h2] at HI2
                    have HX := Lib.hid (HY2.out false ⟨fun h => (by cases h), fun h => absurd h.2.2.1 h2⟩)
                    clear HY2 h0 h1 h2
                    go_wp2_with (first
                      | (go_at_call 34; (with_reducible refine (HI0.out _).mono ?_); rintro e w' ⟨rfl, h⟩; subst h)
                      | (go_at_call 34; (with_reducible refine (HI1.out _).mono ?_); rintro e w' ⟨rfl, h⟩; subst h)
                      | (go_at_call 34; (with_reducible refine (HI2.out _).mono ?_); rintro e w' ⟨rfl, h⟩; subst h)
                      | (go_at_call 34; (with_reducible refine (HI3.out _).mono ?_); rintro e w' ⟨rfl, h⟩; subst h)
                      | (go_at_call 34; (with_reducible refine (HI4.out _).mono ?_); rintro e w' ⟨rfl, h⟩; subst h)
                      | fail)
                    first
                      | exact HX.out
                      | (go_ret; exact HX.out)
                · rw [decide_eq_false h1] at HI1
                  have HX := Lib.hid (HY2.out false ⟨fun h => (by cases h), fun h => absurd h.2.1 h1⟩)
                  clear HY2 h0 h1
                  go_wp2_with (first
                    | (go_at_call 34; (with_reducible refine (HI0.out _).mono ?_); rintro e w' ⟨rfl, h⟩; subst h)
                    | (go_at_call 34; (with_reducible refine (HI1.out _).mono ?_); rintro e w' ⟨rfl, h⟩; subst h)
                    | (go_at_call 34; (with_reducible refine (HI2.out _).mono ?_); rintro e w' ⟨rfl, h⟩; subst h)
                    | (go_at_call 34; (with_reducible refine (HI3.out _).mono ?_); rintro e w' ⟨rfl, h⟩; subst h)
                    | (go_at_call 34; (with_reducible refine (HI4.out _).mono ?_); rintro e w' ⟨rfl, h⟩; subst h)
                    | fail)
                  first
                    | exact HX.out
                    | (go_ret; exact HX.out)
              · rw [decide_eq_false h0] at HI0
                have HX := Lib.hid (HY2.out false ⟨fun h => (by cases h), fun h => absurd h.1 h0⟩)
                clear HY2 h0
                go_wp2_with (first
                  | (go_at_call 34; (with_reducible refine (HI0.out _).mono ?_); rintro e w' ⟨rfl, h⟩; subst h)
                  | (go_at_call 34; (with_reducible refine (HI1.out _).mono ?_); rintro e w' ⟨rfl, h⟩; subst h)
                  | (go_at_call 34; (with_reducible refine (HI2.out _).mono ?_); rintro e w' ⟨rfl, h⟩; subst h)
                  | (go_at_call 34; (with_reducible refine (HI3.out _).mono ?_); rintro e w' ⟨rfl, h⟩; subst h)
                  | (go_at_call 34; (with_reducible refine (HI4.out _).mono ?_); rintro e w' ⟨rfl, h⟩; subst h)
                  | fail)
                first
                  | exact HX.out
                  | (go_ret; exact HX.out)
end Go.Proofs.YtchkdidpnjakeaaGreatDoor
