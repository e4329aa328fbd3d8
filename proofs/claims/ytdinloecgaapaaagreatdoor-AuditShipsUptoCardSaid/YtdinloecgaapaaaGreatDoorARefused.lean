/- Ledger.refused: entries on accounts that are there, that sum to nothing, and that each account can bear. -/
import Derived.Test.YtdinloecgaapaaaGreatDoorMAChanges
namespace Go.Proofs.YtdinloecgaapaaaGreatDoor
open Go.RowKit Go.Maps Go.Lib
set_option linter.unusedVariables false
set_option maxRecDepth 100000

structure Ac.Fine (a : Ac) : Prop where
  f0 : -2199023255552 ≤ a.floor
  f1 : a.floor ≤ 2199023255552
  b0 : -2199023255552 ≤ a.bal
  b1 : a.bal ≤ 2199023255552
  h0 : -2199023255552 ≤ a.held
  h1 : a.held ≤ 2199023255552
/-- the account can bear the change -/
structure Bears (a : Ac) (v : Int) : Prop where
  fine : a.Fine
  top : a.bal + v ≤ 1099511627776
  lo : -70368744177664 ≤ v
  low : v < 0 → -v ≤ a.bal - a.held - a.floor

theorem field_bal (x y z : Int) (W : World) : (Instr.field 149 (.agg #[.int .i64 x, .int .i64 y, .int .i64 z]) 1).run Tryz.prog W = .ok (.int .i64 y) W := by kernel_rfl
theorem grown_of_below {a w : World} (h : Below a.heap.size a w) (row : Option Nat) : a.grownBy w row := ⟨h.os, h.tape, h.output, h.size, fun i hi _ => h.block i hi⟩
structure Ch' (w0 w : World) (B : Nat) (es : List Ent) : Prop where
  each : Mp keyC amtE w B es.length (eachG es)
  sums : Mp curC amtE w (B + 1) es.length (sumG es)
/-- a round of the first loop: the account is there -/
theorem Lg.turn {w0 wr : World} {p b n : Nat} {G : Nt → Option Ac} {pv hv : Value} (hL : Lg w0 p b n G pv hv) (hb : Below w0.heap.size w0 wr) {V : World} {a cu : ByteArray} {m : Int} (hV : V = wr.alloc (entObj a cu m)) (hx : Small (a, cu)) {ac : Ac} (hG : G (a, cu) = some ac) :
    V.cell? ⟨p, 0, none⟩ = some (.map (some b)) ∧
    (Instr.lookup 141 (.map (some b)) (.agg #[.string a, .string cu]) true).run Tryz.prog V.drew = .ok (.tuple #[.agg #[.int .i64 ac.floor, .int .i64 ac.bal, .int .i64 ac.held], .bool true]) V.drew ∧
    (Instr.lookup 141 (.map (some b)) (.agg #[.string a, .string cu]) true).run Tryz.prog (V.alloc (.cells #[.int .i64 0, .int .i64 0, .int .i64 0] 149)).drew = .ok (.tuple #[.agg #[.int .i64 ac.floor, .int .i64 ac.bal, .int .i64 ac.held], .bool true]) (V.alloc (.cells #[.int .i64 0, .int .i64 0, .int .i64 0] 149)).drew := by
  have h1 : Lg V p b n G pv hv := by rw [hV]; exact (hL.below hb hL.plt hL.blt).alloc _
  refine ⟨h1.c0, ?_, ?_⟩
  · have := (h1.drewN 1).acc.look_ok Tryz.underlying141 (zeroAc _) trivial (x := (a, cu)) hx
    rw [hG] at this
    exact this
  · have := ((h1.alloc (.cells #[.int .i64 0, .int .i64 0, .int .i64 0] 149)).drewN 1).acc.look_ok Tryz.underlying141 (zeroAc _) trivial (x := (a, cu)) hx
    rw [hG] at this
    exact this

set_option maxHeartbeats 2000000 in
theorem refused_ok (A : Option Addr) (c : Nat) (es : List Ent) (w : World) (p b n : Nat) (G : Nt → Option Ac) (pv hv : Value) (hL : Lg w p b n G pv hv) (hR : Re w w.heap.size A es) (hlen : es.length ≤ 64) (hF : ∀ e ∈ es, e.Fine)
    (hin : ∀ e ∈ es, ∃ a, G e.key = some a) (hsum : ∀ cu v, sumG es cu = some v → v = 0) (hacc : ∀ x v, eachG es x = some v → ∃ a, G x = some a ∧ Bears a v) :
    Calls Tryz.prog 72 #[.pointer (some ⟨p, 0, none⟩), .slice A es.length c] w fun e w' => e = .returned (.int .i64 0) ∧ Below w.heap.size w w' := by
  have hpl := hL.plt
  go_enter Tryz.func72, Tryz.ntmps72
  go_wp2
  go_loopw [21] (fun i wr => ∃ k : Nat, k ≤ es.length ∧ i = .int .i64 k ∧ Hid (Below w.heap.size w wr)) (fun i _ => es.length - (intOf i).toNat)
  case atStart => exact ⟨0, Nat.zero_le _, rfl, Lib.hid (Below.refl _ _)⟩
  case round =>
    obtain ⟨k, hk, rfl, Hb⟩ := hrel
    have hzr : w.heap.size ≤ wr.heap.size := Hb.out.size
    by_cases hlt : k < es.length
    · obtain ⟨g, off, rfl, hg, hc0, hc1, hc2⟩ := (hR.below Hb.out).at_ hlt
      have hfk := (hF es[k] (List.getElem_mem hlt)).small
      obtain ⟨ac, hac⟩ := hin es[k] (List.getElem_mem hlt)
      obtain ⟨⟨a, cu, m⟩, he⟩ : ∃ e : Ent, es[k] = e := ⟨_, rfl⟩
      rw [he] at hc0 hc1 hc2 hfk hac
      simp only at hc0 hc1 hc2
      obtain ⟨cp, l1, l2⟩ := hL.turn Hb.out (m := m) rfl hfk hac
      unfold entObj at cp l1 l2
      have d0 : (wr.alloc (.cells #[.string a, .string cu, .int .i64 m] 107)).cell? ⟨wr.heap.size, 0, none⟩ = some (.string a) := by simp
      have d1 : (wr.alloc (.cells #[.string a, .string cu, .int .i64 m] 107)).cell? ⟨wr.heap.size, 1, none⟩ = some (.string cu) := by simp
      have HV := Lib.hid (Hb.out.alloc (by omega) (.cells #[.string a, .string cu, .int .i64 m] 107))
      clear hF hR he hin hsum hacc hfk hac hL
      go_wp2_with fail
      clear hc0 hc1 hc2
      generalize hVV : wr.alloc (.cells #[.string a, .string cu, .int .i64 m] 107) = V at *
      have hVs : V.heap.size = wr.heap.size + 1 := by rw [← hVV]; simp
      have e0 : (V.alloc (.cells #[.int .i64 0, .int .i64 0, .int .i64 0] 149)).cell? ⟨p, 0, none⟩ = some (.map (some b)) := Lib.cell?_alloc_some _ cp
      have e1 : (V.alloc (.cells #[.int .i64 0, .int .i64 0, .int .i64 0] 149)).cell? ⟨wr.heap.size, 0, none⟩ = some (.string a) := Lib.cell?_alloc_some _ d0
      have e2 : (V.alloc (.cells #[.int .i64 0, .int .i64 0, .int .i64 0] 149)).cell? ⟨wr.heap.size, 1, none⟩ = some (.string cu) := Lib.cell?_alloc_some _ d1
      have hpw : p < wr.heap.size := by omega
      clear hVV
      go_region
      all_goals
        go_wp2_with fail
        go_roundw
        case rel => exact ⟨k + 1, by omega, by go_num, Lib.hid ((HV.out.alloc (by omega) _).drew)⟩
        case measure => simp [intOf]; omega
    · clear hin
      obtain ⟨w1, rfl⟩ : ∃ w1 : World, w1 = wr := ⟨_, rfl⟩
      go_wp2_with fail
      go_loopw [43] (fun i wr => ∃ k : Nat, k ≤ es.length ∧ i = .int .i64 k ∧ Hid (Below w.heap.size w wr)) (fun i _ => es.length - (intOf i).toNat)
      case atStart => exact ⟨0, Nat.zero_le _, rfl, Hb⟩
      case round =>
        clear Hb hzr hlt hk
        obtain ⟨k2, hk, rfl, Hb⟩ := hrel
        have hzr : w.heap.size ≤ wr.heap.size := Hb.out.size
        by_cases hlt : k2 < es.length
        · obtain ⟨g, off, rfl, hg, hc0, hc1, hc2⟩ := (hR.below Hb.out).at_ hlt
          have hfk := hF es[k2] (List.getElem_mem hlt)
          obtain ⟨⟨a, cu, m⟩, he⟩ : ∃ e : Ent, es[k2] = e := ⟨_, rfl⟩
          rw [he] at hc0 hc1 hc2 hfk
          have l1 := hfk.lo
          have l2 := hfk.hi
          simp only at hc0 hc1 hc2 l1 l2
          clear hF hR he hsum hacc hfk hL
          go_wp2_with fail
          go_roundw
          case rel => exact ⟨k2 + 1, by omega, by go_num, Lib.hid (Hb.out.alloc (by omega) _)⟩
          case measure => simp [intOf]; omega
        · obtain ⟨w2, rfl⟩ : ∃ w2 : World, w2 = wr := ⟨_, rfl⟩
          go_wp2_with fail
          refine (changes_any A c es _ ((hR.below Hb.out).more hzr) hlen hF).mono ?_
          rintro e w3 ⟨rfl, hCh⟩
          have Hb3 := Lib.hid (Hb.out.trans (hCh.bel.mono hzr))
          have hz3 : w2.heap.size + 2 ≤ w3.heap.size := hCh.size
          clear Hb hF hR hlt hk
          obtain ⟨B, hB⟩ : ∃ B, w2.heap.size = B := ⟨_, rfl⟩
          have hCh' := hCh
          rw [hB] at hz3 hzr ⊢
          have HC : Hid (Ch' w w3 B es) := Lib.hid ⟨by rw [← hB]; have := hCh'.each; rwa [List.take_length] at this, by rw [← hB]; have := hCh'.sums; rwa [List.take_length] at this⟩
          clear hB hCh'
          have hCe := HC.out.each
          have hCs := HC.out.sums
          clear HC hCh
          have HCe := Lib.hid hCe
          clear hCe
          have hwB : w.heap.size ≤ B := hzr
          go_wp2_with (first
            | (at_range; refine wpList_range_mp _ rfl _ 186 rfl 2 Tryz.underlying186 (B + 1) es.length (sumG es) rfl hCs ?_; intro w4 hrg4 hg4 hs4)
            | go_in)
          go_frame
          obtain ⟨cnt4, hrg4⟩ := hrg4
          have Hb4 := Lib.hid (Hb3.out.grown hg4 (by omega) (fun j hj => by cases hj))
          have HE4 := Lib.hid (HCe.out.kept hg4 (by simp))
          go_loopw [14] (fun _ wr => ∃ lf cnt, Rn' curC amtE wr (B + 1) w3.heap.size es.length (sumG es) lf cnt ∧ Hid (Below w.heap.size w wr) ∧ Hid (Mp keyC amtE wr B es.length (eachG es))) (fun _ wr => wr.rangeLeft (B + 1) w3.heap.size)
          case atStart => exact ⟨_, cnt4, hrg4, Hb4, HE4⟩
          case round =>
            clear hCs hg4 hs4 hrg4 Hb3 Hb4 HE4 HCe
            obtain ⟨lf, cnt, hrg, Hb, HE⟩ := hrel
            have hzr' : w.heap.size ≤ wr.heap.size := Hb.out.size
            go_wp2_with (first
              | (at_next; refine wpList_next_cur _ rfl _ rfl (B + 1) w3.heap.size es.length (sumG es) lf cnt rfl hrg ?_ ?_)
              | go_in)
            · intro _
              clear hsum hrg
              obtain ⟨w5, rfl⟩ : ∃ w5 : World, w5 = wr := ⟨_, rfl⟩
              have hE5 := HE.out
              go_wp2_with (first
                | (at_range; refine wpList_range_mp _ rfl _ 185 rfl 2 Tryz.underlying185 B es.length (eachG es) rfl hE5 ?_; intro w6 hrg6 hg6 hs6)
                | go_in)
              go_frame
              obtain ⟨cnt6, hrg6⟩ := hrg6
              have Hb6 := Lib.hid (Hb.out.grown hg6 (by omega) (fun j hj => by cases hj))
              go_loopw [16] (fun _ wr => ∃ lf cnt, Rn' keyC amtE wr B w5.heap.size es.length (eachG es) lf cnt ∧ Hid (Below w.heap.size w wr)) (fun _ wr => wr.rangeLeft B w5.heap.size)
              case atStart => exact ⟨_, cnt6, hrg6, Hb6⟩
              case round =>
                clear hE5 hg6 hs6 hrg6 Hb6 Hb HE
                obtain ⟨lf2, cnt2, hrg, Hb⟩ := hrel
                have hzr2 : w.heap.size ≤ wr.heap.size := Hb.out.size
                go_wp2_with (first
                  | (at_next; refine wpList_next_key _ rfl _ rfl B w5.heap.size es.length (eachG es) lf2 cnt2 rfl hrg ?_ ?_)
                  | go_in)
                · intro _
                  obtain ⟨w8, rfl⟩ : ∃ w8 : World, w8 = wr := ⟨_, rfl⟩
                  have hE8 := hrg.mp
                  clear hrg
                  go_wp2_with (first
                    | (at_range; refine wpList_range_mp _ rfl _ 185 rfl 2 Tryz.underlying185 B es.length (eachG es) rfl hE8 ?_; intro w9 hrg9 hg9 hs9)
                    | go_in)
                  go_frame
                  obtain ⟨cnt9, hrg9⟩ := hrg9
                  have Hb9 := Lib.hid (Hb.out.grown hg9 (by omega) (fun j hj => by cases hj))
                  go_loopw [18] (fun _ wr => ∃ lf cnt, Rn' keyC amtE wr B w8.heap.size es.length (eachG es) lf cnt ∧ Hid (Below w.heap.size w wr)) (fun _ wr => wr.rangeLeft B w8.heap.size)
                  case atStart => exact ⟨_, cnt9, hrg9, Hb9⟩
                  case round =>
                    clear hE8 hg9 hs9 hrg9 Hb9 Hb
                    obtain ⟨lf3, cnt3, hrg, Hb⟩ := hrel
                    have hzr3 : w.heap.size ≤ wr.heap.size := Hb.out.size
                    go_wp2_with (first
                      | (at_next; refine wpList_next_key _ rfl _ rfl B w8.heap.size es.length (eachG es) lf3 cnt3 rfl hrg ?_ ?_)
                      | go_in)
                    · intro _
                      clear hrg
                      go_wp2
                      go_ret
                      exact ⟨rfl, Hb.out⟩
                    · intro s t v w7 cnt7 hx hlx hGx hrg7 hlt7 hg7 hs7 hen
                      obtain ⟨ac, hac, hbe⟩ := hacc _ _ hGx
                      have Hb7 := Lib.hid (Hb.out.grown hg7 (by omega) (fun j hj => by cases hj; omega))
                      have hz7 : w.heap.size ≤ w7.heap.size := Hb7.out.size
                      have hL7 := hL.below Hb7.out hL.plt hL.blt
                      have HL7 := Lib.hid hL7
                      have Hx := Lib.hid hx
                      have Hac := Lib.hid hac
                      have hf := hbe.fine
                      have Hf := Lib.hid hf
                      have v2 := hbe.top
                      have v3 := hbe.lo
                      have v4 := hbe.low
                      have v5 := hf.b0
                      have hp7 : p < w7.heap.size := by omega
                      have Hr7 := Lib.hid hrg7
                      have Hleft := Lib.hid hrg.left_eq
                      have Hb7s : w7.heap.size ≤ (w7.alloc (.cells #[.string s, .string t] 147)).heap.size := by simp
                      have kp := Lib.cell?_alloc_some (.cells #[.string s, .string t] 147) hL7.c0
                      have k0 : (w7.alloc (.cells #[.string s, .string t] 147)).cell? ⟨w7.heap.size, 0, none⟩ = some (.string s) := by simp
                      have k1 : (w7.alloc (.cells #[.string s, .string t] 147)).cell? ⟨w7.heap.size, 1, none⟩ = some (.string t) := by simp
                      have HbV := Lib.hid (Hb7.out.alloc (by omega) (.cells #[.string s, .string t] 147))
                      have HrV := Lib.hid (hrg7.alloc (.cells #[.string s, .string t] 147))
                      have HLV := Lib.hid (hL7.alloc (.cells #[.string s, .string t] 147))
                      have hVs : (w7.alloc (.cells #[.string s, .string t] 147)).heap.size = w7.heap.size + 1 := by simp
                      clear hx hlx hg7 hs7 hGx hac hL7 hbe hacc hL Hb hrg7 hrg hf
                      go_wp2_with fail
                      clear hen
                      generalize w7.alloc (.cells #[.string s, .string t] 147) = V at *
                      by_cases hv : v < 0
                      · have hvd : decide (v < 0) = true := by simpa using hv
                        have q1 : IntKind.i64.wrap (-v) = -v := IntWalk.i64_in _ (by omega)
                        have hcmp : decide (ac.bal - ac.held - ac.floor < -v) = false := by have := v4 hv; simp; omega
                        have dp : ∀ m : WC V.heap.size V, m.w.cell? ⟨p, 0, none⟩ = some (.map (some b)) := fun m => (m.h.cell (p := ⟨p, 0, none⟩) (by show p < V.heap.size; omega)).trans kp
                        have d0 : ∀ m : WC V.heap.size V, m.w.cell? ⟨w7.heap.size, 0, none⟩ = some (.string s) := fun m => (m.h.cell (p := ⟨w7.heap.size, 0, none⟩) (by show w7.heap.size < V.heap.size; omega)).trans k0
                        have d1 : ∀ m : WC V.heap.size V, m.w.cell? ⟨w7.heap.size, 1, none⟩ = some (.string t) := fun m => (m.h.cell (p := ⟨w7.heap.size, 1, none⟩) (by show w7.heap.size < V.heap.size; omega)).trans k1
                        have hlk : ∀ m : WC V.heap.size V, (Instr.lookup 141 (.map (some b)) (.agg #[.string s, .string t]) false).run Tryz.prog m.w = .ok (.agg #[.int .i64 ac.floor, .int .i64 ac.bal, .int .i64 ac.held]) m.w := fun m => by
                          have := (HLV.out.below m.h HLV.out.plt HLV.out.blt).acc.look Tryz.underlying141 (zeroAc _) trivial (x := (s, t)) Hx.out
                          rw [Hac.out] at this
                          exact this
                        refine wp_region_class (by kernel_rfl) (by kernel_rfl) ?_
                        repeat (go_big_quiet_step (first
                          | (go_at_call 98; exact Calls.class_of (Nat.le_refl _) (free_any _ _ _ _ ⟨Hf.out.f0, Hf.out.f1⟩ ⟨Hf.out.b0, Hf.out.b1⟩ ⟨Hf.out.h0, Hf.out.h1⟩))))
                        refine wpQuiet_nil ?_
                        rintro w' ⟨m, rfl⟩
                        clear dp d0 d1 hlk
                        go_wp2
                        go_roundw
                        case rel => exact ⟨_, cnt7, HrV.out.kept (grown_of_below m.h none) (by simp) (by simp), Lib.hid (HbV.out.trans (m.h.mono (by omega)))⟩
                        case measure => rw [(HrV.out.kept (grown_of_below m.h none) (by simp) (by simp)).left_eq, Hleft.out]; exact hlt7
                      · have hvd : decide (v < 0) = false := by simpa using hv
                        go_quiet (fail)
                        go_wp2
                        go_roundw
                        case rel => exact ⟨_, cnt7, HrV.out, Lib.hid (below_drewN HbV.out _)⟩
                        case measure => rw [show (V.drewN nq).rangeLeft B w8.heap.size = cnt7 from HrV.out.left_eq, Hleft.out]; exact hlt7
                · intro s t v w7 cnt7 hx hlx hGx hrg7 hlt7 hg7 hs7 hen
                  obtain ⟨ac, hac, hbe⟩ := hacc _ _ hGx
                  have Hb7 := Lib.hid (Hb.out.grown hg7 (by omega) (fun j hj => by cases hj; omega))
                  have hz7 : w.heap.size ≤ w7.heap.size := Hb7.out.size
                  have hL7 := hL.below Hb7.out hL.plt hL.blt
                  have hlk : ∀ o nq, (Instr.lookup 141 (.map (some b)) (.agg #[.string s, .string t]) false).run Tryz.prog ((w7.alloc o).drewN nq) = .ok (.agg #[.int .i64 ac.floor, .int .i64 ac.bal, .int .i64 ac.held]) ((w7.alloc o).drewN nq) := fun o nq => by
                    have := ((hL7.alloc o).drewN nq).acc.look Tryz.underlying141 (zeroAc _) trivial (x := (s, t)) hx
                    rw [hac] at this
                    exact this
                  have cp := hL7.c0
                  have hp7 : p < w7.heap.size := by omega
                  have v0 := hbe.fine.b0
                  have v1 := hbe.fine.b1
                  have v2 := hbe.top
                  have v3 := hbe.lo
                  have hfd := field_bal ac.floor ac.bal ac.held
                  have vd : decide (1099511627776 < ac.bal + v) = false := by simp; omega
                  clear hx hlx hg7 hs7 hGx hac hL7 hbe hacc hL Hb
                  have k0 : (w7.alloc (.cells #[.string s, .string t] 147)).cell? ⟨w7.heap.size, 0, none⟩ = some (.string s) := by simp
                  have k1 : (w7.alloc (.cells #[.string s, .string t] 147)).cell? ⟨w7.heap.size, 1, none⟩ = some (.string t) := by simp
                  have kp := Lib.cell?_alloc_some (.cells #[.string s, .string t] 147) cp
                  have hlk1 : (Instr.lookup 141 (.map (some b)) (.agg #[.string s, .string t]) false).run Tryz.prog (w7.alloc (.cells #[.string s, .string t] 147)).drew = .ok (.agg #[.int .i64 ac.floor, .int .i64 ac.bal, .int .i64 ac.held]) (w7.alloc (.cells #[.string s, .string t] 147)).drew := hlk _ 1
                  have HbV := Lib.hid (Hb7.out.alloc (by omega) (.cells #[.string s, .string t] 147))
                  have HrV := Lib.hid (hrg7.alloc (.cells #[.string s, .string t] 147))
                  have Hleft := Lib.hid hrg.left_eq
                  have q1 : IntKind.i64.wrap (ac.bal + v) = ac.bal + v := IntWalk.i64_in _ (by omega)
                  clear hlk hrg7 Hb7 hrg
                  go_wp2_with fail
                  clear hen
                  generalize w7.alloc (.cells #[.string s, .string t] 147) = V at *
                  go_region
                  all_goals
                    go_wp2_with fail
                    go_roundw
                    case rel => exact ⟨_, cnt7, HrV.out, Lib.hid HbV.out.drew⟩
                    case measure => rw [show V.drew.rangeLeft B w5.heap.size = cnt7 from HrV.out.left_eq, Hleft.out]; exact hlt7
            · intro x v w1' cnt1 hx hlx hGx hrg1 hlt1 hg1 hs1 hen
              obtain rfl := hsum x v hGx
              have Hb1 := Lib.hid (Hb.out.grown hg1 (by omega) (fun j hj => by cases hj; omega))
              have HE1 := Lib.hid (HE.out.kept hg1 (fun e => by injection e; omega))
              clear hx hlx hg1 hs1 hGx
              go_wp2
              go_roundw
              case rel => exact ⟨_, cnt1, hrg1, Hb1, HE1⟩
              case measure => rw [hrg1.left_eq, hrg.left_eq]; exact hlt1
end Go.Proofs.YtdinloecgaapaaaGreatDoor
