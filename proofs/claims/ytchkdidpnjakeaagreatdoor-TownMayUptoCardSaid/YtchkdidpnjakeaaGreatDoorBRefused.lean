/- Ledger.refused, of any entries: nothing just if they fit. -/
import Derived.Test.YtchkdidpnjakeaaGreatDoorGAChanges
namespace Go.Proofs.YtchkdidpnjakeaaGreatDoor.Led
open Go.RowKit Go.Maps Go.Lib
set_option linter.unusedVariables false
set_option maxRecDepth 100000

/-- entries that the accounts take -/
structure FitsA (G : Nt → Option Ac) (es : List Ent) : Prop where
  there : ∀ e ∈ es, ∃ a, G e.key = some a
  amt : ∀ e ∈ es, -1099511627776 ≤ e.n ∧ e.n ≤ 1099511627776
  even : ∀ cu v, sumG es cu = some v → v = 0
  top : ∀ x v, eachG es x = some v → ∀ a, G x = some a → a.bal + v ≤ 1099511627776
  low : ∀ x v, eachG es x = some v → v < 0 → ∀ a, G x = some a → -v ≤ a.bal - a.held - a.floor
def RefP (G : Nt → Option Ac) (es : List Ent) (w : World) (e : Ending) (w' : World) : Prop := ∃ code : Int, e = .returned (.int .i64 code) ∧ (code = 0 ↔ FitsA G es) ∧ Below w.heap.size w w'
theorem RefP.no {G : Nt → Option Ac} {es : List Ent} {w w' : World} {code : Int} (hc : code ≠ 0) (hn : ¬ FitsA G es) (hb : Below w.heap.size w w') : RefP G es w (.returned (.int .i64 code)) w' := ⟨code, rfl, ⟨fun h => absurd h hc, fun h => absurd h hn⟩, hb⟩
/-- an account that is not there -/
theorem Lg.turn0 {w0 wr : World} {p b n : Nat} {G : Nt → Option Ac} {pv hv : Value} (hL : Lg w0 p b n G pv hv) (hb : Below w0.heap.size w0 wr) {V : World} {a cu : ByteArray} {m : Int} (hV : V = wr.alloc (entObj a cu m)) (hx : Small (a, cu)) (hG : G (a, cu) = none) :
    V.cell? ⟨p, 0, none⟩ = some (.map (some b)) ∧
    (Instr.lookup 263 (.map (some b)) (.agg #[.string a, .string cu]) true).run Tryz.prog V.drew = .ok (.tuple #[.agg #[.int .i64 0, .int .i64 0, .int .i64 0], .bool false]) V.drew ∧
    (Instr.lookup 263 (.map (some b)) (.agg #[.string a, .string cu]) true).run Tryz.prog (V.alloc (.cells #[.int .i64 0, .int .i64 0, .int .i64 0] 304)).drew = .ok (.tuple #[.agg #[.int .i64 0, .int .i64 0, .int .i64 0], .bool false]) (V.alloc (.cells #[.int .i64 0, .int .i64 0, .int .i64 0] 304)).drew := by
  have h1 : Lg V p b n G pv hv := by rw [hV]; exact (hL.below hb hL.plt hL.blt).alloc _
  refine ⟨h1.c0, ?_, ?_⟩
  · have := (h1.drewN 1).acc.look_ok Tryz.underlying263 (zeroAc _) trivial (x := (a, cu)) hx
    rw [hG] at this
    exact this
  · have := ((h1.alloc (.cells #[.int .i64 0, .int .i64 0, .int .i64 0] 304)).drewN 1).acc.look_ok Tryz.underlying263 (zeroAc _) trivial (x := (a, cu)) hx
    rw [hG] at this
    exact this
/-- an account of the map as one that has a place in it -/
theorem eachG_key {G : Nt → Option Ac} {es : List Ent} (h : ∀ e ∈ es, ∃ a, G e.key = some a) {x : Nt} {v : Int} (hv : eachG es x = some v) : ∃ a, G x = some a := by
  obtain ⟨e, he, rfl⟩ := sumBy_mem Ent.key es x v hv
  exact h e he
set_option maxHeartbeats 4000000 in
theorem refused_any (A : Option Addr) (c : Nat) (es : List Ent) (w : World) (p b n : Nat) (G : Nt → Option Ac) (pv hv : Value) (hL : Lg w p b n G pv hv) (hR : Re w w.heap.size A es) (hlen : es.length ≤ 64) (hS : ∀ e ∈ es, e.acc.size ≤ maxLen ∧ e.cur.size ≤ maxLen) (hFG : ∀ x a, G x = some a → a.Fine) :
    Calls Tryz.prog 211 #[.pointer (some ⟨p, 0, none⟩), .slice A es.length c] w fun e w' => RefP G es w e w' := by
  have hpl := hL.plt
  have HNo : Hid (∀ (code : Int) W, code ≠ 0 → ¬ FitsA G es → Below w.heap.size w W → RefP G es w (.returned (.int .i64 code)) W) := Lib.hid fun code W h1 h2 h3 => RefP.no h1 h2 h3
  have HYes : Hid (∀ W, FitsA G es → Below w.heap.size w W → RefP G es w (.returned (.int .i64 0)) W) := Lib.hid fun W h1 h2 => ⟨0, rfl, ⟨fun _ => h1, fun _ => rfl⟩, h2⟩
  generalize RefP G es w = CP at *
  have HFG := Lib.hid hFG
  clear hFG
  go_enter Tryz.func211, Tryz.ntmps211
  go_wp2
  go_loopw [21] (fun i wr => ∃ k : Nat, k ≤ es.length ∧ i = .int .i64 k ∧ Hid (∀ e ∈ es.take k, ∃ a, G e.key = some a) ∧ Hid (Below w.heap.size w wr)) (fun i _ => es.length - (RowKit.intOf i).toNat)
  case atStart => exact ⟨0, Nat.zero_le _, rfl, Lib.hid (by simp), Lib.hid (Below.refl _ _)⟩
  case round =>
    obtain ⟨k, hk, rfl, HI, Hb⟩ := hrel
    have hzr : w.heap.size ≤ wr.heap.size := Hb.out.size
    by_cases hlt : k < es.length
    · obtain ⟨g, off, rfl, hg, hc0, hc1, hc2⟩ := (hR.below Hb.out).at_ hlt
      have hfk : Small (es[k].acc, es[k].cur) := hS es[k] (List.getElem_mem hlt)
      have hTk : es.take (k + 1) = es.take k ++ [es[k]] := (List.take_append_getElem hlt).symm
      obtain ⟨⟨a, cu, m⟩, he⟩ : ∃ e : Ent, es[k] = e := ⟨_, rfl⟩
      have HEk := Lib.hid he
      have hmem := List.getElem_mem hlt
      rw [he] at hc0 hc1 hc2 hfk hTk hmem
      simp only at hc0 hc1 hc2
      cases hac : G (a, cu) with
      | some ac =>
        have HI2 : Hid (∀ e ∈ es.take (k + 1), ∃ a, G e.key = some a) := Lib.hid (by
          rw [hTk]
          intro e he2
          rcases List.mem_append.1 he2 with h | h
          · exact HI.out e h
          · rw [List.mem_singleton] at h
            subst h
            exact ⟨ac, hac⟩)
        clear HI HNo
        obtain ⟨cp, l1, l2⟩ := hL.turn Hb.out (m := m) rfl hfk hac
        unfold entObj at cp l1 l2
        have d0 : (wr.alloc (.cells #[.string a, .string cu, .int .i64 m] 51)).cell? ⟨wr.heap.size, 0, none⟩ = some (.string a) := by simp
        have d1 : (wr.alloc (.cells #[.string a, .string cu, .int .i64 m] 51)).cell? ⟨wr.heap.size, 1, none⟩ = some (.string cu) := by simp
        have HV := Lib.hid (Hb.out.alloc (by omega) (.cells #[.string a, .string cu, .int .i64 m] 51))
        clear hR he hS hfk hac hL hTk hmem HEk HYes
        go_wp2_with fail
        clear hc0 hc1 hc2
        generalize hVV : wr.alloc (.cells #[.string a, .string cu, .int .i64 m] 51) = V at *
        have hVs : V.heap.size = wr.heap.size + 1 := by rw [← hVV]; simp
        have e0 : (V.alloc (.cells #[.int .i64 0, .int .i64 0, .int .i64 0] 304)).cell? ⟨p, 0, none⟩ = some (.map (some b)) := Lib.cell?_alloc_some _ cp
        have e1 : (V.alloc (.cells #[.int .i64 0, .int .i64 0, .int .i64 0] 304)).cell? ⟨wr.heap.size, 0, none⟩ = some (.string a) := Lib.cell?_alloc_some _ d0
        have e2 : (V.alloc (.cells #[.int .i64 0, .int .i64 0, .int .i64 0] 304)).cell? ⟨wr.heap.size, 1, none⟩ = some (.string cu) := Lib.cell?_alloc_some _ d1
        have hpw : p < wr.heap.size := by omega
        clear hVV
        go_region
        all_goals
          go_wp2_with fail
          go_roundw
          case rel => exact ⟨k + 1, by omega, by go_num, HI2, Lib.hid ((HV.out.alloc (by omega) _).drew)⟩
          case measure => simp [RowKit.intOf]; omega
      | none =>
        have hnf : ¬ FitsA G es := fun h => by
          obtain ⟨a', ha'⟩ := h.there _ hmem
          rw [show G (Ent.key ⟨a, cu, m⟩) = G (a, cu) from rfl, hac] at ha'
          cases ha'
        have HN2 := Lib.hid fun W hb => HNo.out 4 W (by decide) hnf hb
        clear HI HNo hnf
        obtain ⟨cp, l1, l2⟩ := hL.turn0 Hb.out (m := m) rfl hfk hac
        unfold entObj at cp l1 l2
        have d0 : (wr.alloc (.cells #[.string a, .string cu, .int .i64 m] 51)).cell? ⟨wr.heap.size, 0, none⟩ = some (.string a) := by simp
        have d1 : (wr.alloc (.cells #[.string a, .string cu, .int .i64 m] 51)).cell? ⟨wr.heap.size, 1, none⟩ = some (.string cu) := by simp
        have HV := Lib.hid (Hb.out.alloc (by omega) (.cells #[.string a, .string cu, .int .i64 m] 51))
        clear hR he hS hfk hac hL hTk hmem HEk HYes
        go_wp2_with fail
        clear hc0 hc1 hc2
        generalize hVV : wr.alloc (.cells #[.string a, .string cu, .int .i64 m] 51) = V at *
        have hVs : V.heap.size = wr.heap.size + 1 := by rw [← hVV]; simp
        have e0 : (V.alloc (.cells #[.int .i64 0, .int .i64 0, .int .i64 0] 304)).cell? ⟨p, 0, none⟩ = some (.map (some b)) := Lib.cell?_alloc_some _ cp
        have e1 : (V.alloc (.cells #[.int .i64 0, .int .i64 0, .int .i64 0] 304)).cell? ⟨wr.heap.size, 0, none⟩ = some (.string a) := Lib.cell?_alloc_some _ d0
        have e2 : (V.alloc (.cells #[.int .i64 0, .int .i64 0, .int .i64 0] 304)).cell? ⟨wr.heap.size, 1, none⟩ = some (.string cu) := Lib.cell?_alloc_some _ d1
        have hpw : p < wr.heap.size := by omega
        clear hVV
        go_region
        all_goals
          go_wp2_with fail
          first
            | exact HN2.out _ ((HV.out.alloc (by omega) _).drew)
            | (go_ret2; exact HN2.out _ ((HV.out.alloc (by omega) _).drew))
    · have HIn : Hid (∀ e ∈ es, ∃ a, G e.key = some a) := Lib.hid (by rw [← List.take_of_length_le (l := es) (i := k) (by omega)]; exact HI.out)
      clear HI
      obtain ⟨w1, rfl⟩ : ∃ w1 : World, w1 = wr := ⟨_, rfl⟩
      go_wp2_with fail
      go_loopw [43] (fun i wr => ∃ k : Nat, k ≤ es.length ∧ i = .int .i64 k ∧ Hid (∀ e ∈ es.take k, -1099511627776 ≤ e.n ∧ e.n ≤ 1099511627776) ∧ Hid (Below w.heap.size w wr)) (fun i _ => es.length - (RowKit.intOf i).toNat)
      case atStart => exact ⟨0, Nat.zero_le _, rfl, Lib.hid (by simp), Hb⟩
      case round =>
        clear Hb hzr hlt hk
        obtain ⟨k2, hk, rfl, HI, Hb⟩ := hrel
        have hzr : w.heap.size ≤ wr.heap.size := Hb.out.size
        by_cases hlt : k2 < es.length
        · obtain ⟨g, off, rfl, hg, hc0, hc1, hc2⟩ := (hR.below Hb.out).at_ hlt
          have hTk : es.take (k2 + 1) = es.take k2 ++ [es[k2]] := (List.take_append_getElem hlt).symm
          have hmem := List.getElem_mem hlt
          obtain ⟨⟨a, cu, m⟩, he⟩ : ∃ e : Ent, es[k2] = e := ⟨_, rfl⟩
          rw [he] at hc0 hc1 hc2 hTk hmem
          simp only at hc0 hc1 hc2
          have HB2 := Lib.hid (Hb.out.alloc (by omega) (.cells #[.string a, .string cu, .int .i64 m] 51))
          by_cases hlo : m < -1099511627776
          · have b1 : decide (m < -1099511627776) = true := decide_eq_true hlo
            have HN2 := Lib.hid (HNo.out 3 _ (by decide) (fun h => by have := (h.amt _ hmem).1; simp only at this; omega) HB2.out)
            clear HI HNo HYes hR he hS hL hTk hmem HFG HIn
            go_wp2_with fail
            first
              | exact HN2.out
              | (go_ret2; exact HN2.out)
          · have b1 : decide (m < -1099511627776) = false := decide_eq_false hlo
            by_cases hhi : 1099511627776 < m
            · have b2 : decide (1099511627776 < m) = true := decide_eq_true hhi
              have HN2 := Lib.hid (HNo.out 3 _ (by decide) (fun h => by have := (h.amt _ hmem).2; simp only at this; omega) HB2.out)
              clear HI HNo HYes hR he hS hL hTk hmem HFG HIn
              go_wp2_with fail
              first
                | exact HN2.out
                | (go_ret2; exact HN2.out)
            · have b2 : decide (1099511627776 < m) = false := decide_eq_false hhi
              have HI2 : Hid (∀ e ∈ es.take (k2 + 1), -1099511627776 ≤ e.n ∧ e.n ≤ 1099511627776) := Lib.hid (by
                rw [hTk]
                intro e he2
                rcases List.mem_append.1 he2 with h | h
                · exact HI.out e h
                · rw [List.mem_singleton] at h
                  subst h
                  exact ⟨by simp only; omega, by simp only; omega⟩)
              clear HI HNo HYes hR he hS hL hTk hmem HFG HIn
              go_wp2_with fail
              go_roundw
              case rel => exact ⟨k2 + 1, by omega, by go_num, HI2, HB2⟩
              case measure => simp [RowKit.intOf]; omega
        · have HAm : Hid (∀ e ∈ es, -1099511627776 ≤ e.n ∧ e.n ≤ 1099511627776) := Lib.hid (by rw [← List.take_of_length_le (l := es) (i := k2) (by omega)]; exact HI.out)
          clear HI
          have hF : ∀ e ∈ es, e.Fine := fun e he => ⟨(hS e he).1, (hS e he).2, (HAm.out e he).1, (HAm.out e he).2⟩
          have HIn3 : Hid (∀ x v, eachG es x = some v → ∃ a, G x = some a ∧ a.Fine ∧ -70368744177664 ≤ v ∧ v ≤ 70368744177664) := Lib.hid (fun x v hv => by
            obtain ⟨a, ha⟩ := eachG_key HIn.out hv
            have h1 : -(es.length * 1099511627776 : Int) ≤ (eachG es x).getD 0 ∧ (eachG es x).getD 0 ≤ (es.length * 1099511627776 : Int) := sumBy_bound Ent.key es hF x
            rw [hv] at h1
            simp only [Option.getD_some] at h1
            exact ⟨a, ha, HFG.out x a ha, by omega, by omega⟩)
          have HSm : Hid ((∀ x v, eachG es x = some v → Small x) ∧ ∀ cu v, sumG es cu = some v → cu.size ≤ maxLen) := Lib.hid ⟨eachG_small hF, fun cu v h => by
            obtain ⟨e, he, rfl⟩ := sumBy_mem Ent.cur es cu v h
            exact (hS e he).2⟩
          obtain ⟨w2, rfl⟩ : ∃ w2 : World, w2 = wr := ⟨_, rfl⟩
          go_wp2_with fail
          refine (changes_any A c es _ ((hR.below Hb.out).more hzr) hlen hF).mono ?_
          rintro e w3 ⟨rfl, hCh⟩
          have Hb3 := Lib.hid (Hb.out.trans (hCh.bel.mono hzr))
          have hz3 : w2.heap.size + 2 ≤ w3.heap.size := hCh.size
          clear Hb hF hR hlt hk
          obtain ⟨B, hB⟩ : ∃ B, w2.heap.size = B := ⟨_, rfl⟩
          have hCh' := hCh
          rw [hB] at hz3 hzr ⊢
          have HC : Hid (Ch' w w3 B es) := Lib.hid ⟨by rw [← hB]; have := hCh'.each; rwa [List.take_length] at this, by rw [← hB]; have := hCh'.sums; rwa [List.take_length] at this⟩
          clear hB hCh'
          have hCe := HC.out.each
          have hCs := HC.out.sums
          clear HC hCh
          have HCe := Lib.hid hCe
          clear hCe
          have hwB : w.heap.size ≤ B := hzr
          go_wp2_with (first
            | (at_range; refine wpList_range_mp _ rfl _ 120 rfl 2 Tryz.underlying120 (B + 1) es.length (sumG es) rfl hCs ?_; intro w4 hrg4 hg4 hs4)
            | go_in)
          go_frame
          obtain ⟨cnt4, hrg4⟩ := hrg4
          have Hb4 := Lib.hid (Hb3.out.grown hg4 (by omega) (fun j hj => by cases hj))
          have HE4 := Lib.hid (HCe.out.kept hg4 (by simp))
          go_loopw [14] (fun _ wr => ∃ lf cnt, Rn' curC amtE wr (B + 1) w3.heap.size es.length (sumG es) lf cnt ∧ Hid (∀ cu v, sumG es cu = some v → lf cu = false → v = 0) ∧ Hid (Below w.heap.size w wr) ∧ Hid (Mp keyC amtE wr B es.length (eachG es))) (fun _ wr => wr.rangeLeft (B + 1) w3.heap.size)
          case atStart => exact ⟨_, cnt4, hrg4, Lib.hid (fun cu v h1 h2 => by simp only [h1] at h2; cases h2), Hb4, HE4⟩
          case round =>
            clear hCs hg4 hs4 hrg4 Hb3 Hb4 HE4 HCe
            obtain ⟨lf, cnt, hrg, HI, Hb, HE⟩ := hrel
            have hzr' : w.heap.size ≤ wr.heap.size := Hb.out.size
            go_wp2_with (first
              | (at_next; refine wpList_next_cur _ rfl _ rfl (B + 1) w3.heap.size es.length (sumG es) lf cnt rfl hrg ?_ ?_)
              | go_in)
            · intro hdone
              have HEv : Hid (∀ cu v, sumG es cu = some v → v = 0) := Lib.hid (fun cu v h => HI.out cu v h (hdone cu (HSm.out.2 cu v h)))
              clear hrg HI hdone
              obtain ⟨w5, rfl⟩ : ∃ w5 : World, w5 = wr := ⟨_, rfl⟩
              have hE5 := HE.out
              go_wp2_with (first
                | (at_range; refine wpList_range_mp _ rfl _ 338 rfl 2 Tryz.underlying338 B es.length (eachG es) rfl hE5 ?_; intro w6 hrg6 hg6 hs6)
                | go_in)
              go_frame
              obtain ⟨cnt6, hrg6⟩ := hrg6
              have Hb6 := Lib.hid (Hb.out.grown hg6 (by omega) (fun j hj => by cases hj))
              go_loopw [16] (fun _ wr => ∃ lf cnt, Rn' keyC amtE wr B w5.heap.size es.length (eachG es) lf cnt ∧ Hid (∀ x v, eachG es x = some v → lf x = false → ∀ a, G x = some a → a.bal + v ≤ 1099511627776) ∧ Hid (Below w.heap.size w wr)) (fun _ wr => wr.rangeLeft B w5.heap.size)
              case atStart => exact ⟨_, cnt6, hrg6, Lib.hid (fun x v h1 h2 => by simp only [h1] at h2; cases h2), Hb6⟩
              case round =>
                clear hE5 hg6 hs6 hrg6 Hb6 Hb HE
                obtain ⟨lf2, cnt2, hrg, HI, Hb⟩ := hrel
                have hzr2 : w.heap.size ≤ wr.heap.size := Hb.out.size
                go_wp2_with (first
                  | (at_next; refine wpList_next_key _ rfl _ rfl B w5.heap.size es.length (eachG es) lf2 cnt2 rfl hrg ?_ ?_)
                  | go_in)
                · intro hdone
                  have HTo : Hid (∀ x v, eachG es x = some v → ∀ a, G x = some a → a.bal + v ≤ 1099511627776) := Lib.hid (fun x v h => HI.out x v h (hdone x.1 x.2 (HSm.out.1 x v h)))
                  clear HI hdone
                  obtain ⟨w8, rfl⟩ : ∃ w8 : World, w8 = wr := ⟨_, rfl⟩
                  have hE8 := hrg.mp
                  clear hrg
                  go_wp2_with (first
                    | (at_range; refine wpList_range_mp _ rfl _ 338 rfl 2 Tryz.underlying338 B es.length (eachG es) rfl hE8 ?_; intro w9 hrg9 hg9 hs9)
                    | go_in)
                  go_frame
                  obtain ⟨cnt9, hrg9⟩ := hrg9
                  have Hb9 := Lib.hid (Hb.out.grown hg9 (by omega) (fun j hj => by cases hj))
                  go_loopw [18] (fun _ wr => ∃ lf cnt, Rn' keyC amtE wr B w8.heap.size es.length (eachG es) lf cnt ∧ Hid (∀ x v, eachG es x = some v → lf x = false → v < 0 → ∀ a, G x = some a → -v ≤ a.bal - a.held - a.floor) ∧ Hid (Below w.heap.size w wr)) (fun _ wr => wr.rangeLeft B w8.heap.size)
                  case atStart => exact ⟨_, cnt9, hrg9, Lib.hid (fun x v h1 h2 => by simp only [h1] at h2; cases h2), Hb9⟩
                  case round =>
                    clear hE8 hg9 hs9 hrg9 Hb9 Hb
                    obtain ⟨lf3, cnt3, hrg, HI, Hb⟩ := hrel
                    have hzr3 : w.heap.size ≤ wr.heap.size := Hb.out.size
                    go_wp2_with (first
                      | (at_next; refine wpList_next_key _ rfl _ rfl B w8.heap.size es.length (eachG es) lf3 cnt3 rfl hrg ?_ ?_)
                      | go_in)
                    · intro hdone
                      have HLast := Lib.hid (HYes.out _ ⟨HIn.out, HAm.out, HEv.out, HTo.out, fun x v h => HI.out x v h (hdone x.1 x.2 (HSm.out.1 x v h))⟩ Hb.out)
                      clear hrg HI hdone HNo HYes
                      go_wp2_with fail
                      first
                        | exact HLast.out
                        | (go_ret2; exact HLast.out)
                    · intro s t v w7 cnt7 hx hlx hGx hrg7 hlt7 hg7 hs7 hen
                      obtain ⟨ac, hac, hfi, hv1, hv2⟩ := HIn3.out _ _ hGx
                      have HGx := Lib.hid hGx
                      have Hb7 := Lib.hid (Hb.out.grown hg7 (by omega) (fun j hj => by cases hj; omega))
                      have hz7 : w.heap.size ≤ w7.heap.size := Hb7.out.size
                      have hL7 := hL.below Hb7.out hL.plt hL.blt
                      have HL7 := Lib.hid hL7
                      have Hx := Lib.hid hx
                      have Hac := Lib.hid hac
                      have hf := hfi
                      have Hf := Lib.hid hf
                      have v5 := hf.b0
                      have hp7 : p < w7.heap.size := by omega
                      have Hr7 := Lib.hid hrg7
                      have Hleft := Lib.hid hrg.left_eq
                      have Hb7s : w7.heap.size ≤ (w7.alloc (.cells #[.string s, .string t] 302)).heap.size := by simp
                      have kp := Lib.cell?_alloc_some (.cells #[.string s, .string t] 302) hL7.c0
                      have k0 : (w7.alloc (.cells #[.string s, .string t] 302)).cell? ⟨w7.heap.size, 0, none⟩ = some (.string s) := by simp
                      have k1 : (w7.alloc (.cells #[.string s, .string t] 302)).cell? ⟨w7.heap.size, 1, none⟩ = some (.string t) := by simp
                      have HbV := Lib.hid (Hb7.out.alloc (by omega) (.cells #[.string s, .string t] 302))
                      have HrV := Lib.hid (hrg7.alloc (.cells #[.string s, .string t] 302))
                      have HLV := Lib.hid (hL7.alloc (.cells #[.string s, .string t] 302))
                      have hVs : (w7.alloc (.cells #[.string s, .string t] 302)).heap.size = w7.heap.size + 1 := by simp
                      clear hx hlx hg7 hs7 hGx hac hL7 hfi hL Hb hrg7 hrg hf
                      go_wp2_with fail
                      clear hen
                      generalize w7.alloc (.cells #[.string s, .string t] 302) = V at *
                      by_cases hv : v < 0
                      · have hvd : decide (v < 0) = true := by simpa using hv
                        have q1 : IntKind.i64.wrap (-v) = -v := IntWalk.i64_in _ (by omega)
                        by_cases hcm : ac.bal - ac.held - ac.floor < -v
                        · have hcmp : decide (ac.bal - ac.held - ac.floor < -v) = true := decide_eq_true hcm
                          have HNf := Lib.hid (show ¬ FitsA G es from fun h => by have := h.low _ _ HGx.out hv ac Hac.out; omega)
                          clear HI HYes
                          have dp : ∀ m : WC V.heap.size V, m.w.cell? ⟨p, 0, none⟩ = some (.map (some b)) := fun m => (m.h.cell (p := ⟨p, 0, none⟩) (by show p < V.heap.size; omega)).trans kp
                          have d0 : ∀ m : WC V.heap.size V, m.w.cell? ⟨w7.heap.size, 0, none⟩ = some (.string s) := fun m => (m.h.cell (p := ⟨w7.heap.size, 0, none⟩) (by show w7.heap.size < V.heap.size; omega)).trans k0
                          have d1 : ∀ m : WC V.heap.size V, m.w.cell? ⟨w7.heap.size, 1, none⟩ = some (.string t) := fun m => (m.h.cell (p := ⟨w7.heap.size, 1, none⟩) (by show w7.heap.size < V.heap.size; omega)).trans k1
                          have hlk : ∀ m : WC V.heap.size V, (Instr.lookup 263 (.map (some b)) (.agg #[.string s, .string t]) false).run Tryz.prog m.w = .ok (.agg #[.int .i64 ac.floor, .int .i64 ac.bal, .int .i64 ac.held]) m.w := fun m => by
                            have := (HLV.out.below m.h HLV.out.plt HLV.out.blt).acc.look Tryz.underlying263 (zeroAc _) trivial (x := (s, t)) Hx.out
                            rw [Hac.out] at this
                            exact this
                          refine wp_region_class (by kernel_rfl) (by kernel_rfl) ?_
                          repeat (go_big_quiet_step (first
                            | (go_at_call 245; exact Calls.class_of (Nat.le_refl _) (free_any _ _ _ _ ⟨Hf.out.f0, Hf.out.f1⟩ ⟨Hf.out.b0, Hf.out.b1⟩ ⟨Hf.out.h0, Hf.out.h1⟩))))
                          refine wpQuiet_nil ?_
                          rintro w' ⟨m, rfl⟩
                          clear dp d0 d1 hlk
                          have HN2 := Lib.hid (HNo.out 10 _ (by decide) HNf.out (HbV.out.trans (m.h.mono (by omega))))
                          clear HNo HNf
                          go_wp2_with fail
                          first
                            | exact HN2.out
                            | (go_ret2; exact HN2.out)
                        · have hcmp : decide (ac.bal - ac.held - ac.floor < -v) = false := decide_eq_false hcm
                          have HI2 : Hid (∀ x v', eachG es x = some v' → (lf3 x && !decide (x = (s, t))) = false → v' < 0 → ∀ a, G x = some a → -v' ≤ a.bal - a.held - a.floor) := Lib.hid (fun x v' h1 h2 h3 a ha => by
                            by_cases e : x = (s, t)
                            · subst e
                              rw [HGx.out] at h1
                              injection h1 with h1
                              rw [Hac.out] at ha
                              injection ha with ha
                              subst h1 ha
                              omega
                            · exact HI.out x v' h1 (by simpa [e] using h2) h3 a ha)
                          clear HI HNo HYes
                          have dp : ∀ m : WC V.heap.size V, m.w.cell? ⟨p, 0, none⟩ = some (.map (some b)) := fun m => (m.h.cell (p := ⟨p, 0, none⟩) (by show p < V.heap.size; omega)).trans kp
                          have d0 : ∀ m : WC V.heap.size V, m.w.cell? ⟨w7.heap.size, 0, none⟩ = some (.string s) := fun m => (m.h.cell (p := ⟨w7.heap.size, 0, none⟩) (by show w7.heap.size < V.heap.size; omega)).trans k0
                          have d1 : ∀ m : WC V.heap.size V, m.w.cell? ⟨w7.heap.size, 1, none⟩ = some (.string t) := fun m => (m.h.cell (p := ⟨w7.heap.size, 1, none⟩) (by show w7.heap.size < V.heap.size; omega)).trans k1
                          have hlk : ∀ m : WC V.heap.size V, (Instr.lookup 263 (.map (some b)) (.agg #[.string s, .string t]) false).run Tryz.prog m.w = .ok (.agg #[.int .i64 ac.floor, .int .i64 ac.bal, .int .i64 ac.held]) m.w := fun m => by
                            have := (HLV.out.below m.h HLV.out.plt HLV.out.blt).acc.look Tryz.underlying263 (zeroAc _) trivial (x := (s, t)) Hx.out
                            rw [Hac.out] at this
                            exact this
                          refine wp_region_class (by kernel_rfl) (by kernel_rfl) ?_
                          repeat (go_big_quiet_step (first
                            | (go_at_call 245; exact Calls.class_of (Nat.le_refl _) (free_any _ _ _ _ ⟨Hf.out.f0, Hf.out.f1⟩ ⟨Hf.out.b0, Hf.out.b1⟩ ⟨Hf.out.h0, Hf.out.h1⟩))))
                          refine wpQuiet_nil ?_
                          rintro w' ⟨m, rfl⟩
                          clear dp d0 d1 hlk
                          go_wp2
                          go_roundw
                          case rel => exact ⟨_, cnt7, HrV.out.kept (grown_of_below m.h none) (by simp) (by simp), HI2, Lib.hid (HbV.out.trans (m.h.mono (by omega)))⟩
                          case measure => rw [(HrV.out.kept (grown_of_below m.h none) (by simp) (by simp)).left_eq, Hleft.out]; exact hlt7
                      · have hvd : decide (v < 0) = false := by simpa using hv
                        have HI2 : Hid (∀ x v', eachG es x = some v' → (lf3 x && !decide (x = (s, t))) = false → v' < 0 → ∀ a, G x = some a → -v' ≤ a.bal - a.held - a.floor) := Lib.hid (fun x v' h1 h2 h3 a ha => by
                          by_cases e : x = (s, t)
                          · subst e
                            rw [HGx.out] at h1
                            injection h1 with h1
                            omega
                          · exact HI.out x v' h1 (by simpa [e] using h2) h3 a ha)
                        clear HI HNo HYes
                        go_quiet (fail)
                        go_wp2
                        go_roundw
                        case rel => exact ⟨_, cnt7, HrV.out, HI2, Lib.hid (below_drewN HbV.out _)⟩
                        case measure => rw [show (V.drewN nq).rangeLeft B w8.heap.size = cnt7 from HrV.out.left_eq, Hleft.out]; exact hlt7
                · intro s t v w7 cnt7 hx hlx hGx hrg7 hlt7 hg7 hs7 hen
                  obtain ⟨ac, hac, hfi, v3, v4⟩ := HIn3.out _ _ hGx
                  have HGx := Lib.hid hGx
                  have Hac := Lib.hid hac
                  have Hb7 := Lib.hid (Hb.out.grown hg7 (by omega) (fun j hj => by cases hj; omega))
                  have hz7 : w.heap.size ≤ w7.heap.size := Hb7.out.size
                  have hL7 := hL.below Hb7.out hL.plt hL.blt
                  have hlk : ∀ o nq, (Instr.lookup 263 (.map (some b)) (.agg #[.string s, .string t]) false).run Tryz.prog ((w7.alloc o).drewN nq) = .ok (.agg #[.int .i64 ac.floor, .int .i64 ac.bal, .int .i64 ac.held]) ((w7.alloc o).drewN nq) := fun o nq => by
                    have := ((hL7.alloc o).drewN nq).acc.look Tryz.underlying263 (zeroAc _) trivial (x := (s, t)) hx
                    rw [hac] at this
                    exact this
                  have cp := hL7.c0
                  have hp7 : p < w7.heap.size := by omega
                  have v0 := hfi.b0
                  have v1 := hfi.b1
                  have hfd := field_bal ac.floor ac.bal ac.held
                  clear hx hlx hg7 hs7 hGx hac hL7 hfi hL Hb
                  have k0 : (w7.alloc (.cells #[.string s, .string t] 302)).cell? ⟨w7.heap.size, 0, none⟩ = some (.string s) := by simp
                  have k1 : (w7.alloc (.cells #[.string s, .string t] 302)).cell? ⟨w7.heap.size, 1, none⟩ = some (.string t) := by simp
                  have kp := Lib.cell?_alloc_some (.cells #[.string s, .string t] 302) cp
                  have hlk1 : (Instr.lookup 263 (.map (some b)) (.agg #[.string s, .string t]) false).run Tryz.prog (w7.alloc (.cells #[.string s, .string t] 302)).drew = .ok (.agg #[.int .i64 ac.floor, .int .i64 ac.bal, .int .i64 ac.held]) (w7.alloc (.cells #[.string s, .string t] 302)).drew := hlk _ 1
                  have HbV := Lib.hid (Hb7.out.alloc (by omega) (.cells #[.string s, .string t] 302))
                  have HrV := Lib.hid (hrg7.alloc (.cells #[.string s, .string t] 302))
                  have Hleft := Lib.hid hrg.left_eq
                  have q1 : IntKind.i64.wrap (ac.bal + v) = ac.bal + v := IntWalk.i64_in _ (by omega)
                  clear hlk hrg7 Hb7 hrg
                  by_cases hcm : 1099511627776 < ac.bal + v
                  · have vd : decide (1099511627776 < ac.bal + v) = true := decide_eq_true hcm
                    have HNf := Lib.hid (show ¬ FitsA G es from fun h => by have := h.top _ _ HGx.out ac Hac.out; omega)
                    clear HI HYes
                    go_wp2_with fail
                    clear hen
                    generalize w7.alloc (.cells #[.string s, .string t] 302) = V at *
                    go_region
                    all_goals
                      have HN2 := Lib.hid (HNo.out 3 _ (by decide) HNf.out HbV.out.drew)
                      clear HNo HNf
                      go_wp2_with fail
                      first
                        | exact HN2.out
                        | (go_ret2; exact HN2.out)
                  · have vd : decide (1099511627776 < ac.bal + v) = false := decide_eq_false hcm
                    have HI2 : Hid (∀ x v', eachG es x = some v' → (lf2 x && !decide (x = (s, t))) = false → ∀ a, G x = some a → a.bal + v' ≤ 1099511627776) := Lib.hid (fun x v' h1 h2 a ha => by
                      by_cases e : x = (s, t)
                      · subst e
                        rw [HGx.out] at h1
                        injection h1 with h1
                        rw [Hac.out] at ha
                        injection ha with ha
                        subst h1 ha
                        omega
                      · exact HI.out x v' h1 (by simpa [e] using h2) a ha)
                    clear HI HNo HYes
                    go_wp2_with fail
                    clear hen
                    generalize w7.alloc (.cells #[.string s, .string t] 302) = V at *
                    go_region
                    all_goals
                      go_wp2_with fail
                      go_roundw
                      case rel => exact ⟨_, cnt7, HrV.out, HI2, Lib.hid HbV.out.drew⟩
                      case measure => rw [show V.drew.rangeLeft B w5.heap.size = cnt7 from HrV.out.left_eq, Hleft.out]; exact hlt7
            · intro x v w1' cnt1 hx hlx hGx hrg1 hlt1 hg1 hs1 hen
              have Hb1 := Lib.hid (Hb.out.grown hg1 (by omega) (fun j hj => by cases hj; omega))
              have HE1 := Lib.hid (HE.out.kept hg1 (fun e => by injection e; omega))
              have HG := Lib.hid hGx
              clear hx hlx hg1 hs1 hGx
              by_cases hv0 : v = 0
              · subst hv0
                have HI2 : Hid (∀ cu v, sumG es cu = some v → (lf cu && !decide (cu = x)) = false → v = 0) := Lib.hid (fun cu v h1 h2 => by
                  by_cases e : cu = x
                  · subst e
                    rw [HG.out] at h1
                    injection h1 with h1
                    exact h1.symm
                  · exact HI.out cu v h1 (by simpa [e] using h2))
                clear HI HG HNo HYes
                go_wp2
                go_roundw
                case rel => exact ⟨_, cnt1, hrg1, HI2, Hb1, HE1⟩
                case measure => rw [hrg1.left_eq, hrg.left_eq]; exact hlt1
              · have b0 : (v == 0) = false := beq_eq_false_iff_ne.2 hv0
                have b1 : (v != 0) = true := bne_iff_ne.2 hv0
                have HN2 := Lib.hid (HNo.out 2 _ (by decide) (fun h => hv0 (h.even x v HG.out)) Hb1.out)
                clear HI HG HNo HYes hrg hrg1
                go_wp2_with fail
                first
                  | exact HN2.out
                  | (go_ret2; exact HN2.out)
end Go.Proofs.YtchkdidpnjakeaaGreatDoor.Led
