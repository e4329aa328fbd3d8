/- law54.heavy of no steps: what is not heavy is few. ref52.Party: where a party of a name stands. ref54.Kind, Bank: of the first party of a name. Currencies, money, ranges: money.May, ref01.May, ref14.In, town.among. ref54.parties: which parties may be. -/
import Derived.Test.YtchkdidpnjakeaaGreatDoorGBNew3
import Derived.Test.YtchkdidpnjakeaaGreatDoorGBCloneI
import Derived.BigQuiet
namespace Go.Proofs.YtchkdidpnjakeaaGreatDoor
open Go.RowKit Go.Maps Go.Lib
set_option linter.unusedVariables false
set_option maxRecDepth 100000

structure FewU (u : Su) : Prop where
  par : u.par.length ≤ 16
  dl : u.dl.length ≤ 6
  fd : u.fd.length ≤ 20
  rest : u.rest.length ≤ 10
  hol : u.hol.length ≤ 30
def HlP (u : Su) (w : World) (e : Ending) (w' : World) : Prop := ∃ r : Bool, e = .returned (.bool r) ∧ (r = false → FewU u) ∧ Below w.heap.size w w'
set_option maxHeartbeats 8000000 in
theorem heavy_any {w : World} {u : Su} {a : Sa} (hA : SuAt w w.heap.size u a) (hu : SuB u) :
    Calls Tryz.prog 5 #[.agg #[.slice a.PA u.par.length a.pc, .slice a.DA u.dl.length a.dc, .slice a.FA u.fd.length a.fc, .slice a.RA u.rest.length a.rc, .slice a.HA u.hol.length a.hc], .slice none 0 0, .int .i64 0] w fun e w' => HlP u w e w' := by
  obtain ⟨W1, hW1⟩ : ∃ W1, W1 = w.alloc (.cells #[.slice a.PA u.par.length a.pc, .slice a.DA u.dl.length a.dc, .slice a.FA u.fd.length a.fc, .slice a.RA u.rest.length a.rc, .slice a.HA u.hol.length a.hc] 29) := ⟨_, rfl⟩
  have HS : Hid (∀ X, Below W1.heap.size W1 X → SbX w X u a) := Lib.hid fun X hX => SbX.of hA hW1 hX
  have H50 : Hid (∀ X, Below W1.heap.size W1 X → Calls Tryz.prog 14 #[.agg #[.slice a.PA u.par.length a.pc, .slice a.DA u.dl.length a.dc, .slice a.FA u.fd.length a.fc, .slice a.RA u.rest.length a.rc, .slice a.HA u.hol.length a.hc]] X fun e w' => HvP u X e w') := Lib.hid fun X hX => heavy50_any ((HS.out X hX).su.more (Nat.le_of_lt (HS.out X hX).lt)) hu
  have hf0 := hu.fd
  have hr0 := hu.rest
  have hh0 := hu.hol
  have HTr : Hid (∀ X, Below W1.heap.size W1 X → HlP u w (.returned (.bool true)) X) := Lib.hid fun X hX => ⟨true, rfl, fun h => (by cases h), (HS.out X hX).bw⟩
  have HFb : Hid (u.par.length ≤ 16 ∧ u.dl.length ≤ 6 → u.fd.length ≤ 20 → u.rest.length ≤ 10 → u.hol.length ≤ 30 → ∀ X, Below W1.heap.size W1 X → HlP u w (.returned (.bool false)) X) := Lib.hid fun h1 h3 h4 h5 X hX => ⟨false, rfl, fun _ => ⟨h1.1, h1.2, h3, h4, h5⟩, (HS.out X hX).bw⟩
  have HW := Lib.hid hW1
  clear hW1 hA hu
  generalize HlP u w = CP at *
  go_enter Tryz.func5, Tryz.ntmps5
  go_upto_region 1 with fail
  rw [← HW.out]
  clear HW
  obtain ⟨k0, k1, k2, k3, k4, kl, _, _⟩ := HS.out W1 (Below.refl _ _)
  have HC := Lib.hid (H50.out W1 (Below.refl _ _))
  clear H50
  go_wp2_with fail
  refine HC.out.mono ?_
  rintro e w2 ⟨r, rfl, hr, hb⟩
  have HR := Lib.hid hr
  have HB2 := Lib.hid hb
  clear hr hb HC k0 k1 k2 k3 k4 kl
  obtain ⟨k0, k1, k2, k3, k4, kl, _, _⟩ := HS.out w2 HB2.out
  have HT1 := Lib.hid (HTr.out w2 HB2.out)
  cases r with
  | true =>
    go_wp2_with fail
    first
      | exact HT1.out
      | (go_ret; exact HT1.out)
  | false =>
    by_cases h3 : u.fd.length ≤ 20
    · have b3 : ¬ (20 : Int) < (u.fd.length : Int) := by omega
      by_cases h4 : u.rest.length ≤ 10
      · have b4 : ¬ (10 : Int) < (u.rest.length : Int) := by omega
        by_cases h5 : u.hol.length ≤ 30
        · have b5 : ¬ (30 : Int) < (u.hol.length : Int) := by omega
          have HFa := Lib.hid (HFb.out (HR.out rfl) h3 h4 h5 w2 HB2.out)
          clear HFb HR
          go_wp2_with fail
          clear k0 k1 k2 k3 k4 b3 b4 b5
          go_loopw [7] (fun i wr => ∃ k : Nat, k ≤ u.fd.length ∧ i = .int .i64 (k : Int) ∧ wr = w2) (fun i _ => u.fd.length - (RowKit.intOf i).toNat)
          case atStart => exact ⟨0, Nat.zero_le _, rfl, rfl⟩
          case round =>
            obtain ⟨k, hk, rfl, rfl⟩ := hrel
            obtain ⟨k0, k1, k2, k3, k4, kl, hsu, hbw⟩ := HS.out wr HB2.out
            by_cases hlt : k < u.fd.length
            · have b1 : (k : Int) < (u.fd.length : Int) := by omega
              obtain ⟨x, hx⟩ : ∃ x, u.fd[k]? = some x := ⟨u.fd[k], List.getElem?_eq_getElem hlt⟩
              obtain ⟨g, off, hFA, hg, hc⟩ := hsu.fd (by omega)
              obtain ⟨c0, c1, c2⟩ := hc k x hx
              have hgw : g < wr.heap.size := by omega
              rw [hFA] at k2
              clear hFA hsu hbw hc hx
              by_cases g1 : (100 : Int) < (x.acc.size : Int)
              · go_wp2_with fail
                first
                  | exact HT1.out
                  | (go_ret; exact HT1.out)
              · by_cases g2 : (100 : Int) < (x.cur.size : Int)
                · go_wp2_with fail
                  first
                    | exact HT1.out
                    | (go_ret; exact HT1.out)
                · go_wp2_with fail
                  go_roundw
                  case rel => exact ⟨k + 1, by omega, by go_num, by first | rfl | trivial⟩
                  case measure => simp [RowKit.intOf] <;> omega
            · have b1 : ¬ (k : Int) < (u.fd.length : Int) := by omega
              go_wp2_with fail
              go_loopw [8] (fun i wr' => i = .int .i64 0 ∧ wr = wr') (fun _ _ => 0)
              case atStart => exact ⟨rfl, rfl⟩
              case round =>
                obtain ⟨rfl, rfl⟩ := hrel
                go_wp2_with fail
                first
                  | exact HFa.out
                  | (go_ret; exact HFa.out)
        · have b5 : (30 : Int) < (u.hol.length : Int) := by omega
          go_wp2_with fail
          first
            | exact HT1.out
            | (go_ret; exact HT1.out)
      · have b4 : (10 : Int) < (u.rest.length : Int) := by omega
        go_wp2_with fail
        first
          | exact HT1.out
          | (go_ret; exact HT1.out)
    · have b3 : (20 : Int) < (u.fd.length : Int) := by omega
      go_wp2_with fail
      first
        | exact HT1.out
        | (go_ret; exact HT1.out)
end Go.Proofs.YtchkdidpnjakeaaGreatDoor
namespace Go.Proofs.YtchkdidpnjakeaaGreatDoor
open Go.RowKit Go.Maps Go.Lib
set_option linter.unusedVariables false
set_option maxRecDepth 100000

theorem parF_at {l : List Py} {s : ByteArray} {k : Nat} {y : Py} (h : ∀ z ∈ l.take k, ¬ z.nm = s) (hk : l[k]? = some y) (hy : y.nm = s) : parF l s = some y := by
  have e : l = l.take k ++ y :: l.drop (k + 1) := by
    obtain ⟨hlt, he⟩ := List.getElem?_eq_some_iff.1 hk
    rw [← he, ← List.drop_eq_getElem_cons hlt, List.take_append_drop]
  rw [e]
  unfold parF
  rw [List.find?_append]
  have e1 : (l.take k).find? (fun y => decide (y.nm = s)) = none := by
    rw [List.find?_eq_none]
    intro z hz
    simpa using h z hz
  rw [e1]
  simp [hy]
theorem parF_no {l : List Py} {s : ByteArray} (h : ∀ z ∈ l, ¬ z.nm = s) : parF l s = none := by
  unfold parF
  rw [List.find?_eq_none]
  intro z hz
  simpa using h z hz
end Go.Proofs.YtchkdidpnjakeaaGreatDoor
namespace Go.Proofs.YtchkdidpnjakeaaGreatDoor
open Go.RowKit Go.Maps Go.Lib
set_option linter.unusedVariables false
set_option maxRecDepth 100000

set_option maxHeartbeats 1000000 in
theorem kind_any {w : World} {u : Su} {a : Sa} (hA : SuAt w w.heap.size u a) (s : ByteArray) (hp0 : u.par.length ≤ 100000000) :
    Calls Tryz.prog 35 #[.agg #[.slice a.PA u.par.length a.pc, .slice a.DA u.dl.length a.dc, .slice a.FA u.fd.length a.fc, .slice a.RA u.rest.length a.rc, .slice a.HA u.hol.length a.hc], .string s] w fun e w' => e = .returned (.int .i64 (kindF u.par s)) ∧ Below w.heap.size w w' := by
  obtain ⟨V, hV⟩ : ∃ V, V = suA u a := ⟨_, rfl⟩
  obtain ⟨W1, hW1⟩ : ∃ W1, W1 = w.alloc (.cells V 29) := ⟨_, rfl⟩
  have hb1 : Below w.heap.size w W1 := by rw [hW1]; exact (Below.refl _ _).alloc (Nat.le_refl _) _
  have hst : W1.heap[w.heap.size]? = some (.cells V 29 (0, 0)) := by rw [hW1]; exact heap_alloc_new _ _
  have hsl : w.heap.size < W1.heap.size := (Array.getElem?_eq_some_iff.1 hst).1
  have k0 : W1.cell? ⟨w.heap.size, 0, none⟩ = some (.slice a.PA u.par.length a.pc) := by
    rw [hV] at hst
    simp [World.cell?, hst, suA]
  have HQ : Hid (kindF u.par s = match parF u.par s with | some y => y.kd | none => -1) := Lib.hid rfl
  generalize kindF u.par s = kf at *
  have HA := Lib.hid (hA.below hb1)
  have HB := Lib.hid hb1
  have HW := Lib.hid hW1
  have HVV := Lib.hid hV
  clear hA hW1 hV hb1 hst
  go_enter Tryz.func35, Tryz.ntmps35
  go_upto_region 1 with fail
  have hE : #[Value.slice a.PA u.par.length a.pc, .slice a.DA u.dl.length a.dc, .slice a.FA u.fd.length a.fc, .slice a.RA u.rest.length a.rc, .slice a.HA u.hol.length a.hc] = V := HVV.out.symm
  rw [hE]
  rw [← HW.out]
  clear hE HW
  go_wp2_with fail
  go_loopw [5] (fun i wr => ∃ k : Nat, k ≤ u.par.length ∧ i = .int .i64 (k : Int) ∧ Hid (∀ z ∈ u.par.take k, ¬ z.nm = s) ∧ wr = W1) (fun i _ => u.par.length - (RowKit.intOf i).toNat)
  case atStart => exact ⟨0, Nat.zero_le _, rfl, Lib.hid (fun z hz => by simp at hz), rfl⟩
  case round =>
    obtain ⟨k, hk, rfl, HN, rfl⟩ := hrel
    by_cases hlt : k < u.par.length
    · have b1 : (k : Int) < (u.par.length : Int) := by omega
      obtain ⟨y, hy⟩ : ∃ y, u.par[k]? = some y := ⟨u.par[k], List.getElem?_eq_getElem hlt⟩
      have heq : u.par[k] = y := (List.getElem?_eq_some_iff.1 hy).2
      obtain ⟨g, off, hPA, hg, c0, c1, c2⟩ := HA.out.par.at_ hlt
      rw [heq] at c0 c1 c2
      have hgw : g < wr.heap.size := by omega
      rw [hPA] at k0
      by_cases hs : y.nm = s
      · have b2 : (y.nm.toList == s.toList) = true := by rw [ba_beq]; simp [hs]
        have HF : Hid ((Ending.returned (.int .i64 y.kd)) = .returned (.int .i64 (kf)) ∧ Below w.heap.size w wr) := Lib.hid ⟨by rw [HQ.out, parF_at HN.out hy hs], HB.out⟩
        clear hs
        go_wp2_with fail
        first
          | exact HF.out
          | (go_ret; exact HF.out)
      · have b2 : (y.nm.toList == s.toList) = false := by rw [ba_beq]; simp [hs]
        have HN2 : Hid (∀ z ∈ u.par.take (k + 1), ¬ z.nm = s) := Lib.hid fun z hz => by
          have e1 : u.par.take (k + 1) = u.par.take k ++ [y] := by rw [List.take_add_one, hy]; rfl
          rw [e1] at hz
          rcases List.mem_append.1 hz with hz | hz
          · exact HN.out z hz
          · rw [List.mem_singleton] at hz; rw [hz]; exact hs
        clear hs
        go_wp2_with fail
        go_roundw
        case rel => exact ⟨k + 1, by omega, by go_num, HN2, by first | rfl | trivial⟩
        case measure => simp [RowKit.intOf]; omega
    · have b1 : ¬ (k : Int) < (u.par.length : Int) := by omega
      obtain rfl : k = u.par.length := by omega
      have HF : Hid ((Ending.returned (.int .i64 (-1))) = .returned (.int .i64 (kf)) ∧ Below w.heap.size w wr) := Lib.hid ⟨by rw [HQ.out, parF_no fun z hz => HN.out z (by rw [List.take_length]; exact hz)], HB.out⟩
      go_wp2_with fail
      first
        | exact HF.out
        | (go_ret; exact HF.out)
set_option maxHeartbeats 1000000 in
theorem bank_any {w : World} {u : Su} {a : Sa} (hA : SuAt w w.heap.size u a) (s : ByteArray) (hp0 : u.par.length ≤ 100000000) :
    Calls Tryz.prog 38 #[.agg #[.slice a.PA u.par.length a.pc, .slice a.DA u.dl.length a.dc, .slice a.FA u.fd.length a.fc, .slice a.RA u.rest.length a.rc, .slice a.HA u.hol.length a.hc], .string s] w fun e w' => e = .returned (.string (bankF u.par s)) ∧ Below w.heap.size w w' := by
  obtain ⟨V, hV⟩ : ∃ V, V = suA u a := ⟨_, rfl⟩
  obtain ⟨W1, hW1⟩ : ∃ W1, W1 = w.alloc (.cells V 29) := ⟨_, rfl⟩
  have hb1 : Below w.heap.size w W1 := by rw [hW1]; exact (Below.refl _ _).alloc (Nat.le_refl _) _
  have hst : W1.heap[w.heap.size]? = some (.cells V 29 (0, 0)) := by rw [hW1]; exact heap_alloc_new _ _
  have hsl : w.heap.size < W1.heap.size := (Array.getElem?_eq_some_iff.1 hst).1
  have k0 : W1.cell? ⟨w.heap.size, 0, none⟩ = some (.slice a.PA u.par.length a.pc) := by
    rw [hV] at hst
    simp [World.cell?, hst, suA]
  have HQ : Hid (bankF u.par s = match parF u.par s with | some y => y.bk | none => ⟨#[]⟩) := Lib.hid rfl
  generalize bankF u.par s = kf at *
  have HA := Lib.hid (hA.below hb1)
  have HB := Lib.hid hb1
  have HW := Lib.hid hW1
  have HVV := Lib.hid hV
  clear hA hW1 hV hb1 hst
  go_enter Tryz.func38, Tryz.ntmps38
  go_upto_region 1 with fail
  have hE : #[Value.slice a.PA u.par.length a.pc, .slice a.DA u.dl.length a.dc, .slice a.FA u.fd.length a.fc, .slice a.RA u.rest.length a.rc, .slice a.HA u.hol.length a.hc] = V := HVV.out.symm
  rw [hE]
  rw [← HW.out]
  clear hE HW
  go_wp2_with fail
  go_loopw [5] (fun i wr => ∃ k : Nat, k ≤ u.par.length ∧ i = .int .i64 (k : Int) ∧ Hid (∀ z ∈ u.par.take k, ¬ z.nm = s) ∧ wr = W1) (fun i _ => u.par.length - (RowKit.intOf i).toNat)
  case atStart => exact ⟨0, Nat.zero_le _, rfl, Lib.hid (fun z hz => by simp at hz), rfl⟩
  case round =>
    obtain ⟨k, hk, rfl, HN, rfl⟩ := hrel
    by_cases hlt : k < u.par.length
    · have b1 : (k : Int) < (u.par.length : Int) := by omega
      obtain ⟨y, hy⟩ : ∃ y, u.par[k]? = some y := ⟨u.par[k], List.getElem?_eq_getElem hlt⟩
      have heq : u.par[k] = y := (List.getElem?_eq_some_iff.1 hy).2
      obtain ⟨g, off, hPA, hg, c0, c1, c2⟩ := HA.out.par.at_ hlt
      rw [heq] at c0 c1 c2
      have hgw : g < wr.heap.size := by omega
      rw [hPA] at k0
      by_cases hs : y.nm = s
      · have b2 : (y.nm.toList == s.toList) = true := by rw [ba_beq]; simp [hs]
        have HF : Hid ((Ending.returned (.string y.bk)) = .returned (.string (kf)) ∧ Below w.heap.size w wr) := Lib.hid ⟨by rw [HQ.out, parF_at HN.out hy hs], HB.out⟩
        clear hs
        go_wp2_with fail
        first
          | exact HF.out
          | (go_ret; exact HF.out)
      · have b2 : (y.nm.toList == s.toList) = false := by rw [ba_beq]; simp [hs]
        have HN2 : Hid (∀ z ∈ u.par.take (k + 1), ¬ z.nm = s) := Lib.hid fun z hz => by
          have e1 : u.par.take (k + 1) = u.par.take k ++ [y] := by rw [List.take_add_one, hy]; rfl
          rw [e1] at hz
          rcases List.mem_append.1 hz with hz | hz
          · exact HN.out z hz
          · rw [List.mem_singleton] at hz; rw [hz]; exact hs
        clear hs
        go_wp2_with fail
        go_roundw
        case rel => exact ⟨k + 1, by omega, by go_num, HN2, by first | rfl | trivial⟩
        case measure => simp [RowKit.intOf]; omega
    · have b1 : ¬ (k : Int) < (u.par.length : Int) := by omega
      obtain rfl : k = u.par.length := by omega
      have HF : Hid ((Ending.returned (.string ⟨#[]⟩)) = .returned (.string (kf)) ∧ Below w.heap.size w wr) := Lib.hid ⟨by rw [HQ.out, parF_no fun z hz => HN.out z (by rw [List.take_length]; exact hz)], HB.out⟩
      go_wp2_with fail
      first
        | exact HF.out
        | (go_ret; exact HF.out)
end Go.Proofs.YtchkdidpnjakeaaGreatDoor
namespace Go.Proofs.YtchkdidpnjakeaaGreatDoor
open Go.RowKit Go.Lib
set_option linter.unusedVariables false
set_option maxRecDepth 100000

theorem in_m (n a b : Int) (w : World) : Calls Tryz.prog 34 #[.int .i64 n, .int .i64 a, .int .i64 b] w fun e w' => e = .returned (.bool (decide (a ≤ n ∧ n ≤ b))) ∧ w = w' := by
  by_cases h1 : a ≤ n <;> by_cases h2 : n ≤ b
  all_goals
    go_enter Tryz.func34, Tryz.ntmps34
    go_wp2_with fail
    first
      | (go_ret; exact ⟨by simp [h1, h2], rfl⟩)
      | exact ⟨by simp [h1, h2], rfl⟩
theorem among_m (n a b : Int) (w : World) : Calls Tryz.prog 51 #[.int .i64 n, .int .i64 a, .int .i64 b] w fun e w' => e = .returned (.bool (decide (a ≤ n ∧ n ≤ b))) ∧ w = w' := by
  by_cases h1 : a ≤ n <;> by_cases h2 : n ≤ b
  all_goals
    go_enter Tryz.func51, Tryz.ntmps51
    go_wp2_with fail
    first
      | (go_ret; exact ⟨by simp [h1, h2], rfl⟩)
      | exact ⟨by simp [h1, h2], rfl⟩
def lgTo (s : ByteArray) (k : Nat) : Prop := ∀ i, i < k → 65 ≤ (bt s i).toNat ∧ (bt s i).toNat ≤ 90
theorem curOk_iff {s : ByteArray} (h : s.size = 3) : curOk s ↔ lgTo s 3 := by
  have e : s.data.toList = [bt s 0, bt s 1, bt s 2] := by
    refine List.ext_getElem (by simpa using h) fun i h1 h2 => ?_
    have h3 : i < 3 := by simpa using h2
    rcases (show i = 0 ∨ i = 1 ∨ i = 2 by omega) with rfl | rfl | rfl
    · show s.data.toList[0] = bt s 0
      rw [bt_eq (by omega)]; simp; rfl
    · show s.data.toList[1] = bt s 1
      rw [bt_eq (by omega)]; simp; rfl
    · show s.data.toList[2] = bt s 2
      rw [bt_eq (by omega)]; simp; rfl
  unfold curOk codeB
  rw [e]
  simp only [List.length_cons, List.length_nil, List.all_cons, List.all_nil, large, Bool.and_true, Bool.and_eq_true, decide_eq_true_eq, UInt8.le_iff_toNat_le]
  constructor
  · rintro ⟨_, ⟨a1, a2⟩, ⟨b1, b2⟩, c1, c2⟩ i hi
    rcases (show i = 0 ∨ i = 1 ∨ i = 2 by omega) with rfl | rfl | rfl
    · exact ⟨a1, a2⟩
    · exact ⟨b1, b2⟩
    · exact ⟨c1, c2⟩
  · intro g
    exact ⟨trivial, g 0 (by omega), g 1 (by omega), g 2 (by omega)⟩
theorem lgTo.step {s : ByteArray} {k : Nat} (h : lgTo s k) (hk : 65 ≤ (bt s k).toNat ∧ (bt s k).toNat ≤ 90) : lgTo s (k + 1) := fun i hi => by
  by_cases e : i = k
  · subst e; exact hk
  · exact h i (by omega)
theorem curOk.size {s : ByteArray} (h : curOk s) : s.size = 3 := by
  unfold curOk codeB at h
  rw [Bool.and_eq_true, decide_eq_true_eq] at h
  simpa using h.1
def CurQ (s : ByteArray) (w : World) (e : Ending) (w' : World) : Prop := w' = w ∧ ∃ r : Bool, e = .returned (.bool r) ∧ (r = true ↔ curOk s)
set_option maxHeartbeats 4000000 in
theorem cur_m (s : ByteArray) (w : World) (hs0 : s.size ≤ maxLen) : Calls Tryz.prog 111 #[.string s] w fun e w' => CurQ s w e w' := by
  unfold maxLen at hs0
  have HN : Hid (¬ curOk s → CurQ s w (.returned (.bool false)) w) := Lib.hid fun h => ⟨rfl, false, rfl, by simp [h]⟩
  have HY : Hid (curOk s → CurQ s w (.returned (.bool true)) w) := Lib.hid fun h => ⟨rfl, true, rfl, by simp [h]⟩
  by_cases hs : s.size = 3
  · have HC := Lib.hid (curOk_iff hs)
    generalize CurQ s w = CP at *
    have b3 : (s.size : Int) = 3 := by omega
    go_enter Tryz.func111, Tryz.ntmps111
    go_wp2_with fail
    go_loop [9] (fun i => ∃ k : Nat, k ≤ 3 ∧ Hid (lgTo s k) ∧ i = .int .i64 (k : Int)) (fun i => 3 - (RowKit.intOf i).toNat)
    case atStart => exact ⟨0, by omega, Lib.hid fun i hi => by omega, rfl⟩
    case round =>
      obtain ⟨k, hk, HK, rfl⟩ := hrel
      by_cases hlt : k < 3
      · have hks : k < s.size := by omega
        have b1 : (k : Int) < (s.size : Int) := by omega
        have b0 : (0 : Int) ≤ (k : Int) := by omega
        have hc : s[k].toNat < 256 := s[k].toNat_lt
        have HB := Lib.hid (bt_eq hks)
        by_cases h1 : s[k].toNat < 65
        · have l1 : decide ((s[k].toNat : Int) < 65) = true := by simp; omega
          have HX := Lib.hid (HN.out fun h => by have := HC.out.1 h k hlt; rw [HB.out] at this; omega)
          clear HN HY HC HK
          go_wp2_with fail
          first
            | exact HX.out
            | (go_ret; exact HX.out)
        · have l1 : decide ((s[k].toNat : Int) < 65) = false := by simp; omega
          by_cases h2 : 90 < s[k].toNat
          · have l2 : decide ((90 : Int) < (s[k].toNat : Int)) = true := by simp; omega
            have HX := Lib.hid (HN.out fun h => by have := HC.out.1 h k hlt; rw [HB.out] at this; omega)
            clear HN HY HC HK
            go_wp2_with fail
            first
              | exact HX.out
              | (go_ret; exact HX.out)
          · have l2 : decide ((90 : Int) < (s[k].toNat : Int)) = false := by simp; omega
            have HM := Lib.hid (HK.out.step (by rw [HB.out]; omega))
            clear HN HY HC HK
            go_wp2_with fail
            exact ⟨⟨k + 1, by omega, HM, by go_num⟩, by simp [RowKit.intOf]; omega⟩
      · have b1 : ¬ (k : Int) < (s.size : Int) := by omega
        obtain rfl : k = 3 := by omega
        have HX := Lib.hid (HY.out (HC.out.2 HK.out))
        clear HN HY HC HK
        go_wp2_with fail
        first
          | exact HX.out
          | (go_ret; exact HX.out)
  · have HX := Lib.hid (HN.out fun h => hs h.size)
    have b3 : ¬ (s.size : Int) = 3 := by omega
    generalize CurQ s w = CP at *
    go_enter Tryz.func111, Tryz.ntmps111
    go_wp2_with fail
    first
      | exact HX.out
      | (go_ret; exact HX.out)
set_option maxHeartbeats 4000000 in
theorem refCur_m (s : ByteArray) (w : World) (hs0 : s.size ≤ maxLen) : Calls Tryz.prog 39 #[.string s] w fun e w' => CurQ s w e w' := by
  unfold maxLen at hs0
  have HN : Hid (¬ curOk s → CurQ s w (.returned (.bool false)) w) := Lib.hid fun h => ⟨rfl, false, rfl, by simp [h]⟩
  have HY : Hid (curOk s → CurQ s w (.returned (.bool true)) w) := Lib.hid fun h => ⟨rfl, true, rfl, by simp [h]⟩
  by_cases hs : s.size = 3
  · have HC := Lib.hid (curOk_iff hs)
    generalize CurQ s w = CP at *
    have b3 : (s.size : Int) = 3 := by omega
    go_enter Tryz.func39, Tryz.ntmps39
    go_wp2_with fail
    go_loop [3] (fun i => ∃ k : Nat, k ≤ 3 ∧ Hid (lgTo s k) ∧ i = .int .i64 (k : Int)) (fun i => 3 - (RowKit.intOf i).toNat)
    case atStart => exact ⟨0, by omega, Lib.hid fun i hi => by omega, rfl⟩
    case round =>
      obtain ⟨k, hk, HK, rfl⟩ := hrel
      by_cases hlt : k < 3
      · have hks : k < s.size := by omega
        have b1 : (k : Int) < (s.size : Int) := by omega
        have b1' : (k : Int) < 3 := by omega
        have b0 : (0 : Int) ≤ (k : Int) := by omega
        have hc : s[k].toNat < 256 := s[k].toNat_lt
        have HB := Lib.hid (bt_eq hks)
        by_cases h1 : s[k].toNat < 65
        · have l1 : decide ((s[k].toNat : Int) < 65) = true := by simp; omega
          have HX := Lib.hid (HN.out fun h => by have := HC.out.1 h k hlt; rw [HB.out] at this; omega)
          clear HN HY HC HK
          go_wp2_with fail
          first
            | exact HX.out
            | (go_ret; exact HX.out)
        · have l1 : decide ((s[k].toNat : Int) < 65) = false := by simp; omega
          by_cases h2 : 90 < s[k].toNat
          · have l2 : decide ((90 : Int) < (s[k].toNat : Int)) = true := by simp; omega
            have HX := Lib.hid (HN.out fun h => by have := HC.out.1 h k hlt; rw [HB.out] at this; omega)
            clear HN HY HC HK
            go_wp2_with fail
            first
              | exact HX.out
              | (go_ret; exact HX.out)
          · have l2 : decide ((90 : Int) < (s[k].toNat : Int)) = false := by simp; omega
            have HM := Lib.hid (HK.out.step (by rw [HB.out]; omega))
            clear HN HY HC HK
            go_wp2_with fail
            exact ⟨⟨k + 1, by omega, HM, by go_num⟩, by simp [RowKit.intOf]; omega⟩
      · have b1 : ¬ (k : Int) < 3 := by omega
        obtain rfl : k = 3 := by omega
        have HX := Lib.hid (HY.out (HC.out.2 HK.out))
        clear HN HY HC HK
        go_wp2_with fail
        first
          | exact HX.out
          | (go_ret; exact HX.out)
  · have HX := Lib.hid (HN.out fun h => hs h.size)
    have b3 : ¬ (s.size : Int) = 3 := by omega
    generalize CurQ s w = CP at *
    go_enter Tryz.func39, Tryz.ntmps39
    go_wp2_with fail
    first
      | exact HX.out
      | (go_ret; exact HX.out)
end Go.Proofs.YtchkdidpnjakeaaGreatDoor
namespace Go.Proofs.YtchkdidpnjakeaaGreatDoor
open Go.RowKit Go.Maps Go.Lib
set_option linter.unusedVariables false
set_option maxRecDepth 100000

def ParTo (l : List Py) (k : Nat) : Prop := ∀ i p, i < k → l[i]? = some p → P1 l i p ∧ BkOk l p
theorem ParTo.step {l : List Py} {k : Nat} {p : Py} (h : ParTo l k) (hp : l[k]? = some p) (h1 : P1 l k p) (h2 : BkOk l p) : ParTo l (k + 1) := fun i q hi hq => by
  by_cases e : i = k
  · subst e
    rw [hp] at hq
    cases hq
    exact ⟨h1, h2⟩
  · exact h i q (by omega) hq
theorem ParTo.all {l : List Py} (h : ParTo l l.length) : PartiesOk l ↔ (1 : Int) ≤ (l.length : Int) ∧ (l.length : Int) ≤ 16 := by
  constructor
  · intro h
    have := h.few
    omega
  · intro h2
    refine ⟨by omega, fun i p hp => (h i p (List.getElem?_eq_some_iff.1 hp).1 hp).1, fun p hp => ?_⟩
    obtain ⟨i, hi⟩ := List.mem_iff_getElem?.1 hp
    exact (h i p (List.getElem?_eq_some_iff.1 hi).1 hi).2
theorem PartiesOk.at_ {l : List Py} (h : PartiesOk l) {k : Nat} {p : Py} (hp : l[k]? = some p) : P1 l k p ∧ BkOk l p := ⟨h.one k p hp, h.bank p (List.mem_of_getElem? hp)⟩
theorem kindF_two {l : List Py} {s : ByteArray} {k : Int} (hk : 0 ≤ k) : kindF l s = k ↔ IsK l s k := by
  unfold kindF IsK
  cases parF l s with
  | none => simp; omega
  | some y => simp
theorem bk_plain {l : List Py} {p : Py} (h : p.kd = 1 ∨ p.kd = 2) : BkOk l p ↔ p.bk.size = 0 := by
  unfold BkOk; rw [if_pos h]
theorem bk_own {l : List Py} {p : Py} (h : ¬ (p.kd = 1 ∨ p.kd = 2)) : BkOk l p ↔ kindF l p.bk = 2 := by
  unfold BkOk; rw [if_neg h, kindF_two (by omega)]; rfl
theorem size0 {s : ByteArray} : s.size = 0 ↔ s.toList = [] := by
  rw [← List.length_eq_zero_iff, ByteArray.toList_eq]
  simp
theorem empty_list : (⟨#[]⟩ : ByteArray).toList = [] := size0.1 rfl
set_option maxHeartbeats 8000000 in
theorem parties_d {w : World} {u : Su} {a : Sa} (hA : SuAt w w.heap.size u a) (hp0 : u.par.length ≤ 100000000) (hst : ∀ p ∈ u.par, p.nm.size ≤ maxLen ∧ p.bk.size ≤ maxLen) :
    Calls Tryz.prog 15 #[.agg #[.slice a.PA u.par.length a.pc, .slice a.DA u.dl.length a.dc, .slice a.FA u.fd.length a.fc, .slice a.RA u.rest.length a.rc, .slice a.HA u.hol.length a.hc]] w fun e w' => BoolQ (PartiesOk u.par) w e w' := by
  obtain ⟨W1, hW1⟩ : ∃ W1, W1 = w.alloc (.cells #[.slice a.PA u.par.length a.pc, .slice a.DA u.dl.length a.dc, .slice a.FA u.fd.length a.fc, .slice a.RA u.rest.length a.rc, .slice a.HA u.hol.length a.hc] 29) := ⟨_, rfl⟩
  have HS : Hid (∀ X, Below W1.heap.size W1 X → SbX w X u a) := Lib.hid fun X hX => SbX.of hA hW1 hX
  have HKd : Hid (∀ X s, Below W1.heap.size W1 X → Calls Tryz.prog 35 #[.agg #[.slice a.PA u.par.length a.pc, .slice a.DA u.dl.length a.dc, .slice a.FA u.fd.length a.fc, .slice a.RA u.rest.length a.rc, .slice a.HA u.hol.length a.hc], .string s] X fun e w' => e = .returned (.int .i64 (kindF u.par s)) ∧ Below X.heap.size X w') := Lib.hid fun X s hX => kind_any ((HS.out X hX).su.more (Nat.le_of_lt (HS.out X hX).lt)) s hp0
  have HN : Hid (¬ PartiesOk u.par → ∀ X, Below W1.heap.size W1 X → BoolQ (PartiesOk u.par) w (.returned (.bool false)) X) := Lib.hid fun h X hX => BoolQ.no h (HS.out X hX).bw
  have HY : Hid (∀ (r : Bool) X, (r = true ↔ PartiesOk u.par) → Below W1.heap.size W1 X → BoolQ (PartiesOk u.par) w (.returned (.bool r)) X) := Lib.hid fun r X h hX => ⟨r, rfl, h, (HS.out X hX).bw⟩
  have HZ := Lib.hid hst
  have HW := Lib.hid hW1
  have HB0 := Lib.hid (Below.refl W1.heap.size W1)
  clear hW1 hA hst
  generalize BoolQ (PartiesOk u.par) w = CP at *
  go_enter Tryz.func15, Tryz.ntmps15
  go_upto_region 1 with fail
  rw [← HW.out]
  clear HW
  go_wp2_with fail
  go_loopw [3, 4, 5, 6] (fun i _ _ _ wr => ∃ k : Nat, k ≤ u.par.length ∧ i = .int .i64 (k : Int) ∧ Hid (ParTo u.par k) ∧ Hid (Below W1.heap.size W1 wr)) (fun i _ _ _ _ => u.par.length - (RowKit.intOf i).toNat)
  case atStart => exact ⟨0, Nat.zero_le _, rfl, Lib.hid (fun i p hi => by omega), HB0⟩
  case round =>
    clear HB0
    obtain ⟨k, hk, rfl, HR, HB⟩ := hrel
    obtain ⟨k0, k1, k2, k3, k4, kl, hsu, hbw⟩ := HS.out wr HB.out
    by_cases hlt : k < u.par.length
    · have b1 : (k : Int) < (u.par.length : Int) := by omega
      obtain ⟨p, hp⟩ : ∃ p, u.par[k]? = some p := ⟨u.par[k], List.getElem?_eq_getElem hlt⟩
      have heq : u.par[k] = p := (List.getElem?_eq_some_iff.1 hp).2
      obtain ⟨g, off, hPA, hg, c0, c1, c2⟩ := hsu.par.at_ hlt
      rw [heq] at c0 c1 c2
      have hgw : g < wr.heap.size := by omega
      have hz := HZ.out p (List.mem_of_getElem? hp)
      rw [hPA] at k0
      have HNm := Lib.hid (fun X => ref6Name_any p.nm X hz.1)
      have HIn := Lib.hid (in_m p.kd 0 4)
      have HNo : Hid (¬ (P1 u.par k p ∧ BkOk u.par p) → ∀ X, Below W1.heap.size W1 X → CP (.returned (.bool false)) X) := Lib.hid fun h X hX => HN.out (fun h2 => h (h2.at_ hp)) X hX
      have HSt : Hid (P1 u.par k p → BkOk u.par p → ParTo u.par (k + 1)) := Lib.hid fun h1 h2 => HR.out.step hp h1 h2
      have HP := Lib.hid hp
      have hwy : Below wr.heap.size wr (wr.alloc (.cells #[.string p.nm, .string p.bk, .int .i64 p.kd] 38)) := (Below.refl _ _).alloc (Nat.le_refl _) _
      have HBy := Lib.hid (HB.out.trans (hwy.mono HB.out.size))
      clear hPA heq hp hz hsu hbw HR hwy
      by_cases h1 : nameB p.nm.data.toList = true
      · rw [h1] at HNm
        by_cases h2 : 0 ≤ p.kd ∧ p.kd ≤ 4
        · rw [decide_eq_true h2] at HIn
          go_wp2_with (first
            | (go_at_call 33; (with_reducible refine (HNm.out _).mono ?_); rintro e w' ⟨rfl, h⟩; subst h)
            | (go_at_call 34; (with_reducible refine (HIn.out _).mono ?_); rintro e w' ⟨rfl, h⟩; subst h)
            | fail)
          obtain ⟨wy, hwy⟩ : ∃ wy, wy = wr.alloc (.cells #[.string p.nm, .string p.bk, .int .i64 p.kd] 38) := ⟨_, rfl⟩
          have hyb : wy.heap[wr.heap.size]? = some (.cells #[.string p.nm, .string p.bk, .int .i64 p.kd] 38 (0, 0)) := by rw [hwy]; exact heap_alloc_new _ _
          have HBz := Lib.hid (show Below W1.heap.size W1 wy by rw [hwy]; exact HBy.out)
          have hzs : wr.heap.size < wy.heap.size := (Array.getElem?_eq_some_iff.1 hyb).1
          have HPc : Hid (∀ X, Below wy.heap.size wy X → X.cell? ⟨wr.heap.size, 0, none⟩ = some (.string p.nm) ∧ X.cell? ⟨wr.heap.size, 1, none⟩ = some (.string p.bk) ∧ X.cell? ⟨wr.heap.size, 2, none⟩ = some (.int .i64 p.kd) ∧ wr.heap.size < X.heap.size) := Lib.hid fun X hX => by
            have h := (hX.block _ hzs).trans hyb
            exact ⟨by simp [World.cell?, h], by simp [World.cell?, h], by simp [World.cell?, h], Nat.lt_of_lt_of_le hzs hX.size⟩
          have HBw : Hid (∀ X, Below wy.heap.size wy X → Below W1.heap.size W1 X) := Lib.hid fun X hX => HBz.out.trans (hX.mono HBz.out.size)
          rw [← hwy]
          have HBi := Lib.hid (Below.refl wy.heap.size wy)
          clear hwy hyb k0 k1 k2 k3 k4 kl c0 c1 c2 hgw hg HBy hzs HBz
          go_loopw [5] (fun i wr => ∃ j : Nat, j ≤ k ∧ i = .int .i64 (j : Int) ∧ Hid (∀ i q, i < j → u.par[i]? = some q → q.nm ≠ p.nm) ∧ Hid (Below wy.heap.size wy wr)) (fun i _ => k - (RowKit.intOf i).toNat)
          case atStart => exact ⟨0, Nat.zero_le _, rfl, Lib.hid (fun i q hi => by omega), HBi⟩
          case round =>
            clear HBi
            obtain ⟨j, hj, rfl, HD, HB1⟩ := hrel
            obtain ⟨k0, k1, k2, k3, k4, kl, hsu, hbw⟩ := HS.out wr (HBw.out wr HB1.out)
            obtain ⟨p0, p1, p2, hpl⟩ := HPc.out wr HB1.out
            by_cases hjl : j < k
            · have b1 : (j : Int) < (k : Int) := by omega
              have hjl2 : j < u.par.length := by omega
              have b2 : (j : Int) < (u.par.length : Int) := by omega
              obtain ⟨q, hq⟩ : ∃ q, u.par[j]? = some q := ⟨u.par[j], List.getElem?_eq_getElem hjl2⟩
              have heq : u.par[j] = q := (List.getElem?_eq_some_iff.1 hq).2
              obtain ⟨g, off, hPA, hg, c0, c1, c2⟩ := hsu.par.at_ hjl2
              rw [heq] at c0 c1 c2
              have hgw : g < wr.heap.size := by omega
              rw [hPA] at k0
              have HD1 : Hid (∀ n, Below wy.heap.size wy (wr.drewN n)) := Lib.hid fun n => below_drewM HB1.out n
              clear hPA heq hsu hbw
              by_cases hs : q.nm = p.nm
              · have b3 : (q.nm.toList == p.nm.toList) = true := by rw [ba_beq]; simp [hs]
                have HX := Lib.hid (fun n => HNo.out (fun h => h.1.2.2.2 j q hjl hq hs) _ (HBw.out _ (HD1.out n)))
                clear hs hq HD HNo HSt HN HY
                go_wp2_with fail
                go_quiet (fail)
                go_wp2_with fail
                first
                  | exact HX.out _
                  | (go_ret; exact HX.out _)
              · have b3 : (q.nm.toList == p.nm.toList) = false := by rw [ba_beq]; simp [hs]
                have HD2 : Hid (∀ i q, i < j + 1 → u.par[i]? = some q → q.nm ≠ p.nm) := Lib.hid fun i z hi hz => by
                  by_cases e : i = j
                  · subst e; rw [hq] at hz; cases hz; exact hs
                  · exact HD.out i z (by omega) hz
                clear hs hq HD
                go_wp2_with fail
                go_quiet (fail)
                go_wp2_with fail
                go_roundw
                case rel => exact ⟨j + 1, by omega, by go_num, HD2, Lib.hid (HD1.out _)⟩
                case measure => simp [RowKit.intOf] <;> omega
            · have b1 : ¬ (j : Int) < (k : Int) := by omega
              obtain rfl : j = k := by omega
              have HP1 : Hid (P1 u.par j p) := Lib.hid ⟨h1, h2.1, h2.2, fun i q hi hq => HD.out i q hi hq⟩
              have HBv := Lib.hid (HBw.out wr HB1.out)
              have HKc := Lib.hid (HKd.out wr p.bk HBv.out)
              clear HD HB1 HPc HBw hsu hbw h1 h2
              have HBv2 : Hid (∀ X, Below wr.heap.size wr X → Below W1.heap.size W1 X) := Lib.hid fun X hX => HBv.out.trans (hX.mono HBv.out.size)
              by_cases hpl1 : p.kd = 1 ∨ p.kd = 2
              · have HT : Hid ((p.kd == 1) = true ∨ (p.kd == 1) = false ∧ (p.kd == 2) = true) := Lib.hid (by
                  rcases hpl1 with h | h
                  · left; simp [h]
                  · right; simp [h])
                by_cases hb0 : p.bk.size = 0
                · have HX := Lib.hid (HSt.out HP1.out ((bk_plain hpl1).2 hb0))
                  have hb1 : (p.bk.toList == (⟨#[]⟩ : ByteArray).toList) = true := by rw [size0.1 hb0, empty_list]; rfl
                  have hb2 : (p.bk.toList == []) = true := by rw [size0.1 hb0]; rfl
                  clear HNo HSt HP1 hpl1 hb0 HN HY
                  generalize p.kd = kd at *
                  rcases HT.out with t1 | ⟨t1, t2⟩
                  all_goals
                    clear HT
                    go_wp2_with fail
                    go_roundw
                    case rel => exact ⟨j + 1, by omega, by go_num, HX, HBv⟩
                    case measure => simp [RowKit.intOf] <;> omega
                · have HX := Lib.hid (HNo.out (fun h => hb0 ((bk_plain hpl1).1 h.2)) _ HBv.out)
                  have hb2 : (p.bk.toList == []) = false := by
                    rw [beq_eq_false_iff_ne]
                    exact fun h => hb0 (size0.2 h)
                  have hb1 : (p.bk.toList == (⟨#[]⟩ : ByteArray).toList) = false := by rw [empty_list]; exact hb2
                  clear HNo HSt HP1 hpl1 hb0 HN HY
                  generalize p.kd = kd at *
                  rcases HT.out with t1 | ⟨t1, t2⟩
                  all_goals
                    clear HT
                    go_wp2_with fail
                    first
                      | exact HX.out
                      | (go_ret; exact HX.out)
              · have t1 : (p.kd == 1) = false := by
                  rw [beq_eq_false_iff_ne]; exact fun h => hpl1 (.inl h)
                have t2 : (p.kd == 2) = false := by
                  rw [beq_eq_false_iff_ne]; exact fun h => hpl1 (.inr h)
                by_cases hb0 : kindF u.par p.bk = 2
                · have HX := Lib.hid (HSt.out HP1.out ((bk_own hpl1).2 hb0))
                  have t3 : (kindF u.par p.bk == 2) = true := by rw [beq_iff_eq]; exact hb0
                  clear HNo HSt HP1 hpl1 hb0 HN HY
                  generalize p.kd = kd at *
                  generalize kindF u.par p.bk = kf at *
                  go_wp2_with fail
                  refine HKc.out.mono ?_
                  rintro e w3 ⟨rfl, hb3⟩
                  have HB3 := Lib.hid (HBv2.out w3 hb3)
                  clear hb3
                  go_wp2_with fail
                  go_roundw
                  case rel => exact ⟨j + 1, by omega, by go_num, HX, HB3⟩
                  case measure => simp [RowKit.intOf] <;> omega
                · have HX : Hid (∀ X, Below W1.heap.size W1 X → CP (.returned (.bool false)) X) := Lib.hid (HNo.out (fun h => hb0 ((bk_own hpl1).1 h.2)))
                  have t3 : (kindF u.par p.bk == 2) = false := by rw [beq_eq_false_iff_ne]; exact hb0
                  clear HNo HSt HP1 hpl1 hb0 HN HY
                  generalize p.kd = kd at *
                  generalize kindF u.par p.bk = kf at *
                  go_wp2_with fail
                  refine HKc.out.mono ?_
                  rintro e w3 ⟨rfl, hb3⟩
                  have HX3 := Lib.hid (HX.out w3 (HBv2.out w3 hb3))
                  clear hb3
                  go_wp2_with fail
                  first
                    | exact HX3.out
                    | (go_ret; exact HX3.out)
        · rw [decide_eq_false h2] at HIn
          have HX := Lib.hid (HNo.out (fun h => h2 ⟨h.1.2.1, h.1.2.2.1⟩) _ HBy.out)
          go_wp2_with (first
            | (go_at_call 33; (with_reducible refine (HNm.out _).mono ?_); rintro e w' ⟨rfl, h⟩; subst h)
            | (go_at_call 34; (with_reducible refine (HIn.out _).mono ?_); rintro e w' ⟨rfl, h⟩; subst h)
            | fail)
          first
            | exact HX.out
            | (go_ret; exact HX.out)
      · rw [Bool.not_eq_true] at h1
        rw [h1] at HNm
        have HX := Lib.hid (HNo.out (fun h => by have := h.1.1; unfold nmOk at this; rw [h1] at this; cases this) _ HBy.out)
        go_wp2_with (first
          | (go_at_call 33; (with_reducible refine (HNm.out _).mono ?_); rintro e w' ⟨rfl, h⟩; subst h)
          | fail)
        first
          | exact HX.out
          | (go_ret; exact HX.out)
    · have b1 : ¬ (k : Int) < (u.par.length : Int) := by omega
      obtain rfl : k = u.par.length := by omega
      have HIn := Lib.hid (in_m (u.par.length : Int) 1 16)
      have HX : Hid (∀ r : Bool, (r = true ↔ (1 : Int) ≤ (u.par.length : Int) ∧ (u.par.length : Int) ≤ 16) → CP (.returned (.bool r)) wr) := Lib.hid fun r hr => HY.out r wr (hr.trans HR.out.all.symm) HB.out
      clear HN HY HR hk hlt
      go_wp2_with (first
        | (go_at_call 34; (with_reducible refine (HIn.out _).mono ?_); rintro e w' ⟨rfl, h⟩; subst h)
        | fail)
      first
        | exact HX.out _ (by simp)
        | (go_ret; exact HX.out _ (by simp))
end Go.Proofs.YtchkdidpnjakeaaGreatDoor
