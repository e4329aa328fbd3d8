/- ref54.funds: which funds may be. town.fundsMay: which funds may be. -/
import Derived.Test.YtchkdidpnjakeaaGreatDoorGMHeavy2
import Derived.Test.YtchkdidpnjakeaaGreatDoorGMParT
import Derived.Test.YtchkdidpnjakeaaGreatDoorGMSum
import Derived.Test.YtchkdidpnjakeaaGreatDoorMDealT0
namespace Go.Proofs.YtchkdidpnjakeaaGreatDoor
open Go.RowKit Go.Maps Go.Lib
set_option linter.unusedVariables false
set_option maxRecDepth 100000

/-- an entry by itself -/
structure F1 (l : List Py) (f : Led.Ent) : Prop where
  bk : (bankF l f.acc).size ≠ 0
  cur : curOk f.cur
  lo : 0 ≤ f.n
  hi : f.n ≤ 68719476736
def FdTo (l : List Py) (fd : List Led.Ent) (k : Nat) : Prop := ∀ i f, i < k → fd[i]? = some f → F1 l f ∧ curSum f.cur (fd.take (i + 1)) ≤ 68719476736
section
variable {l : List Py} {fd : List Led.Ent} {k : Nat} {f : Led.Ent}
theorem FdTo.step (h : FdTo l fd k) (hf : fd[k]? = some f) (h1 : F1 l f) (h2 : curSum f.cur (fd.take (k + 1)) ≤ 68719476736) : FdTo l fd (k + 1) := fun i x hi hx => by
  by_cases e : i = k
  · subst e; rw [hf] at hx; cases hx; exact ⟨h1, h2⟩
  · exact h i x (by omega) hx
theorem FdTo.sum (h : FdTo l fd k) (c : ByteArray) : ∀ j, j ≤ k → 0 ≤ curSum c (fd.take j) ∧ curSum c (fd.take j) ≤ 68719476736 * (j : Int)
  | 0, _ => by simp [curSum]
  | j + 1, hj => by
    have ih := h.sum c j (by omega)
    by_cases hlt : j < fd.length
    · have hx : fd[j]? = some fd[j] := List.getElem?_eq_getElem hlt
      have h1 := (h j _ (by omega) hx).1
      have h2 := h1.lo
      have h3 := h1.hi
      rw [curSum_take hx]
      split <;> omega
    · rw [List.take_of_length_le (by omega)]
      rw [List.take_of_length_le (by omega)] at ih
      omega
theorem FundsOk.at_ (h : FundsOk l fd) (hf : fd[k]? = some f) : F1 l f ∧ curSum f.cur (fd.take (k + 1)) ≤ 68719476736 := by
  have h1 := h.one f (List.mem_of_getElem? hf)
  have h2 := h.sum k f hf
  have h3 := curSum_nn (c := f.cur) (l := fd.take k) fun e he => (h.one e (List.mem_of_mem_take he)).2.2
  have h4 := curSum_take (c := f.cur) hf
  rw [if_pos rfl] at h4
  exact ⟨⟨h1.1, h1.2.1, h1.2.2, by omega⟩, h2⟩
theorem FdTo.all (h : FdTo l fd fd.length) : FundsOk l fd ↔ fd.length ≤ 64 := by
  constructor
  · exact fun h => h.few
  · intro h2
    refine ⟨h2, fun f hf => ?_, fun i f hf => (h i f (List.getElem?_eq_some_iff.1 hf).1 hf).2⟩
    obtain ⟨i, hi⟩ := List.mem_iff_getElem?.1 hf
    have h3 := (h i f (List.getElem?_eq_some_iff.1 hi).1 hi).1
    exact ⟨h3.bk, h3.cur, h3.lo⟩
theorem Re.at_ {w : World} {B : Nat} {A : Option Addr} (h : Led.Re w B A fd) (hf : fd[k]? = some f) : ∃ g off, A = some ⟨g, off, none⟩ ∧ g < B ∧ w.cell? ⟨g, off + k * 3, none⟩ = some (.string f.acc) ∧ w.cell? ⟨g, off + k * 3 + 1, none⟩ = some (.string f.cur) ∧ w.cell? ⟨g, off + k * 3 + 2, none⟩ = some (.int .i64 f.n) := by
  obtain ⟨g, off, e, hg, hc⟩ := h (by have := (List.getElem?_eq_some_iff.1 hf).1; omega)
  exact ⟨g, off, e, hg, hc k f hf⟩
end
/-- the texts of the funds are texts -/
structure FdSz (fd : List Led.Ent) : Prop where
  few : fd.length ≤ 20
  txt : ∀ f ∈ fd, f.acc.size ≤ maxLen ∧ f.cur.size ≤ maxLen
set_option maxHeartbeats 16000000 in
theorem funds_d {w : World} {u : Su} {a : Sa} (hA : SuAt w w.heap.size u a) (hp0 : u.par.length ≤ 100000000) (hz : FdSz u.fd) :
    Calls Tryz.prog 17 #[.agg #[.slice a.PA u.par.length a.pc, .slice a.DA u.dl.length a.dc, .slice a.FA u.fd.length a.fc, .slice a.RA u.rest.length a.rc, .slice a.HA u.hol.length a.hc]] w fun e w' => BoolQ (FundsOk u.par u.fd) w e w' := by
  obtain ⟨W1, hW1⟩ : ∃ W1, W1 = w.alloc (.cells #[.slice a.PA u.par.length a.pc, .slice a.DA u.dl.length a.dc, .slice a.FA u.fd.length a.fc, .slice a.RA u.rest.length a.rc, .slice a.HA u.hol.length a.hc] 29) := ⟨_, rfl⟩
  have HS : Hid (∀ X, Below W1.heap.size W1 X → SbX w X u a) := Lib.hid fun X hX => SbX.of hA hW1 hX
  have HBd : Hid (∀ X s, Below W1.heap.size W1 X → Calls Tryz.prog 38 #[.agg #[.slice a.PA u.par.length a.pc, .slice a.DA u.dl.length a.dc, .slice a.FA u.fd.length a.fc, .slice a.RA u.rest.length a.rc, .slice a.HA u.hol.length a.hc], .string s] X fun e w' => e = .returned (.string (bankF u.par s)) ∧ Below X.heap.size X w') := Lib.hid fun X s hX => bank_any ((HS.out X hX).su.more (Nat.le_of_lt (HS.out X hX).lt)) s hp0
  have HN : Hid (¬ FundsOk u.par u.fd → ∀ X, Below W1.heap.size W1 X → BoolQ (FundsOk u.par u.fd) w (.returned (.bool false)) X) := Lib.hid fun h X hX => BoolQ.no h (HS.out X hX).bw
  have HY : Hid (∀ (r : Bool) X, (r = true ↔ FundsOk u.par u.fd) → Below W1.heap.size W1 X → BoolQ (FundsOk u.par u.fd) w (.returned (.bool r)) X) := Lib.hid fun r X h hX => ⟨r, rfl, h, (HS.out X hX).bw⟩
  have HZ := Lib.hid hz.txt
  have hf20 := hz.few
  have HW := Lib.hid hW1
  have HB0 := Lib.hid (Below.refl W1.heap.size W1)
  clear hW1 hA hz
  generalize BoolQ (FundsOk u.par u.fd) w = CP at *
  go_enter Tryz.func17, Tryz.ntmps17
  go_upto_region 1 with fail
  rw [← HW.out]
  clear HW
  go_wp2_with fail
  go_loopw [3, 4, 5, 6] (fun i _ _ _ wr => ∃ k : Nat, k ≤ u.fd.length ∧ i = .int .i64 (k : Int) ∧ Hid (FdTo u.par u.fd k) ∧ Hid (Below W1.heap.size W1 wr)) (fun i _ _ _ _ => u.fd.length - (RowKit.intOf i).toNat)
  case atStart => exact ⟨0, Nat.zero_le _, rfl, Lib.hid (fun i p hi => by omega), HB0⟩
  case round =>
    clear HB0
    obtain ⟨k, hk, rfl, HR, HB⟩ := hrel
    obtain ⟨k0, k1, k2, k3, k4, kl, hsu, hbw⟩ := HS.out wr HB.out
    by_cases hlt : k < u.fd.length
    · have b1 : (k : Int) < (u.fd.length : Int) := by omega
      obtain ⟨f, hf⟩ : ∃ f, u.fd[k]? = some f := ⟨u.fd[k], List.getElem?_eq_getElem hlt⟩
      obtain ⟨g, off, hFA, hg, c0, c1, c2⟩ := Re.at_ hsu.fd hf
      have hgw : g < wr.heap.size := by omega
      rw [hFA] at k2
      obtain ⟨wy, hwy⟩ : ∃ wy, wy = wr.alloc (.cells #[.string f.acc, .string f.cur, .int .i64 f.n] 51) := ⟨_, rfl⟩
      have hby : Below wr.heap.size wr wy := by rw [hwy]; exact (Below.refl _ _).alloc (Nat.le_refl _) _
      have hyb : wy.heap[wr.heap.size]? = some (.cells #[.string f.acc, .string f.cur, .int .i64 f.n] 51 (0, 0)) := by rw [hwy]; exact heap_alloc_new _ _
      have HBy := Lib.hid (HB.out.trans (hby.mono HB.out.size))
      have hzs : wr.heap.size < wy.heap.size := (Array.getElem?_eq_some_iff.1 hyb).1
      have HPc : Hid (∀ X, Below wy.heap.size wy X → X.cell? ⟨wr.heap.size, 0, none⟩ = some (.string f.acc) ∧ X.cell? ⟨wr.heap.size, 1, none⟩ = some (.string f.cur) ∧ X.cell? ⟨wr.heap.size, 2, none⟩ = some (.int .i64 f.n) ∧ wr.heap.size < X.heap.size) := Lib.hid fun X hX => by
        have h := (hX.block _ hzs).trans hyb
        exact ⟨by simp [World.cell?, h], by simp [World.cell?, h], by simp [World.cell?, h], Nat.lt_of_lt_of_le hzs hX.size⟩
      have HBw : Hid (∀ X, Below wy.heap.size wy X → Below W1.heap.size W1 X) := Lib.hid fun X hX => HBy.out.trans (hX.mono HBy.out.size)
      have HWy := Lib.hid hwy
      have HF := Lib.hid hf
      have HCb := Lib.hid (HBd.out wy f.acc HBy.out)
      have HNo : Hid (¬ (F1 u.par f ∧ curSum f.cur (u.fd.take (k + 1)) ≤ 68719476736) → ∀ X, Below wy.heap.size wy X → CP (.returned (.bool false)) X) := Lib.hid fun h X hX => HN.out (fun h2 => h (h2.at_ HF.out)) X (HBw.out X hX)
      have hzc := (HZ.out f (List.mem_of_getElem? hf)).2
      clear hFA hf hwy hby hyb hzs hsu hbw
      go_upto_region 5 with fail
      rw [← HWy.out]
      clear HWy k0 k1 k2 k3 k4 kl c0 c1 c2 hgw hg
      obtain ⟨k0, k1, k2, k3, k4, kl, _, _⟩ := HS.out wy HBy.out
      obtain ⟨p0, p1, p2, pl⟩ := HPc.out wy (Below.refl _ _)
      go_wp2_with fail
      refine HCb.out.mono ?_
      rintro e w2 ⟨rfl, hb⟩
      have HB2 := Lib.hid hb
      clear hb HCb k0 k1 k2 k3 k4 kl p0 p1 p2 pl
      obtain ⟨p0, p1, p2, pl⟩ := HPc.out w2 HB2.out
      by_cases h0 : (bankF u.par f.acc).size = 0
      · have i0 : ((bankF u.par f.acc).toList == []) = true := by rw [size0.1 h0]; rfl
        have HX := Lib.hid (HNo.out (fun h => h.1.bk h0) w2 HB2.out)
        clear h0 HN HY HNo
        generalize bankF u.par f.acc = bf at *
        go_wp2_with fail
        first
          | exact HX.out
          | (go_ret; exact HX.out)
      · have i0 : ((bankF u.par f.acc).toList == []) = false := by
          rw [beq_eq_false_iff_ne]
          exact fun h => h0 (size0.2 h)
        have HCc := Lib.hid (refCur_m f.cur w2 hzc)
        have H0 := Lib.hid h0
        clear h0
        have HF1 : Hid (curOk f.cur → 0 ≤ f.n → f.n ≤ 68719476736 → F1 u.par f) := Lib.hid fun h1 h2 h3 => ⟨H0.out, h1, h2, h3⟩
        clear H0
        generalize bankF u.par f.acc = bf at *
        go_wp2_with fail
        refine HCc.out.mono ?_
        rintro e w3 ⟨rfl, r, rfl, hr⟩
        have HRc := Lib.hid hr
        clear hr HCc
        cases r with
        | false =>
          have HX := Lib.hid (HNo.out (fun h => by have := HRc.out.2 h.1.cur; cases this) w3 HB2.out)
          clear HN HY HNo HF1
          go_wp2_with fail
          first
            | exact HX.out
            | (go_ret; exact HX.out)
        | true =>
          by_cases h1 : 0 ≤ f.n
          · have b2 : decide (f.n < 0) = false := decide_eq_false (by omega)
            by_cases h2 : f.n ≤ 68719476736
            · have b3 : decide ((68719476736 : Int) < f.n) = false := decide_eq_false (by omega)
              have HF2 := Lib.hid (HF1.out (HRc.out.1 rfl) h1 h2)
              have HSm : Hid (∀ j, j ≤ k + 1 → 0 ≤ curSum f.cur (u.fd.take j) ∧ curSum f.cur (u.fd.take j) ≤ 68719476736 * (j : Int)) := Lib.hid fun j hj => by
                by_cases e : j ≤ k
                · exact HR.out.sum f.cur j e
                · obtain rfl : j = k + 1 := by omega
                  have h3 := HR.out.sum f.cur k (Nat.le_refl _)
                  rw [curSum_take HF.out, if_pos rfl]
                  omega
              have HBs : Hid (∀ X, Below w3.heap.size w3 X → Below wy.heap.size wy X) := Lib.hid fun X hX => HB2.out.trans (hX.mono HB2.out.size)
              have HBi := Lib.hid (Below.refl w3.heap.size w3)
              have HSt : Hid (curSum f.cur (u.fd.take (k + 1)) ≤ 68719476736 → FdTo u.par u.fd (k + 1)) := Lib.hid fun h => HR.out.step HF.out HF2.out h
              clear HRc h1 h2 HF1 HR
              go_wp2_with fail
              clear p0 p1 p2 pl b2 b3
              rename World => w3
              go_loopw [5, 6] (fun s i wr => ∃ j : Nat, j ≤ k + 1 ∧ i = .int .i64 (j : Int) ∧ s = .int .i64 (curSum f.cur (u.fd.take j)) ∧ Hid (Below w3.heap.size w3 wr)) (fun _ i _ => k + 1 - (RowKit.intOf i).toNat)
              case atStart => exact ⟨0, Nat.zero_le _, rfl, by simp [curSum], HBi⟩
              case round =>
                clear HBi
                obtain ⟨j, hj, rfl, rfl, HB3⟩ := hrel
                obtain ⟨k0, k1, k2, k3, k4, kl, hsu, hbw⟩ := HS.out wr (HBw.out wr (HBs.out wr HB3.out))
                obtain ⟨p0, p1, p2, pl⟩ := HPc.out wr (HBs.out wr HB3.out)
                by_cases hjl : j ≤ k
                · have b2 : (j : Int) ≤ (k : Int) := by omega
                  have hjf : j < u.fd.length := by omega
                  have b3 : (j : Int) < (u.fd.length : Int) := by omega
                  obtain ⟨x, hx⟩ : ∃ x, u.fd[j]? = some x := ⟨u.fd[j], List.getElem?_eq_getElem hjf⟩
                  obtain ⟨g, off, hFA, hg, c0, c1, c2⟩ := Re.at_ hsu.fd hx
                  have hgw : g < wr.heap.size := by omega
                  rw [hFA] at k2
                  have hs1 := HSm.out j (by omega)
                  have hs2 := HSm.out (j + 1) (by omega)
                  have hst := curSum_take (c := f.cur) hx
                  have HD1 : Hid (∀ n, Below w3.heap.size w3 (wr.drewN n)) := Lib.hid fun n => below_drewM HB3.out n
                  clear hFA hsu hbw hx HN HY HNo HSm
                  by_cases hs : x.cur = f.cur
                  · have b4 : (x.cur.toList == f.cur.toList) = true := by rw [ba_beq]; simp [hs]
                    rw [if_pos hs] at hst
                    have HE := Lib.hid hst
                    have hb5 : -9223372036854775808 ≤ curSum f.cur (u.fd.take j) + x.n := by omega
                    have hb6 : curSum f.cur (u.fd.take j) + x.n ≤ 9223372036854775807 := by omega
                    have hw := wr64M _ hb5 hb6
                    have HW6 : Hid (curSum f.cur (u.fd.take (j + 1)) = curSum f.cur (u.fd.take j) + x.n) := HE
                    clear hst hs hs1 hs2 HE
                    generalize curSum f.cur (u.fd.take j) = sj at *
                    go_wp2_with fail
                    go_quiet (fail)
                    go_wp2_with fail
                    go_roundw
                    case rel => exact ⟨j + 1, by omega, by go_num, by rw [HW6.out], Lib.hid (HD1.out _)⟩
                    case measure => simp [RowKit.intOf] <;> omega
                  · have b4 : (x.cur.toList == f.cur.toList) = false := by rw [ba_beq]; simp [hs]
                    rw [if_neg hs, Int.add_zero] at hst
                    have HW6 := Lib.hid hst
                    clear hst hs hs1 hs2
                    generalize curSum f.cur (u.fd.take j) = sj at *
                    go_wp2_with fail
                    go_quiet (fail)
                    go_wp2_with fail
                    go_roundw
                    case rel => exact ⟨j + 1, by omega, by go_num, by rw [HW6.out], Lib.hid (HD1.out _)⟩
                    case measure => simp [RowKit.intOf] <;> omega
                · have b2 : ¬ (j : Int) ≤ (k : Int) := by omega
                  obtain rfl : j = k + 1 := by omega
                  have HB5 := Lib.hid (HBs.out wr HB3.out)
                  clear hsu hbw hj hjl HSm
                  by_cases h5 : curSum f.cur (u.fd.take (k + 1)) ≤ 68719476736
                  · have b3 : ¬ (68719476736 : Int) < curSum f.cur (u.fd.take (k + 1)) := by omega
                    have HX := Lib.hid (HSt.out h5)
                    have HX2 := Lib.hid (HBw.out wr HB5.out)
                    clear HN HY HNo HSt h5
                    generalize curSum f.cur (u.fd.take (k + 1)) = sj at *
                    go_wp2_with fail
                    go_roundw
                    case rel => exact ⟨k + 1, by omega, by go_num, HX, HX2⟩
                    case measure => simp [RowKit.intOf] <;> omega
                  · have b3 : (68719476736 : Int) < curSum f.cur (u.fd.take (k + 1)) := by omega
                    have HX := Lib.hid (HNo.out (fun h => h5 h.2) wr HB5.out)
                    clear HN HY HNo HSt h5
                    generalize curSum f.cur (u.fd.take (k + 1)) = sj at *
                    go_wp2_with fail
                    first
                      | exact HX.out
                      | (go_ret; exact HX.out)
            · have b3 : decide ((68719476736 : Int) < f.n) = true := decide_eq_true (by omega)
              have HX := Lib.hid (HNo.out (fun h => h2 h.1.hi) w3 HB2.out)
              clear HN HY HNo HF1 h1 h2
              go_wp2_with fail
              first
                | exact HX.out
                | (go_ret; exact HX.out)
          · have b2 : decide (f.n < 0) = true := decide_eq_true (by omega)
            have HX := Lib.hid (HNo.out (fun h => h1 h.1.lo) w3 HB2.out)
            clear HN HY HNo HF1 h1
            go_wp2_with fail
            first
              | exact HX.out
              | (go_ret; exact HX.out)
    · have b1 : ¬ (k : Int) < (u.fd.length : Int) := by omega
      obtain rfl : k = u.fd.length := by omega
      have HX : Hid (∀ r : Bool, (r = true ↔ (u.fd.length : Int) ≤ 64) → CP (.returned (.bool r)) wr) := Lib.hid fun r hr => HY.out r wr (by rw [hr, HR.out.all]; omega) HB.out
      clear HN HY HR hk hlt hsu hbw
      go_wp2_with fail
      first
        | exact HX.out _ (by simp)
        | (go_ret; exact HX.out _ (by simp))
end Go.Proofs.YtchkdidpnjakeaaGreatDoor
namespace Go.Proofs.YtchkdidpnjakeaaGreatDoor
open Go.RowKit Go.Maps Go.Lib
set_option linter.unusedVariables false
set_option maxRecDepth 100000

/-- the sums as far as they are noted -/
def SmI (W1 wr : World) (sb : Nat) (fd : List Led.Ent) (k : Nat) : Prop := Below W1.heap.size W1 wr ∧ W1.heap.size ≤ sb ∧ ∃ F : ByteArray → Option Int, Mp curC amtE wr sb k F ∧ ∀ c, (F c).getD 0 = curSum c (fd.take k)
theorem SmI.low {W1 wr : World} {sb : Nat} {fd : List Led.Ent} {k : Nat} (h : SmI W1 wr sb fd k) : sb < wr.heap.size := by
  obtain ⟨_, _, F, hM, _⟩ := h
  exact hM.lt
theorem SmI.look {W1 wr : World} {sb : Nat} {fd : List Led.Ent} {k : Nat} (h : SmI W1 wr sb fd k) {s : ByteArray} (hs : s.size ≤ maxLen) {X : World} (hX : Below wr.heap.size wr X) :
    (Instr.lookup 120 (.map (some sb)) (.string s) false).run Tryz.prog X = .ok (.int .i64 (curSum s (fd.take k))) X := by
  obtain ⟨_, _, F, hM, hF⟩ := h
  rw [← hF s]
  exact (hM.below hX hM.lt).look Tryz.underlying120 (z := 0) (zeroI64 _) (i64_ok (by omega) (by omega)) (x := s) (show curC.ok s from hs)
theorem SmI.step {W1 wr : World} {sb : Nat} {fd : List Led.Ent} {k : Nat} (h : SmI W1 wr sb fd k) (hk : k ≤ 1000) {f : Led.Ent} (hf : fd[k]? = some f) (hs : f.cur.size ≤ maxLen) {n : Int} (hn : n = curSum f.cur (fd.take (k + 1))) (h0 : 0 ≤ n) (h4 : n ≤ 9223372036854775807) {X : World} (hX : Below wr.heap.size wr X) :
    ∃ w', (Instr.mapUpdate 120 (.map (some sb)) (.string f.cur) (.int .i64 n)).run Tryz.prog X = .ok () w' ∧ SmI W1 w' sb fd (k + 1) := by
  have hl := h.low
  obtain ⟨hb, hm, F, hM, hF⟩ := h
  obtain ⟨w', h1, h2, h3⟩ := (hM.below hX hl).store Tryz.underlying120 (by unfold maxLen; omega) (x := f.cur) (show curC.ok f.cur from hs) (v := n) (i64_ok (by omega) h4)
  have hbX : Below W1.heap.size W1 X := hb.trans (hX.mono hb.size)
  refine ⟨w', h1, turned_below hbX h3 hm hbX.size, hm, _, h2, fun c => ?_⟩
  unfold putG
  by_cases e : c = f.cur
  · subst e
    rw [if_pos rfl, hn]
    rfl
  · rw [if_neg e, hF, curSum_take hf, if_neg (fun e2 => e e2.symm)]
    omega
set_option maxHeartbeats 16000000 in
theorem funds_t {w : World} {mb n c B : Nat} {l : List Py} {A : Option Addr} {fd : List Led.Ent} (hM : Mp curC pyE w mb n (parF l)) (hF : Led.Re w B A fd) (hB : B ≤ w.heap.size) (hz : FdSz fd) :
    Calls Tryz.prog 26 #[.slice A fd.length c, .map (some mb)] w fun e w' => BoolQ (FundsOk l fd) w e w' := by
  have HPy : Hid (∀ X, Below w.heap.size w X → ∀ s : ByteArray, s.size ≤ maxLen → (Instr.lookup 66 (.map (some mb)) (.string s) false).run Tryz.prog X = .ok (.agg #[.string ((parF l s).getD ⟨⟨#[]⟩, ⟨#[]⟩, 0⟩).nm, .string (bankF l s), .int .i64 ((parF l s).getD ⟨⟨#[]⟩, ⟨#[]⟩, 0⟩).kd]) X) := Lib.hid fun X hX s hs => by
    rw [← bankD]
    exact (hM.below hX hM.lt).look Tryz.underlying66 (zeroPy X) trivial hs
  have HRe : Hid (∀ X, Below w.heap.size w X → Led.Re X B A fd) := Lib.hid fun X hX => hF.below (hX.mono hB)
  have HN : Hid (¬ FundsOk l fd → ∀ X, Below w.heap.size w X → BoolQ (FundsOk l fd) w (.returned (.bool false)) X) := Lib.hid fun h X hX => BoolQ.no h hX
  have HY : Hid (FundsOk l fd → ∀ X, Below w.heap.size w X → BoolQ (FundsOk l fd) w (.returned (.bool true)) X) := Lib.hid fun h X hX => BoolQ.yes h hX
  generalize BoolQ (FundsOk l fd) w = CP at *
  have HZ := Lib.hid hz.txt
  have hf20 := hz.few
  have hmm := @run_makeMap Tryz.prog
  have HI0 : Hid (SmI w (w.alloc (.map #[] 0)) w.heap.size fd 0) := Lib.hid ⟨(Below.refl _ _).alloc (Nat.le_refl _) _, Nat.le_refl _, _, Mp.made (C := curC) (E := amtE) w, fun c => by simp [curSum]⟩
  clear hM hF hz
  go_enter Tryz.func26, Tryz.ntmps26
  go_wp2_with fail
  rename World => w0
  go_loopw [11, 7] (fun i _ wr => ∃ k : Nat, k ≤ fd.length ∧ i = .int .i64 (k : Int) ∧ Hid (FdTo l fd k) ∧ Hid (SmI w0 wr w0.heap.size fd k)) (fun i _ _ => fd.length - (RowKit.intOf i).toNat)
  case atStart => exact ⟨0, Nat.zero_le _, rfl, Lib.hid (fun i p hi => by omega), HI0⟩
  case round =>
    clear HI0 hmm
    obtain ⟨k, hk, rfl, HR, HI⟩ := hrel
    by_cases hlt : k < fd.length
    · have b1 : (k : Int) < (fd.length : Int) := by omega
      obtain ⟨f, hf⟩ : ∃ f, fd[k]? = some f := ⟨fd[k], List.getElem?_eq_getElem hlt⟩
      obtain ⟨g, off, hFA, hg, c0, c1, c2⟩ := Re.at_ (HRe.out wr HI.out.1) hf
      have hgw : g < wr.heap.size := by have := HI.out.1.size; omega
      rw [hFA]
      have hzf := HZ.out f (List.mem_of_getElem? hf)
      have HNo : Hid (¬ (F1 l f ∧ curSum f.cur (fd.take (k + 1)) ≤ 68719476736) → ∀ X, Below wr.heap.size wr X → CP (.returned (.bool false)) X) := Lib.hid fun h X hX => HN.out (fun h2 => h (h2.at_ hf)) X (HI.out.1.trans (hX.mono HI.out.1.size))
      have hby : Below wr.heap.size wr (wr.alloc (.cells #[.string f.acc, .string f.cur, .int .i64 f.n] 51)) := (Below.refl _ _).alloc (Nat.le_refl _) _
      have r1 := HPy.out _ (HI.out.1.trans (hby.mono HI.out.1.size)) f.acc hzf.1
      have hfd := fun W => field_bkM ((parF l f.acc).getD ⟨⟨#[]⟩, ⟨#[]⟩, 0⟩).nm (bankF l f.acc) ((parF l f.acc).getD ⟨⟨#[]⟩, ⟨#[]⟩, 0⟩).kd W
      have HBy := Lib.hid hby
      have HMn := Lib.hid (money_m f.cur f.n (wr.alloc (.cells #[.string f.acc, .string f.cur, .int .i64 f.n] 51)) hzf.2)
      have hsm := HR.out.sum f.cur k (Nat.le_refl _)
      have hst := curSum_take (c := f.cur) hf
      rw [if_pos rfl] at hst
      have HS1 := Lib.hid hst
      have HLk : Hid (∀ X, Below wr.heap.size wr X → (Instr.lookup 120 (.map (some w0.heap.size)) (.string f.cur) false).run Tryz.prog X = .ok (.int .i64 (curSum f.cur (fd.take k))) X) := Lib.hid fun X hX => HI.out.look hzf.2 hX
      have HSt : Hid (F1 l f → curSum f.cur (fd.take k) + f.n ≤ 68719476736 → ∀ X, Below wr.heap.size wr X → ∃ w', (Instr.mapUpdate 120 (.map (some w0.heap.size)) (.string f.cur) (.int .i64 (curSum f.cur (fd.take k) + f.n))).run Tryz.prog X = .ok () w' ∧ Hid (FdTo l fd (k + 1)) ∧ Hid (SmI w0 w' w0.heap.size fd (k + 1))) := Lib.hid fun h1 h2 X hX => by
        have h3 := h1.lo
        obtain ⟨w', e1, e2⟩ := HI.out.step (by omega) hf hzf.2 (n := curSum f.cur (fd.take k) + f.n) HS1.out.symm (by omega) (by omega) hX
        exact ⟨w', e1, Lib.hid (HR.out.step hf h1 (by rw [HS1.out]; exact h2)), Lib.hid e2⟩
      have hmb := HI.out.low
      generalize curSum f.cur (fd.take k) = sk at *
      have HF1 : Hid ((bankF l f.acc).size ≠ 0 → curOk f.cur → 0 ≤ f.n → f.n ≤ 68719476736 → F1 l f) := Lib.hid fun h1 h2 h3 h4 => ⟨h1, h2, h3, h4⟩
      have HCl : Hid (∀ X, Below (wr.alloc (.cells #[.string f.acc, .string f.cur, .int .i64 f.n] 51)).heap.size (wr.alloc (.cells #[.string f.acc, .string f.cur, .int .i64 f.n] 51)) X → X.cell? ⟨wr.heap.size, 0, none⟩ = some (.string f.acc) ∧ X.cell? ⟨wr.heap.size, 1, none⟩ = some (.string f.cur) ∧ X.cell? ⟨wr.heap.size, 2, none⟩ = some (.int .i64 f.n) ∧ wr.heap.size < X.heap.size) := Lib.hid fun X hX => by
        have hyb := heap_alloc_new wr (.cells #[.string f.acc, .string f.cur, .int .i64 f.n] 51)
        have hzs : wr.heap.size < (wr.alloc (.cells #[.string f.acc, .string f.cur, .int .i64 f.n] 51)).heap.size := by simp
        have h := (hX.block _ hzs).trans hyb
        exact ⟨by simp [World.cell?, h], by simp [World.cell?, h], by simp [World.cell?, h], Nat.lt_of_lt_of_le hzs hX.size⟩
      clear hFA hby hst HN HY
      by_cases h0 : (bankF l f.acc).size = 0
      · have i0 : ((bankF l f.acc).toList == []) = true := by rw [size0.1 h0]; rfl
        have HX := Lib.hid (HNo.out (fun h => h.1.bk h0) _ HBy.out)
        have hf2 := hfd (wr.alloc (.cells #[.string f.acc, .string f.cur, .int .i64 f.n] 51))
        clear h0 HNo hfd HF1 HSt hf hsm
        generalize bankF l f.acc = bf at *
        go_wp2_with fail
        first
          | exact HX.out
          | (go_ret; exact HX.out)
      · have i0 : ((bankF l f.acc).toList == []) = false := by
          rw [beq_eq_false_iff_ne]
          exact fun h => h0 (size0.2 h)
        have hf2 := hfd (wr.alloc (.cells #[.string f.acc, .string f.cur, .int .i64 f.n] 51))
        have HF2 := Lib.hid (HF1.out h0)
        clear hfd h0 HF1 hf
        generalize bankF l f.acc = bf at *
        by_cases h1 : 0 ≤ f.n
        · have b2 : decide (f.n < 0) = false := decide_eq_false (by omega)
          go_wp2_with fail
          refine HMn.out.mono ?_
          rintro e w3 ⟨r, rfl, hr, hb3⟩
          have HRc := Lib.hid hr
          have HB3 := Lib.hid (HBy.out.trans (hb3.mono HBy.out.size))
          have HC3 := Lib.hid (HCl.out w3 hb3)
          have r3 := HLk.out w3 HB3.out
          obtain ⟨p0, p1, p2, pl⟩ := HC3.out
          clear hr hb3 HMn c0 c1 c2 r1 hf2 HCl
          cases r with
          | false =>
            have HX := Lib.hid (HNo.out (fun h => by have := HRc.out.2 ⟨h.1.cur, by omega, by have := h.1.hi; omega⟩; cases this) w3 HB3.out)
            clear HNo HSt HF2 HRc
            go_wp2_with fail
            first
              | exact HX.out
              | (go_ret; exact HX.out)
          | true =>
            have hwr : wrap64 (68719476736 - sk) = 68719476736 - sk := wr64M _ (by omega) (by omega)
            by_cases h5 : sk + f.n ≤ 68719476736
            · have b3 : decide (68719476736 - sk < f.n) = false := decide_eq_false (by omega)
              have hwr2 : wrap64 (sk + f.n) = sk + f.n := wr64M _ (by omega) (by omega)
              obtain ⟨w', r4, HX1, HX2⟩ := HSt.out (HF2.out (HRc.out.1 rfl).1 h1 (by omega)) h5 w3 HB3.out
              clear HNo HSt HF2 HRc h5 h1
              go_wp2_with fail
              go_roundw
              case rel => exact ⟨k + 1, by omega, by go_num, HX1, HX2⟩
              case measure => simp [RowKit.intOf] <;> omega
            · have b3 : decide (68719476736 - sk < f.n) = true := decide_eq_true (by omega)
              have HX := Lib.hid (HNo.out (fun h => h5 (by have := h.2; rw [HS1.out] at this; exact this)) w3 HB3.out)
              clear HNo HSt HF2 HRc h5 h1
              go_wp2_with fail
              first
                | exact HX.out
                | (go_ret; exact HX.out)
        · have b2 : decide (f.n < 0) = true := decide_eq_true (by omega)
          have HX := Lib.hid (HNo.out (fun h => h1 h.1.lo) _ HBy.out)
          clear HNo HSt HF2 h1 hsm
          go_wp2_with fail
          first
            | exact HX.out
            | (go_ret; exact HX.out)
    · have b1 : ¬ (k : Int) < (fd.length : Int) := by omega
      obtain rfl : k = fd.length := by omega
      have HX := Lib.hid (HY.out (HR.out.all.2 (by omega)) wr HI.out.1)
      clear HN HY HR hk hlt
      go_wp2_with fail
      first
        | exact HX.out
        | (go_ret; exact HX.out)
end Go.Proofs.YtchkdidpnjakeaaGreatDoor
