/- law56.booked: a ledger of moves. -/
import Derived.Test.YtooeelaobmhifaaDoorATwo
import Derived.Test.YtooeelaobmhifaaDoorASame
import Derived.Deep.RegionHeld3
namespace Go.Proofs.YtooeelaobmhifaaDoor
open Go.RowKit Go.Maps Go.Lib
set_option linter.unusedVariables false
set_option maxRecDepth 100000

def eurT : ByteArray := ⟨#[69, 85, 82]⟩
def usdT : ByteArray := ⟨#[85, 83, 68]⟩
def xT : ByteArray := ⟨#[120]⟩
def curs : List ByteArray := [eurT, usdT]
structure Mv where
  n : Int
  d : Bool
  a : Nat
structure Mv.Fine (m : Mv) : Prop where
  lo : -32768 ≤ m.n
  hi : m.n ≤ 32767
  a : m.a < 256
/-- the slice's elements are the moves ms, in blocks below B -/
def Rm (w : World) (B : Nat) (A : Option Addr) (ms : List Mv) : Prop :=
  0 < ms.length → ∃ g off, A = some ⟨g, off, none⟩ ∧ g < B ∧ ∀ i m, ms[i]? = some m → w.cell? ⟨g, off + i * 3, none⟩ = some (.int .i16 m.n) ∧ w.cell? ⟨g, off + i * 3 + 1, none⟩ = some (.bool m.d) ∧ w.cell? ⟨g, off + i * 3 + 2, none⟩ = some (.int .u8 m.a)
section
variable {w w' : World} {B B' : Nat} {A : Option Addr} {T : List Mv}
theorem Rm.below (h : Rm w B A T) (hb : Below B w w') : Rm w' B A T := fun hl => by
  obtain ⟨g, off, e, hg, hc⟩ := h hl
  exact ⟨g, off, e, hg, fun i x hx => ⟨(hb.cell (p := ⟨g, _, none⟩) hg).trans (hc i x hx).1, (hb.cell (p := ⟨g, _, none⟩) hg).trans (hc i x hx).2.1, (hb.cell (p := ⟨g, _, none⟩) hg).trans (hc i x hx).2.2⟩⟩
theorem Rm.more (h : Rm w B A T) (hB : B ≤ B') : Rm w B' A T := fun hl => by
  obtain ⟨g, off, e, hg, hc⟩ := h hl
  exact ⟨g, off, e, by omega, hc⟩
theorem Rm.at_ (h : Rm w B A T) {k : Nat} (hk : k < T.length) : ∃ g off, A = some ⟨g, off, none⟩ ∧ g < B ∧ w.cell? ⟨g, off + k * 3, none⟩ = some (.int .i16 T[k].n) ∧ w.cell? ⟨g, off + k * 3 + 1, none⟩ = some (.bool T[k].d) ∧ w.cell? ⟨g, off + k * 3 + 2, none⟩ = some (.int .u8 T[k].a) := by
  obtain ⟨g, off, e, hg, hc⟩ := h (by omega)
  have := hc k _ (List.getElem?_eq_getElem hk)
  exact ⟨g, off, e, hg, this.1, this.2.1, this.2.2⟩
end
structure Nm (names : List ByteArray) : Prop where
  pos : 0 < names.length
  few : names.length ≤ 10
  good : ∀ a ∈ names, GoodName a
  apart : (xT :: names).Nodup
def curT (d : Bool) : ByteArray := if d then usdT else eurT
def accT (names : List ByteArray) (a : Nat) : ByteArray := (names[a % names.length]?).getD xT
def entsOf (names : List ByteArray) (m : Mv) : List Ent := two (accT names m.a) xT (curT m.d) m.n (-m.n)
theorem nodup_fresh {α : Type} : ∀ (l : List α) (j : Nat) (h : j < l.length), l.Nodup → l[j] ∉ l.take j
  | [], j, h, _ => by simp at h
  | x :: l, 0, h, _ => by simp
  | x :: l, j + 1, h, hn => by
    have hn' := List.nodup_cons.1 hn
    have := nodup_fresh l j (by simpa using h) hn'.2
    simp only [List.getElem_cons_succ, List.take_succ_cons, List.mem_cons, not_or]
    exact ⟨fun e => hn'.1 (e ▸ List.getElem_mem _), this⟩
/-- the keys of all accounts in the first k currencies -/
def keysP (names : List ByteArray) (k : Nat) : List Nt := (curs.take k).flatMap fun c => (xT :: names).map fun a => (a, c)
def keysAt (names : List ByteArray) (k : Nat) (c : ByteArray) (j : Nat) : List Nt := keysP names k ++ ((xT :: names).take j).map fun a => (a, c)
theorem keysAt_zero (names : List ByteArray) (k : Nat) (c : ByteArray) : keysAt names k c 0 = keysP names k := by simp [keysAt]
theorem keysAt_step (names : List ByteArray) (k : Nat) (c : ByteArray) (j : Nat) (h : j < (xT :: names).length) : keysAt names k c (j + 1) = keysAt names k c j ++ [((xT :: names)[j], c)] := by
  unfold keysAt
  rw [List.take_succ_eq_append_getElem h]
  simp only [List.map_append, List.map_cons, List.map_nil, List.append_assoc]
theorem keysAt_all (names : List ByteArray) (k : Nat) (h : k < curs.length) : keysAt names k curs[k] (xT :: names).length = keysP names (k + 1) := by
  unfold keysAt keysP
  rw [List.take_length, List.take_succ_eq_append_getElem h]
  simp only [List.flatMap_append, List.flatMap_cons, List.flatMap_nil, List.append_nil]
theorem curs_nodup : curs.Nodup := by
  have : eurT ≠ usdT := fun e => by injection e with e; revert e; decide
  simp [curs, this]
theorem keysAt_fresh {names : List ByteArray} (hN : Nm names) (k : Nat) (hk : k < curs.length) (j : Nat) (h : j < (xT :: names).length) : ((xT :: names)[j], curs[k]) ∉ keysAt names k curs[k] j := by
  intro hm
  rcases List.mem_append.1 hm with hm | hm
  · obtain ⟨c, hc, hm⟩ := List.mem_flatMap.1 hm
    obtain ⟨a, _, e⟩ := List.mem_map.1 hm
    injection e with _ e
    exact nodup_fresh curs k hk curs_nodup (e ▸ hc)
  · obtain ⟨a, ha, e⟩ := List.mem_map.1 hm
    injection e with e _
    exact nodup_fresh _ j h hN.apart (e ▸ ha)
theorem keys_len (names : List ByteArray) (k : Nat) (hk : k ≤ 2) (h : names.length ≤ 10) : (keysP names k).length ≤ 22 := by
  unfold keysP curs
  rcases (show k = 0 ∨ k = 1 ∨ k = 2 by omega) with rfl | rfl | rfl
  · simp
  · simp; omega
  · simp; omega
theorem goodName_of (l : List UInt8) (h1 : 1 ≤ l.length) (h2 : l.length ≤ 32) (h : l.all (fun c => decide (goodC c)) = true) : GoodName ⟨l.toArray⟩ := by
  refine ⟨h1, h2, fun k hk => ?_⟩
  have hk' : k < l.length := hk
  have := List.all_eq_true.1 h l[k] (List.getElem_mem hk')
  exact of_decide_eq_true this
theorem goodCur_of (l : List UInt8) (h1 : l.length = 3) (h : l.all (fun c => decide (65 ≤ c.toNat ∧ c.toNat ≤ 90)) = true) : GoodCur ⟨l.toArray⟩ := by
  refine ⟨h1, fun k hk => ?_⟩
  have hk' : k < l.length := hk
  have := List.all_eq_true.1 h l[k] (List.getElem_mem hk')
  exact of_decide_eq_true this
theorem eur_good : GoodCur eurT := goodCur_of [69, 85, 82] rfl (by decide)
theorem usd_good : GoodCur usdT := goodCur_of [85, 83, 68] rfl (by decide)
theorem cur_good : ∀ c ∈ curs, GoodCur c := by
  intro c hc
  simp [curs] at hc
  rcases hc with rfl | rfl
  · exact eur_good
  · exact usd_good
theorem x_good : GoodName xT := goodName_of [120] (by decide) (by decide) (by decide)
theorem all_good {names : List ByteArray} (hN : Nm names) : ∀ a ∈ xT :: names, GoodName a := by
  intro a ha
  rcases List.mem_cons.1 ha with rfl | ha
  · exact x_good
  · exact hN.good a ha
theorem acc_mem {names : List ByteArray} (hN : Nm names) (a : Nat) : accT names a ∈ names := by
  have := Nat.mod_lt a hN.pos
  unfold accT
  rw [List.getElem?_eq_getElem this]
  exact List.getElem_mem this
theorem acc_ne {names : List ByteArray} (hN : Nm names) (a : Nat) : accT names a ≠ xT := fun e => (List.nodup_cons.1 hN.apart).1 (e ▸ acc_mem hN a)
theorem key_in {names : List ByteArray} {a : ByteArray} (ha : a ∈ xT :: names) (d : Bool) : (a, curT d) ∈ keysP names 2 := by
  unfold keysP
  refine List.mem_flatMap.2 ⟨curT d, ?_, List.mem_map.2 ⟨a, ha, rfl⟩⟩
  cases d <;> simp [curs, curT]

/-- the accounts while they are opened -/
structure Bk (w wr : World) (p b bs : Nat) (hv : Value) (K : List Nt) : Prop where
  lg : Lg wr p b K.length (openedG (-1099511627776) K) (.slice none 0 0) hv
  cs : ∀ k c, curs[k]? = some c → wr.cell? ⟨bs, k, none⟩ = some (.string c)
  bl : bs < wr.heap.size
  bne : bs ≠ b
  bel : Below w.heap.size w wr
  bb : w.heap.size ≤ b
theorem Bk.step {w wr w' : World} {p b bs : Nat} {hv : Value} {K : List Nt} {k : Nt} (h : Bk w wr p b bs hv K) (hL : Lg w' p b (K.length + 1) (putG (openedG (-1099511627776) K) k ⟨-1099511627776, 0, 0⟩) (.slice none 0 0) hv) (hg : wr.grownBy w' (some b)) : Bk w w' p b bs hv (K ++ [k]) :=
  ⟨by rw [openedG_snoc] at hL; simpa using hL, fun i c hc => (hg.cell_far ⟨bs, i, none⟩ h.bl (fun e => h.bne (by injection e))).trans (h.cs i c hc), Nat.lt_of_lt_of_le h.bl hg.size, h.bne,
    h.bel.grown hg h.bel.size (fun j hj => by cases hj; exact h.bb), h.bb⟩
/-- the ledger while it is posted to -/
structure Bo (w wr : World) (p b : Nat) (hv : Value) (names : List ByteArray) (ms : List Mv) : Prop where
  led : ∃ n G pv L, Led wr w.heap.size p b n G pv hv L ∧ L.map (fun x => x.pt.ents) = ms.map (entsOf names) ∧ Bal G (keysP names 2) ms.length ∧ n ≤ 22 + 2 * ms.length
  bel : Below w.heap.size w wr
theorem re_two {V : World} {a1 a2 c : ByteArray} {n m : Int} : Re (V.alloc (.cells #[.string a1, .string c, .int .i64 n, .string a2, .string c, .int .i64 m] 47)) (V.alloc (.cells #[.string a1, .string c, .int .i64 n, .string a2, .string c, .int .i64 m] 47)).heap.size (some ⟨V.heap.size, 0, none⟩) (two a1 a2 c n m) := fun _ => by
  refine ⟨V.heap.size, 0, rfl, by simp, fun i e he => ?_⟩
  rcases i with _ | _ | i
  · simp [two] at he; subst he; simp
  · simp [two] at he; subst he; simp
  · simp [two] at he

theorem Led.not_own {w : World} {base p b n : Nat} {G : Nt → Option Ac} {pv hv : Value} {L : List Pl} (h : Led w base p b n G pv hv L) {k : Nat} (hk : k < base ∨ w.heap.size ≤ k) : ¬ own3 p b pv k := by
  intro ho
  have hp := h.lg.plt
  have hb := h.lg.blt
  have := h.own_base k ho
  rcases ho with rfl | rfl | ho
  · omega
  · omega
  · have := (h.row.lt k ho.symm).2; omega
theorem Bo.step {w wr X w5 : World} {p b n' n5 : Nat} {G : Nt → Option Ac} {pv pv5 hv : Value} {L : List Pl} {names : List ByteArray} {ms : List Mv} {m : Mv} {num : Int} {txt : ByteArray} {A' : Option Addr} {c' : Nat}
    (hled : Led wr w.heap.size p b n' G pv hv L) (hmap : L.map (fun x => x.pt.ents) = ms.map (entsOf names)) (hbal : Bal G (keysP names 2) ms.length) (hnn : n' ≤ 22 + 2 * ms.length) (hbel : Below w.heap.size w wr) (hX : Below wr.heap.size wr X)
    (h5 : Led w5 w.heap.size p b n5 (bump G (eachG (entsOf names m))) pv5 hv (L ++ [⟨⟨num, txt, entsOf names m⟩, A', c'⟩])) (hn5 : n5 ≤ n' + (entsOf names m).length) (hk : Kp (own3 p b pv) X w5) (hm : m.Fine) (hN : Nm names) : Bo w w5 p b hv names (ms ++ [m]) := by
  have e2 : (entsOf names m).length = 2 := rfl
  refine ⟨⟨n5, _, pv5, _, h5, ?_, ?_, ?_⟩, ?_⟩
  · simp [hmap]
  · have := hbal.step (a1 := accT names m.a) (a2 := xT) (c := curT m.d) (n := m.n) (m := -m.n) (acc_ne hN m.a) hm.lo (by have := hm.hi; omega) (by have := hm.hi; omega) (by have := hm.lo; omega)
    rw [List.length_append]
    exact this
  · simp; omega
  · have h1 := hX.mono hbel.size
    exact (hbel.trans h1).trans (hk.below (Nat.le_trans hbel.size h1.size) (fun k ho => hled.own_base k ho))
theorem Bo.fits {names : List ByteArray} {G : Nt → Option Ac} {k : Nat} (hN : Nm names) (hbal : Bal G (keysP names 2) k) (hk : k ≤ 1000) {m : Mv} (hm : m.Fine) : Fits G (entsOf names m) := by
  have ha := acc_mem hN m.a
  have hg := hN.good _ ha
  have hc : (curT m.d).size ≤ 100 := by cases m.d <;> decide
  have h0 := hm.lo
  have h1 := hm.hi
  exact fits_two (acc_ne hN m.a) (by omega) (hbal.can hk (key_in (by simp [ha]) m.d) (by have := hg.le; omega) hc (by omega) (by omega)) (hbal.can hk (key_in (by simp) m.d) (by decide) hc (by omega) (by omega))

set_option maxHeartbeats 4000000 in
theorem booked_any (names : List ByteArray) (ms : List Mv) (Am An : Option Addr) (cm cn : Nat) (w : World) (hN : Nm names) (hM : ∀ m ∈ ms, m.Fine) (hl : ms.length ≤ 30) (hRm : Rm w w.heap.size Am ms) (hRn : Rs w w.heap.size An names) :
    Calls Tryd.prog 6 #[.slice Am ms.length cm, .slice An names.length cn] w fun e w' =>
      e = .returned (.pointer (some ⟨w.heap.size + 2, 0, none⟩)) ∧ ∃ hv, Bo w w' (w.heap.size + 2) w.heap.size hv names ms := by
  have hnl := hN.few
  have hnp := hN.pos
  have HN := Lib.hid hN
  have HM := Lib.hid hM
  have HRm := Lib.hid hRm
  have HRn := Lib.hid hRn
  clear hN hM hRm hRn
  go_enter Tryd.func6, Tryd.ntmps6
  go_wp2_with fail
  refine (new_any _ w).mono ?_
  rintro e w1 ⟨rfl, hL1, hb1, hs1⟩
  have HBk := Lib.hid (show Bk w (w1.alloc (.cells #[.string ⟨#[69, 85, 82]⟩, .string ⟨#[85, 83, 68]⟩] 9)) (w.heap.size + 2) w.heap.size w1.heap.size (.map (some (w.heap.size + 1))) [] from by
    refine ⟨by rw [openedG_nil]; exact hL1.alloc _, fun k c hc => ?_, by simp, by omega, hb1.alloc (by omega) _, Nat.le_refl _⟩
    rcases k with _ | _ | k
    · simp [curs] at hc; subst hc; simp [eurT]
    · simp [curs] at hc; subst hc; simp [usdT]
    · simp [curs] at hc)
  generalize (Value.map (some (w.heap.size + 1))) = hv at *
  clear hL1 hb1 hs1
  go_wp2_with fail
  generalize w1.alloc (.cells #[.string ⟨#[69, 85, 82]⟩, .string ⟨#[85, 83, 68]⟩] 9) = w2 at *
  go_loopw [16] (fun i wr => ∃ k : Nat, k ≤ 2 ∧ i = .int .i64 k ∧ Hid (Bk w wr (w.heap.size + 2) w.heap.size w1.heap.size hv (keysP names k))) (fun i _ => 2 - (RowKit.intOf i).toNat)
  case atStart => exact ⟨0, by omega, rfl, HBk⟩
  case round =>
    clear HBk
    obtain ⟨k, hk, rfl, HB⟩ := hrel
    by_cases hlt : k < 2
    · have hkc : k < curs.length := hlt
      have hc := HB.out.cs k _ (List.getElem?_eq_getElem hkc)
      have Hgc := Lib.hid (cur_good _ (List.getElem_mem hkc))
      have hlen := keys_len names k (by omega) hnl
      have Hfr := Lib.hid (fun j h => keysAt_fresh HN.out k hkc j h)
      have Hall := Lib.hid (keysAt_all names k hkc)
      have Hst := Lib.hid (fun j h => keysAt_step names k curs[k] j h)
      have Hz := Lib.hid (keysAt_zero names k curs[k])
      generalize curs[k] = c at *
      rw [← Hz.out] at HB
      go_wp2_with fail
      refine (open_new xT c (-1099511627776) wr _ _ _ _ _ hv HB.out.lg x_good Hgc.out (by omega) (by omega) (openedG_none _ (Hfr.out 0 (by simp))) (by rw [Hz.out]; omega)).mono ?_
      rintro e w3 ⟨rfl, hL3, hg3⟩
      have HB3 := Lib.hid (HB.out.step hL3 hg3)
      rw [show ((xT, c) : Nt) = ((xT :: names)[0]'(by simp), c) from rfl, ← Hst.out 0 (by simp)] at HB3
      clear hL3 hg3 HB hc
      go_wp2_with fail
      go_loopw [25] (fun i wr => ∃ j : Nat, j ≤ names.length ∧ i = .int .i64 j ∧ Hid (Bk w wr (w.heap.size + 2) w.heap.size w1.heap.size hv (keysAt names k c (j + 1)))) (fun i _ => names.length - (RowKit.intOf i).toNat)
      case atStart => exact ⟨0, by omega, rfl, HB3⟩
      case round =>
        clear HB3
        obtain ⟨j, hj, rfl, HB⟩ := hrel
        by_cases hjl : j < names.length
        · obtain ⟨gn, on, rfl, hgn, hcn⟩ := (HRn.out.below HB.out.bel).at_ hjl
          have hlen2 : (keysAt names k c (j + 1)).length ≤ 40 := by unfold keysAt; simp; omega
          go_wp2_with fail
          refine (open_new names[j] c (-1099511627776) wr _ _ _ _ _ hv HB.out.lg (HN.out.good _ (List.getElem_mem hjl)) Hgc.out (by omega) (by omega) (openedG_none _ (Hfr.out (j + 1) (by simp; omega))) (by omega)).mono ?_
          rintro e w4 ⟨rfl, hL4, hg4⟩
          have HB4 := Lib.hid (HB.out.step hL4 hg4)
          rw [show ((names[j], c) : Nt) = ((xT :: names)[j + 1]'(by simp; omega), c) from rfl, ← Hst.out (j + 1) (by simp; omega)] at HB4
          clear hL4 hg4 HB hcn
          go_wp2_with fail
          go_roundw
          case rel => exact ⟨j + 1, by omega, by go_num, HB4⟩
          case measure => simp [RowKit.intOf]; omega
        · have hje : j = names.length := by omega
          subst hje
          have HB5 := HB
          rw [show names.length + 1 = (xT :: names).length from rfl, Hall.out] at HB5
          clear HB
          go_wp2_with fail
          go_roundw
          case rel => exact ⟨k + 1, by omega, by go_num, HB5⟩
          case measure => simp [RowKit.intOf]; omega
    · rw [show k = 2 from by omega] at HB
      have HBo := Lib.hid (show Bo w wr (w.heap.size + 2) w.heap.size hv names [] from ⟨⟨_, _, .slice none 0 0, [], ⟨HB.out.lg, World.ownsRow_nil _ _ _ _, by simp, by simp, by omega, Nat.le_refl _⟩, rfl, openedG_bal _, by have := keys_len names 2 (by omega) hnl; simp; omega⟩, HB.out.bel⟩)
      clear HB
      go_wp2_with fail
      go_loopw [37] (fun i wr => ∃ j : Nat, j ≤ ms.length ∧ i = .int .i64 j ∧ Hid (Bo w wr (w.heap.size + 2) w.heap.size hv names (ms.take j))) (fun i _ => ms.length - (RowKit.intOf i).toNat)
      case atStart => exact ⟨0, by omega, rfl, by simpa using HBo⟩
      case round =>
        clear HBo
        obtain ⟨j, hj, rfl, HB⟩ := hrel
        by_cases hjl : j < ms.length
        · obtain ⟨gm, om, rfl, hgm, m0, m1, m2⟩ := (HRm.out.below HB.out.bel).at_ hjl
          have hmf := HM.out ms[j] (List.getElem_mem hjl)
          have Htk : Hid (ms.take (j + 1) = ms.take j ++ [ms[j]]) := Lib.hid (List.take_succ_eq_append_getElem hjl)
          obtain ⟨⟨n, d, a⟩, hm⟩ : ∃ m : Mv, ms[j] = m := ⟨_, rfl⟩
          rw [hm] at m0 m1 m2 hmf Htk
          simp only at m0 m1 m2
          have l0 := hmf.lo
          have l1 := hmf.hi
          have l2 := hmf.a
          simp only at l0 l1 l2
          have hmod : a % names.length < names.length := Nat.mod_lt a hnp
          obtain ⟨gn, on, rfl, hgn, hcn⟩ := (HRn.out.below HB.out.bel).at_ hmod
          have hacc : names[a % names.length] = accT names a := by unfold accT; rw [List.getElem?_eq_getElem hmod]; rfl
          rw [hacc] at hcn
          clear hacc
          obtain ⟨q, hq⟩ : ∃ q, a % names.length = q := ⟨_, rfl⟩
          rw [hq] at hcn hmod
          have Hq := Lib.hid hq
          clear hq
          have Hbw := Lib.hid HB.out.bel
          have hzr : w.heap.size ≤ wr.heap.size := HB.out.bel.size
          clear hm hmf
          cases d
          · have HB0 := Lib.hid HB.out.bel
            obtain ⟨n', G, pv, L, hled, hmap, hbal, hnn⟩ := HB.out.led
            have hLl : L.length = j := by have := congrArg List.length hmap; simp at this; omega
            have htl : (ms.take j).length = j := by simp; omega
            have Hled := Lib.hid hled
            have Hmap := Lib.hid hmap
            have Hbal := Lib.hid hbal
            have Hnn := Lib.hid hnn
            have HVb := Lib.hid ((Below.refl wr.heap.size wr).alloc (Nat.le_refl _) (.cells #[.int .i16 n, .bool false, .int .u8 a] 37))
            have k0 : (wr.alloc (.cells #[.int .i16 n, .bool false, .int .u8 a] 37)).cell? ⟨wr.heap.size, 0, none⟩ = some (.int .i16 n) := by simp
            have k2 : (wr.alloc (.cells #[.int .i16 n, .bool false, .int .u8 a] 37)).cell? ⟨wr.heap.size, 2, none⟩ = some (.int .u8 a) := by simp
            have ka : (wr.alloc (.cells #[.int .i16 n, .bool false, .int .u8 a] 37)).cell? ⟨gn, on + q, none⟩ = some (.string (accT names a)) := Lib.cell?_alloc_some _ hcn
            have HVs : Hid ((wr.alloc (.cells #[.int .i16 n, .bool false, .int .u8 a] 37)).heap.size = wr.heap.size + 1) := Lib.hid (by simp)
            have hgl : gn < wr.heap.size := by omega
            clear hled hmap hbal hnn HB
            go_wp2_with fail
            clear m0 m1 m2 hcn
            generalize wr.alloc (.cells #[.int .i16 n, .bool false, .int .u8 a] 37) = V at *
            have HXb := Lib.hid ((HVb.out.alloc HVb.out.size (.cells #[.string (accT names a), .string ⟨#[69, 85, 82]⟩, .int .i64 n, .string ⟨#[120]⟩, .string ⟨#[69, 85, 82]⟩, .int .i64 (-n)] 47)).drew)
            have HP : Hid (Calls Tryd.prog 14 #[.pointer (some ⟨w.heap.size + 2, 0, none⟩), .string ⟨#[109]⟩, .slice (some ⟨V.heap.size, 0, none⟩) 2 2] (V.alloc (.cells #[.string (accT names a), .string ⟨#[69, 85, 82]⟩, .int .i64 n, .string ⟨#[120]⟩, .string ⟨#[69, 85, 82]⟩, .int .i64 (-n)] 47)).drew fun e w' => (∃ v, e = .returned (.tuple #[.int .i64 v, .int .i64 0])) ∧ Bo w w' (w.heap.size + 2) w.heap.size hv names (ms.take j ++ [⟨n, false, a⟩]) ∧ Kp (own3 (w.heap.size + 2) w.heap.size pv) (V.alloc (.cells #[.string (accT names a), .string ⟨#[69, 85, 82]⟩, .int .i64 n, .string ⟨#[120]⟩, .string ⟨#[69, 85, 82]⟩, .int .i64 (-n)] 47)).drew w') := Lib.hid (by
              refine (post_ok ⟨#[109]⟩ (some ⟨V.heap.size, 0, none⟩) 2 (entsOf names ⟨n, false, a⟩) _ w.heap.size (w.heap.size + 2) w.heap.size n' G pv hv L (Hled.out.kp (Kp.of_below (fun _ => False) HXb.out) (fun _ _ _ e => e)) (re_two (V := V) (a1 := accT names a) (a2 := xT) (c := ⟨#[69, 85, 82]⟩) (n := n) (m := -n)) (Bo.fits HN.out Hbal.out (by omega) ⟨l0, l1, l2⟩) (by have := Hnn.out; omega) (by omega) (by decide)).mono ?_
              rintro e w5 ⟨he, pv5, A5, c5, n5, hn5, h5, hk5⟩
              exact ⟨⟨_, he⟩, Bo.step Hled.out Hmap.out Hbal.out Hnn.out HB0.out HXb.out h5 hn5 hk5 ⟨l0, l1, l2⟩ HN.out, hk5⟩)
            have no1 := Hled.out.not_own (k := wr.heap.size) (.inr (Nat.le_refl _))
            have no2 := Hled.out.not_own (k := gn) (.inl hgn)
            have hVl : wr.heap.size < V.heap.size := by have := HVs.out; omega
            have hgV : gn < V.heap.size := by omega
            have q0 : ¬ (names.length = 0) := by omega
            have q1 : ¬ (names = []) := by rintro rfl; exact absurd hnp (by decide)
            have q2 : Int.tmod (a : Int) (names.length : Int) = (q : Int) := by rw [← Hq.out]; rfl
            have q3 : (0 : Int) ≤ (q : Int) := by omega
            have q4 : (q : Int) < (names.length : Int) := by omega
            have q5 : q < names.length := hmod
            have q6 : IntKind.i64.wrap (a : Int) = (a : Int) := IntWalk.i64_in _ (by omega)
            have q7 : IntKind.i64.wrap n = n := IntWalk.i64_in _ (by omega)
            have q8 : IntKind.i64.wrap (-n) = -n := IntWalk.i64_in _ (by omega)
            go_region_held3 (fun w' => w'.cell? ⟨wr.heap.size, 0, none⟩ = some (.int .i16 n) ∧ w'.cell? ⟨wr.heap.size, 2, none⟩ = some (.int .u8 a) ∧ w'.cell? ⟨gn, on + q, none⟩ = some (.string (accT names a)))
              (first | exact ⟨k0, k2, ka⟩ | exact ⟨Lib.cell?_alloc_some _ k0, Lib.cell?_alloc_some _ k2, Lib.cell?_alloc_some _ ka⟩ | exact ⟨j0, j2, ja⟩)
              (first
                | (go_at_call 14; refine HP.out.mono ?_; rintro e w5 ⟨⟨v5, rfl⟩, hB5, hk5⟩; have j0 : w5.cell? ⟨wr.heap.size, 0, none⟩ = some (.int .i16 n) := (World.cell?_of_block (a := ⟨wr.heap.size, 0, none⟩) (hk5.block wr.heap.size (by simp; omega) no1)).trans (Lib.cell?_alloc_some _ k0); have j2 : w5.cell? ⟨wr.heap.size, 2, none⟩ = some (.int .u8 a) := (World.cell?_of_block (a := ⟨wr.heap.size, 2, none⟩) (hk5.block wr.heap.size (by simp; omega) no1)).trans (Lib.cell?_alloc_some _ k2); have ja : w5.cell? ⟨gn, on + q, none⟩ = some (.string (accT names a)) := (World.cell?_of_block (a := ⟨gn, on + q, none⟩) (hk5.block gn (by simp; omega) no2)).trans (Lib.cell?_alloc_some _ ka)))
            all_goals
              have HB5 := Lib.hid hB5
              clear hB5 hk5 HP
              rw [← Htk.out] at HB5
              go_wp2_with fail
              go_roundw
              case rel => exact ⟨j + 1, by omega, by go_num, HB5⟩
              case measure => simp [RowKit.intOf]; omega
          · have HB0 := Lib.hid HB.out.bel
            obtain ⟨n', G, pv, L, hled, hmap, hbal, hnn⟩ := HB.out.led
            have hLl : L.length = j := by have := congrArg List.length hmap; simp at this; omega
            have htl : (ms.take j).length = j := by simp; omega
            have Hled := Lib.hid hled
            have Hmap := Lib.hid hmap
            have Hbal := Lib.hid hbal
            have Hnn := Lib.hid hnn
            have HVb := Lib.hid ((Below.refl wr.heap.size wr).alloc (Nat.le_refl _) (.cells #[.int .i16 n, .bool true, .int .u8 a] 37))
            have k0 : (wr.alloc (.cells #[.int .i16 n, .bool true, .int .u8 a] 37)).cell? ⟨wr.heap.size, 0, none⟩ = some (.int .i16 n) := by simp
            have k2 : (wr.alloc (.cells #[.int .i16 n, .bool true, .int .u8 a] 37)).cell? ⟨wr.heap.size, 2, none⟩ = some (.int .u8 a) := by simp
            have ka : (wr.alloc (.cells #[.int .i16 n, .bool true, .int .u8 a] 37)).cell? ⟨gn, on + q, none⟩ = some (.string (accT names a)) := Lib.cell?_alloc_some _ hcn
            have HVs : Hid ((wr.alloc (.cells #[.int .i16 n, .bool true, .int .u8 a] 37)).heap.size = wr.heap.size + 1) := Lib.hid (by simp)
            have hgl : gn < wr.heap.size := by omega
            clear hled hmap hbal hnn HB
            go_wp2_with fail
            clear m0 m1 m2 hcn
            generalize wr.alloc (.cells #[.int .i16 n, .bool true, .int .u8 a] 37) = V at *
            have HXb := Lib.hid ((HVb.out.alloc HVb.out.size (.cells #[.string (accT names a), .string ⟨#[85, 83, 68]⟩, .int .i64 n, .string ⟨#[120]⟩, .string ⟨#[85, 83, 68]⟩, .int .i64 (-n)] 47)).drew)
            have HP : Hid (Calls Tryd.prog 14 #[.pointer (some ⟨w.heap.size + 2, 0, none⟩), .string ⟨#[109]⟩, .slice (some ⟨V.heap.size, 0, none⟩) 2 2] (V.alloc (.cells #[.string (accT names a), .string ⟨#[85, 83, 68]⟩, .int .i64 n, .string ⟨#[120]⟩, .string ⟨#[85, 83, 68]⟩, .int .i64 (-n)] 47)).drew fun e w' => (∃ v, e = .returned (.tuple #[.int .i64 v, .int .i64 0])) ∧ Bo w w' (w.heap.size + 2) w.heap.size hv names (ms.take j ++ [⟨n, true, a⟩]) ∧ Kp (own3 (w.heap.size + 2) w.heap.size pv) (V.alloc (.cells #[.string (accT names a), .string ⟨#[85, 83, 68]⟩, .int .i64 n, .string ⟨#[120]⟩, .string ⟨#[85, 83, 68]⟩, .int .i64 (-n)] 47)).drew w') := Lib.hid (by
              refine (post_ok ⟨#[109]⟩ (some ⟨V.heap.size, 0, none⟩) 2 (entsOf names ⟨n, true, a⟩) _ w.heap.size (w.heap.size + 2) w.heap.size n' G pv hv L (Hled.out.kp (Kp.of_below (fun _ => False) HXb.out) (fun _ _ _ e => e)) (re_two (V := V) (a1 := accT names a) (a2 := xT) (c := ⟨#[85, 83, 68]⟩) (n := n) (m := -n)) (Bo.fits HN.out Hbal.out (by omega) ⟨l0, l1, l2⟩) (by have := Hnn.out; omega) (by omega) (by decide)).mono ?_
              rintro e w5 ⟨he, pv5, A5, c5, n5, hn5, h5, hk5⟩
              exact ⟨⟨_, he⟩, Bo.step Hled.out Hmap.out Hbal.out Hnn.out HB0.out HXb.out h5 hn5 hk5 ⟨l0, l1, l2⟩ HN.out, hk5⟩)
            have no1 := Hled.out.not_own (k := wr.heap.size) (.inr (Nat.le_refl _))
            have no2 := Hled.out.not_own (k := gn) (.inl hgn)
            have hVl : wr.heap.size < V.heap.size := by have := HVs.out; omega
            have hgV : gn < V.heap.size := by omega
            have q0 : ¬ (names.length = 0) := by omega
            have q1 : ¬ (names = []) := by rintro rfl; exact absurd hnp (by decide)
            have q2 : Int.tmod (a : Int) (names.length : Int) = (q : Int) := by rw [← Hq.out]; rfl
            have q3 : (0 : Int) ≤ (q : Int) := by omega
            have q4 : (q : Int) < (names.length : Int) := by omega
            have q5 : q < names.length := hmod
            have q6 : IntKind.i64.wrap (a : Int) = (a : Int) := IntWalk.i64_in _ (by omega)
            have q7 : IntKind.i64.wrap n = n := IntWalk.i64_in _ (by omega)
            have q8 : IntKind.i64.wrap (-n) = -n := IntWalk.i64_in _ (by omega)
            go_region_held3 (fun w' => w'.cell? ⟨wr.heap.size, 0, none⟩ = some (.int .i16 n) ∧ w'.cell? ⟨wr.heap.size, 2, none⟩ = some (.int .u8 a) ∧ w'.cell? ⟨gn, on + q, none⟩ = some (.string (accT names a)))
              (first | exact ⟨k0, k2, ka⟩ | exact ⟨Lib.cell?_alloc_some _ k0, Lib.cell?_alloc_some _ k2, Lib.cell?_alloc_some _ ka⟩ | exact ⟨j0, j2, ja⟩)
              (first
                | (go_at_call 14; refine HP.out.mono ?_; rintro e w5 ⟨⟨v5, rfl⟩, hB5, hk5⟩; have j0 : w5.cell? ⟨wr.heap.size, 0, none⟩ = some (.int .i16 n) := (World.cell?_of_block (a := ⟨wr.heap.size, 0, none⟩) (hk5.block wr.heap.size (by simp; omega) no1)).trans (Lib.cell?_alloc_some _ k0); have j2 : w5.cell? ⟨wr.heap.size, 2, none⟩ = some (.int .u8 a) := (World.cell?_of_block (a := ⟨wr.heap.size, 2, none⟩) (hk5.block wr.heap.size (by simp; omega) no1)).trans (Lib.cell?_alloc_some _ k2); have ja : w5.cell? ⟨gn, on + q, none⟩ = some (.string (accT names a)) := (World.cell?_of_block (a := ⟨gn, on + q, none⟩) (hk5.block gn (by simp; omega) no2)).trans (Lib.cell?_alloc_some _ ka)))
            all_goals
              have HB5 := Lib.hid hB5
              clear hB5 hk5 HP
              rw [← Htk.out] at HB5
              go_wp2_with fail
              go_roundw
              case rel => exact ⟨j + 1, by omega, by go_num, HB5⟩
              case measure => simp [RowKit.intOf]; omega
        · have hje : j = ms.length := by omega
          subst hje
          rw [List.take_length] at HB
          go_wp2
          go_ret
          exact ⟨rfl, hv, HB.out⟩
end Go.Proofs.YtooeelaobmhifaaDoor
