/- Ledger.enter: the accounts change, the post stands behind the others. A post of two entries, of one currency, that sum to nothing. The ledger, plain: what always holds of its accounts and holds, and what keeps it. Ledger.Post, of any entries: posted just if they fit. The ledger's names and currencies: what they answer of those that are not right. A ledger with its posts and its holds, as the law's acts leave it. -/
import Derived.Test.YtchkdidpnjakeaaGreatDoorGGHold
import Derived.Deep.RegionLaw
import Derived.Deep.RegionHeld3
import Derived.Deep.AppendLies
import Derived.Test.YtchkdidpnjakeaaGreatDoorBRefused
import Derived.Test.YtchkdidpnjakeaaGreatDoorGWReg
namespace Go.Proofs.YtchkdidpnjakeaaGreatDoor.Led
open Go.RowKit Go.Maps Go.Lib
set_option linter.unusedVariables false
set_option maxRecDepth 100000

theorem Lg.turn2 {w3 : World} {p b n : Nat} {G : Nt → Option Ac} {pv hv : Value} (hL : Lg w3 p b n G pv hv) {s t : ByteArray} (hx : Small (s, t)) {ac : Ac} (hG : G (s, t) = some ac) (o : Obj) :
    (w3.alloc o).cell? ⟨p, 0, none⟩ = some (.map (some b)) ∧
    (Instr.lookup 263 (.map (some b)) (.agg #[.string s, .string t]) false).run Tryz.prog (w3.alloc o).drew = .ok (.agg #[.int .i64 ac.floor, .int .i64 ac.bal, .int .i64 ac.held]) (w3.alloc o).drew ∧
    (Instr.lookup 263 (.map (some b)) (.agg #[.string s, .string t]) false).run Tryz.prog ((w3.alloc o).alloc (.cells #[.int .i64 0, .int .i64 0, .int .i64 0] 304)).drew = .ok (.agg #[.int .i64 ac.floor, .int .i64 ac.bal, .int .i64 ac.held]) ((w3.alloc o).alloc (.cells #[.int .i64 0, .int .i64 0, .int .i64 0] 304)).drew := by
  have h1 := hL.alloc o
  refine ⟨h1.c0, ?_, ?_⟩
  · have := (h1.drewN 1).acc.look Tryz.underlying263 (zeroAc _) trivial (x := (s, t)) hx
    rw [hG] at this
    exact this
  · have := ((h1.alloc (.cells #[.int .i64 0, .int .i64 0, .int .i64 0] 304)).drewN 1).acc.look Tryz.underlying263 (zeroAc _) trivial (x := (s, t)) hx
    rw [hG] at this
    exact this

theorem below_undrew {B : Nat} {a w : World} (h : Below B a.drew w) : Below B a w := ⟨h.os, h.tape, h.output, h.size, h.block⟩
theorem Led.at5 {wr w5 : World} {base p b n : Nat} {G : Nt → Option Ac} {pv hv : Value} {L : List Pl} (h : Led wr base p b n G pv hv L) (h5 : Below wr.heap.size wr w5) (num : Int) (txt : ByteArray) (v : Value) :
    (w5.alloc (.cells #[.int .i64 num, .string txt, v] 343)).ownsRow base 343 3 pv L.length (cellsP L) ∧ base ≤ (w5.alloc (.cells #[.int .i64 num, .string txt, v] 343)).heap.size ∧ pv.ownBlock ≠ some p ∧ (w5.alloc (.cells #[.int .i64 num, .string txt, v] 343)).frozen? ⟨p, 1, none⟩ = false ∧ p < w5.heap.size := by
  have hp := h.lg.plt
  have hb := h.pb
  have hs := h5.size
  refine ⟨(ownsRow_kp h.row (Kp.of_below (fun _ => False) h5) (fun _ _ e => e)).alloc _, by simp; omega, h.row_p, ?_, by omega⟩
  rw [World.frozen?_of_block (w := w5) (a := ⟨p, 1, none⟩) (Below.heap_alloc w5 _ p (by omega)), World.frozen?_of_block (w := wr) (a := ⟨p, 1, none⟩) (h5.block p hp)]
  simp [World.frozen?, h.lg.cell]

set_option maxHeartbeats 2000000 in
theorem enter_ok (txt : ByteArray) (A : Option Addr) (c : Nat) (es : List Ent) (w : World) (base p b n : Nat) (G : Nt → Option Ac) (pv hv : Value) (L : List Pl) (hD : Led w base p b n G pv hv L) (hR : Re w w.heap.size A es) (h0 : 0 < es.length) (hlen : es.length ≤ 64) (hF : ∀ e ∈ es, e.Fine) (hn : n + 64 < 4000000) (hLn : L.length ≤ 5000)
    (hacc : ∀ x v, eachG es x = some v → ∃ a, G x = some a ∧ Bears a v) :
    Calls Tryz.prog 212 #[.pointer (some ⟨p, 0, none⟩), .string txt, .slice A es.length c] w fun e w' => e = .returned (.int .i64 ((L.length : Int) + 1)) ∧
      ∃ pv' A' c' n', n' ≤ n + es.length ∧ Led w' base p b n' (bump G (eachG es)) pv' hv (L ++ [⟨⟨(L.length : Int) + 1, txt, es⟩, A', c'⟩]) ∧ Kp (own3 p b pv) w w' ∧ ∀ ad, A' = some ad → ∃ cs fr, w'.heap[ad.block]? = some (.cells cs 51 fr) := by
  have hL := hD.lg
  have HD := Lib.hid hD
  have HR := Lib.hid hR
  have HF := Lib.hid hF
  obtain ⟨i0, hi0, hy0, hy1, hy2⟩ := info_parts post_info
  have hpl := hL.plt
  have hbl := hL.blt
  go_enter Tryz.func212, Tryz.ntmps212
  go_wp2_with fail
  refine (changes_any A c es _ hR hlen hF).mono ?_
  rintro e w1 ⟨rfl, hCh⟩
  have hz1 : w.heap.size + 2 ≤ w1.heap.size := hCh.size
  have Hb1 := Lib.hid hCh.bel
  have hE := hCh.each
  rw [List.take_length] at hE
  clear hCh
  go_wp2_with (first
    | (at_range; refine wpList_range_le _ rfl _ 338 rfl 2 Tryz.underlying338 w.heap.size es.length (eachG es) rfl hE ?_; intro w2 hrg2 hg2 hs2)
    | go_in)
  go_frame
  obtain ⟨cnt2, hcn2, hrg2⟩ := hrg2
  have hL2 : Lg w2 p b n (bumped G (eachG es) fun x => (eachG es x).isSome) pv hv := by
    rw [bumped_start]
    exact (hL.below Hb1.out hL.plt hL.blt).kept hg2 (by simp) (by simp)
  have HL2 := Lib.hid hL2
  have Hg2 := Lib.hid (show w.grownBy w2 (some b) from grown_of_below (Hb1.out.grown hg2 (by omega) (fun j hj => by cases hj)) _)
  clear hL2 hg2 hs2 Hb1
  go_loopw [10] (fun _ wr => ∃ lf cnt m, Rn' keyC amtE wr w.heap.size w1.heap.size es.length (eachG es) lf cnt ∧ m + cnt ≤ n + es.length ∧ Hid (Lg wr p b m (bumped G (eachG es) lf) pv hv) ∧ Hid (w.grownBy wr (some b))) (fun _ wr => wr.rangeLeft w.heap.size w1.heap.size)
  case atStart => exact ⟨_, cnt2, n, hrg2, by omega, HL2, Hg2⟩
  case round =>
    clear hE hrg2 HL2 Hg2
    obtain ⟨lf, cnt, m, hrg, hm, HL, Hg⟩ := hrel
    have hzr : w.heap.size ≤ wr.heap.size := Hg.out.size
    go_wp2_with (first
      | (at_next; refine wpList_next_key _ rfl _ rfl w.heap.size w1.heap.size es.length (eachG es) lf cnt rfl hrg ?_ ?_)
      | go_in)
    · intro hdone
      clear hrg
      have hL1 := HL.out
      rw [bumped_end (fun x hx => hdone x.1 x.2 hx) (eachG_small HF.out)] at hL1
      have hD1 := HD.out.grow Hg.out hL1
      have HR1 := Lib.hid (show Re wr wr.heap.size A es from by
        obtain ⟨es', cl', hmb⟩ := HD.out.lg.acc.blk
        refine HR.out.kp (Kp.of_grown Hg.out) (fun ad ha e => ?_)
        obtain ⟨g, off, e1, hg, _⟩ := HR.out h0
        have ha' := ha
        rw [e1] at ha'
        injection ha' with ha'
        subst ha'
        have hR' := HR.out
        rw [e1] at hR'
        injection e with e
        exact hR'.ne_map h0 hmb e)
      clear hL1 HL hdone hacc HR HF hL hF hR hD
      have HKg := Lib.hid (Kp.of_grown Hg.out)
      clear Hg
      obtain ⟨Ap, cp, rfl⟩ := hD1.form
      have HD1 := Lib.hid hD1
      have c1 := hD1.lg.c1
      have hp1 := hD1.lg.plt
      clear hD1 HD
      go_wp2_with fail
      have hq : ∀ i : Int, (Value.int .i64 i).oneCell' = true := fun _ => rfl
      go_region_law (first
        | (go_simp; go_at_call 42; refine (cloneE_any A c es wr.drew HR1.out h0 hlen).mono ?_; rintro e w5 ⟨A', c', rfl, hR5, hb5d, hA5⟩; have hb5 : Below wr.heap.size wr w5 := below_undrew hb5d; clear hb5d; have c5 : w5.cell? ⟨p, 1, none⟩ = some (.slice Ap L.length cp) := (hb5.cell (p := ⟨p, 1, none⟩) hp1).trans c1; obtain ⟨hrow5, hbs5, hrp5, f5, hp5⟩ := Led.at5 HD1.out hb5 ((L.length : Int) + 1) txt (.slice A' es.length c'); have HR5 := Lib.hid hR5; have HB5 := Lib.hid hb5; have HA5 := Lib.hid hA5; clear hR5 hb5 hA5)
        | ((try simp only [Act.put, List.setIfInBounds_toArray, List.set_cons_zero, List.set_cons_succ]); rw [if_pos (by rfl)]; refine wp_append_lies _ (.tmp 52) (.tmp 58) 265 (by rfl) base 343 i0 _ 3 48 Tryz.underlying265 hi0 hy0 hy1 hy2 rfl (by decide) (.slice Ap L.length cp) L.length (cellsP L) (by rfl) hrow5 ⟨w5.heap.size, 0, none⟩ 1 1 [.int .i64 ((L.length : Int) + 1), .string txt, .slice A' es.length c'] (by rfl) rfl (World.news_of_block (cs := #[.int .i64 ((L.length : Int) + 1), .string txt, .slice A' es.length c']) (t := 343) (fr := (0, 0)) (heap_alloc_new w5 _)) (by simp [Value.oneCell']) (by decide) (by unfold maxLen; omega) (by omega) hbs5 (w5.heap.size + 1) (by simp) ?_; intro g cap w6 hown6 hg6 hloc6 hlt6; have c6 : w6.cell? ⟨p, 1, none⟩ = some (.slice Ap L.length cp) := (hg6.cell_far ⟨p, 1, none⟩ (by simp; omega) (fun e => hrp5 e.symm)).trans (Lib.cell?_alloc_some _ c5); have f6 : w6.frozen? ⟨p, 1, none⟩ = false := (hg6.frozen_far ⟨p, 1, none⟩ (by simp; omega) (fun e => hrp5 e.symm)).trans f5))
      all_goals
        clear c1 c5 c6 f5 f6
        have HE := Lib.hid (Led.enter_end (num := (L.length : Int) + 1) (txt := txt) HD1.out HB5.out HR5.out (fun ad ha => (HA5.out ad ha).1) h0 hlen ((Below.refl w5.heap.size w5).alloc (Nat.le_refl _) (.cells #[.int .i64 ((L.length : Int) + 1), .string txt, .slice A' es.length c'] 343)) hown6 hg6 (by simpa using hloc6))
        have HKe := Lib.hid (fun ad ha => (HA5.out ad ha).2.elim fun cs h => h.elim fun fr h => (Exists.intro cs (Exists.intro fr (Led.enter_keep (g := g) (cap := cap) HD1.out HB5.out ((Below.refl w5.heap.size w5).alloc (Nat.le_refl _) (.cells #[.int .i64 ((L.length : Int) + 1), .string txt, .slice A' es.length c'] 343)) hg6 (.slice (some ⟨g, 0, none⟩) (L.length + 1) cap) h (by decide) (by decide)))))
        clear hown6 hg6 hloc6 hrow5
        go_wp2
        go_ret
        exact ⟨rfl, _, A', c', m, by omega, HE.out.1, (HKg.out.mono (fun k _ e => .inr (.inl (by injection e)))).trans HE.out.2, HKe.out⟩
    · intro s t v w3 cnt3 hx hlx hGx hrg3 hlt3 hg3 hs3 hen
      obtain ⟨ac, hac, hbe⟩ := hacc _ _ hGx
      have hL3 := HL.out.kept hg3 (fun e => by injection e; omega) (fun e => by injection e; omega)
      obtain ⟨cp, l1, l2⟩ := hL3.turn2 hx (by rw [bumped_at hlx]; exact hac) (.cells #[.string s, .string t] 302)
      have k0 : (w3.alloc (.cells #[.string s, .string t] 302)).cell? ⟨w3.heap.size, 0, none⟩ = some (.string s) := by simp
      have k1 : (w3.alloc (.cells #[.string s, .string t] 302)).cell? ⟨w3.heap.size, 1, none⟩ = some (.string t) := by simp
      have hVs : (w3.alloc (.cells #[.string s, .string t] 302)).heap.size = w3.heap.size + 1 := by simp
      have hp3 : p < w3.heap.size := by omega
      have Hs3 := Lib.hid hs3
      have v2 := hbe.top
      have v3 := hbe.lo
      have v5 := hbe.fine.b0
      have q1 : IntKind.i64.wrap (ac.bal + v) = ac.bal + v := IntWalk.i64_in _ (by omega)
      have HL3 := Lib.hid hL3
      have Hr3 := Lib.hid hrg3
      have Hg3 := Lib.hid hg3
      have Hleft := Lib.hid hrg.left_eq
      have HLV := Lib.hid (hL3.alloc (.cells #[.string s, .string t] 302))
      have HrV := Lib.hid (hrg3.alloc (.cells #[.string s, .string t] 302))
      have Hx := Lib.hid hx
      have Hst := Lib.hid (bumped_step (G := G) (E := eachG es) (lf := lf) hGx hac)
      have HgV := Lib.hid (show w.grownBy (w3.alloc (.cells #[.string s, .string t] 302)) (some b) from by
        have h1 := Hg.out
        have h3 := hg3
        have h4 := World.grownBy_alloc w3 (.cells #[.string s, .string t] 302) none
        exact ⟨h4.os.trans (h3.os.trans h1.os), h4.tape.trans (h3.tape.trans h1.tape), h4.output.trans (h3.output.trans h1.output), by have := h4.size; have := h3.size; omega, fun i hi hne => (h4.block i (by omega) (by simp)).trans ((h3.block i (by omega) (fun e => by injection e; omega)).trans (h1.block i hi hne))⟩)
      clear hacc hbe hL3 hrg3 hg3 hrg HL hx hlx hGx hac hL hF hR hs3
      go_wp2_with fail
      clear hen
      generalize w3.alloc (.cells #[.string s, .string t] 302) = V at *
      have e0 : (V.alloc (.cells #[.int .i64 0, .int .i64 0, .int .i64 0] 304)).cell? ⟨p, 0, none⟩ = some (.map (some b)) := Lib.cell?_alloc_some _ cp
      have e1 : (V.alloc (.cells #[.int .i64 0, .int .i64 0, .int .i64 0] 304)).cell? ⟨w3.heap.size, 0, none⟩ = some (.string s) := Lib.cell?_alloc_some _ k0
      have e2 : (V.alloc (.cells #[.int .i64 0, .int .i64 0, .int .i64 0] 304)).cell? ⟨w3.heap.size, 1, none⟩ = some (.string t) := Lib.cell?_alloc_some _ k1
      go_region
      all_goals
        go_wp2_with fail
        clear l1 l2 e0 e1 e2
        have hLY := (HLV.out.alloc (.cells #[.int .i64 ac.floor, .int .i64 (ac.bal + v), .int .i64 ac.held] 304)).drewN 1
        have HrY := Lib.hid (HrV.out.alloc (.cells #[.int .i64 ac.floor, .int .i64 (ac.bal + v), .int .i64 ac.held] 304))
        have HgY := Lib.hid (show V.grownBy (V.alloc (.cells #[.int .i64 ac.floor, .int .i64 (ac.bal + v), .int .i64 ac.held] 304)).drew none from by
          have h := World.grownBy_alloc V (.cells #[.int .i64 ac.floor, .int .i64 (ac.bal + v), .int .i64 ac.held] 304) none
          exact ⟨h.os, h.tape, h.output, h.size, h.block⟩)
        have j0 : (V.alloc (.cells #[.int .i64 ac.floor, .int .i64 (ac.bal + v), .int .i64 ac.held] 304)).drew.cell? ⟨w3.heap.size, 0, none⟩ = some (.string s) := Lib.cell?_alloc_some _ k0
        have j1 : (V.alloc (.cells #[.int .i64 ac.floor, .int .i64 (ac.bal + v), .int .i64 ac.held] 304)).drew.cell? ⟨w3.heap.size, 1, none⟩ = some (.string t) := Lib.cell?_alloc_some _ k1
        have j2 : (V.alloc (.cells #[.int .i64 ac.floor, .int .i64 (ac.bal + v), .int .i64 ac.held] 304)).drew.cell? ⟨w3.heap.size + 1, 0, none⟩ = some (.int .i64 ac.floor) := by rw [← hVs]; simp
        have j3 : (V.alloc (.cells #[.int .i64 ac.floor, .int .i64 (ac.bal + v), .int .i64 ac.held] 304)).drew.cell? ⟨w3.heap.size + 1, 1, none⟩ = some (.int .i64 (ac.bal + v)) := by rw [← hVs]; simp
        have j4 : (V.alloc (.cells #[.int .i64 ac.floor, .int .i64 (ac.bal + v), .int .i64 ac.held] 304)).drew.cell? ⟨w3.heap.size + 1, 2, none⟩ = some (.int .i64 ac.held) := by rw [← hVs]; simp
        change Lg (V.alloc (.cells #[.int .i64 ac.floor, .int .i64 (ac.bal + v), .int .i64 ac.held] 304)).drew p b m (bumped G (eachG es) lf) pv hv at hLY
        change Hid (Rn' keyC amtE (V.alloc (.cells #[.int .i64 ac.floor, .int .i64 (ac.bal + v), .int .i64 ac.held] 304)).drew w.heap.size w1.heap.size es.length (eachG es) (fun z => lf z && !decide (z = (s, t))) cnt3) at HrY
        generalize (V.alloc (.cells #[.int .i64 ac.floor, .int .i64 (ac.bal + v), .int .i64 ac.held] 304)).drew = Y at *
        have cY := hLY.c0
        obtain ⟨w5, hrun, hM5, ht5⟩ := (hLY.drewN 1).acc.store Tryz.underlying263 (by unfold maxLen; omega) (x := (s, t)) Hx.out (v := ac.plus v) trivial
        have hrun' : (Instr.mapUpdate 263 (.map (some b)) (.agg #[.string s, .string t]) (.agg #[.int .i64 ac.floor, .int .i64 (ac.bal + v), .int .i64 ac.held])).run Tryz.prog Y.drew = .ok () w5 := hrun
        have hg5 := ht5.grown
        have Hg5 := Lib.hid (show Y.grownBy w5 (some b) from ⟨hg5.os, hg5.tape, hg5.output, hg5.size, hg5.block⟩)
        rw [Hst.out] at hM5
        have hne := hLY.ne
        have HL5 := Lib.hid (show Lg w5 p b (m + 1) (bumped G (eachG es) (fun z => lf z && !decide (z = (s, t)))) pv hv from ⟨(Hg5.out.block p hLY.plt (fun e => hne (by injection e))).trans hLY.cell, hM5⟩)
        have Hr5 := Lib.hid (HrY.out.kept Hg5.out (fun e => by injection e; omega) (fun e => by injection e; omega))
        have Hgw := Lib.hid (show w.grownBy w5 (some b) from by
          have h1 := HgV.out
          have h2 := HgY.out
          have h3 := Hg5.out
          have s1 := h1.size
          have s2 := h2.size
          exact ⟨h3.os.trans (h2.os.trans h1.os), h3.tape.trans (h2.tape.trans h1.tape), h3.output.trans (h2.output.trans h1.output), by have := h3.size; omega, fun i hi hne => (h3.block i (by omega) hne).trans ((h2.block i (by omega) (by simp)).trans (h1.block i hi hne))⟩)
        clear hrun hM5 ht5 hg5 hLY hne k0 k1 cp
        go_region
        all_goals
          go_wp2_with fail
          go_roundw
          case rel => exact ⟨_, cnt3, m + 1, Hr5.out, by omega, HL5, Hgw⟩
          case measure => rw [Hr5.out.left_eq, Hleft.out]; exact hlt3
end Go.Proofs.YtchkdidpnjakeaaGreatDoor.Led
namespace Go.Proofs.YtchkdidpnjakeaaGreatDoor.Led
open Go.RowKit Go.Maps Go.Lib
set_option linter.unusedVariables false
set_option maxRecDepth 100000

def two (a1 a2 c : ByteArray) (n m : Int) : List Ent := [⟨a1, c, n⟩, ⟨a2, c, m⟩]
section
variable {a1 a2 c : ByteArray} {n m : Int}
end

end Go.Proofs.YtchkdidpnjakeaaGreatDoor.Led
namespace Go.Proofs.YtchkdidpnjakeaaGreatDoor.Led
open Go.RowKit Go.Maps Go.Lib
set_option linter.unusedVariables false

/-- a sum over a list -/
def sumI {α : Type} (f : α → Int) : List α → Int
  | [] => 0
  | x :: l => f x + sumI f l
section
variable {α : Type} {f g : α → Int}
theorem sumI_congr {l : List α} (h : ∀ x ∈ l, f x = g x) : sumI f l = sumI g l := by
  induction l with
  | nil => rfl
  | cons x l ih =>
    simp only [sumI]
    rw [h x (by simp), ih fun y hy => h y (by simp [hy])]
theorem sumI_nonneg {l : List α} (h : ∀ x ∈ l, 0 ≤ f x) : 0 ≤ sumI f l := by
  induction l with
  | nil => simp [sumI]
  | cons x l ih =>
    have h1 := h x (by simp)
    have h2 := ih fun y hy => h y (by simp [hy])
    simp only [sumI]
    omega
end
/-- the hold of an id -/
def lookH (H : List Hd) (i : ByteArray) : Option Hd := H.find? fun h => decide (h.id = i)
def _root_.Go.Proofs.YtchkdidpnjakeaaGreatDoor.Hd.key (h : Hd) : Nt := (h.acc, h.cur)
/-- what is held of an account -/
def heldL (H : List Hd) (k : Nt) : Int := sumI (fun h => if h.key = k then h.n else 0) H
/-- how a ledger always stands -/
structure LedOk (G : Nt → Option Ac) (H : List Hd) : Prop where
  acc : ∀ x a, G x = some a → -1099511627776 ≤ a.floor ∧ a.floor ≤ 0 ∧ a.held = heldL H x ∧ 0 ≤ a.bal - a.held - a.floor ∧ a.bal ≤ 1099511627776 ∧ Small x
  hold : ∀ h ∈ H, 1 ≤ h.n ∧ h.n ≤ 1099511627776 ∧ h.id.size ≤ 32 ∧ ∃ a, G h.key = some a
  nodup : (H.map (·.id)).Nodup
theorem LedOk.held0 {G : Nt → Option Ac} {H : List Hd} (h : LedOk G H) (x : Nt) : 0 ≤ heldL H x := by
  refine sumI_nonneg fun d hd => ?_
  have := (h.hold d hd).1
  split <;> omega
theorem LedOk.bd {G : Nt → Option Ac} {H : List Hd} (h : LedOk G H) {x : Nt} {a : Ac} (ha : G x = some a) : 0 ≤ a.held ∧ a.held ≤ 2199023255552 ∧ -1099511627776 ≤ a.bal := by
  obtain ⟨h1, h2, h3, h4, h5, h6⟩ := h.acc x a ha
  have := h.held0 x
  omega
theorem LedOk.fine {G : Nt → Option Ac} {H : List Hd} (h : LedOk G H) {x : Nt} {a : Ac} (ha : G x = some a) : a.Fine := by
  obtain ⟨h1, h2, h3, h4, h5, h6⟩ := h.acc x a ha
  have := h.bd ha
  exact ⟨by omega, by omega, by omega, by omega, by omega, by omega⟩
/-- an account is opened -/
theorem LedOk.open_ {G : Nt → Option Ac} {H : List Hd} (h : LedOk G H) {k : Nt} {f : Int} (hk : G k = none) (h0 : -1099511627776 ≤ f) (h1 : f ≤ 0) (hs : Small k) : LedOk (putG G k ⟨f, 0, 0⟩) H := by
  refine ⟨fun x a ha => ?_, fun d hd => ?_, h.nodup⟩
  · by_cases e : x = k
    · subst e
      rw [putG_same] at ha
      injection ha with ha
      subst ha
      have hz : heldL H x = 0 := by
        unfold heldL
        rw [sumI_congr (g := fun _ => 0)]
        · clear h hk hs
          induction H with
          | nil => rfl
          | cons y l ih => simp only [sumI, ih]; rfl
        · intro d hd
          obtain ⟨_, _, _, a', ha'⟩ := h.hold d hd
          rw [if_neg]
          intro e
          rw [e, hk] at ha'
          cases ha'
      exact ⟨h0, h1, hz.symm, by simp only; omega, by simp only; omega, hs⟩
    · rw [putG_other _ _ e] at ha
      exact h.acc x a ha
  · obtain ⟨p1, p2, p3, a, ha⟩ := h.hold d hd
    refine ⟨p1, p2, p3, a, ?_⟩
    rw [putG_other _ _ (fun e => by rw [e, hk] at ha; cases ha)]
    exact ha
end Go.Proofs.YtchkdidpnjakeaaGreatDoor.Led
namespace Go.Proofs.YtchkdidpnjakeaaGreatDoor.Led
open Go.RowKit Go.Maps Go.Lib
set_option linter.unusedVariables false
set_option maxRecDepth 100000

theorem FitsA.bears {G : Nt → Option Ac} {es : List Ent} (h : FitsA G es) (hl : es.length ≤ 64) (hS : ∀ e ∈ es, e.acc.size ≤ maxLen ∧ e.cur.size ≤ maxLen) (hFG : ∀ x a, G x = some a → a.Fine) :
    (∀ e ∈ es, e.Fine) ∧ ∀ x v, eachG es x = some v → ∃ a, G x = some a ∧ Bears a v := by
  have hF : ∀ e ∈ es, e.Fine := fun e he => ⟨(hS e he).1, (hS e he).2, (h.amt e he).1, (h.amt e he).2⟩
  refine ⟨hF, fun x v hv => ?_⟩
  obtain ⟨a, ha⟩ := eachG_key h.there hv
  have h1 : -(es.length * 1099511627776 : Int) ≤ (eachG es x).getD 0 ∧ (eachG es x).getD 0 ≤ (es.length * 1099511627776 : Int) := sumBy_bound Ent.key es hF x
  rw [hv] at h1
  simp only [Option.getD_some] at h1
  exact ⟨a, ha, hFG x a ha, h.top x v hv a ha, by omega, fun hn => h.low x v hv hn a ha⟩
/-- what Post leaves -/
def PostP (G : Nt → Option Ac) (es : List Ent) (base p b n : Nat) (pv hv : Value) (L : List Pl) (w : World) (e : Ending) (w' : World) : Prop := ∃ x code : Int, e = .returned (.tuple #[.int .i64 x, .int .i64 code]) ∧ (code = 0 ↔ FitsA G es) ∧ Kp (own3 p b pv) w w' ∧
  (¬ FitsA G es → Led w' base p b n G pv hv L) ∧ (FitsA G es → ∃ pv' P n', n' ≤ n + es.length ∧ Led w' base p b n' (bump G (eachG es)) pv' hv (L ++ [P]) ∧ ∀ ad, P.A = some ad → ∃ cs fr, w'.heap[ad.block]? = some (.cells cs 51 fr))
set_option maxHeartbeats 2000000 in
theorem post_any (txt : ByteArray) (A : Option Addr) (c : Nat) (es : List Ent) (w : World) (base p b n : Nat) (G : Nt → Option Ac) (pv hv : Value) (L : List Pl) (hD : Led w base p b n G pv hv L) (hR : Re w w.heap.size A es) (h0 : 0 < es.length) (h64 : es.length ≤ 64) (hS : ∀ e ∈ es, e.acc.size ≤ maxLen ∧ e.cur.size ≤ maxLen) (hFG : ∀ x a, G x = some a → a.Fine) (hn : n + 64 < 4000000) (hLn : L.length < 4096) (ht : txt.size ≤ 4096) :
    Calls Tryz.prog 186 #[.pointer (some ⟨p, 0, none⟩), .string txt, .slice A es.length c] w fun e w' => PostP G es base p b n pv hv L w e w' := by
  have HD := Lib.hid hD
  have HR := Lib.hid hR
  have HS := Lib.hid hS
  have HFG := Lib.hid hFG
  have c1 := hD.lg.c1
  obtain ⟨Ap, cp, hpv⟩ := hD.form
  have hpv' := hpv
  subst hpv'
  have HNo : Hid (∀ (x code : Int) W, code ≠ 0 → ¬ FitsA G es → Below w.heap.size w W → PostP G es base p b n (.slice Ap L.length cp) hv L w (.returned (.tuple #[.int .i64 x, .int .i64 code])) W) := Lib.hid fun x code W h1 h2 h3 =>
    ⟨x, code, rfl, ⟨fun h => absurd h h1, fun h => absurd h h2⟩, Kp.of_below _ h3, fun _ => hD.kp (Kp.of_below (fun _ => False) h3) (fun _ _ _ e => e), fun h => absurd h h2⟩
  have HYes : Hid (∀ (x : Int) W, FitsA G es → Kp (own3 p b (.slice Ap L.length cp)) w W → (∃ pv' P n', n' ≤ n + es.length ∧ Led W base p b n' (bump G (eachG es)) pv' hv (L ++ [P]) ∧ ∀ ad, P.A = some ad → ∃ cs fr, W.heap[ad.block]? = some (.cells cs 51 fr)) → PostP G es base p b n (.slice Ap L.length cp) hv L w (.returned (.tuple #[.int .i64 x, .int .i64 0])) W) := Lib.hid fun x W h1 h2 h3 =>
    ⟨x, 0, rfl, ⟨fun _ => h1, fun _ => rfl⟩, h2, fun h => absurd h1 h, fun _ => h3⟩
  generalize PostP G es base p b n (.slice Ap L.length cp) hv L w = CP at *
  clear hpv hD hR hS hFG
  have q1 : decide ((4096 : Int) < (txt.size : Int)) = false := by simp; omega
  have q2 : ((es.length : Int) == 0) = false := by simp; intro e; rw [e] at h0; exact absurd h0 (by decide)
  have q3 : decide ((64 : Int) < (es.length : Int)) = false := by simp; omega
  have q4 : decide ((4096 : Int) ≤ (L.length : Int)) = false := by simp; omega
  have q5 : decide ((es.length : Int) = 0) = false := by simp; intro e; rw [e] at h0; exact absurd h0 (by decide)
  have q6 : ¬ ((es.length : Int) = 0) := by omega
  have q7 : ¬ (es.length = 0) := by omega
  have q8 : ¬ (es = []) := by rintro rfl; exact absurd h0 (by decide)
  go_enter Tryz.func186, Tryz.ntmps186
  go_wp2_with fail
  refine (refused_any A c es w p b n G _ hv HD.out.lg HR.out h64 HS.out HFG.out).mono ?_
  rintro e w1 ⟨code, rfl, hcode, hb1⟩
  by_cases hc : code = 0
  · subst hc
    have HFit := Lib.hid (hcode.1 rfl)
    obtain ⟨hF, hB⟩ := HFit.out.bears h64 HS.out HFG.out
    have HF := Lib.hid hF
    have HB := Lib.hid hB
    have HK1 := Lib.hid (Kp.of_below (fun _ => False) hb1)
    have HD1 := Lib.hid (HD.out.kp HK1.out (fun _ _ _ e => e))
    have HR1 := Lib.hid (HR.out.kp HK1.out (fun _ _ e => e))
    clear hb1 HD HR hcode HNo hF hB
    go_wp2_with fail
    refine (enter_ok txt A c es w1 base p b n G _ hv L HD1.out HR1.out h0 h64 HF.out hn (by omega) HB.out).mono ?_
    rintro e w2 ⟨rfl, pv', A', c', n', hn', hD2, hk2, ha2⟩
    have HLast := Lib.hid (HYes.out ((L.length : Int) + 1) w2 HFit.out ((HK1.out.mono (fun _ _ e => e.elim)).trans hk2) ⟨pv', _, n', hn', hD2, ha2⟩)
    clear HYes hD2 hk2 HK1 HD1 HR1
    go_wp2_with fail
    first
      | exact HLast.out
      | (go_ret2; exact HLast.out)
  · have hq : (code == 0) = false := beq_eq_false_iff_ne.2 hc
    have hq2 : (code != 0) = true := bne_iff_ne.2 hc
    have HN2 := Lib.hid (HNo.out 0 code w1 hc (fun h => hc (hcode.2 h)) hb1)
    clear HNo HYes HD HR hcode hb1
    go_wp2_with fail
    first
      | exact HN2.out
      | (go_ret2; exact HN2.out)
end Go.Proofs.YtchkdidpnjakeaaGreatDoor.Led
namespace Go.Proofs.YtchkdidpnjakeaaGreatDoor.Led
open Go.RowKit Go.Lib
set_option linter.unusedVariables false

set_option maxHeartbeats 1600000 in
theorem isName_no (s : ByteArray) (w : World) (hG : ¬ GoodName s) :
    Calls Tryz.prog 209 #[.string s] w fun e w' => e = .returned (.bool false) ∧ w = w' := by
  by_cases h1 : 1 ≤ s.size
  · by_cases h2 : s.size ≤ 32
    · have HN : Hid (¬ ∀ k (h : k < s.size), goodC s[k]) := Lib.hid fun h => hG ⟨h1, h2, h⟩
      clear hG
      go_enter Tryz.func209, Tryz.ntmps209
      go_wp2
      go_loop [15] (fun i => ∃ k : Nat, k ≤ s.size ∧ i = .int .i64 k ∧ Hid (∀ j (h : j < s.size), j < k → goodC s[j])) (fun i => s.size - (RowKit.intOf i).toNat)
      case atStart => exact ⟨0, Nat.zero_le _, rfl, Lib.hid fun j _ h => absurd h (by omega)⟩
      case round =>
        obtain ⟨k, hk, rfl, HI⟩ := hrel
        by_cases hlt : k < s.size
        · by_cases hc : goodC s[k]
          · have HI2 : Hid (∀ j (h : j < s.size), j < k + 1 → goodC s[j]) := Lib.hid fun j hj hjk => by
              by_cases e : j = k
              · subst e; exact hc
              · exact HI.out j hj (by omega)
            clear HI HN
            unfold goodC at hc
            rcases hc with h | h | h | h
            all_goals
              first
                | have e45 : ((s[k].toNat : Int) != 45) = true := by simp; omega
                | have e45 : ((s[k].toNat : Int) != 45) = false := by simp; omega
              first
                | have e58 : ((s[k].toNat : Int) != 58) = true := by simp; omega
                | have e58 : ((s[k].toNat : Int) != 58) = false := by simp; omega
              go_wp2
              go_round
              case rel => exact ⟨k + 1, by omega, by go_num, HI2⟩
              case measure => simp [RowKit.intOf]; omega
          · clear HI HN
            unfold goodC at hc
            have e45 : ((s[k].toNat : Int) != 45) = true := by simp; omega
            have e58 : ((s[k].toNat : Int) != 58) = true := by simp; omega
            have h' : (s[k].toNat < 48) ∨ (57 < s[k].toNat ∧ s[k].toNat < 97) ∨ (122 < s[k].toNat) := by omega
            rcases h' with h | h | h
            all_goals
              clear hc
              go_wp2
              go_ret
              exact ⟨rfl, rfl⟩
        · exact absurd (fun j hj => HI.out j hj (by omega)) HN.out
    · go_enter Tryz.func209, Tryz.ntmps209
      go_wp2
      go_ret
      exact ⟨rfl, rfl⟩
  · go_enter Tryz.func209, Tryz.ntmps209
    go_wp2
    go_ret
    exact ⟨rfl, rfl⟩
set_option maxHeartbeats 1600000 in
theorem isCurrency_no (s : ByteArray) (w : World) (hG : ¬ GoodCur s) :
    Calls Tryz.prog 210 #[.string s] w fun e w' => e = .returned (.bool false) ∧ w = w' := by
  by_cases h1 : s.size = 3
  · have HN : Hid (¬ ∀ k (h : k < s.size), 65 ≤ s[k].toNat ∧ s[k].toNat ≤ 90) := Lib.hid fun h => hG ⟨h1, h⟩
    clear hG
    go_enter Tryz.func210, Tryz.ntmps210
    go_wp2
    go_loop [9] (fun i => ∃ k : Nat, k ≤ s.size ∧ i = .int .i64 k ∧ Hid (∀ j (h : j < s.size), j < k → 65 ≤ s[j].toNat ∧ s[j].toNat ≤ 90)) (fun i => s.size - (RowKit.intOf i).toNat)
    case atStart => exact ⟨0, Nat.zero_le _, rfl, Lib.hid fun j _ h => absurd h (by omega)⟩
    case round =>
      obtain ⟨k, hk, rfl, HI⟩ := hrel
      by_cases hlt : k < s.size
      · by_cases hc : 65 ≤ s[k].toNat ∧ s[k].toNat ≤ 90
        · have HI2 : Hid (∀ j (h : j < s.size), j < k + 1 → 65 ≤ s[j].toNat ∧ s[j].toNat ≤ 90) := Lib.hid fun j hj hjk => by
            by_cases e : j = k
            · subst e; exact hc
            · exact HI.out j hj (by omega)
          clear HI HN
          go_wp2
          go_round
          case rel => exact ⟨k + 1, by omega, by go_num, HI2⟩
          case measure => simp [RowKit.intOf]; omega
        · clear HI HN
          have h' : (s[k].toNat < 65) ∨ (90 < s[k].toNat) := by omega
          rcases h' with h | h
          all_goals
            clear hc
            go_wp2
            go_ret
            exact ⟨rfl, rfl⟩
      · exact absurd (fun j hj => HI.out j hj (by omega)) HN.out
  · have b1 : ((s.size : Int) != 3) = true := by simp; omega
    go_enter Tryz.func210, Tryz.ntmps210
    go_wp2
    go_ret
    exact ⟨rfl, rfl⟩
end Go.Proofs.YtchkdidpnjakeaaGreatDoor.Led
namespace Go.Proofs.YtchkdidpnjakeaaGreatDoor.Led
open Go.RowKit Go.Maps Go.Lib
set_option linter.unusedVariables false
set_option maxRecDepth 100000

structure Cr (w : World) (base p b h n m : Nat) (G : Nt → Option Ac) (pv : Value) (L : List Pl) (F : ByteArray → Option Hd) : Prop where
  led : Led w base p b n G pv (.map (some h)) L
  hs : Mp curC hdE w h m F
  ne : b ≠ h
  hb : base ≤ h
section
variable {w w' : World} {base p b h n m n' m' : Nat} {G G' : Nt → Option Ac} {pv pv' : Value} {L L' : List Pl} {F F' : ByteArray → Option Hd}
theorem Cr.lh (x : Cr w base p b h n m G pv L F) : Lh w p b h n m G pv F := ⟨x.led.lg, x.hs, x.ne⟩
theorem Cr.below (x : Cr w base p b h n m G pv L F) (hb : Below w.heap.size w w') : Cr w' base p b h n m G pv L F :=
  ⟨x.led.kp (Kp.of_below (fun _ => False) hb) (fun _ _ _ e => e), x.hs.below hb x.hs.lt, x.ne, x.hb⟩
theorem Cr.row_h (x : Cr w base p b h n m G pv L F) : pv.ownBlock ≠ some h := by
  obtain ⟨es, cl, hm⟩ := x.hs.blk
  rcases x.led.row.2 with ⟨h0, _⟩ | ⟨g, cap, cur, he, _, hb, _⟩
  · rw [h0]; simp [Value.ownBlock]
  · rw [he]
    intro e
    simp [Value.ownBlock] at e
    subst e
    rw [hm] at hb
    simp at hb
/-- a post has been laid -/
theorem Cr.post (x : Cr w base p b h n m G pv L F) (hk : Kp (own3 p b pv) w w') (y : Led w' base p b n' G' pv' (.map (some h)) L') : Cr w' base p b h n' m G' pv' L' F := by
  refine ⟨y, x.hs.of_block (hk.block h x.hs.lt ?_), x.ne, x.hb⟩
  rintro (e | e | e)
  · exact x.lh.ph e.symm
  · exact x.ne e.symm
  · exact x.row_h e.symm
end
end Go.Proofs.YtchkdidpnjakeaaGreatDoor.Led
