/- law56.banks: two ledgers side by side. -/
import Derived.Test.YtdinloecgaapaaaGreatDoorMAPost
namespace Go.Proofs.YtdinloecgaapaaaGreatDoor
open Go.RowKit Go.Maps Go.Lib
set_option linter.unusedVariables false
set_option maxRecDepth 100000

section
variable {w w' : World} {base p b n base2 p2 b2 n2 : Nat} {G G2 : Nt → Option Ac} {pv hv pv2 : Value} {m2 : Option Nat} {L L2 : List Pl}
theorem Led.kpS {S : Nat → Prop} (h : Led w base p b n G pv hv L) (hk : Kp S w w') (hp : ¬ S p) (hb : ¬ S b) (hr : ∀ k, some k = pv.ownBlock → ¬ S k) (he : ∀ x ∈ L, ∀ ad, x.A = some ad → ¬ S ad.block) : Led w' base p b n G pv hv L :=
  ⟨⟨(hk.block p h.lg.plt hp).trans h.lg.cell, h.lg.acc.of_block (hk.block b h.lg.blt hb)⟩, ownsRow_kp h.row hk hr, fun x hx => ⟨(h.ents x hx).1.kp hk (he x hx), (h.ents x hx).2⟩, h.out, h.pb, h.bb⟩
theorem Led.p_b2 (h : Led w base p b n G pv hv L) (h2 : Led w base2 p2 b2 n2 G2 pv2 (.map m2) L2) : p ≠ b2 := by
  rintro rfl
  obtain ⟨es, cl, hm⟩ := h2.lg.acc.blk
  rw [h.lg.cell] at hm
  cases hm
theorem Led.row_ty (h : Led w base p b n G pv hv L) {k : Nat} (hk : some k = pv.ownBlock) : ∃ cur, w.heap[k]? = some (.cells cur 156 (0, 0)) := by
  rcases h.row.2 with ⟨h0, _⟩ | ⟨g, cap, cur, he, _, hb, _⟩
  · rw [h0] at hk; simp [Value.ownBlock] at hk
  · rw [he] at hk
    simp [Value.ownBlock] at hk
    subst hk
    exact ⟨cur, hb⟩
theorem Led.not_own_cells (h : Led w base p b n G pv hv L) {k : Nat} {cs : Array Value} {t : TypeId} {fr : Nat × Nat} (hk : w.heap[k]? = some (.cells cs t fr)) (h1 : t ≠ 145) (h2 : t ≠ 156) : ¬ own3 p b pv k := by
  intro ho
  rcases ho with rfl | rfl | ho
  · rw [h.lg.cell] at hk
    injection hk with hk
    injection hk with _ hk
    exact h1 hk.symm
  · obtain ⟨es, cl, hm⟩ := h.lg.acc.blk
    rw [hk] at hm
    cases hm
  · obtain ⟨cur, hc⟩ := h.row_ty ho
    rw [hc] at hk
    injection hk with hk
    injection hk with _ hk
    exact h2 hk.symm
/-- another ledger's two blocks are none of this ledger's -/
theorem Led.apart (h : Led w base p b n G pv hv L) (h2 : Led w base2 p2 b2 n2 G2 pv2 (.map m2) L2) (hp : p ≠ p2) (hb : b ≠ b2) {k : Nat} (hk : k = p2 ∨ k = b2) : ¬ own3 p b pv k := by
  intro ho
  obtain ⟨es, cl, hm⟩ := h.lg.acc.blk
  obtain ⟨es2, cl2, hm2⟩ := h2.lg.acc.blk
  rcases hk with rfl | rfl
  · rcases ho with e | e | e
    · exact hp e.symm
    · subst e; rw [h2.lg.cell] at hm; cases hm
    · obtain ⟨cur, hc⟩ := h.row_ty e
      rw [h2.lg.cell] at hc
      injection hc with hc
      injection hc with _ hc
      revert hc
      decide
  · rcases ho with e | e | e
    · subst e; rw [h.lg.cell] at hm2; cases hm2
    · exact hb e.symm
    · obtain ⟨cur, hc⟩ := h.row_ty e
      rw [hm2] at hc
      cases hc
theorem Led.ents_apart (h : Led w base p b n G pv hv L) (h2 : Led w base2 p2 b2 n2 G2 pv2 (.map m2) L2) {x : Pl} (hx : x ∈ L) {ad : Addr} (ha : x.A = some ad) : ¬ (ad.block = p2 ∨ ad.block = b2) := by
  obtain ⟨g, off, e, hg, hc⟩ := (h.ents x hx).1 (h.ents x hx).2.1
  have h0 := (hc 0 _ (List.getElem?_eq_getElem (h.ents x hx).2.1)).1
  rw [e] at ha
  injection ha with ha
  subst ha
  obtain ⟨es2, cl2, hm2⟩ := h2.lg.acc.blk
  obtain ⟨A2, c2, hf⟩ := h2.form
  rintro (e | e)
  · simp only at e
    subst e
    simp only [World.cell?, h2.lg.cell] at h0
    rw [hf] at h0
    rcases (show off = 0 ∨ off = 1 ∨ off = 2 ∨ 3 ≤ off by omega) with rfl | rfl | rfl | ho
    · simp at h0
    · simp at h0
    · simp at h0
    · have : (#[Value.map (some b2), Value.slice A2 L2.length c2, Value.map m2])[off]? = none := by simp; omega
      simp [this] at h0
  · simp only at e
    subst e
    simp [World.cell?, hm2] at h0
end

/-- two ledgers -/
structure Bn (w wr : World) (pa ba na : Nat) (Ga : Nt → Option Ac) (pva : Value) (ma : Option Nat) (La : List Pl) (pb bb nb : Nat) (Gb : Nt → Option Ac) (pvb : Value) (mb : Option Nat) (Lb : List Pl) : Prop where
  A : Led wr w.heap.size pa ba na Ga pva (.map ma) La
  B : Led wr w.heap.size pb bb nb Gb pvb (.map mb) Lb
  hp : pa ≠ pb
  hb : ba ≠ bb
  bel : Below w.heap.size w wr
section
variable {w wr w' : World} {pa ba na pb bb nb m : Nat} {Ga Gb G' : Nt → Option Ac} {pva pvb pv' : Value} {ma mb : Option Nat} {La Lb L' : List Pl}
theorem Bn.swap (h : Bn w wr pa ba na Ga pva ma La pb bb nb Gb pvb mb Lb) : Bn w wr pb bb nb Gb pvb mb Lb pa ba na Ga pva ma La := ⟨h.B, h.A, h.hp.symm, h.hb.symm, h.bel⟩
theorem Bn.openA (h : Bn w wr pa ba na Ga pva ma La pb bb nb Gb pvb mb Lb) (hL : Lg w' pa ba m G' pva (.map ma)) (hg : wr.grownBy w' (some ba)) : Bn w w' pa ba m G' pva ma La pb bb nb Gb pvb mb Lb := by
  have hk := Kp.of_grown hg
  refine ⟨h.A.grow hg hL, h.B.kpS hk ?_ ?_ ?_ ?_, h.hp, h.hb, h.bel.grown hg h.bel.size (fun k hk => by cases hk; exact h.A.bb)⟩
  · intro e; injection e with e; exact h.B.p_b2 h.A e
  · intro e; injection e with e; exact h.hb e.symm
  · intro k hk e
    injection e with e
    exact h.B.apart h.A h.hp.symm h.hb.symm (.inr e) (.inr (.inr hk))
  · intro x hx ad ha e
    injection e with e
    exact h.B.ents_apart h.A hx ha (.inr e)
/-- a post on the first, while the second has none -/
theorem Bn.postA (h : Bn w wr pa ba na Ga pva ma La pb bb nb Gb (.slice none 0 0) mb []) (hk : Kp (own3 pa ba pva) wr w') (hA : Led w' w.heap.size pa ba m G' pv' (.map ma) L') : Bn w w' pa ba m G' pv' ma L' pb bb nb Gb (.slice none 0 0) mb [] :=
  ⟨hA, h.B.kpS hk (h.A.apart h.B h.hp h.hb (.inl rfl)) (h.A.apart h.B h.hp h.hb (.inr rfl)) (by simp [Value.ownBlock]) (by simp), h.hp, h.hb, h.bel.trans (hk.below h.bel.size (fun k ho => h.A.own_base k ho))⟩
/-- the first post on the second -/
theorem Bn.postB (h : Bn w wr pa ba na Ga pva ma La pb bb nb Gb (.slice none 0 0) mb []) (hk : Kp (own3 pb bb (.slice none 0 0)) wr w') (hB : Led w' w.heap.size pb bb m G' pv' (.map mb) L') : Bn w w' pa ba na Ga pva ma La pb bb m G' pv' mb L' := by
  have hS : ∀ k, own3 pb bb (.slice none 0 0) k → k = pb ∨ k = bb := by
    rintro k (e | e | e)
    · exact .inl e
    · exact .inr e
    · simp [Value.ownBlock] at e
  refine ⟨h.A.kpS hk ?_ ?_ ?_ ?_, hB, h.hp, h.hb, h.bel.trans (hk.below h.bel.size (fun k ho => h.B.own_base k ho))⟩
  · intro ho
    exact h.A.apart h.B h.hp h.hb (hS _ ho) (.inl rfl)
  · intro ho
    exact h.A.apart h.B h.hp h.hb (hS _ ho) (.inr (.inl rfl))
  · intro k hk2 ho
    exact h.A.apart h.B h.hp h.hb (hS _ ho) (.inr (.inr hk2))
  · intro x hx ad ha ho
    exact h.A.ents_apart h.B hx ha (hS _ ho)
theorem Bn.below (h : Bn w wr pa ba na Ga pva ma La pb bb nb Gb pvb mb Lb) (hb : Below wr.heap.size wr w') : Bn w w' pa ba na Ga pva ma La pb bb nb Gb pvb mb Lb :=
  ⟨h.A.kp (Kp.of_below (fun _ => False) hb) (fun _ _ _ e => e), h.B.kp (Kp.of_below (fun _ => False) hb) (fun _ _ _ e => e), h.hp, h.hb, h.bel.trans (hb.mono h.bel.size)⟩
end
/-- an account without bound, and one that is not below nothing -/
structure Ba (G : Nt → Option Ac) (a1 a2 : ByteArray) (k : Nat) : Prop where
  h1 : ∃ bal, G (a1, eurT) = some ⟨-1099511627776, bal, 0⟩ ∧ -(1000 * (k : Int)) ≤ bal ∧ bal ≤ 0
  h2 : ∃ bal, G (a2, eurT) = some ⟨0, bal, 0⟩ ∧ 0 ≤ bal ∧ bal ≤ 1000 * (k : Int)
theorem Ba.fits {G : Nt → Option Ac} {a1 a2 : ByteArray} {k : Nat} (h : Ba G a1 a2 k) (hk : k ≤ 10) (hne : a1 ≠ a2) (s1 : a1.size ≤ 100) (s2 : a2.size ≤ 100) {n : Int} (n0 : 0 < n) (n1 : n ≤ 1000) : Fits G (two a1 a2 eurT (-n) n) := by
  obtain ⟨x, hx, x0, x1⟩ := h.h1
  obtain ⟨y, hy, y0, y1⟩ := h.h2
  exact fits_two hne (by omega) ⟨s1, by decide, by omega, by omega, _, x, hx, by omega, by omega, by omega, by omega, by omega⟩ ⟨s2, by decide, by omega, by omega, _, y, hy, by omega, by omega, by omega, by omega, by omega⟩
theorem Ba.step {G : Nt → Option Ac} {a1 a2 : ByteArray} {k : Nat} (h : Ba G a1 a2 k) (hne : a1 ≠ a2) {n : Int} (n0 : 0 < n) (n1 : n ≤ 1000) : Ba (bump G (eachG (two a1 a2 eurT (-n) n))) a1 a2 (k + 1) := by
  obtain ⟨x, hx, x0, x1⟩ := h.h1
  obtain ⟨y, hy, y0, y1⟩ := h.h2
  exact ⟨⟨x + -n, by rw [bump_first hne, hx]; rfl, by push_cast; omega, by omega⟩, ⟨y + n, by rw [bump_second hne, hy]; rfl, by omega, by push_cast; omega⟩⟩
theorem Ba.start {a1 a2 : ByteArray} (hne : a1 ≠ a2) : Ba (putG (putG (fun _ => none) (a1, eurT) ⟨-1099511627776, 0, 0⟩) (a2, eurT) ⟨0, 0, 0⟩) a1 a2 0 := by
  have h : ((a1, eurT) : Nt) ≠ (a2, eurT) := fun e => hne (by injection e)
  exact ⟨⟨0, by rw [putG_other _ _ h, putG_same], by simp, by simp⟩, ⟨0, by rw [putG_same], by simp, by simp⟩⟩

theorem alloc_keep' {w : World} {b : Nat} {o : Obj} (h : w.heap[b]? = some o) (o' : Obj) : (w.alloc o').heap[b]? = some o := (Below.heap_alloc w o' b (Array.getElem?_eq_some_iff.1 h).1).trans h
def vbT : ByteArray := ⟨#[118, 111, 115, 116, 114, 111, 58, 98]⟩
def naT : ByteArray := ⟨#[110, 111, 115, 116, 114, 111, 58, 97]⟩
def yT : ByteArray := ⟨#[121]⟩
theorem vb_good : GoodName vbT := goodName_of [118, 111, 115, 116, 114, 111, 58, 98] (by decide) (by decide) (by decide)
theorem na_good : GoodName naT := goodName_of [110, 111, 115, 116, 114, 111, 58, 97] (by decide) (by decide) (by decide)
theorem y_good : GoodName yT := goodName_of [121] (by decide) (by decide) (by decide)
theorem bytes_ne {l k : List UInt8} (h : l ≠ k) : (⟨l.toArray⟩ : ByteArray) ≠ ⟨k.toArray⟩ := fun e => h (by injection e with e; simpa using e)
theorem x_vb : xT ≠ vbT := bytes_ne (l := [120]) (k := [118, 111, 115, 116, 114, 111, 58, 98]) (by decide)
theorem na_y : naT ≠ yT := bytes_ne (l := [110, 111, 115, 116, 114, 111, 58, 97]) (k := [121]) (by decide)
def paid : List Int := [30, 20]
def payE (n : Int) : List Ent := two xT vbT eurT (-n) n
/-- how far the two banks are -/
structure Bq (w wr : World) (pa ba pb bb bs j : Nat) (ma mb : Option Nat) : Prop where
  bn : ∃ na Ga pva La nb, Bn w wr pa ba na Ga pva ma La pb bb nb (putG (putG (fun _ => none) (naT, eurT) ⟨-1099511627776, 0, 0⟩) (yT, eurT) ⟨0, 0, 0⟩) (.slice none 0 0) mb [] ∧ La.map (fun x => x.pt.ents) = (paid.take j).map payE ∧ Ba Ga xT vbT j ∧ na ≤ 10 + 2 * j ∧ nb ≤ 10
  bs : wr.heap[bs]? = some (.cells #[.int .i64 30, .int .i64 20] 2 (0, 0))
/-- both banks, as they are handed back -/
structure Br (w w' : World) (pa pb : Nat) (first : Int) : Prop where
  ba : ∃ b n G pv hv La, Led w' w.heap.size pa b n G pv hv La ∧ La.map (fun x => x.pt.ents) = paid.map payE
  bb : ∃ b n G pv hv Lb, Led w' w.heap.size pb b n G pv hv Lb ∧ Lb.map (fun x => x.pt.ents) = [two naT yT eurT (-first) first]
  bel : Below w.heap.size w w'

set_option maxHeartbeats 4000000 in
theorem banks_any (first : Int) (w : World) (f0 : 0 < first) (f1 : first ≤ 1000) :
    Calls Tryz.prog 19 #[.int .i64 first] w fun e w' => ∃ pa pb, e = .returned (.tuple #[.pointer (some ⟨pa, 0, none⟩), .pointer (some ⟨pb, 0, none⟩)]) ∧ Br w w' pa pb first := by
  go_enter Tryz.func19, Tryz.ntmps19
  go_wp2_with fail
  refine (new_any _ w).mono ?_
  rintro e w1 ⟨rfl, hL1, hb1, hs1⟩
  go_wp2_with fail
  refine (new_any _ w1).mono ?_
  rintro e w2 ⟨rfl, hL2, hb2, hs2⟩
  have HN : Hid (Bn w w2 (w.heap.size + 2) w.heap.size 0 (fun _ => none) (.slice none 0 0) (some (w.heap.size + 1)) [] (w1.heap.size + 2) w1.heap.size 0 (fun _ => none) (.slice none 0 0) (some (w1.heap.size + 1)) []) := Lib.hid (by
    refine ⟨⟨hL1.below hb2 (by omega) (by omega), World.ownsRow_nil _ _ _ _, by simp, by simp, by omega, by omega⟩, ⟨hL2, World.ownsRow_nil _ _ _ _, by simp, by simp, by omega, by omega⟩, by omega, by omega, hb1.trans (hb2.mono hb1.size)⟩)
  generalize (some (w.heap.size + 1)) = ma at *
  generalize (some (w1.heap.size + 1)) = mb at *
  clear hL1 hL2 hb1 hb2 hs1 hs2
  go_wp2_with fail
  refine (open_new xT eurT (-1099511627776) w2 _ _ _ _ _ _ HN.out.A.lg x_good eur_good (by omega) (by omega) rfl (by omega)).mono ?_
  rintro e w3 ⟨rfl, hL, hg⟩
  have HN3 := Lib.hid (HN.out.openA hL hg)
  clear hL hg HN
  go_wp2_with fail
  refine (open_new vbT eurT 0 w3 _ _ _ _ _ _ HN3.out.A.lg vb_good eur_good (by omega) (by omega) (putG_other _ _ (fun e => x_vb (by injection e with e _; exact e.symm))) (by omega)).mono ?_
  rintro e w4 ⟨rfl, hL, hg⟩
  have HN4 := Lib.hid (HN3.out.openA hL hg)
  clear hL hg HN3
  go_wp2_with fail
  refine (open_new naT eurT (-1099511627776) w4 _ _ _ _ _ _ HN4.out.B.lg na_good eur_good (by omega) (by omega) rfl (by omega)).mono ?_
  rintro e w5 ⟨rfl, hL, hg⟩
  have HN5 := Lib.hid (HN4.out.swap.openA hL hg).swap
  clear hL hg HN4
  go_wp2_with fail
  refine (open_new yT eurT 0 w5 _ _ _ _ _ _ HN5.out.B.lg y_good eur_good (by omega) (by omega) (putG_other _ _ (fun e => na_y (by injection e with e _; exact e.symm))) (by omega)).mono ?_
  rintro e w6 ⟨rfl, hL, hg⟩
  have HN6 := Lib.hid (HN5.out.swap.openA hL hg).swap
  clear hL hg HN5
  have HQ := Lib.hid (show Bq w (w6.alloc (.cells #[.int .i64 30, .int .i64 20] 2)) (w.heap.size + 2) w.heap.size (w1.heap.size + 2) w1.heap.size w6.heap.size 0 ma mb from ⟨⟨_, _, _, [], _, HN6.out.below ((Below.refl _ _).alloc (Nat.le_refl _) _), rfl, Ba.start x_vb, by omega, by omega⟩, heap_alloc_new w6 _⟩)
  clear HN6
  go_wp2_with fail
  generalize w6.alloc (.cells #[.int .i64 30, .int .i64 20] 2) = w7 at *
  go_loopw [20] (fun i wr => ∃ j : Nat, j ≤ 2 ∧ i = .int .i64 j ∧ Hid (Bq w wr (w.heap.size + 2) w.heap.size (w1.heap.size + 2) w1.heap.size w6.heap.size j ma mb)) (fun i _ => 2 - (RowKit.intOf i).toNat)
  case atStart => exact ⟨0, by omega, rfl, HQ⟩
  case round =>
    clear HQ
    obtain ⟨j, hj, rfl, HQ⟩ := hrel
    by_cases hlt : j < 2
    · obtain ⟨na, Ga, pva, La, nb, hbn, hmap, hba, hna, hnb⟩ := HQ.out.bn
      have hjp : j < paid.length := hlt
      obtain ⟨n, hn⟩ : ∃ n, paid[j] = n := ⟨_, rfl⟩
      have n01 : 0 < n ∧ n ≤ 1000 := by
        rw [← hn]
        rcases (show j = 0 ∨ j = 1 by omega) with rfl | rfl
        · exact (show (0 : Int) < 30 ∧ (30 : Int) ≤ 1000 by decide)
        · exact (show (0 : Int) < 20 ∧ (20 : Int) ≤ 1000 by decide)
      have hc : wr.cell? ⟨w6.heap.size, j, none⟩ = some (.int .i64 n) := by
        rw [← hn]
        unfold World.cell?
        rw [HQ.out.bs]
        rcases (show j = 0 ∨ j = 1 by omega) with rfl | rfl <;> rfl
      have hLl : La.length = j := by have := congrArg List.length hmap; simp [paid] at this; omega
      have Htk : Hid (paid.take (j + 1) = paid.take j ++ [n]) := Lib.hid (by rw [← hn]; exact List.take_succ_eq_append_getElem hjp)
      have Hbn := Lib.hid hbn
      have Hmap := Lib.hid hmap
      have Hba := Lib.hid hba
      have q8 : IntKind.i64.wrap (-n) = -n := IntWalk.i64_in _ (by omega)
      have HX := Lib.hid (Hbn.out.below ((Below.refl wr.heap.size wr).alloc (Nat.le_refl _) (.cells #[.string ⟨#[120]⟩, .string ⟨#[69, 85, 82]⟩, .int .i64 (-n), .string ⟨#[118, 111, 115, 116, 114, 111, 58, 98]⟩, .string ⟨#[69, 85, 82]⟩, .int .i64 n] 107)))
      have Hbs := Lib.hid (alloc_keep' HQ.out.bs (.cells #[.string ⟨#[120]⟩, .string ⟨#[69, 85, 82]⟩, .int .i64 (-n), .string ⟨#[118, 111, 115, 116, 114, 111, 58, 98]⟩, .string ⟨#[69, 85, 82]⟩, .int .i64 n] 107))
      have HP : Hid (Calls Tryz.prog 46 #[.pointer (some ⟨w.heap.size + 2, 0, none⟩), .string ⟨#[112, 97, 121]⟩, .slice (some ⟨wr.heap.size, 0, none⟩) 2 2] (wr.alloc (.cells #[.string ⟨#[120]⟩, .string ⟨#[69, 85, 82]⟩, .int .i64 (-n), .string ⟨#[118, 111, 115, 116, 114, 111, 58, 98]⟩, .string ⟨#[69, 85, 82]⟩, .int .i64 n] 107)) fun e w' => (∃ v, e = .returned (.tuple #[.int .i64 v, .int .i64 0])) ∧ Bq w w' (w.heap.size + 2) w.heap.size (w1.heap.size + 2) w1.heap.size w6.heap.size (j + 1) ma mb) := Lib.hid (by
        refine (post_ok ⟨#[112, 97, 121]⟩ (some ⟨wr.heap.size, 0, none⟩) 2 (payE n) _ w.heap.size (w.heap.size + 2) w.heap.size na Ga pva _ La HX.out.A (re_two (V := wr) (a1 := xT) (a2 := vbT) (c := eurT) (n := -n) (m := n)) (Hba.out.fits (by omega) x_vb (by decide) (by decide) n01.1 n01.2) (by omega) (by omega) (by decide)).mono ?_
        rintro e w5 ⟨he, pv5, A5, c5, n5, hn5, h5, hk5⟩
        have e2 : (payE n).length = 2 := rfl
        refine ⟨⟨_, he⟩, ⟨n5, _, pv5, _, nb, HX.out.postA hk5 h5, ?_, Hba.out.step x_vb n01.1 n01.2, by omega, hnb⟩, ?_⟩
        · rw [Htk.out]; simp [Hmap.out]
        · exact (hk5.block _ (Array.getElem?_eq_some_iff.1 Hbs.out).1 (HX.out.A.not_own_cells Hbs.out (by decide) (by decide))).trans Hbs.out)
      clear hbn hmap hba HX Hbs Hbn HQ hn
      go_wp2_with (first
        | (go_at_call 46; refine HP.out.mono ?_; rintro e w8 ⟨⟨v8, rfl⟩, hQ8⟩)
        | go_in)
      have HQ8 := Lib.hid hQ8
      clear hQ8 HP
      go_wp2_with fail
      go_roundw
      case rel => exact ⟨j + 1, by omega, by go_num, HQ8⟩
      case measure => simp [RowKit.intOf]; omega
    · rw [show j = 2 from by omega] at HQ
      obtain ⟨na, Ga, pva, La, nb, hbn, hmap, hba, hna, hnb⟩ := HQ.out.bn
      have Hbn := Lib.hid hbn
      have Hmap := Lib.hid hmap
      clear hbn hmap hba HQ
      have q8 : IntKind.i64.wrap (-first) = -first := IntWalk.i64_in _ (by omega)
      have HX := Lib.hid (Hbn.out.below ((Below.refl wr.heap.size wr).alloc (Nat.le_refl _) (.cells #[.string ⟨#[110, 111, 115, 116, 114, 111, 58, 97]⟩, .string ⟨#[69, 85, 82]⟩, .int .i64 (-first), .string ⟨#[121]⟩, .string ⟨#[69, 85, 82]⟩, .int .i64 first] 107)))
      have HP : Hid (Calls Tryz.prog 46 #[.pointer (some ⟨w1.heap.size + 2, 0, none⟩), .string ⟨#[114, 101, 109, 105, 116]⟩, .slice (some ⟨wr.heap.size, 0, none⟩) 2 2] (wr.alloc (.cells #[.string ⟨#[110, 111, 115, 116, 114, 111, 58, 97]⟩, .string ⟨#[69, 85, 82]⟩, .int .i64 (-first), .string ⟨#[121]⟩, .string ⟨#[69, 85, 82]⟩, .int .i64 first] 107)) fun e w' => (∃ v, e = .returned (.tuple #[.int .i64 v, .int .i64 0])) ∧ Br w w' (w.heap.size + 2) (w1.heap.size + 2) first) := Lib.hid (by
        refine (post_ok ⟨#[114, 101, 109, 105, 116]⟩ (some ⟨wr.heap.size, 0, none⟩) 2 (two naT yT eurT (-first) first) _ w.heap.size (w1.heap.size + 2) w1.heap.size nb _ _ _ [] HX.out.B (re_two (V := wr) (a1 := naT) (a2 := yT) (c := eurT) (n := -first) (m := first)) ((Ba.start na_y).fits (by omega) na_y (by decide) (by decide) f0 f1) (by omega) (by simp) (by decide)).mono ?_
        rintro e w5 ⟨he, pv5, A5, c5, n5, hn5, h5, hk5⟩
        have h6 := HX.out.postB hk5 h5
        exact ⟨⟨_, he⟩, ⟨_, _, _, _, _, La, h6.A, Hmap.out⟩, ⟨_, _, _, _, _, _, h6.B, rfl⟩, h6.bel⟩)
      clear HX Hbn Hmap
      go_wp2_with (first
        | (go_at_call 46; refine HP.out.mono ?_; rintro e w8 ⟨⟨v8, rfl⟩, hQ8⟩)
        | go_in)
      have HQ8 := Lib.hid hQ8
      clear hQ8 HP
      go_wp2
      go_ret2
      exact ⟨_, _, rfl, HQ8.out⟩
end Go.Proofs.YtdinloecgaapaaaGreatDoor
