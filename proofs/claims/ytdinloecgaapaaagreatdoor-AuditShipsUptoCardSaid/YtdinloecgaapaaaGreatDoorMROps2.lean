/- The register's plain operations: a bill comes to its end. An original's chain grows, an original's holder turns: the register stands. -/
import Derived.Test.YtdinloecgaapaaaGreatDoorMREnd
import Derived.Maps.AppendAt
namespace Go.Proofs.YtdinloecgaapaaaGreatDoor
open Go.RowKit Go.Maps Go.Lib
set_option linter.unusedVariables false
set_option maxRecDepth 100000

set_option maxHeartbeats 4000000 in
theorem retire_r (base r N : Nat) (ca k by_ : ByteArray) (day : Int) (w : World) (hR : Reg w base r ca N) (hN : N ≤ 1000000) (hk : k.size ≤ maxLen) :
    Calls Tryz.prog 55 #[.pointer (some ⟨r, 0, none⟩), .string k, .string by_, .int .i64 day] w fun en w' => OpP base r ca N w en w' := by
  obtain ⟨b, n, G, S, hR⟩ := hR
  have HA := Lib.hid (ask_r base r N b n ca G S ⟨k, -1, -1, by_, 0, day, true, false⟩ w hR hN hk)
  have HL := Lib.hid hR.lo
  have HR := Lib.hid hR
  clear hR
  unfold ac8A at HA
  generalize hCP : OpP base r ca N w = CP
  go_enter Tryz.func55, Tryz.ntmps55
  go_wp2_with fail
  refine HA.out.mono ?_
  rintro en w2 ⟨code, rfl, hok, hb⟩
  by_cases hc : code = 0
  · obtain ⟨⟨e, hG⟩, h1, h2⟩ := hok hc
    have R2 := HR.out.below hb
    obtain ⟨_, e', x, he', hS⟩ := R2.ent _ _ hG
    cases he'
    obtain ⟨_, m1⟩ := R2.cell
    have hlk := R2.look (k := k) hk
    rw [hG] at hlk
    have hlk' : (Instr.lookup 113 (.map (some b)) (.string k) false).run Tryz.prog w2 = .ok (.pointer (some ⟨e, 0, none⟩)) w2 := hlk
    have hat := R2.at_ e x hS
    have HE := Lib.hid (end_r e x 4 w2 hat.obj)
    have HF : Hid (∀ v w3, w3.heap[e]? = some (.cells (enA ((x.st 4).kill 3)) 132 (0, 0)) → Wrt e w2 w3 → CP (.returned v) w3) := Lib.hid (fun v w3 h3 hw3 => by rw [← hCP]; exact ⟨v, rfl, ⟨b, n, G, _, R2.ends hS 4 3 h3 hw3⟩, (hb.mono HL.out).trans (hw3.below hat.lo)⟩)
    subst hc
    clear hlk hok hG R2 hat hb HA HR hCP hS h1 h2 HL
    go_wp2_with (first
      | (go_at_call 87; refine HE.out.mono ?_; rintro en w3 ⟨rfl, h3, hw3⟩; have HF3 := Lib.hid (fun v => HF.out v w3 h3 hw3); clear h3 hw3)
      | fail)
    first
      | exact HF3.out _
      | (go_ret; exact HF3.out _)
  · have HF : Hid (∀ v, CP (.returned v) w2) := Lib.hid (fun v => by rw [← hCP]; exact ⟨v, rfl, ⟨b, n, G, S, HR.out.below hb⟩, hb.mono HL.out⟩)
    have b1 : (code == 0) = false := by simpa using hc
    clear hok hb HA HR hCP HL
    go_wp2_with fail
    first
      | exact HF.out _
      | (go_ret; exact HF.out _)
set_option maxHeartbeats 4000000 in
theorem surrender_r (base r N : Nat) (ca k by_ : ByteArray) (ix day : Int) (w : World) (hR : Reg w base r ca N) (hN : N ≤ 1000000) (hk : k.size ≤ maxLen) :
    Calls Tryz.prog 52 #[.pointer (some ⟨r, 0, none⟩), .string k, .int .i64 ix, .string by_, .int .i64 day] w fun en w' => OpP base r ca N w en w' := by
  obtain ⟨b, n, G, S, hR⟩ := hR
  have HA := Lib.hid (ask_r base r N b n ca G S ⟨k, ix, 0, by_, 0, day, true, false⟩ w hR hN hk)
  have HL := Lib.hid hR.lo
  have HR := Lib.hid hR
  clear hR
  unfold ac8A at HA
  generalize hCP : OpP base r ca N w = CP
  go_enter Tryz.func52, Tryz.ntmps52
  go_wp2_with fail
  refine HA.out.mono ?_
  rintro en w2 ⟨code, rfl, hok, hb⟩
  by_cases hc : code = 0
  · obtain ⟨⟨e, hG⟩, h1, h2⟩ := hok hc
    have R2 := HR.out.below hb
    obtain ⟨_, e', x, he', hS⟩ := R2.ent _ _ hG
    cases he'
    obtain ⟨_, m1⟩ := R2.cell
    have hlk := R2.look (k := k) hk
    rw [hG] at hlk
    have hlk' : (Instr.lookup 113 (.map (some b)) (.string k) false).run Tryz.prog w2 = .ok (.pointer (some ⟨e, 0, none⟩)) w2 := hlk
    obtain ⟨i, hi, rfl⟩ : ∃ i : Nat, i < 3 ∧ ix = (i : Int) := ⟨ix.toNat, by simp at h1 h2; omega, by simp at h1; omega⟩
    have hat := R2.at_ e x hS
    have HE := Lib.hid (end_r e x 1 w2 hat.obj)
    have HM : Hid (∀ w3, w3.heap[e]? = some (.cells (enA ((x.st 1).kill 3)) 132 (0, 0)) → Wrt e w2 w3 →
        w3.frozen? ⟨e, 10 + 3 * i, none⟩ = false ∧ w3.cell? ⟨e, 10 + 3 * i, none⟩ = some (.int .i64 (((x.st 1).kill 3).o i).s) ∧ (w3.setCell ⟨e, 10 + 3 * i, none⟩ (.int .i64 1)).cell? ⟨e, 5, none⟩ = some (.slice x.A x.l.length x.c) ∧
        Calls Tryz.prog 88 #[.slice x.A x.l.length x.c] (w3.setCell ⟨e, 10 + 3 * i, none⟩ (.int .i64 1)) fun en w5 => ∃ A' c', en = .returned (.slice A' x.l.length c') ∧ ∀ v, CP (.returned v) w5) := Lib.hid (fun w3 h3 hw3 => by
      have R3 := R2.ends hS 1 3 h3 hw3
      have hat3 := R3.at_ e _ (putE_same _ _ _)
      obtain ⟨c0, f0⟩ := hat3.stc i hi
      obtain ⟨R4, hb4⟩ := R3.sets (putE_same _ _ _) i hi 1
      have hat4 := R4.at_ e _ (putE_same _ _ _)
      refine ⟨f0, c0, hat4.cell 5, ?_⟩
      refine (clone_r x.A x.c x.l _ hat4.box.rs (by have := (R2.fit e x hS).l; omega)).mono ?_
      rintro en w5 ⟨A', c', rfl, _, hb5⟩
      refine ⟨A', c', rfl, fun v => ?_⟩
      rw [← hCP]
      exact ⟨v, rfl, ⟨b, n, G, _, R4.below hb5⟩, (((hb.mono HL.out).trans (hw3.below hat.lo)).trans hb4).trans (hb5.mono R4.lo)⟩)
    generalize hst : (((x.st 1).kill 3).o i).s = st1 at HM
    generalize x.A = xA at *
    generalize hxl : x.l.length = xl at *
    generalize x.c = xc at *
    subst hc
    clear hlk hok hG R2 hat hb HA HR hCP hS h1 h2 HL hst hxl
    obtain rfl | rfl | rfl : i = 0 ∨ i = 1 ∨ i = 2 := by omega
    all_goals
      simp only [Nat.mul_zero, Nat.add_zero, Int.cast_ofNat_Int, Nat.reduceMul, Nat.reduceAdd] at HM ⊢
      go_wp2_with (first
        | (go_at_call 87; refine HE.out.mono ?_; rintro en w3 ⟨rfl, h3, hw3⟩; obtain ⟨f0, c0, c5, hcl⟩ := HM.out w3 h3 hw3; have HC := Lib.hid hcl; clear h3 hw3 hcl HM HE)
        | (go_at_call 88; refine HC.out.mono ?_; rintro en w5 ⟨A5, c5', rfl, h5⟩; have HF := Lib.hid h5; clear h5)
        | fail)
      first
        | exact HF.out _
        | (go_ret; exact HF.out _)
        | (refine bodyPost_ret (results_two rfl rfl) rfl ?_; exact HF.out _)
  · have HF : Hid (∀ v, CP (.returned v) w2) := Lib.hid (fun v => by rw [← hCP]; exact ⟨v, rfl, ⟨b, n, G, S, HR.out.below hb⟩, hb.mono HL.out⟩)
    have b1 : (code == 0) = false := by simpa using hc
    clear hok hb HA HR hCP HL
    go_wp2_with fail
    first
      | exact HF.out _
      | (go_ret; exact HF.out _)
      | (refine bodyPost_ret (results_two rfl rfl) rfl ?_; exact HF.out _)
end Go.Proofs.YtdinloecgaapaaaGreatDoor
namespace Go.Proofs.YtdinloecgaapaaaGreatDoor
open Go.RowKit Go.Maps Go.Lib
set_option linter.unusedVariables false
set_option maxRecDepth 100000

def En.ch (x : En) (i : Nat) (A : Option Addr) (n c : Nat) : En := { x with o := fun j => if j = i then { x.o j with A := A, n := n, c := c } else x.o j }
def En.hd (x : En) (i : Nat) (h : ByteArray) : En := { x with o := fun j => if j = i then { x.o j with h := h } else x.o j }
theorem ch_set (x : En) (i : Nat) (A : Option Addr) (n c : Nat) (hi : i < 3) : (enA x).setIfInBounds (12 + 3 * i) (.slice A n c) = enA (x.ch i A n c) := by
  obtain rfl | rfl | rfl : i = 0 ∨ i = 1 ∨ i = 2 := by omega
  all_goals simp [enA, En.ch]
theorem hd_set (x : En) (i : Nat) (h : ByteArray) (hi : i < 3) : (enA x).setIfInBounds (11 + 3 * i) (.string h) = enA (x.hd i h) := by
  obtain rfl | rfl | rfl : i = 0 ∨ i = 1 ∨ i = 2 := by omega
  all_goals simp [enA, En.hd]
theorem ch_same (x : En) (i : Nat) (A : Option Addr) (n c : Nat) : (x.ch i A n c).o i = { x.o i with A := A, n := n, c := c } := by simp [En.ch]
theorem ch_other (x : En) {i j : Nat} (A : Option Addr) (n c : Nat) (h : j ≠ i) : (x.ch i A n c).o j = x.o j := by simp [En.ch, h]
theorem ChOk.obj {w : World} {base : Nat} {o : Or} (h : ChOk w base o) {g : Nat} (hg : o.blk = some g) : ∃ cur, w.heap[g]? = some (.cells cur 167 (0, 0)) := by
  obtain ⟨cs, ⟨h1, h2⟩, h3⟩ := h
  unfold Or.blk at hg
  rcases h2 with ⟨e, _⟩ | ⟨g', cap, cur, e, hb, hg', h4⟩
  · rw [e] at hg; simp [Value.ownBlock] at hg
  · rw [e] at hg
    simp [Value.ownBlock] at hg
    subst hg
    exact ⟨cur, hg'⟩
theorem EnAt.chc {w : World} {base e : Nat} {x : En} (h : EnAt w base e x) (i : Nat) (hi : i < 3) : w.cell? ⟨e, 12 + 3 * i, none⟩ = some (.slice (x.o i).A (x.o i).n (x.o i).c) ∧ w.frozen? ⟨e, 12 + 3 * i, none⟩ = false := by
  refine ⟨?_, by simp [World.frozen?, h.obj]⟩
  rw [h.cell]
  obtain rfl | rfl | rfl : i = 0 ∨ i = 1 ∨ i = 2 := by omega
  all_goals rfl
theorem EnAt.hdc {w : World} {base e : Nat} {x : En} (h : EnAt w base e x) (i : Nat) (hi : i < 3) : w.cell? ⟨e, 11 + 3 * i, none⟩ = some (.string (x.o i).h) ∧ w.frozen? ⟨e, 11 + 3 * i, none⟩ = false := by
  refine ⟨?_, by simp [World.frozen?, h.obj]⟩
  rw [h.cell]
  obtain rfl | rfl | rfl : i = 0 ∨ i = 1 ∨ i = 2 := by omega
  all_goals rfl
theorem RgS.hd {w : World} {base r N b n e : Nat} {ca : ByteArray} {G : ByteArray → Option (Option Nat)} {S : Nat → Option En} {x : En} (h : RgS w base r ca N b n G S) (hS : S e = some x) (i : Nat) (hi : i < 3) (t : ByteArray) (ht : t.size ≤ 100000000) :
    RgS (w.setCell ⟨e, 11 + 3 * i, none⟩ (.string t)) base r ca N b n G (putE S e (x.hd i t)) ∧ Below base w (w.setCell ⟨e, 11 + 3 * i, none⟩ (.string t)) := by
  have hat := h.at_ e x hS
  have h9 := Go.heap_setCell_same w e (11 + 3 * i) (enA x) 132 (.string t) hat.obj
  rw [hd_set x i t hi] at h9
  have hw := (Wrt.refl e w).set (11 + 3 * i) (.string t)
  exact ⟨h.upd hS rfl rfl rfl rfl (fun j _ => by by_cases hj : j = i <;> simp [En.hd, hj, ht]) h9 hw.block, hw.below hat.lo⟩
theorem RgS.chain {w w1 : World} {base r N M b n e i n' c' : Nat} {A' : Option Addr} {ca : ByteArray} {G : ByteArray → Option (Option Nat)} {S : Nat → Option En} {x : En} (h : RgS w base r ca N b n G S) (hS : S e = some x) (hi : i < 3) (hM : N ≤ M) (hn' : n' ≤ M)
    (hblk : ∀ k, k < w.heap.size → some k ≠ (x.o i).blk → w1.heap[k]? = w.heap[k]?) (hc : ChOk w1 base { x.o i with A := A', n := n', c := c' })
    (hloc : (Value.slice A' n' c').ownBlock = (x.o i).blk ∨ ∃ g, (Value.slice A' n' c').ownBlock = some g ∧ w.heap.size ≤ g) :
    RgS (w1.setCell ⟨e, 12 + 3 * i, none⟩ (.slice A' n' c')) base r ca M b n G (putE S e (x.ch i A' n' c')) := by
  have hat := h.at_ e x hS
  have hty : ∀ (q : Nat) (ob : Obj), w.heap[q]? = some ob → (∀ cur, ob ≠ .cells cur 167 (0, 0)) → some q ≠ (x.o i).blk := fun q ob hq hn he => by
    obtain ⟨cur, hcur⟩ := (hat.ch i hi).obj he.symm
    rw [hq] at hcur
    cases hcur
    exact hn cur rfl
  have hold : ∀ (q : Nat) (ob : Obj), w.heap[q]? = some ob → q ≠ e → some q ≠ (x.o i).blk → (w1.setCell ⟨e, 12 + 3 * i, none⟩ (.slice A' n' c')).heap[q]? = some ob := fun q ob hq he hb => by
    rw [Below.heap_setCell _ _ _ _ he, hblk q (lt_of_some hq) hb]
    exact hq
  have he1 : w1.heap[e]? = some (.cells (enA x) 132 (0, 0)) := by
    rw [hblk e (lt_of_some hat.obj) (hty e _ hat.obj (fun cur hc => by injection hc with _ h2 _; exact absurd h2 (by decide)))]
    exact hat.obj
  have he2 := Go.heap_setCell_same w1 e (12 + 3 * i) (enA x) 132 (.slice A' n' c') he1
  rw [ch_set x i A' n' c' hi] at he2
  have hstr : ∀ (g : Nat) (cs : Array Value), w.heap[g]? = some (.cells cs 9 (0, 0)) → (w1.setCell ⟨e, 12 + 3 * i, none⟩ (.slice A' n' c')).heap[g]? = some (.cells cs 9 (0, 0)) := fun g cs hg =>
    hold g _ hg (hat.ne hg (by decide)) (hty g _ hg (fun cur hc => by injection hc with _ h2 _; exact absurd h2 (by decide)))
  have hrn : r ≠ e := hat.ne h.reg (by decide)
  have hbn : b ≠ e := fun eq => by
    obtain ⟨es, ck, hm⟩ := h.map.map?
    rw [eq, hat.obj] at hm
    cases hm
  have hmap : Mp nmC ptE (w1.setCell ⟨e, 12 + 3 * i, none⟩ (.slice A' n' c')) b n G := by
    obtain ⟨D, ⟨es, ck, h2, h3⟩, hR⟩ := h.map
    exact ⟨D, ⟨es, ck, hold b _ h2 hbn (hty b _ h2 (fun cur hc => by cases hc)), h3⟩, hR⟩
  have hch : ∀ o : Or, ChOk w base o → (∀ g, o.blk = some g → some g ≠ (x.o i).blk) → ChOk (w1.setCell ⟨e, 12 + 3 * i, none⟩ (.slice A' n' c')) base o := fun o ho hne => ho.keep fun g hg => by
    obtain ⟨cur, hcur⟩ := ho.obj hg
    rw [hcur]
    exact hold g _ hcur (hat.ne hcur (by decide)) (hne g hg)
  have hnew : ChOk (w1.setCell ⟨e, 12 + 3 * i, none⟩ (.slice A' n' c')) base { x.o i with A := A', n := n', c := c' } := hc.keep fun g hg => by
    obtain ⟨cur, hcur⟩ := hc.obj hg
    refine Below.heap_setCell _ _ _ _ ?_
    rintro rfl
    rw [he1] at hcur
    injection hcur with hcur
    injection hcur with _ h2 _
    exact absurd h2 (by decide)
  refine ⟨hold r _ h.reg hrn (hty r _ h.reg (fun cur hc => by injection hc with _ h2 _; exact absurd h2 (by decide))), h.rlo, h.blo, hmap, Nat.le_trans h.num hM, fun k v hk => ?_, fun q y hq => ?_, fun q q' y y' j j' g hq hq' hj hj' hg hg' => ?_, fun q y hq => ?_⟩
  · obtain ⟨hk16, q, y, hv, hq⟩ := h.ent k v hk
    by_cases hqe : q = e
    · subst hqe
      exact ⟨hk16, q, _, hv, putE_same _ _ _⟩
    · exact ⟨hk16, q, y, hv, by rw [putE_other _ hqe]; exact hq⟩
  · by_cases hqe : q = e
    · subst hqe
      rw [putE_same] at hq
      cases hq
      refine ⟨hat.lo, he2, hat.box.keep hstr, hat.par.keep hstr, fun j hj => ?_⟩
      by_cases hji : j = i
      · subst hji
        rw [ch_same]
        exact hnew
      · rw [ch_other _ _ _ _ hji]
        exact hch _ (hat.ch j hj) fun g hg he => hji (h.dj q q x x j i g hS hS hj hi hg he.symm).2
    · rw [putE_other _ hqe] at hq
      have hy := h.at_ q y hq
      exact ⟨hy.lo, hold q _ hy.obj hqe (hty q _ hy.obj (fun cur hc => by injection hc with _ h2 _; exact absurd h2 (by decide))), hy.box.keep hstr, hy.par.keep hstr,
        fun j hj => hch _ (hy.ch j hj) fun g hg he => hqe (h.dj q e y x j i g hq hS hj hi hg he.symm).1⟩
  · have key : ∀ q y j, j < 3 → putE S e (x.ch i A' n' c') q = some y → (y.o j).blk = some g → (∃ z, S q = some z ∧ (z.o j).blk = some g) ∨ (q = e ∧ j = i ∧ w.heap.size ≤ g) := fun q y j hj hq hgq => by
      by_cases hqe : q = e
      · subst hqe
        rw [putE_same] at hq
        cases hq
        by_cases hji : j = i
        · subst hji
          rw [ch_same] at hgq
          rcases hloc with hl | ⟨g', hl, hle⟩
          · exact .inl ⟨x, hS, hl ▸ hgq⟩
          · refine .inr ⟨rfl, rfl, ?_⟩
            have : some g = some g' := hgq.symm.trans hl
            cases this
            exact hle
        · rw [ch_other _ _ _ _ hji] at hgq
          exact .inl ⟨x, hS, hgq⟩
      · rw [putE_other _ hqe] at hq
        exact .inl ⟨y, hq, hgq⟩
    rcases key q y j hj hq hg with ⟨z, k1, k2⟩ | ⟨k1, k2, k3⟩ <;> rcases key q' y' j' hj' hq' hg' with ⟨z', k1', k2'⟩ | ⟨k1', k2', k3'⟩
    · exact h.dj q q' z z' j j' g k1 k1' hj hj' k2 k2'
    · have := (((h.at_ q z k1).ch j hj).lt k2).2
      omega
    · have := (((h.at_ q' z' k1').ch j' hj').lt k2').2
      omega
    · exact ⟨k1.trans k1'.symm, k2.trans k2'.symm⟩
  · by_cases hqe : q = e
    · subst hqe
      rw [putE_same] at hq
      cases hq
      have f := h.fit q x hS
      refine ⟨f.l, f.b, f.p, fun j hj => ?_, fun j hj => ?_⟩
      by_cases hji : j = i
      · subst hji; rw [ch_same]; exact hn'
      · rw [ch_other _ _ _ _ hji]; exact Nat.le_trans (f.o j hj) hM
      by_cases hji : j = i
      · subst hji; rw [ch_same]; exact f.h j hj
      · rw [ch_other _ _ _ _ hji]; exact f.h j hj
    · rw [putE_other _ hqe] at hq
      have f := h.fit q y hq
      exact ⟨f.l, f.b, f.p, fun j hj => Nat.le_trans (f.o j hj) hM, f.h⟩
end Go.Proofs.YtdinloecgaapaaaGreatDoor
