/- The bills of a register, as it tells them. -/
import Derived.Test.YtdinloecgaapaaaGreatDoorMROrig
import Derived.Test.YtdinloecgaapaaaGreatDoorMRPut
import Derived.Test.YtdinloecgaapaaaGreatDoorMRShelf
import Derived.Deep.RegionLaw
import Derived.Deep.AppendLies
namespace Go.Proofs.YtdinloecgaapaaaGreatDoor
open Go.RowKit Go.Maps Go.Lib Go.Sort
set_option linter.unusedVariables false
set_option maxRecDepth 100000

/-- a bill as it is told: its number, its entry, where its boxes and its originals lie -/
structure Bm where
  k : ByteArray
  x : En
  A : Option Addr
  c : Nat
  O : Option Addr
  oc : Nat
def bmC (m : Bm) : List Value := [.slice m.A m.x.l.length m.c, .int .i64 m.x.s, .slice m.O 3 m.oc]
structure BmOk (w : World) (m : Bm) : Prop where
  box : Sr w m.A m.x.l
  org : ∃ bs, w.ownsRow bs 134 4 (.slice m.O 3 m.oc) 3 (orT m.k m.x 3)
theorem infoBl : (Tryz.prog.info? 70).map (fun i => (i.zero, i.size, i.bytes)) = some (some (.agg #[.slice none 0 0, .int .i64 0, .slice none 0 0]), 3, 56) := by kernel_rfl
theorem row_blk {w : World} {base size n : Nat} {e : TypeId} {v : Value} {xs : List Value} (h : w.ownsRow base e size v n xs) {g : Nat} (hg : v.ownBlock = some g) : ∃ cs, w.heap[g]? = some (.cells cs e (0, 0)) := by
  rcases h.2 with ⟨h0, _⟩ | ⟨g', cap, cur, he, hb, hh, _⟩
  · rw [h0] at hg; simp [Value.ownBlock] at hg
  · rw [he] at hg
    simp [Value.ownBlock] at hg
    subst hg
    exact ⟨cur, hh⟩
/-- what an append to a row of another type leaves -/
theorem row_keep {w w' : World} {base size n : Nat} {e t : TypeId} {v : Value} {xs : List Value} (h : w.ownsRow base e size v n xs) (hg : w.grownBy w' v.ownBlock) {q : Nat} {cs : Array Value} {fz : Nat × Nat} (hq : w.heap[q]? = some (.cells cs t fz)) (ht : t ≠ e) : w'.heap[q]? = some (.cells cs t fz) := by
  refine (hg.block q (lt_of_some hq) fun e2 => ?_).trans hq
  obtain ⟨cs2, h2⟩ := row_blk h (e2.symm)
  rw [hq] at h2
  injection h2 with h2
  injection h2 with _ h3 _
  exact ht h3
theorem BmOk.keep {w w' : World} {m : Bm} (h : BmOk w m) (hk : ∀ (q : Nat) (cs : Array Value) (t : TypeId), t = 9 ∨ t = 134 → w.heap[q]? = some (.cells cs t (0, 0)) → w'.heap[q]? = some (.cells cs t (0, 0))) : BmOk w' m := by
  refine ⟨h.box.keep fun g cs => hk g cs _ (.inl rfl), ?_⟩
  obtain ⟨bs, h1, h2⟩ := h.org
  refine ⟨bs, h1, ?_⟩
  rcases h2 with h2 | ⟨g, cap, cur, e, hb, hg, h4⟩
  · exact .inl h2
  · exact .inr ⟨g, cap, cur, e, hb, hk g cur _ (.inr rfl) hg, h4⟩
theorem BmOk.below {w w' : World} {m : Bm} (h : BmOk w m) (hb : Below w.heap.size w w') : BmOk w' m := h.keep fun q cs t _ hq => keep_of_below hb hq
/-- bills in an own row -/
structure Bw (base : Nat) (w : World) (A : Option Addr) (c : Nat) (BL : List Bm) : Prop where
  row : w.ownsRow base 70 3 (.slice A BL.length c) BL.length (BL.flatMap bmC)
  each : ∀ m ∈ BL, BmOk w m
theorem Bw.below {base : Nat} {w w' : World} {A : Option Addr} {c : Nat} {BL : List Bm} (h : Bw base w A c BL) (hb : Below w.heap.size w w') : Bw base w' A c BL := ⟨ownsRow_kp h.row (Kp.of_below (fun _ => False) hb) (fun _ _ e => e), fun m hm => (h.each m hm).below hb⟩
theorem Bw.more {base base' : Nat} {w : World} {A : Option Addr} {c : Nat} {BL : List Bm} (h : Bw base w A c BL) (hb : base' ≤ base) : Bw base' w A c BL := by
  refine ⟨⟨h.row.1, ?_⟩, h.each⟩
  rcases h.row.2 with h2 | ⟨g, cap, cur, e, hb', hg, h4⟩
  · exact .inl h2
  · exact .inr ⟨g, cap, cur, e, by omega, hg, h4⟩
theorem bmC_one (m : Bm) : ∀ u ∈ bmC m, u.oneCell' = true := by
  intro u hu
  simp only [bmC, List.mem_cons, List.not_mem_nil, or_false] at hu
  rcases hu with rfl | rfl | rfl <;> rfl
theorem Bw.add {base : Nat} {w w' : World} {A : Option Addr} {c : Nat} {BL : List Bm} (h : Bw base w A c BL) (m : Bm) (hm : BmOk w m) {g cap : Nat} (hrow : w'.ownsRow base 70 3 (.slice (some ⟨g, 0, none⟩) (BL.length + 1) cap) (BL.length + 1) (BL.flatMap bmC ++ bmC m)) (hg : w.grownBy w' (Value.slice A BL.length c).ownBlock) : Bw base w' (some ⟨g, 0, none⟩) cap (BL ++ [m]) := by
  have hk : ∀ m, BmOk w m → BmOk w' m := fun m hm => hm.keep fun q cs t ht hq => row_keep h.row hg hq (by rcases ht with rfl | rfl <;> decide)
  refine ⟨?_, fun y hy => ?_⟩
  · rw [List.flatMap_append, List.length_append]
    simpa using hrow
  · rw [List.mem_append, List.mem_singleton] at hy
    rcases hy with hy | rfl
    · exact hk y (h.each y hy)
    · exact hk _ hm
def BlP (G : ByteArray → Option (Option Nat)) (S : Nat → Option En) (n : Nat) (w : World) (e : Ending) (w' : World) : Prop :=
  ∃ A c BL, e = .returned (.slice A (List.length BL) c) ∧ Bw w.heap.size w' A c BL ∧ (∀ x, (∃ m ∈ BL, m.x = x) ↔ ∃ k e, G k = some (some e) ∧ S e = some x) ∧ BL.length ≤ n ∧ Below w.heap.size w w'

set_option maxHeartbeats 4000000 in
theorem billsOf_r (base r N b n : Nat) (ca : ByteArray) (G : ByteArray → Option (Option Nat)) (S : Nat → Option En) (w : World) (hR : RgS w base r ca N b n G S) (hn : n ≤ 10000) :
    Calls Tryz.prog 8 #[.pointer (some ⟨r, 0, none⟩)] w fun e w' => BlP G S n w e w' := by
  obtain ⟨i0, hi0, hy0, hy1, hy2⟩ := info_parts infoBl
  have HR := Lib.hid hR
  have hb0 : Below w.heap.size w (w.alloc (.cells #[] 70)) := (Below.refl _ _).alloc (Nat.le_refl _) _
  have HB := Lib.hid (bills_r base r N b n ca G S _ (hR.below hb0) hn)
  have HB0 := Lib.hid hb0
  generalize hCP : BlP G S n w = CP
  have HF : Hid (∀ A c BL w', Bw w.heap.size w' A c BL → (∀ x, (∃ m ∈ BL, m.x = x) ↔ ∃ k e, G k = some (some e) ∧ S e = some x) → BL.length ≤ n → Below w.heap.size w w' → CP (.returned (.slice A BL.length c)) w') := Lib.hid fun A c BL w' h1 h2 h3 h4 => by rw [← hCP]; exact ⟨A, c, BL, rfl, h1, h2, h3, h4⟩
  have HS0 := Lib.hid (show Bw w.heap.size (w.alloc (.cells #[] 70)) (some ⟨w.heap.size, 0, none⟩) 0 [] from ⟨World.ownsRow_made w #[] 0 (Nat.le_refl _) (Nat.zero_le _) rfl, fun m hm => by cases hm⟩)
  clear hCP hR hb0
  go_enter Tryz.func8, Tryz.ntmps8
  go_wp2_with fail
  refine HB.out.mono ?_
  rintro e w2 ⟨A', c', L, rfl, hs, hm, hlen, hb⟩
  have HL := Lib.hid hs
  have HM := Lib.hid hm
  have HS2 := Lib.hid (HS0.out.below hb)
  have HB2 := Lib.hid (HB0.out.trans (hb.mono (by simp)))
  clear hs hm hb HB HS0 HB0
  have hln : (L.length : Int) ≤ 10000 := by omega
  go_wp2_with fail
  go_loopw [3, 12] (fun v i wr => ∃ (k : Nat) (A : Option Addr) (c : Nat) (BL : List Bm), k ≤ L.length ∧ i = .int .i64 k ∧ v = .slice A BL.length c ∧ BL.length = k ∧ Hid (Bw w.heap.size wr A c BL) ∧ Hid (Below w.heap.size w wr) ∧ Hid (Sr wr A' L) ∧ Hid (∀ (j : Nat) m, BL[j]? = some m → L[j]? = some m.k ∧ ∃ e, G m.k = some (some e) ∧ S e = some m.x)) (fun _ i _ => L.length - (RowKit.intOf i).toNat)
  case atStart => exact ⟨0, _, _, [], Nat.zero_le _, rfl, rfl, rfl, HS2, HB2, HL, Lib.hid (fun j m h => by simp at h)⟩
  case round =>
    clear HS2 HB2 HL
    obtain ⟨k, A, c, BL, hk, rfl, rfl, hBL, HS, HB, HL, HE⟩ := hrel
    subst hBL
    by_cases hlt : BL.length < L.length
    · obtain ⟨g, off, rfl, hg, hc⟩ := HL.out.rs.at_ hlt
      have hLk : L[BL.length]? = some L[BL.length] := List.getElem?_eq_getElem hlt
      have HLk := Lib.hid hLk
      have hin : L[BL.length] ∈ L := List.getElem_mem hlt
      have hex := (HM.out _).1 hin
      clear hin hLk
      generalize L[BL.length] = kk at *
      obtain ⟨v0, hv0⟩ := Option.isSome_iff_exists.1 (toldB_is hex)
      obtain ⟨_, e0, x, rfl, hSe⟩ := HR.out.ent _ _ hv0
      clear hex
      have hlt' : (BL.length : Int) < (L.length : Int) := by omega
      have HRr := Lib.hid (HR.out.below HB.out)
      have HG := Lib.hid (get_r base r N b n e0 ca kk x G S wr HRr.out hv0 hSe)
      have HSe := Lib.hid (show ∃ e, G kk = some (some e) ∧ S e = some x from ⟨e0, hv0, hSe⟩)
      have HSt : Hid (∀ X, Below wr.heap.size wr X → Calls Tryz.prog 25 #[.pointer (some ⟨r, 0, none⟩), .string kk] X fun e w' => e = .returned (.int .i64 x.s) ∧ w' = X) := Lib.hid fun X hX => state_r base r N b n e0 ca kk x G S X (HRr.out.below hX) hv0 hSe
      have HOr : Hid (∀ X, Below wr.heap.size wr X → Calls Tryz.prog 26 #[.pointer (some ⟨r, 0, none⟩), .string kk] X fun e w' => OrP kk x X e w') := Lib.hid fun X hX => originals_r base r N b n e0 ca kk x G S X (HRr.out.below hX) hv0 hSe
      clear HRr hv0 hSe
      go_wp2_with fail
      refine HG.out.mono ?_
      rintro e w3 ⟨A1, c1, PA1, pc1, rfl, hs3, hb3⟩
      obtain ⟨hb4, hz4⟩ := laid_below w3 zbl (blA (x.with A1 c1 PA1 pc1)) 59
      have hm := heap_alloc_new w3 (.cells zbl 59)
      obtain ⟨W1, hW1⟩ : ∃ W1, W1 = w3.alloc (.cells zbl 59) := ⟨_, rfl⟩
      rw [← hW1] at hb4 hz4 hm
      have l0 := laid_act W1 w3.heap.size zbl (blA (x.with A1 c1 PA1 pc1)) _ _ hm
      have HMz := Lib.hid hm
      obtain ⟨W2, hW2⟩ : ∃ W2, W2 = W1.setRow w3.heap.size (blA (x.with A1 c1 PA1 pc1)) := ⟨_, rfl⟩
      rw [← hW2] at hb4 hz4 l0
      have c5 : W2.cell? ⟨w3.heap.size, 5, none⟩ = some (.slice A1 x.l.length c1) := cell_of l0 5
      have hbr : Below wr.heap.size wr W2 := hb3.trans (hb4.mono hb3.size)
      have HB4 := Lib.hid hbr
      have HS4 := Lib.hid (hs3.below hb4)
      have HO := Lib.hid (blA_one (x.with A1 c1 PA1 pc1))
      have HIs := Lib.hid (show (Tryz.prog.info? 59).map (·.size) = some (blA (x.with A1 c1 PA1 pc1)).size from infoBill)
      have HSz := Lib.hid (show zbl.size = (blA (x.with A1 c1 PA1 pc1)).size from rfl)
      have hlt3 : w3.heap.size < W2.heap.size := by omega
      clear hm l0 hb4 hz4 hs3 hb3 HG hbr
      unfold zbl at hW1
      generalize blA (x.with A1 c1 PA1 pc1) = V at *
      go_wp2_with (first
        | (rw [← hW1]; clear hW1; refine wpList_store_row rfl 59 (.tmp 6) (.tmp 20) rfl w3.heap.size V rfl rfl 59 _ HMz.out HIs.out HSz.out HO.out ?_; rw [← hW2]; clear hW2)
        | fail)
      clear HMz HIs HSz HO
      have hBl : BL.length ≤ 10000 := by omega
      have hws : w.heap.size ≤ wr.heap.size := HB.out.size
      have hwr : wr.heap.size ≤ W2.heap.size := HB4.out.size
      have HBd := Lib.hid (show Below wr.heap.size wr W2.drew from HB4.out.trans ⟨rfl, rfl, rfl, Nat.le_refl _, fun _ _ => rfl⟩)
      have HSd := Lib.hid (show Sr W2.drew A1 x.l from HS4.out)
      clear HB4 HS4
      go_region_law (first
        | (go_simp; go_at_call 25; refine (HSt.out _ HBd.out).mono ?_; rintro e w5 ⟨rfl, hw5⟩; subst hw5)
        | (go_simp; go_at_call 26; refine (HOr.out _ HBd.out).mono ?_; rintro e w6 ⟨A3, c3, rfl, ho6, hb6⟩; have c6 : w6.cell? ⟨w3.heap.size, 5, none⟩ = some (.slice A1 x.l.length c1) := (hb6.cell (p := ⟨w3.heap.size, 5, none⟩) hlt3).trans c5; have hs6 : W2.heap.size ≤ w6.heap.size := hb6.size; have HB6 := Lib.hid (HBd.out.trans (hb6.mono hwr)); have HOk := Lib.hid (show BmOk w6 ⟨kk, x, A1, c1, A3, c3⟩ from ⟨HSd.out.below hb6, _, ho6⟩); have HW6 := Lib.hid (HS.out.below HB6.out); have hrow := HW6.out.row.alloc (.cells #[.slice A1 x.l.length c1, .int .i64 x.s, .slice A3 3 c3] 70); clear hb6 ho6)
        | ((try simp only [Act.put, List.setIfInBounds_toArray, List.set_cons_zero, List.set_cons_succ]); rw [if_pos (by rfl)]; refine wp_append_lies _ (.tmp 22) (.tmp 32) 31 (by rfl) w.heap.size 70 i0 _ 3 56 Tryz.underlying31 hi0 hy0 hy1 hy2 rfl (by decide) (.slice A BL.length c) BL.length (BL.flatMap bmC) (by rfl) hrow ⟨w6.heap.size, 0, none⟩ 1 1 (bmC ⟨kk, x, A1, c1, A3, c3⟩) (by rfl) rfl (World.news_of_block (cs := #[.slice A1 x.l.length c1, .int .i64 x.s, .slice A3 3 c3]) (t := 70) (fr := (0, 0)) (heap_alloc_new w6 _)) (bmC_one _) (by decide) (by unfold maxLen; omega) (by omega) (by simp; omega) (w6.heap.size + 1) (by simp) ?_; intro g7 cap7 w7 hown7 hg7 hloc7 hlt7))
      all_goals
        have hal : Below w6.heap.size w6 (w6.alloc (.cells #[.slice A1 x.l.length c1, .int .i64 x.s, .slice A3 3 c3] 70)) := (Below.refl _ _).alloc (Nat.le_refl _) _
        have HS7 := Lib.hid ((HW6.out.below hal).add ⟨kk, x, A1, c1, A3, c3⟩ (HOk.out.below hal) hown7 hg7)
        have HL7 := Lib.hid (((HL.out.below HB6.out).below hal).keep fun q cs hq => row_keep hrow hg7 hq (by decide))
        have HB7 := Lib.hid (((HB.out.trans (HB6.out.mono hws)).trans (hal.mono (Nat.le_trans hws HB6.out.size))).grown hg7 (by simp; omega) (fun j hj => by
          rcases hrow.2 with ⟨h0, _⟩ | ⟨g', cap, cur, he, hb, _⟩
          · rw [h0] at hj; simp [Value.ownBlock] at hj
          · rw [he] at hj
            simp [Value.ownBlock] at hj
            omega))
        have HE7 := Lib.hid (show ∀ (j : Nat) m, (BL ++ [(⟨kk, x, A1, c1, A3, c3⟩ : Bm)])[j]? = some m → L[j]? = some m.k ∧ ∃ e, G m.k = some (some e) ∧ S e = some m.x from fun j m hj => by
          by_cases hjl : j < BL.length
          · rw [List.getElem?_append_left hjl] at hj
            exact HE.out j m hj
          · rw [List.getElem?_append_right (by omega)] at hj
            have hj0 : j - BL.length = 0 := by
              have := (List.getElem?_eq_some_iff.1 hj).1
              simpa using this
            have hje : j = BL.length := by omega
            subst hje
            rw [hj0] at hj
            simp at hj
            subst hj
            exact ⟨HLk.out, HSe.out⟩)
        clear hal hown7 hg7 hrow hloc7 HW6 HOk c6 HS HB HL HE HSt HOr HBd HSd HB6 HLk HSe
        go_wp2_with fail
        exact ⟨⟨BL.length + 1, _, _, BL ++ [(⟨kk, x, A1, c1, A3, c3⟩ : Bm)], by omega, by go_num, by simp, by simp, HS7, HB7, HL7, HE7⟩, by simp [RowKit.intOf]; omega⟩
    · have hlt' : ¬ (BL.length : Int) < (L.length : Int) := by omega
      have hke : BL.length = L.length := by omega
      have HF2 := Lib.hid (HF.out A c BL wr HS.out (by
        intro x
        constructor
        · rintro ⟨m, hm, rfl⟩
          obtain ⟨j, hj⟩ := List.getElem?_of_mem hm
          obtain ⟨_, e, h1, h2⟩ := HE.out j m hj
          exact ⟨_, e, h1, h2⟩
        · rintro ⟨k', e, h1, h2⟩
          have hin := (HM.out k').2 (by rw [toldB_some h1 h2])
          obtain ⟨j, hj⟩ := List.getElem?_of_mem hin
          have hjl : j < BL.length := by have := (List.getElem?_eq_some_iff.1 hj).1; omega
          obtain ⟨h3, e', h4, h5⟩ := HE.out j _ (List.getElem?_eq_getElem hjl)
          rw [hj] at h3
          cases h3
          rw [h1] at h4
          cases h4
          rw [h2] at h5
          cases h5
          exact ⟨_, List.getElem_mem hjl, rfl⟩) (by omega) HB.out)
      clear HF HS HB HL HE HM HR
      go_wp2_with fail
      first
        | (rw [← hke]; exact HF2.out)
        | (go_ret; rw [← hke]; exact HF2.out)
end Go.Proofs.YtdinloecgaapaaaGreatDoor
