/- audit.surrendered: of the bills that are done, who held an original that is done, box by box. -/
import Derived.Test.YtdinloecgaapaaaGreatDoorMRLive
import Derived.Test.YtdinloecgaapaaaGreatDoorMROrig
import Derived.Test.YtdinloecgaapaaaGreatDoorHCh
namespace Go.Proofs.YtdinloecgaapaaaGreatDoor
open Go.RowKit Go.Maps Go.Lib Go.Sort
set_option linter.unusedVariables false
set_option maxRecDepth 100000

/-- somebody held an original that is done, of a bill that is done, in which the box stands -/
def surE (p : Nt) (x : En) : Prop := x.s = 1 ∧ (∃ i, i < 3 ∧ (x.o i).s = 1 ∧ (x.o i).h = p.1) ∧ p.2 ∈ x.l
def surA (G : ByteArray → Option (Option Nat)) (S : Nat → Option En) (p : Nt) : Prop := ∃ k e x, G k = some (some e) ∧ S e = some x ∧ surE p x
/-- all cells stand -/
def KpC (w w' : World) : Prop := ∀ (q : Nat) cs t fz, w.heap[q]? = some (.cells cs t fz) → w'.heap[q]? = some (.cells cs t fz)
theorem KpC.refl (w : World) : KpC w w := fun _ _ _ _ h => h
theorem KpC.trans {a b c : World} (h : KpC a b) (k : KpC b c) : KpC a c := fun q cs t fz hq => k q cs t fz (h q cs t fz hq)
theorem KpC.below {w w' : World} (hb : Below w.heap.size w w') : KpC w w' := fun q cs t fz hq => keep_of_below hb hq
theorem Sr.kpC {w w' : World} {A : Option Addr} {L : List ByteArray} (h : Sr w A L) (hk : KpC w w') : Sr w' A L := h.keep fun g cs hg => hk g cs _ _ hg
/-- how far the loops have come -/
structure Sv (base : Nat) (w0 w : World) (b k : Nat) (F : Nt → Option Bool) (A : Option Addr) (L : List ByteArray) : Prop where
  mp : Mp hoC bE w b k F
  lo : base ≤ b
  lt : b < w.heap.size
  bel : Below base w0 w
  bs : base ≤ w.heap.size
  row : Sr w A L
section
variable {base b k : Nat} {w0 w w' : World} {F : Nt → Option Bool} {A A1 : Option Addr} {L l : List ByteArray}
theorem Sv.below (h : Sv base w0 w b k F A L) (hb : Below w.heap.size w w') : Sv base w0 w' b k F A L := ⟨h.mp.below hb h.lt, h.lo, Nat.lt_of_lt_of_le h.lt hb.size, h.bel.trans (hb.mono h.bs), Nat.le_trans h.bs hb.size, h.row.below hb⟩
theorem Sv.more (h : Sv base w0 w b k F A L) {m : Nat} (hm : k ≤ m) : Sv base w0 w b m F A L := ⟨h.mp.more hm, h.lo, h.lt, h.bel, h.bs, h.row⟩
theorem Sv.put (h : Sv base w0 w b k F A L) {p : Nt} (hp : Small p) (hk : k < 100000000) :
    ∃ w', (Instr.mapUpdate 92 (.map (some b)) (nval p) (.bool true)).run Tryz.prog w = .ok () w' ∧ Sv base w0 w' b (k + 1) (putG F p true) A L ∧ KpC w w' := by
  obtain ⟨w'', r1, r2, r3⟩ := h.mp.store (t := 92) (e := 4) Tryz.underlying92 (by unfold maxLen; omega) (x := p) hp (v := true) trivial
  have hk' : ∀ (q : Nat) cs t fz, w.heap[q]? = some (.cells cs t fz) → w''.heap[q]? = some (.cells cs t fz) := fun q cs t fz hq => (r3.grown.block q (lt_of_some hq) (fun e => by
    obtain ⟨es, ck, hm⟩ := h.mp.map?
    injection e with e
    subst e
    rw [hq] at hm
    cases hm)).trans hq
  exact ⟨w'', r1, ⟨r2, h.lo, Nat.lt_of_lt_of_le h.lt r3.grown.size, h.bel.grown r3.grown h.bs (fun j hj => by cases hj; exact h.lo), Nat.le_trans h.bs r3.grown.size, h.row.keep fun q cs hq => hk' q cs _ _ hq⟩, hk'⟩
end
theorem putP_mono {F : Nt → Option Bool} {t s : Nt} (h : (F s).isSome = true) : (putG F t true s).isSome = true := by
  by_cases e : s = t
  · subst e; rw [putG_same]; rfl
  · rw [putG_other _ _ e]; exact h
/-- what the set holds: what is surrendered alone; all of the first k bills -/
def SvIn (G : ByteArray → Option (Option Nat)) (S : Nat → Option En) (L : List ByteArray) (k : Nat) (F : Nt → Option Bool) : Prop :=
  (∀ p, (F p).isSome = true → surA G S p ∧ F p = some true) ∧ ∀ (j : Nat) kk e x, j < k → L[j]? = some kk → G kk = some (some e) → S e = some x → ∀ p, surE p x → (F p).isSome = true
def SuP (G : ByteArray → Option (Option Nat)) (S : Nat → Option En) (n : Nat) (w : World) (e : Ending) (w' : World) : Prop :=
  ∃ F, e = .returned (.map (some w.heap.size)) ∧ Mp hoC bE w' w.heap.size (192 * n) F ∧ (∀ p, (F p).isSome = true ↔ surA G S p) ∧ (∀ p, (F p).isSome = true → F p = some true) ∧ Below w.heap.size w w'

/-- an original, as it is told -/
def orA4 (k : ByteArray) (x : En) (i : Nat) : Array Value := #[.string k, .int .i64 (i : Int), .int .i64 (x.o i).s, .string (x.o i).h]
def zOr : Array Value := #[.string ⟨#[]⟩, .int .i64 0, .int .i64 0, .string ⟨#[]⟩]
theorem infoOr4 : (Tryz.prog.info? 134).map (·.size) = some 4 := by kernel_rfl
theorem orA4_one (k : ByteArray) (x : En) (i : Nat) : (orA4 k x i).all (·.oneCell') = true := by simp [orA4, Value.oneCell']
theorem org_row {w : World} {base : Nat} {k : ByteArray} {x : En} {A : Option Addr} {c : Nat} (h : w.ownsRow base 134 4 (.slice A 3 c) 3 (orT k x 3)) : ∃ g cs, A = some ⟨g, 0, none⟩ ∧ w.heap[g]? = some (.cells cs 134 (0, 0)) ∧ ∀ i, i < 3 → ∀ (j : Nat) v, (orA4 k x i).toList[j]? = some v → cs[i * 4 + j]? = some v := by
  rcases h.2 with ⟨_, h0⟩ | ⟨g, cap, cur, e, hb, hg, _, _, _, h7⟩
  · cases h0
  · injection e with e _ _
    refine ⟨g, cur, e, hg, fun i hi j v hv => ?_⟩
    have hj : j < 4 := by have := (List.getElem?_eq_some_iff.1 hv).1; simpa [orA4] using this
    have h8 : (orT k x 3)[i * 4 + j]? = some v := by
      rw [← hv]
      obtain rfl | rfl | rfl : i = 0 ∨ i = 1 ∨ i = 2 := by omega
      all_goals
        match j, hj with
        | 0, _ => rfl
        | 1, _ => rfl
        | 2, _ => rfl
        | 3, _ => rfl
    rw [← h7, List.getElem?_take] at h8
    split at h8
    · rw [← Array.getElem?_toList]; exact h8
    · cases h8
theorem range_of {w : World} {g o : Nat} {cs : Array Value} {t : TypeId} {fz : Nat × Nat} {vs : List Value} (h : w.heap[g]? = some (.cells cs t fz)) (hv : ∀ (j : Nat) v, vs[j]? = some v → cs[o + j]? = some v) : w.rangeAt g o vs := fun j v hj => (cell_of h (o + j)).trans (hv j v hj)

set_option maxHeartbeats 4000000 in
theorem surrendered_r (base r N b n : Nat) (ca : ByteArray) (G : ByteArray → Option (Option Nat)) (S : Nat → Option En) (w : World) (hR : RgS w base r ca N b n G S) (hn : n ≤ 10000) :
    Calls Tryz.prog 38 #[.pointer (some ⟨r, 0, none⟩)] w fun e w' => SuP G S n w e w' := by
  have hmm := @run_makeMap Tryz.prog
  have HR := Lib.hid hR
  have hb0 : Below w.heap.size w (w.alloc (.map #[] 0)) := (Below.refl _ _).alloc (Nat.le_refl _) _
  have HB := Lib.hid (bills_r base r N b n ca G S _ (hR.below hb0) hn)
  generalize hCP : SuP G S n w = CP
  have HF : Hid (∀ F w', Mp hoC bE w' w.heap.size (192 * n) F → (∀ p, (F p).isSome = true ↔ surA G S p) → (∀ p, (F p).isSome = true → F p = some true) → Below w.heap.size w w' → CP (.returned (.map (some w.heap.size))) w') := Lib.hid fun F w' h1 h2 h4 h3 => by rw [← hCP]; exact ⟨F, rfl, h1, h2, h4, h3⟩
  clear hCP hR
  go_enter Tryz.func38, Tryz.ntmps38
  go_wp2_with fail
  refine HB.out.mono ?_
  rintro e w2 ⟨A', c', L, rfl, hs, hm, hlen, hb⟩
  have HV := Lib.hid (show Sv w.heap.size w w2 w.heap.size 0 (fun _ => none) A' L from ⟨(Mp.made w).below hb (by simp), Nat.le_refl _, Nat.lt_of_lt_of_le (by simp) hb.size, hb0.trans (hb.mono (by simp)), Nat.le_trans (by simp) hb.size, hs⟩)
  have HM := Lib.hid hm
  clear hs hm hb HB hb0 hmm
  have hln : (L.length : Int) ≤ 10000 := by omega
  go_wp2_with fail
  go_loopw [16] (fun i wr => ∃ (k : Nat) (F : Nt → Option Bool), k ≤ L.length ∧ i = .int .i64 k ∧ Hid (Sv w.heap.size w wr w.heap.size (192 * k) F A' L) ∧ Hid (SvIn G S L k F)) (fun i _ => L.length - (RowKit.intOf i).toNat)
  case atStart => exact ⟨0, _, Nat.zero_le _, rfl, HV, Lib.hid ⟨fun t h => by simp at h, fun j kk e x hj => by omega⟩⟩
  case round =>
    clear HV
    obtain ⟨k, F, hk, rfl, HV, HI⟩ := hrel
    by_cases hlt : k < L.length
    · obtain ⟨g, off, rfl, hg, hc⟩ := HV.out.row.rs.at_ hlt
      have hLk : L[k]? = some L[k] := List.getElem?_eq_getElem hlt
      have HLk := Lib.hid hLk
      have hin : L[k] ∈ L := List.getElem_mem hlt
      have hex := (HM.out _).1 hin
      clear hin hLk
      generalize L[k] = kk at *
      obtain ⟨v0, hv0⟩ := Option.isSome_iff_exists.1 (toldB_is hex)
      obtain ⟨_, e0, x, rfl, hSe⟩ := HR.out.ent _ _ hv0
      clear hex
      have hlt' : (k : Int) < (L.length : Int) := by omega
      have HRr := Lib.hid (HR.out.below HV.out.bel)
      have HSe := Lib.hid (show G kk = some (some e0) ∧ S e0 = some x from ⟨hv0, hSe⟩)
      have hfl := (HR.out.fit e0 x hSe).l
      have HFb := Lib.hid (HR.out.fit e0 x hSe).b
      have HFh := Lib.hid (HR.out.fit e0 x hSe).h
      have HSt := Lib.hid (state_r base r N b n e0 ca kk x G S wr HRr.out hv0 hSe)
      have HG := Lib.hid (get_r base r N b n e0 ca kk x G S wr HRr.out hv0 hSe)
      have HOr : Hid (∀ X, Below wr.heap.size wr X → Calls Tryz.prog 26 #[.pointer (some ⟨r, 0, none⟩), .string kk] X fun e w' => OrP kk x X e w') := Lib.hid fun X hX => originals_r base r N b n e0 ca kk x G S X (HRr.out.below hX) hv0 hSe
      have HNx : Hid (x.s ≠ 1 → SvIn G S L (k + 1) F) := Lib.hid fun hne => ⟨HI.out.1, fun j kk' e' x' hj h1 h2 h3 p h4 => by
        by_cases hjk : j = k
        · subst hjk
          rw [HLk.out] at h1
          cases h1
          rw [HSe.out.1] at h2
          cases h2
          rw [HSe.out.2] at h3
          cases h3
          exact absurd h4.1 hne
        · exact HI.out.2 j kk' e' x' (by omega) h1 h2 h3 p h4⟩
      clear HRr hv0 hSe
      go_wp2_with fail
      refine HSt.out.mono ?_
      rintro e w2' ⟨rfl, hw⟩
      subst hw
      clear HSt
      by_cases h1 : x.s = 1
      · rw [h1]
        clear HNx
        go_wp2_with fail
        refine HG.out.mono ?_
        rintro e w3 ⟨A1, c1, PA1, pc1, rfl, hs3, hb3⟩
        obtain ⟨hb4, hz4⟩ := laid_below w3 zbl (blA (x.with A1 c1 PA1 pc1)) 59
        have hm := heap_alloc_new w3 (.cells zbl 59)
        obtain ⟨W1, hW1⟩ : ∃ W1, W1 = w3.alloc (.cells zbl 59) := ⟨_, rfl⟩
        rw [← hW1] at hb4 hz4 hm
        have l0 := laid_act W1 w3.heap.size zbl (blA (x.with A1 c1 PA1 pc1)) _ _ hm
        have HMz := Lib.hid hm
        obtain ⟨W2, hW2⟩ : ∃ W2, W2 = W1.setRow w3.heap.size (blA (x.with A1 c1 PA1 pc1)) := ⟨_, rfl⟩
        rw [← hW2] at hb4 hz4 l0
        have hbr : Below w2'.heap.size w2' W2 := hb3.trans (hb4.mono hb3.size)
        have HV2 := Lib.hid (HV.out.below hbr)
        have HS4 := Lib.hid (hs3.below hb4)
        have HO := Lib.hid (blA_one (x.with A1 c1 PA1 pc1))
        have HIs := Lib.hid (show (Tryz.prog.info? 59).map (·.size) = some (blA (x.with A1 c1 PA1 pc1)).size from infoBill)
        have HSz := Lib.hid (show zbl.size = (blA (x.with A1 c1 PA1 pc1)).size from rfl)
        have HOr2 := Lib.hid (HOr.out W2 hbr)
        have HL0 := Lib.hid (And.intro l0 (show (blA (x.with A1 c1 PA1 pc1))[5]? = some (.slice A1 x.l.length c1) from rfl))
        clear hm l0 hb4 hz4 hs3 hb3 HG hbr HOr
        unfold zbl at hW1
        generalize blA (x.with A1 c1 PA1 pc1) = V at *
        go_wp2_with (first
          | (rw [← hW1]; clear hW1; refine wpList_store_row rfl 59 (.tmp 6) (.tmp 28) rfl w3.heap.size V rfl rfl 59 _ HMz.out HIs.out HSz.out HO.out ?_; rw [← hW2]; clear hW2)
          | fail)
        clear HMz HIs HSz HO
        refine HOr2.out.mono ?_
        rintro e w4 ⟨A3, c3, rfl, ho4, hb4⟩
        obtain ⟨g3, cs3, rfl, hg3, hcs3⟩ := org_row ho4
        have HV4 := Lib.hid (HV2.out.below hb4)
        have HS5 := Lib.hid (HS4.out.below hb4)
        have HB4 := Lib.hid (keep_of_below hb4 HL0.out.1)
        have HV5 := Lib.hid HL0.out.2
        have HG3 := Lib.hid hg3
        have HC3 := Lib.hid hcs3
        clear ho4 hb4 hg3 hcs3 HV2 HS4 HL0 HOr2 HV
        go_wp2_with fail
        go_loopw [34] (fun i wr => ∃ (q : Nat) (F2 : Nt → Option Bool), q ≤ 3 ∧ i = .int .i64 q ∧ Hid (Sv w.heap.size w wr w.heap.size (192 * k + 64 * q) F2 (some ⟨g, off, none⟩) L) ∧ Hid (KpC w4 wr) ∧ Hid (SvIn G S L k F2) ∧ Hid (∀ (j : Nat), j < q → (x.o j).s = 1 → ∀ t ∈ x.l, (F2 ((x.o j).h, t)).isSome = true)) (fun i _ => 3 - (RowKit.intOf i).toNat)
        case atStart => exact ⟨0, F, by omega, rfl, HV4, Lib.hid (KpC.refl _), HI, Lib.hid (fun j hj => by omega)⟩
        case round =>
          clear HV4 HI
          obtain ⟨q, F2, hq, rfl, HV, HK, HI, HJ⟩ := hrel
          by_cases hlq : q < 3
          · have hlq' : (q : Int) < 3 := by omega
            have hr := range_of (HK.out _ _ _ _ HG3.out) (HC3.out q hlq)
            obtain ⟨hb5, hz5⟩ := laid_below wr zOr (orA4 kk x q) 134
            have hm := heap_alloc_new wr (.cells zOr 134)
            obtain ⟨W3, hW3⟩ : ∃ W3, W3 = wr.alloc (.cells zOr 134) := ⟨_, rfl⟩
            rw [← hW3] at hb5 hz5 hm
            have l0 := laid_act W3 wr.heap.size zOr (orA4 kk x q) _ _ hm
            have HMz := Lib.hid hm
            obtain ⟨W4, hW4⟩ : ∃ W4, W4 = W3.setRow wr.heap.size (orA4 kk x q) := ⟨_, rfl⟩
            rw [← hW4] at hb5 hz5 l0
            have e2 : W4.cell? ⟨wr.heap.size, 2, none⟩ = some (.int .i64 (x.o q).s) := cell_of l0 2
            have HK4 := Lib.hid (HK.out.trans (KpC.below hb5))
            have hB4 := HK4.out _ _ _ _ HB4.out
            have e5 : W4.cell? ⟨w3.heap.size, 5, none⟩ = some (.slice A1 x.l.length c1) := (cell_of hB4 5).trans HV5.out
            have HVq := Lib.hid (HV.out.below hb5)
            have HL3 := Lib.hid l0
            have HRr := Lib.hid hr
            have HO := Lib.hid (orA4_one kk x q)
            have HIb := Lib.hid (show (Tryz.prog.info? 134).map (·.size) = some (orA4 kk x q).toList.length from infoOr4)
            have HIs := Lib.hid (show (Tryz.prog.info? 134).map (·.size) = some (orA4 kk x q).size from infoOr4)
            have HSz := Lib.hid (show zOr.size = (orA4 kk x q).size from rfl)
            have hq4 : (orA4 kk x q)[3]? = some (.string (x.o q).h) := rfl
            have HQ4 := Lib.hid hq4
            clear hm hb5 hz5 l0 hr hB4 hq4
            unfold zOr at hW3
            generalize orA4 kk x q = V4 at *
            by_cases hs1 : (x.o q).s = 1
            · rw [hs1] at e2
              go_wp2_with (first
                | (have _t := hW3; clear _t; refine wpList_load_mid rfl 134 (.tmp 36) rfl g3 (q * 4) rfl V4.toList _ HRr.out Tryz.underlying134 rfl HIb.out ?_)
                | (rw [← hW3]; clear hW3; refine wpList_store_row rfl 134 (.tmp 9) (.tmp 37) rfl wr.heap.size V4 rfl rfl 134 _ HMz.out HIs.out HSz.out HO.out ?_; rw [← hW4]; clear hW4)
                | fail)
              clear e5 HMz HIs HSz HO HIb HRr
              have HS7 := Lib.hid (HS5.out.kpC HK4.out)
              have e3 : W4.cell? ⟨wr.heap.size, 3, none⟩ = some (.string (x.o q).h) := (cell_of HL3.out 3).trans HQ4.out
              clear e2 e3
              go_loopw [44] (fun i wy => ∃ (m : Nat) (F3 : Nt → Option Bool), m ≤ x.l.length ∧ i = .int .i64 m ∧ Hid (Sv w.heap.size w wy w.heap.size (192 * k + 64 * q + m) F3 (some ⟨g, off, none⟩) L) ∧ Hid (KpC W4 wy) ∧ Hid (SvIn G S L k F3) ∧ Hid (∀ (j : Nat), j < q → (x.o j).s = 1 → ∀ t ∈ x.l, (F3 ((x.o j).h, t)).isSome = true) ∧ Hid (∀ (j : Nat) t, j < m → x.l[j]? = some t → (F3 ((x.o q).h, t)).isSome = true)) (fun i _ => x.l.length - (RowKit.intOf i).toNat)
              case atStart => exact ⟨0, F2, Nat.zero_le _, rfl, HVq, Lib.hid (KpC.refl _), HI, HJ, Lib.hid (fun j t hj => by omega)⟩
              case round =>
                obtain ⟨wz, rfl⟩ : ∃ wz : World, wz = wr := ⟨_, rfl⟩
                clear HVq HI HJ HV HK
                obtain ⟨m, F3, hm, rfl, HV, HK, HI, HJ, HT⟩ := hrel
                by_cases hltm : m < x.l.length
                · have hltm' : (m : Int) < (x.l.length : Int) := by omega
                  obtain ⟨g1, off1, rfl, hg1, hc1⟩ := (HS7.out.kpC HK.out).rs.at_ hltm
                  have hxm : x.l[m]? = some x.l[m] := List.getElem?_eq_getElem hltm
                  have HXm := Lib.hid hxm
                  have hmem := List.getElem_mem hltm
                  have HMem := Lib.hid hmem
                  have htz := HFb.out _ hmem
                  clear hxm hmem
                  generalize x.l[m] = t at *
                  have hhz := HFh.out q hlq
                  have e3 := (cell_of (HK.out _ _ _ _ HL3.out) 3).trans HQ4.out
                  obtain ⟨w6, hst, hv6, hk6⟩ := HV.out.put (p := ((x.o q).h, t)) ⟨by show (x.o q).h.size ≤ maxLen; unfold maxLen; omega, by show t.size ≤ maxLen; unfold maxLen; omega⟩ (by omega)
                  have hst' : (Instr.mapUpdate 92 (.map (some w.heap.size)) (.agg #[.string (x.o q).h, .string t]) (.bool true)).run Tryz.prog _ = .ok () w6 := hst
                  have HSur := Lib.hid (show surA G S ((x.o q).h, t) from ⟨_, _, x, HSe.out.1, HSe.out.2, h1, ⟨q, hlq, hs1, rfl⟩, HMem.out⟩)
                  have HV6 := Lib.hid (show Sv w.heap.size w w6 w.heap.size (192 * k + 64 * q + (m + 1)) (putG F3 ((x.o q).h, t) true) (some ⟨g, off, none⟩) L from hv6)
                  have HK6 := Lib.hid (HK.out.trans hk6)
                  have HI6 := Lib.hid (show SvIn G S L k (putG F3 ((x.o q).h, t) true) from ⟨fun p hp => by
                    by_cases e : p = ((x.o q).h, t)
                    · rw [e]; exact ⟨HSur.out, putG_same _ _ _⟩
                    · rw [putG_other _ _ e] at hp ⊢; exact HI.out.1 p hp, fun j kk' e' x' hj h1 h2 h3 p h4 => putP_mono (HI.out.2 j kk' e' x' hj h1 h2 h3 p h4)⟩)
                  have HJ6 := Lib.hid (show ∀ (j : Nat), j < q → (x.o j).s = 1 → ∀ s ∈ x.l, (putG F3 ((x.o q).h, t) true ((x.o j).h, s)).isSome = true from fun j hj h1 s hs => putP_mono (HJ.out j hj h1 s hs))
                  have HT6 := Lib.hid (show ∀ (j : Nat) s, j < m + 1 → x.l[j]? = some s → (putG F3 ((x.o q).h, t) true ((x.o q).h, s)).isSome = true from fun j s hj hs => by
                    by_cases hjm : j = m
                    · subst hjm
                      rw [HXm.out] at hs
                      cases hs
                      rw [putG_same]; rfl
                    · exact putP_mono (HT.out j s (by omega) hs))
                  clear hst hv6 hk6 HV HK HI HJ HT HSur HXm HMem
                  generalize (x.o q).h = oh at *
                  go_wp2_with fail
                  exact ⟨⟨m + 1, putG F3 (oh, t) true, by omega, by go_num, HV6, HK6, HI6, HJ6, HT6⟩, by simp [RowKit.intOf]; omega⟩
                · have hltm' : ¬ (m : Int) < (x.l.length : Int) := by omega
                  have HJ2 := Lib.hid (show ∀ (j : Nat), j < q + 1 → (x.o j).s = 1 → ∀ t ∈ x.l, (F3 ((x.o j).h, t)).isSome = true from fun j hj hj1 t ht => by
                    by_cases hjq : j = q
                    · subst hjq
                      obtain ⟨y, hy⟩ := List.getElem?_of_mem ht
                      exact HT.out y t (by have := (List.getElem?_eq_some_iff.1 hy).1; omega) hy
                    · exact HJ.out j (by omega) hj1 t ht)
                  have HK9 := Lib.hid (HK4.out.trans HK.out)
                  go_wp2_with fail
                  go_roundw
                  case rel => exact ⟨q + 1, F3, by omega, by go_num, Lib.hid (HV.out.more (by omega)), HK9, HI, HJ2⟩
                  case measure => simp [RowKit.intOf]; omega
            · have hs1' : ((x.o q).s == 1) = false := by simpa using hs1
              have HJ2 := Lib.hid (show ∀ (j : Nat), j < q + 1 → (x.o j).s = 1 → ∀ t ∈ x.l, (F2 ((x.o j).h, t)).isSome = true from fun j hj hj1 t ht => by
                by_cases hjq : j = q
                · subst hjq; exact absurd hj1 hs1
                · exact HJ.out j (by omega) hj1 t ht)
              generalize (x.o q).s = os at *
              go_wp2_with (first
                | (have _t := hW3; clear _t; refine wpList_load_mid rfl 134 (.tmp 36) rfl g3 (q * 4) rfl V4.toList _ HRr.out Tryz.underlying134 rfl HIb.out ?_)
                | (rw [← hW3]; clear hW3; refine wpList_store_row rfl 134 (.tmp 9) (.tmp 37) rfl wr.heap.size V4 rfl rfl 134 _ HMz.out HIs.out HSz.out HO.out ?_; rw [← hW4]; clear hW4)
                | fail)
              exact ⟨⟨q + 1, F2, by omega, by go_num, Lib.hid (HVq.out.more (by omega)), HK4, HI, HJ2⟩, by simp [RowKit.intOf]; omega⟩
          · have hlq' : ¬ (q : Int) < 3 := by omega
            have HI2 := Lib.hid (show SvIn G S L (k + 1) F2 from ⟨HI.out.1, fun j kk' e' x' hj h1 h2 h3 p h4 => by
              by_cases hjk : j = k
              · subst hjk
                rw [HLk.out] at h1
                cases h1
                rw [HSe.out.1] at h2
                cases h2
                rw [HSe.out.2] at h3
                cases h3
                obtain ⟨_, ⟨i, hi, hi1, hih⟩, hp2⟩ := h4
                have := HJ.out i (by omega) hi1 p.2 hp2
                rw [hih] at this
                exact this
              · exact HI.out.2 j kk' e' x' (by omega) h1 h2 h3 p h4⟩)
            go_wp2_with fail
            go_roundw
            case rel => exact ⟨k + 1, F2, by omega, by go_num, Lib.hid (HV.out.more (by omega)), HI2⟩
            case measure => simp [RowKit.intOf]; omega
      · have hb1 : (x.s == 1) = false := by simpa using h1
        have HI2 := Lib.hid (HNx.out h1)
        generalize x.s = xs at *
        clear HG HOr HNx
        go_wp2_with fail
        exact ⟨⟨k + 1, F, by omega, by go_num, Lib.hid (HV.out.more (by omega)), HI2⟩, by simp [RowKit.intOf]; omega⟩
    · have hlt' : ¬ (k : Int) < (L.length : Int) := by omega
      have HF2 := Lib.hid (HF.out F wr (HV.out.mp.more (by omega)) (fun p => ⟨fun hp => (HI.out.1 p hp).1, fun ⟨kk, e, x, h1, h2, h3⟩ => by
        obtain ⟨j, hj⟩ := List.getElem?_of_mem ((HM.out kk).2 (by rw [toldB_some h1 h2]))
        exact HI.out.2 j kk e x (by have := (List.getElem?_eq_some_iff.1 hj).1; omega) hj h1 h2 p h3⟩) (fun p hp => (HI.out.1 p hp).2) HV.out.bel)
      clear HF HI HV HM HR
      go_wp2_with fail
      first
        | exact HF2.out
        | (go_ret; exact HF2.out)
end Go.Proofs.YtdinloecgaapaaaGreatDoor
