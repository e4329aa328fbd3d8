/- audit.boxesOf: all boxes that a carrier may have to do with, rising. -/
import Derived.Test.YtdinloecgaapaaaGreatDoorHSur
import Derived.Test.YtdinloecgaapaaaGreatDoorHOps
import Derived.Test.YtdinloecgaapaaaGreatDoorMRLive
namespace Go.Proofs.YtdinloecgaapaaaGreatDoor
open Go.RowKit Go.Maps Go.Lib Go.Sort
set_option linter.unusedVariables false
set_option maxRecDepth 100000

/-- a slice of hand-overs, as an argument -/
def Rho (w : World) (B : Nat) (A : Option Addr) (L : List Hn) : Prop :=
  0 < L.length → ∃ g off, A = some ⟨g, off, none⟩ ∧ g < B ∧ ∀ (i : Nat) h, L[i]? = some h → w.rangeAt g (off + i * 5) (hnA h).toList
theorem Rho.below {w w' : World} {B : Nat} {A : Option Addr} {L : List Hn} (h : Rho w B A L) (hb : Below B w w') : Rho w' B A L := fun hl => by
  obtain ⟨g, off, e, hg, hc⟩ := h hl
  exact ⟨g, off, e, hg, fun i a ha => range_below (hc i a ha) hb hg⟩
theorem Rho.more {w : World} {B B' : Nat} {A : Option Addr} {L : List Hn} (h : Rho w B A L) (hB : B ≤ B') : Rho w B' A L := fun hl => by
  obtain ⟨g, off, e, hg, hc⟩ := h hl
  exact ⟨g, off, e, by omega, hc⟩
theorem Rho.at_ {w : World} {B : Nat} {A : Option Addr} {L : List Hn} (h : Rho w B A L) {k : Nat} (hk : k < L.length) : ∃ g off, A = some ⟨g, off, none⟩ ∧ g < B ∧ w.rangeAt g (off + k * 5) (hnA L[k]).toList := by
  obtain ⟨g, off, e, hg, hc⟩ := h (by omega)
  exact ⟨g, off, e, hg, hc k _ (List.getElem?_eq_getElem hk)⟩
theorem put_iff {F : ByteArray → Option Bool} {t s : ByteArray} : (putG F t true s).isSome = true ↔ (F s).isSome = true ∨ s = t := by
  by_cases e : s = t
  · subst e; rw [putG_same]; simp
  · rw [putG_other _ _ e]; simp [e]
theorem Lv.putK {base b k : Nat} {w0 w : World} {F : ByteArray → Option Bool} {A : Option Addr} {L : List ByteArray} (h : Lv base w0 w b k F A L) {t : ByteArray} (ht : t.size ≤ maxLen) (hk : k < 100000000) :
    ∃ w', (Instr.mapUpdate 135 (.map (some b)) (.string t) (.bool true)).run Tryz.prog w = .ok () w' ∧ Lv base w0 w' b (k + 1) (putG F t true) A L ∧ KpC w w' := by
  obtain ⟨w'', r1, r2, r3⟩ := h.mp.store (t := 135) (e := 4) Tryz.underlying135 (by unfold maxLen; omega) (x := t) ht (v := true) trivial
  have hk' : KpC w w'' := fun q cs t fz hq => (r3.grown.block q (lt_of_some hq) (fun e => by
    obtain ⟨es, ck, hm⟩ := h.mp.map?
    injection e with e
    subst e
    rw [hq] at hm
    cases hm)).trans hq
  exact ⟨w'', r1, ⟨r2, h.lo, Nat.lt_of_lt_of_le h.lt r3.grown.size, h.bel.grown r3.grown h.bs (fun j hj => by cases hj; exact h.lo), Nat.le_trans h.bs r3.grown.size, h.row.kpC hk'⟩, hk'⟩
theorem Lv.row' {base b k : Nat} {w0 w : World} {F : ByteArray → Option Bool} {A A' : Option Addr} {L L' : List ByteArray} (h : Lv base w0 w b k F A L) (hr : Sr w A' L') : Lv base w0 w b k F A' L' := ⟨h.mp, h.lo, h.lt, h.bel, h.bs, hr⟩
/-- a box of one of the first k bills -/
def inL (G : ByteArray → Option (Option Nat)) (S : Nat → Option En) (L : List ByteArray) (k : Nat) (t : ByteArray) : Prop := ∃ (j : Nat) (kk : ByteArray) (e : Nat) (x : En), j < k ∧ L[j]? = some kk ∧ G kk = some (some e) ∧ S e = some x ∧ t ∈ x.l
def allB (G : ByteArray → Option (Option Nat)) (S : Nat → Option En) (H : ByteArray → List Hn) (out : List Hn) (t : ByteArray) : Prop := H t ≠ [] ∨ (∃ h ∈ out, h.bx = t) ∨ ∃ k e x, G k = some (some e) ∧ S e = some x ∧ t ∈ x.l
def AbP (T : ByteArray → Prop) (M : Nat) (w : World) (e : Ending) (w' : World) : Prop := ∃ A c keys, e = .returned (.slice A (List.length keys) c) ∧ Srt keys ∧ (∀ s, s ∈ keys ↔ T s) ∧ keys.length ≤ M ∧ Ow w' w.heap.size (.slice A keys.length c) keys ∧ Below w.heap.size w w'

set_option maxHeartbeats 4000000 in
theorem boxesOf_r (base r N b n : Nat) (ca : ByteArray) (G : ByteArray → Option (Option Nat)) (S : Nat → Option En) (cb p b2 kc : Nat) (H : ByteArray → List Hn) (OA : Option Addr) (oc : Nat) (out : List Hn) (w : World) (hR : RgS w base r ca N b n G S) (hn : n ≤ 10000) (hC : ChS w cb p b2 kc H) (hkc : kc ≤ 10000) (hO : Rho w w.heap.size OA out) (hol : out.length ≤ 10000) (hos : ∀ h ∈ out, h.bx.size ≤ 100000000) :
    Calls Tryz.prog 40 #[.pointer (some ⟨r, 0, none⟩), .pointer (some ⟨p, 0, none⟩), .slice OA out.length oc] w fun e w' => AbP (allB G S H out) (kc + out.length + 64 * n) w e w' := by
  have hmm := @run_makeMap Tryz.prog
  have HR := Lib.hid hR
  have HO := Lib.hid hO
  have HOs := Lib.hid hos
  have HCk := Lib.hid (show ∀ s, H s ≠ [] → s.size ≤ 16 from hC.key)
  have hb0 : Below w.heap.size w (w.alloc (.map #[] 0)) := (Below.refl _ _).alloc (Nat.le_refl _) _
  have HB := Lib.hid (boxes_c cb p b2 kc H _ (hC.below hb0) (by omega))
  generalize hCP : AbP (allB G S H out) (kc + out.length + 64 * n) w = CP
  have HF : Hid (∀ A c keys w', Srt keys → (∀ t, t ∈ keys ↔ allB G S H out t) → keys.length ≤ kc + out.length + 64 * n → Ow w' w.heap.size (.slice A keys.length c) keys → Below w.heap.size w w' → CP (.returned (.slice A (List.length keys) c)) w') := Lib.hid fun A c keys w' h1 h2 h3 h4 h5 => by rw [← hCP]; exact ⟨A, c, keys, rfl, h1, h2, h3, h4, h5⟩
  clear hCP hR hC hO hos
  go_enter Tryz.func40, Tryz.ntmps40
  go_wp2_with fail
  refine HB.out.mono ?_
  rintro e w2 ⟨A', c', K, rfl, _, hK, hKl, hown, hb⟩
  obtain ⟨A2, c2, he, hs⟩ := sr_of_row rfl hown
  injection he with he _ _
  subst he
  have HV := Lib.hid (show Lv w.heap.size w w2 w.heap.size 0 (fun _ => none) A' K from ⟨(Mp.made w).below hb (by simp), Nat.le_refl _, Nat.lt_of_lt_of_le (by simp) hb.size, hb0.trans (hb.mono (by simp)), Nat.le_trans (by simp) hb.size, hs⟩)
  have HK := Lib.hid hK
  clear hK hs hown hb HB hb0 hmm
  have hkl : (K.length : Int) ≤ 10000 := by omega
  go_wp2_with fail
  go_loopw [22] (fun i wr => ∃ (k : Nat) (F : ByteArray → Option Bool), k ≤ K.length ∧ i = .int .i64 k ∧ Hid (Lv w.heap.size w wr w.heap.size k F A' K) ∧ Hid (∀ t, (F t).isSome = true ↔ t ∈ K.take k)) (fun i _ => K.length - (RowKit.intOf i).toNat)
  case atStart => exact ⟨0, _, Nat.zero_le _, rfl, HV, Lib.hid (fun t => by simp)⟩
  case round =>
    clear HV
    obtain ⟨k, F, hk, rfl, HV, HI⟩ := hrel
    by_cases hlt : k < K.length
    · have hlt' : (k : Int) < (K.length : Int) := by omega
      obtain ⟨g, off, rfl, hg, hc⟩ := HV.out.row.rs.at_ hlt
      have hsz := HCk.out _ ((HK.out _).1 (List.getElem_mem hlt))
      have HT := Lib.hid (take_step K k hlt)
      generalize K[k] = t at *
      obtain ⟨w6, hst, hv6, _⟩ := HV.out.putK (t := t) (by unfold maxLen; omega) (by omega)
      have HV6 := Lib.hid hv6
      have HI6 := Lib.hid (show ∀ s, (putG F t true s).isSome = true ↔ s ∈ K.take (k + 1) from fun s => by
        rw [put_iff, HI.out s, HT.out, List.mem_append, List.mem_singleton])
      clear hv6 HV HI
      go_wp2_with fail
      exact ⟨⟨k + 1, _, by omega, by go_num, HV6, HI6⟩, by simp [RowKit.intOf]; omega⟩
    · have hlt' : ¬ (k : Int) < (K.length : Int) := by omega
      have hke : k = K.length := by omega
      subst hke
      rw [List.take_length] at HI
      go_wp2_with fail
      have hol' : (out.length : Int) ≤ 10000 := by omega
      go_loopw [31] (fun i wx => ∃ (j : Nat) (F2 : ByteArray → Option Bool), j ≤ out.length ∧ i = .int .i64 j ∧ Hid (Lv w.heap.size w wx w.heap.size (K.length + j) F2 A' K) ∧ Hid (∀ t, (F2 t).isSome = true ↔ t ∈ K ∨ ∃ h ∈ out.take j, h.bx = t)) (fun i _ => out.length - (RowKit.intOf i).toNat)
      case atStart => exact ⟨0, F, Nat.zero_le _, rfl, HV, Lib.hid (fun t => by rw [HI.out t]; simp)⟩
      case round =>
        clear HV HI
        obtain ⟨j, F2, hj, rfl, HV, HI⟩ := hrel
        by_cases hltj : j < out.length
        · have hltj' : (j : Int) < (out.length : Int) := by omega
          obtain ⟨g, off, rfl, hg, hr⟩ := ((HO.out.below HV.out.bel).more HV.out.bel.size).at_ hltj
          have hsz := HOs.out _ (List.getElem_mem hltj)
          have HT := Lib.hid (show out.take (j + 1) = out.take j ++ [out[j]] from List.take_succ_eq_append_getElem hltj)
          generalize out[j] = x at *
          obtain ⟨hb5, hz5⟩ := laid_below wr znA (hnA x) 41
          have hm := heap_alloc_new wr (.cells znA 41)
          obtain ⟨W3, hW3⟩ : ∃ W3, W3 = wr.alloc (.cells znA 41) := ⟨_, rfl⟩
          rw [← hW3] at hb5 hz5 hm
          have l0 := laid_act W3 wr.heap.size znA (hnA x) _ _ hm
          have HMz := Lib.hid hm
          obtain ⟨W4, hW4⟩ : ∃ W4, W4 = W3.setRow wr.heap.size (hnA x) := ⟨_, rfl⟩
          rw [← hW4] at hb5 hz5 l0
          have e0 : W4.cell? ⟨wr.heap.size, 0, none⟩ = some (.string x.bx) := cell_of l0 0
          have HVq := Lib.hid (HV.out.below hb5)
          obtain ⟨w6, hst, hv6, _⟩ := HVq.out.putK (t := x.bx) (by unfold maxLen; omega) (by omega)
          have HV6 := Lib.hid hv6
          have HI6 := Lib.hid (show ∀ s, (putG F2 x.bx true s).isSome = true ↔ s ∈ K ∨ ∃ h ∈ out.take (j + 1), h.bx = s from fun s => by
            rw [put_iff, HI.out s, HT.out]
            constructor
            · rintro ((h | ⟨h, h1, h2⟩) | h)
              · exact .inl h
              · exact .inr ⟨h, List.mem_append.2 (.inl h1), h2⟩
              · exact .inr ⟨x, List.mem_append.2 (.inr (List.mem_singleton.2 rfl)), h.symm⟩
            · rintro (h | ⟨h, h1, h2⟩)
              · exact .inl (.inl h)
              · rcases List.mem_append.1 h1 with h1 | h1
                · exact .inl (.inr ⟨h, h1, h2⟩)
                · rw [List.mem_singleton.1 h1] at h2
                  exact .inr h2.symm)
          have HRr := Lib.hid hr
          have HOn := Lib.hid (hnA_one x)
          have HIb := Lib.hid (show (Tryz.prog.info? 41).map (·.size) = some (hnA x).toList.length from infoHn)
          have HIs := Lib.hid (show (Tryz.prog.info? 41).map (·.size) = some (hnA x).size from infoHn)
          have HSz := Lib.hid (show znA.size = (hnA x).size from rfl)
          clear hm hb5 hz5 l0 hr hv6 HV HI HVq
          unfold znA at hW3
          generalize hnA x = V4 at *
          go_wp2_with (first
            | (have _t := hW3; clear _t; refine wpList_load_mid rfl 41 (.tmp 33) rfl g (off + j * 5) rfl V4.toList _ HRr.out Tryz.underlying41 rfl HIb.out ?_)
            | (rw [← hW3]; clear hW3; refine wpList_store_row rfl 41 (.tmp 11) (.tmp 34) rfl wr.heap.size V4 rfl rfl 41 _ HMz.out HIs.out HSz.out HOn.out ?_; rw [← hW4]; clear hW4)
            | fail)
          exact ⟨⟨j + 1, _, by omega, by go_num, HV6, HI6⟩, by simp [RowKit.intOf]; omega⟩
        · have hltj' : ¬ (j : Int) < (out.length : Int) := by omega
          have hje : out.take j = out := List.take_of_length_le (by omega)
          rw [hje] at HI
          have HBi := Lib.hid (bills_r base r N b n ca G S _ (HR.out.below HV.out.bel) hn)
          clear hje
          go_wp2_with fail
          refine HBi.out.mono ?_
          rintro e w5 ⟨A5, c5, L, rfl, hs5, hm5, hlen5, hb5⟩
          have HV5 := Lib.hid ((HV.out.below hb5).row' hs5)
          have HM := Lib.hid hm5
          have hln : (L.length : Int) ≤ 10000 := by omega
          clear hs5 hm5 hb5 HBi HV
          go_wp2_with fail
          go_loopw [42] (fun i wx => ∃ (k : Nat) (F : ByteArray → Option Bool), k ≤ L.length ∧ i = .int .i64 k ∧ Hid (Lv w.heap.size w wx w.heap.size (K.length + j + 64 * k) F A5 L) ∧ Hid (∀ t, (F t).isSome = true ↔ (t ∈ K ∨ ∃ h ∈ out, h.bx = t) ∨ inL G S L k t)) (fun i _ => L.length - (RowKit.intOf i).toNat)
          case atStart => exact ⟨0, F2, Nat.zero_le _, rfl, HV5, Lib.hid (fun t => by rw [HI.out t]; exact ⟨.inl, fun h => h.elim id fun ⟨_, _, _, _, h0, _⟩ => by omega⟩)⟩
          case round =>
            clear HV5 HI
            obtain ⟨k, F, hk, rfl, HV, HI⟩ := hrel
            by_cases hlt : k < L.length
            · obtain ⟨g, off, rfl, hg, hc⟩ := HV.out.row.rs.at_ hlt
              have HLk := Lib.hid (show L[k]? = some L[k] from List.getElem?_eq_getElem hlt)
              have hex := (HM.out _).1 (List.getElem_mem hlt)
              generalize L[k] = kk at *
              obtain ⟨v0, hv0⟩ := Option.isSome_iff_exists.1 (toldB_is hex)
              obtain ⟨_, e0, x, rfl, hSe⟩ := HR.out.ent _ _ hv0
              clear hex
              have hlt' : (k : Int) < (L.length : Int) := by omega
              have HRr := Lib.hid (HR.out.below HV.out.bel)
              have HG := Lib.hid (get_r base r N b n e0 ca kk x G S wr HRr.out hv0 hSe)
              have hfl := (HR.out.fit e0 x hSe).l
              have HFb := Lib.hid (HR.out.fit e0 x hSe).b
              have HStep : Hid (∀ t, inL G S L (k + 1) t ↔ inL G S L k t ∨ t ∈ x.l) := Lib.hid fun t => by
                constructor
                · rintro ⟨j, kk', e', x', hj, h1, h2, h3, h4⟩
                  by_cases hjk : j = k
                  · subst hjk
                    rw [HLk.out] at h1
                    cases h1
                    rw [hv0] at h2
                    cases h2
                    rw [hSe] at h3
                    cases h3
                    exact .inr h4
                  · exact .inl ⟨j, kk', e', x', by omega, h1, h2, h3, h4⟩
                · rintro (⟨j, kk', e', x', hj, h⟩ | h)
                  · exact ⟨j, kk', e', x', by omega, h⟩
                  · exact ⟨k, kk, e0, x, by omega, HLk.out, hv0, hSe, h⟩
              clear HRr hv0 hSe
              go_wp2_with fail
              refine HG.out.mono ?_
              rintro e w3 ⟨A1, c1, PA1, pc1, rfl, hs3, hb3⟩
              obtain ⟨hb4, hz4⟩ := laid_below w3 zbl (blA (x.with A1 c1 PA1 pc1)) 59
              have hm := heap_alloc_new w3 (.cells zbl 59)
              obtain ⟨W1, hW1⟩ : ∃ W1, W1 = w3.alloc (.cells zbl 59) := ⟨_, rfl⟩
              rw [← hW1] at hb4 hz4 hm
              have l0 := laid_act W1 w3.heap.size zbl (blA (x.with A1 c1 PA1 pc1)) _ _ hm
              have HMz := Lib.hid hm
              obtain ⟨W2, hW2⟩ : ∃ W2, W2 = W1.setRow w3.heap.size (blA (x.with A1 c1 PA1 pc1)) := ⟨_, rfl⟩
              rw [← hW2] at hb4 hz4 l0
              have c5' : W2.cell? ⟨w3.heap.size, 5, none⟩ = some (.slice A1 x.l.length c1) := cell_of l0 5
              have hbr : Below wr.heap.size wr W2 := hb3.trans (hb4.mono hb3.size)
              have HV2 := Lib.hid (HV.out.below hbr)
              have HS4 := Lib.hid (hs3.below hb4)
              have HOn := Lib.hid (blA_one (x.with A1 c1 PA1 pc1))
              have HIs := Lib.hid (show (Tryz.prog.info? 59).map (·.size) = some (blA (x.with A1 c1 PA1 pc1)).size from infoBill)
              have HSz := Lib.hid (show zbl.size = (blA (x.with A1 c1 PA1 pc1)).size from rfl)
              clear hm l0 hb4 hz4 hs3 hb3 HG hbr
              unfold zbl at hW1
              generalize blA (x.with A1 c1 PA1 pc1) = V at *
              generalize x.l = xl at *
              go_wp2_with (first
                | (rw [← hW1]; clear hW1; refine wpList_store_row rfl 59 (.tmp 14) (.tmp 50) rfl w3.heap.size V rfl rfl 59 _ HMz.out HIs.out HSz.out HOn.out ?_; rw [← hW2]; clear hW2)
                | fail)
              clear HMz HIs HSz HOn c5'
              go_loopw [55] (fun i wy => ∃ (m : Nat) (F3 : ByteArray → Option Bool), m ≤ xl.length ∧ i = .int .i64 m ∧ Hid (Lv w.heap.size w wy w.heap.size (K.length + j + 64 * k + m) F3 (some ⟨g, off, none⟩) L) ∧ Hid (Sr wy A1 xl) ∧ Hid (∀ t, (F3 t).isSome = true ↔ ((t ∈ K ∨ ∃ h ∈ out, h.bx = t) ∨ inL G S L k t) ∨ t ∈ xl.take m)) (fun i _ => xl.length - (RowKit.intOf i).toNat)
              case atStart => exact ⟨0, F, Nat.zero_le _, rfl, HV2, HS4, Lib.hid (fun t => by rw [HI.out t]; simp)⟩
              case round =>
                clear HV2 HS4 HI HV
                obtain ⟨m, F3, hm, rfl, HV, HS, HI⟩ := hrel
                by_cases hltm : m < xl.length
                · have hltm' : (m : Int) < (xl.length : Int) := by omega
                  obtain ⟨g1, off1, rfl, hg1, hc1⟩ := HS.out.rs.at_ hltm
                  have htz := HFb.out _ (List.getElem_mem hltm)
                  have HT := Lib.hid (take_step xl m hltm)
                  generalize xl[m] = t at *
                  obtain ⟨w6, hst, hv6, hk6⟩ := HV.out.putK (t := t) (by unfold maxLen; omega) (by omega)
                  have HV6 := Lib.hid hv6
                  have HS6 := Lib.hid (HS.out.kpC hk6)
                  have HI6 := Lib.hid (show ∀ s, (putG F3 t true s).isSome = true ↔ ((s ∈ K ∨ ∃ h ∈ out, h.bx = s) ∨ inL G S L k s) ∨ s ∈ xl.take (m + 1) from fun s => by
                    rw [put_iff, HI.out s, HT.out, List.mem_append, List.mem_singleton, or_assoc (a := (s ∈ K ∨ ∃ h ∈ out, h.bx = s) ∨ inL G S L k s)])
                  clear hv6 hk6 HV HS HI
                  go_wp2_with fail
                  exact ⟨⟨m + 1, _, by omega, by go_num, HV6, HS6, HI6⟩, by simp [RowKit.intOf]; omega⟩
                · have hltm' : ¬ (m : Int) < (xl.length : Int) := by omega
                  have hme : xl.take m = xl := List.take_of_length_le (by omega)
                  have HI2 := Lib.hid (show ∀ t, (F3 t).isSome = true ↔ (t ∈ K ∨ ∃ h ∈ out, h.bx = t) ∨ inL G S L (k + 1) t from fun t => by
                    rw [HI.out t, hme, HStep.out t, or_assoc])
                  clear hme HI
                  go_wp2_with fail
                  go_roundw
                  case rel => exact ⟨k + 1, F3, by omega, by go_num, Lib.hid (HV.out.more (by omega)), HI2⟩
                  case measure => simp [RowKit.intOf]; omega
            · have hlt' : ¬ (k : Int) < (L.length : Int) := by omega
              have hke : k = L.length := by omega
              have HKf := Lib.hid (keysB_fn (some w.heap.size) wr)
              have HSo := Lib.hid (sortedB_r wr w.heap.size _ F HV.out.mp (by omega))
              go_wp2_with fail
              refine HKf.out.mono ?_
              rintro e w8 ⟨rfl, rfl⟩
              go_wp2_with fail
              refine HSo.out.mono ?_
              rintro e w9 ⟨A9, c9, keys, rfl, hq1, hq2, hq3, hq4, hq5, hb9⟩
              have hT : ∀ t, (F t).isSome = true ↔ allB G S H out t := fun t => by
                rw [HI.out t]
                unfold allB
                rw [HK.out t, or_assoc]
                refine or_congr_right (or_congr_right ⟨fun ⟨_, kk, e, x, _, _, h2, h3, h4⟩ => ⟨kk, e, x, h2, h3, h4⟩, fun ⟨kk, e, x, h2, h3, h4⟩ => ?_⟩)
                obtain ⟨q, hq⟩ := List.getElem?_of_mem ((HM.out kk).2 (by rw [toldB_some h2 h3]))
                exact ⟨q, kk, e, x, by have := (List.getElem?_eq_some_iff.1 hq).1; omega, hq, h2, h3, h4⟩
              have hsz : ∀ t, allB G S H out t → t.size ≤ maxLen := fun t ht => by
                rcases ht with h | ⟨h, h1, rfl⟩ | ⟨kk, e, x, h2, h3, h4⟩
                · have := HCk.out t h; unfold maxLen; omega
                · have := HOs.out h h1; unfold maxLen; omega
                · have := (HR.out.fit e x h3).b t h4; unfold maxLen; omega
              have HF2 := Lib.hid (HF.out A9 c9 keys w9 hq1 (fun t => ⟨fun ht => (hT t).1 ((hq3 t (hq2 t ht)).1 ht), fun ht => (hq3 t (hsz t ht)).2 ((hT t).2 ht)⟩) (by omega) (ownsRow_base HV.out.bel.size hq5) (HV.out.bel.trans (hb9.mono HV.out.bs)))
              clear HF HI HV HM HR hq1 hq2 hq3 hq4 hq5 hb9 HKf HSo hT hsz
              go_wp2_with fail
              first
                | exact HF2.out
                | (go_ret; exact HF2.out)
end Go.Proofs.YtdinloecgaapaaaGreatDoor
