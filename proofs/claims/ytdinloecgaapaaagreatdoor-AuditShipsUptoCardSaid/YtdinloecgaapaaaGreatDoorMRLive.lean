/- audit.liveBoxes: the boxes that stand in live bills of a register. The keys of audit's map of holdings: who held, and a box. (Turned from AKey.) -/
import Derived.Test.YtdinloecgaapaaaGreatDoorMRKeys
import Derived.Test.YtdinloecgaapaaaGreatDoorMRBox
import Derived.Test.YtdinloecgaapaaaGreatDoorMRPut
import Derived.Test.YtdinloecgaapaaaGreatDoorMREnd
import Derived.Test.YtdinloecgaapaaaGreatDoorMGMap
namespace Go.Proofs.YtdinloecgaapaaaGreatDoor
open Go.RowKit Go.Maps Go.Lib Go.Sort
set_option linter.unusedVariables false
set_option maxRecDepth 100000

theorem Mp.more {P : Program} {k : TypeId} {α β : Type} {C : KeyC P k α} {E : ElC β} {w : World} {b n m : Nat} {G : α → Option β} (h : Mp C E w b n G) (hm : n ≤ m) : Mp C E w b m G := by
  obtain ⟨D, hown, hR⟩ := h
  exact ⟨D, hown.mono hm, hR⟩
/-- how far the loops over the bills' boxes have come: the set F at block b -/
structure Lv (base : Nat) (w0 w : World) (b k : Nat) (F : ByteArray → Option Bool) (A : Option Addr) (L : List ByteArray) : Prop where
  mp : Mp nmC bE w b k F
  lo : base ≤ b
  lt : b < w.heap.size
  bel : Below base w0 w
  bs : base ≤ w.heap.size
  row : Sr w A L
section
variable {base b k : Nat} {w0 w w' : World} {F : ByteArray → Option Bool} {A A1 : Option Addr} {L l : List ByteArray}
theorem Lv.below (h : Lv base w0 w b k F A L) (hb : Below w.heap.size w w') : Lv base w0 w' b k F A L := ⟨h.mp.below hb h.lt, h.lo, Nat.lt_of_lt_of_le h.lt hb.size, h.bel.trans (hb.mono h.bs), Nat.le_trans h.bs hb.size, h.row.below hb⟩
theorem Lv.more (h : Lv base w0 w b k F A L) {m : Nat} (hm : k ≤ m) : Lv base w0 w b m F A L := ⟨h.mp.more hm, h.lo, h.lt, h.bel, h.bs, h.row⟩
theorem Lv.put (h : Lv base w0 w b k F A L) {t : ByteArray} (ht : t.size ≤ 1000) (hk : k < 100000000) (h1 : Sr w A1 l) :
    ∃ w', (Instr.mapUpdate 135 (.map (some b)) (.string t) (.bool true)).run Tryz.prog w = .ok () w' ∧ Lv base w0 w' b (k + 1) (putG F t true) A L ∧ Sr w' A1 l := by
  obtain ⟨w'', r1, r2, r3⟩ := h.mp.store (t := 135) (e := 4) Tryz.underlying135 (by unfold maxLen; omega) (x := t) (show t.size ≤ maxLen by unfold maxLen; omega) (v := true) trivial
  have hk' : ∀ (q : Nat) (cs : Array Value), w.heap[q]? = some (.cells cs 9 (0, 0)) → w''.heap[q]? = some (.cells cs 9 (0, 0)) := fun q cs hq => (r3.grown.block q (lt_of_some hq) (fun e => by
    obtain ⟨es, ck, hm⟩ := h.mp.map?
    injection e with e
    subst e
    rw [hq] at hm
    cases hm)).trans hq
  exact ⟨w'', r1, ⟨r2, h.lo, Nat.lt_of_lt_of_le h.lt r3.grown.size, h.bel.grown r3.grown h.bs (fun j hj => by cases hj; exact h.lo), Nat.le_trans h.bs r3.grown.size, h.row.keep hk'⟩, h1.keep hk'⟩
end
theorem putG_mono {F : ByteArray → Option Bool} {t s : ByteArray} (h : (F s).isSome = true) : (putG F t true s).isSome = true := by
  by_cases e : s = t
  · subst e; rw [putG_same]; rfl
  · rw [putG_other _ _ e]; exact h
/-- what the set holds: boxes of live bills alone; all those of the first k bills -/
def LvIn (G : ByteArray → Option (Option Nat)) (S : Nat → Option En) (L : List ByteArray) (k : Nat) (F : ByteArray → Option Bool) : Prop :=
  (∀ t, (F t).isSome = true → anyB G S (livE t)) ∧ ∀ (j : Nat) kk e x, j < k → L[j]? = some kk → G kk = some (some e) → S e = some x → ∀ t ∈ x.l, anyB G S (livE t) → (F t).isSome = true
def LbP (G : ByteArray → Option (Option Nat)) (S : Nat → Option En) (n : Nat) (w : World) (e : Ending) (w' : World) : Prop :=
  ∃ A c keys, e = .returned (.slice A (List.length keys) c) ∧ Srt keys ∧ (∀ t, t ∈ keys ↔ anyB G S (livE t)) ∧ keys.length ≤ 64 * n ∧ (∀ t ∈ keys, t.size ≤ 16) ∧ Ow w' w.heap.size (.slice A keys.length c) keys ∧ Below w.heap.size w w'
theorem any_live {w : World} {base r N b n : Nat} {ca : ByteArray} {G : ByteArray → Option (Option Nat)} {S : Nat → Option En} (h : RgS w base r ca N b n G S) {t : ByteArray} (ha : anyB G S (livE t)) : ∃ k e x, G k = some (some e) ∧ S e = some x ∧ t ∈ x.l ∧ t.size ≤ 16 := by
  obtain ⟨k, hk⟩ := ha
  obtain ⟨v0, hv0⟩ := Option.isSome_iff_exists.1 (toldB_is hk)
  obtain ⟨_, e0, x, rfl, hSe⟩ := h.ent _ _ hv0
  rw [toldB_some hv0 hSe] at hk
  unfold livE at hk
  rw [Bool.and_eq_true] at hk
  have hin : t ∈ x.l := (containsS_iff _ _).1 hk.2
  exact ⟨k, e0, x, hv0, hSe, hin, (h.fit e0 x hSe).b t hin⟩

set_option maxHeartbeats 4000000 in
theorem liveBoxes_r (base r N b n : Nat) (ca : ByteArray) (G : ByteArray → Option (Option Nat)) (S : Nat → Option En) (w : World) (hR : RgS w base r ca N b n G S) (hn : n ≤ 10000) :
    Calls Tryz.prog 27 #[.pointer (some ⟨r, 0, none⟩)] w fun e w' => LbP G S n w e w' := by
  have hmm := @run_makeMap Tryz.prog
  have HR := Lib.hid hR
  have hb0 : Below w.heap.size w (w.alloc (.map #[] 0)) := (Below.refl _ _).alloc (Nat.le_refl _) _
  have HB := Lib.hid (bills_r base r N b n ca G S _ (hR.below hb0) hn)
  generalize hCP : LbP G S n w = CP
  have HF : Hid (∀ A c keys w', Srt keys → (∀ t, t ∈ keys ↔ anyB G S (livE t)) → keys.length ≤ 64 * n → (∀ t ∈ keys, t.size ≤ 16) → Ow w' w.heap.size (.slice A keys.length c) keys → Below w.heap.size w w' → CP (.returned (.slice A (List.length keys) c)) w') := Lib.hid fun A c keys w' h1 h2 h3 h4 h5 h6 => by rw [← hCP]; exact ⟨A, c, keys, rfl, h1, h2, h3, h4, h5, h6⟩
  clear hCP hR
  go_enter Tryz.func27, Tryz.ntmps27
  go_wp2_with fail
  refine HB.out.mono ?_
  rintro e w2 ⟨A', c', L, rfl, hs, hm, hlen, hb⟩
  have HV := Lib.hid (show Lv w.heap.size w w2 w.heap.size 0 (fun _ => none) A' L from ⟨(Mp.made w).below hb (by simp), Nat.le_refl _, Nat.lt_of_lt_of_le (by simp) hb.size, hb0.trans (hb.mono (by simp)), Nat.le_trans (by simp) hb.size, hs⟩)
  have HM := Lib.hid hm
  clear hs hm hb HB hb0 hmm
  have hln : (L.length : Int) ≤ 10000 := by omega
  go_wp2_with fail
  go_loopw [16] (fun i wr => ∃ (k : Nat) (F : ByteArray → Option Bool), k ≤ L.length ∧ i = .int .i64 k ∧ Hid (Lv w.heap.size w wr w.heap.size (64 * k) F A' L) ∧ Hid (LvIn G S L k F)) (fun i _ => L.length - (RowKit.intOf i).toNat)
  case atStart => exact ⟨0, _, Nat.zero_le _, rfl, HV, Lib.hid ⟨fun t h => by simp at h, fun j kk e x hj => by omega⟩⟩
  case round =>
    clear HV
    obtain ⟨k, F, hk, rfl, HV, HI⟩ := hrel
    by_cases hlt : k < L.length
    · obtain ⟨g, off, rfl, hg, hc⟩ := HV.out.row.rs.at_ hlt
      have hLk : L[k]? = some L[k] := List.getElem?_eq_getElem hlt
      have HLk := Lib.hid hLk
      have hin : L[k] ∈ L := List.getElem_mem hlt
      have hex := (HM.out _).1 hin
      clear hin hLk
      generalize L[k] = kk at *
      obtain ⟨v0, hv0⟩ := Option.isSome_iff_exists.1 (toldB_is hex)
      obtain ⟨_, e0, x, rfl, hSe⟩ := HR.out.ent _ _ hv0
      clear hex
      have hlt' : (k : Int) < (L.length : Int) := by omega
      have HRr := Lib.hid (HR.out.below HV.out.bel)
      have HG := Lib.hid (get_r base r N b n e0 ca kk x G S wr HRr.out hv0 hSe)
      have HSe := Lib.hid (show G kk = some (some e0) ∧ S e0 = some x from ⟨hv0, hSe⟩)
      have hfl := (HR.out.fit e0 x hSe).l
      have HFb := Lib.hid (HR.out.fit e0 x hSe).b
      clear HRr hv0 hSe
      go_wp2_with fail
      refine HG.out.mono ?_
      rintro e w3 ⟨A1, c1, PA1, pc1, rfl, hs3, hb3⟩
      obtain ⟨hb4, hz4⟩ := laid_below w3 zbl (blA (x.with A1 c1 PA1 pc1)) 59
      have hm := heap_alloc_new w3 (.cells zbl 59)
      obtain ⟨W1, hW1⟩ : ∃ W1, W1 = w3.alloc (.cells zbl 59) := ⟨_, rfl⟩
      rw [← hW1] at hb4 hz4 hm
      have l0 := laid_act W1 w3.heap.size zbl (blA (x.with A1 c1 PA1 pc1)) _ _ hm
      have HMz := Lib.hid hm
      obtain ⟨W2, hW2⟩ : ∃ W2, W2 = W1.setRow w3.heap.size (blA (x.with A1 c1 PA1 pc1)) := ⟨_, rfl⟩
      rw [← hW2] at hb4 hz4 l0
      have c5 : W2.cell? ⟨w3.heap.size, 5, none⟩ = some (.slice A1 x.l.length c1) := cell_of l0 5
      have hbr : Below wr.heap.size wr W2 := hb3.trans (hb4.mono hb3.size)
      have HV2 := Lib.hid (HV.out.below hbr)
      have HS4 := Lib.hid (hs3.below hb4)
      have HO := Lib.hid (blA_one (x.with A1 c1 PA1 pc1))
      have HIs := Lib.hid (show (Tryz.prog.info? 59).map (·.size) = some (blA (x.with A1 c1 PA1 pc1)).size from infoBill)
      have HSz := Lib.hid (show zbl.size = (blA (x.with A1 c1 PA1 pc1)).size from rfl)
      clear hm l0 hb4 hz4 hs3 hb3 HG hbr
      unfold zbl at hW1
      generalize blA (x.with A1 c1 PA1 pc1) = V at *
      go_wp2_with (first
        | (rw [← hW1]; clear hW1; refine wpList_store_row rfl 59 (.tmp 6) (.tmp 24) rfl w3.heap.size V rfl rfl 59 _ HMz.out HIs.out HSz.out HO.out ?_; rw [← hW2]; clear hW2)
        | fail)
      clear HMz HIs HSz HO c5
      go_loopw [29] (fun i wm => ∃ (m : Nat) (F2 : ByteArray → Option Bool), m ≤ x.l.length ∧ i = .int .i64 m ∧ Hid (Lv w.heap.size w wm w.heap.size (64 * k + m) F2 (some ⟨g, off, none⟩) L) ∧ Hid (Sr wm A1 x.l) ∧ Hid (LvIn G S L k F2) ∧ Hid (∀ (j : Nat) t, j < m → x.l[j]? = some t → anyB G S (livE t) → (F2 t).isSome = true)) (fun i _ => x.l.length - (RowKit.intOf i).toNat)
      case atStart => exact ⟨0, F, Nat.zero_le _, rfl, HV2, HS4, HI, Lib.hid (fun j t hj => by omega)⟩
      case round =>
        clear HV2 HS4 HI HV
        obtain ⟨m, F2, hm, rfl, HV, HS, HI, HJ⟩ := hrel
        by_cases hltm : m < x.l.length
        · obtain ⟨g1, off1, rfl, hg1, hc1⟩ := HS.out.rs.at_ hltm
          have hxm : x.l[m]? = some x.l[m] := List.getElem?_eq_getElem hltm
          have HXm := Lib.hid hxm
          have htz := HFb.out _ (List.getElem_mem hltm)
          clear hxm
          generalize x.l[m] = t at *
          have hltm' : (m : Int) < (x.l.length : Int) := by omega
          have HBx := Lib.hid (box_r base r N b n ca G S t wr (HR.out.below HV.out.bel) hn)
          go_wp2_with fail
          refine HBx.out.mono ?_
          rintro e w5 ⟨tx, ok, rfl, hok, hb5⟩
          have HV5 := Lib.hid (HV.out.below hb5)
          have HS5 := Lib.hid (HS.out.below hb5)
          have HOk := Lib.hid hok
          clear HBx hb5 HV HS hok
          cases ok with
          | false =>
            go_wp2_with fail
            exact ⟨⟨m + 1, F2, by omega, by go_num, Lib.hid (HV5.out.more (by omega)), HS5, HI, Lib.hid (fun j t' hj hx ha => by
              by_cases hjm : j = m
              · subst hjm
                rw [HXm.out] at hx
                cases hx
                exact absurd (HOk.out.2 ha) (by simp)
              · exact HJ.out j t' (by omega) hx ha)⟩, by simp [RowKit.intOf]; omega⟩
          | true =>
            obtain ⟨w6, hst, hv6, hs6⟩ := HV5.out.put (t := t) (by omega) (by omega) HS5.out
            have HV6 := Lib.hid hv6
            have HS6 := Lib.hid hs6
            clear hv6 hs6 HV5 HS5
            go_wp2_with fail
            exact ⟨⟨m + 1, putG F2 t true, by omega, by go_num, Lib.hid (HV6.out.more (by omega)), HS6, Lib.hid ⟨fun t' ht' => by
              by_cases e : t' = t
              · subst e; exact HOk.out.1 (by first | trivial | rfl)
              · rw [putG_other _ _ e] at ht'; exact HI.out.1 t' ht', fun j kk' e' x' hj h1 h2 h3 t' h4 h5 => putG_mono (HI.out.2 j kk' e' x' hj h1 h2 h3 t' h4 h5)⟩, Lib.hid (fun j t' hj hx ha => by
              by_cases hjm : j = m
              · subst hjm
                rw [HXm.out] at hx
                cases hx
                rw [putG_same]; rfl
              · exact putG_mono (HJ.out j t' (by omega) hx ha))⟩, by simp [RowKit.intOf]; omega⟩
        · have hltm' : ¬ (m : Int) < (x.l.length : Int) := by omega
          have hme : m = x.l.length := by omega
          go_wp2_with fail
          go_roundw
          case rel => exact ⟨k + 1, F2, by omega, by go_num, Lib.hid (HV.out.more (by omega)), Lib.hid ⟨HI.out.1, fun j kk' e' x' hj h1 h2 h3 t' h4 h5 => by
            by_cases hjk : j = k
            · subst hjk
              rw [HLk.out] at h1
              cases h1
              rw [HSe.out.1] at h2
              cases h2
              rw [HSe.out.2] at h3
              cases h3
              obtain ⟨q, hq⟩ := List.getElem?_of_mem h4
              exact HJ.out q t' (by have := (List.getElem?_eq_some_iff.1 hq).1; omega) hq h5
            · exact HI.out.2 j kk' e' x' (by omega) h1 h2 h3 t' h4 h5⟩⟩
          case measure => simp [RowKit.intOf]; omega
    · have hlt' : ¬ (k : Int) < (L.length : Int) := by omega
      have hke : k = L.length := by omega
      subst hke
      have hN : 64 * L.length ≤ 1000000 := by omega
      have HK := Lib.hid (keysB_fn (some w.heap.size) wr)
      have HSo := Lib.hid (sortedB_r wr w.heap.size _ F HV.out.mp hN)
      go_wp2_with fail
      refine HK.out.mono ?_
      rintro e w8 ⟨rfl, rfl⟩
      go_wp2_with fail
      refine HSo.out.mono ?_
      rintro e w9 ⟨A9, c9, keys, rfl, hq1, hq2, hq3, hq4, hq5, hb9⟩
      have HF2 := Lib.hid (HF.out A9 c9 keys w9 hq1 (by
        intro t
        constructor
        · intro ht
          exact HI.out.1 t ((hq3 t (hq2 t ht)).1 ht)
        · intro ha
          obtain ⟨kk, e, x, h1, h2, h3, h4⟩ := any_live HR.out ha
          obtain ⟨j, hj⟩ := List.getElem?_of_mem ((HM.out kk).2 (by rw [toldB_some h1 h2]))
          exact (hq3 t (by unfold maxLen; omega)).2 (HI.out.2 j kk e x (List.getElem?_eq_some_iff.1 hj).1 hj h1 h2 t h3 ha)) (by omega) (fun t ht => by
            obtain ⟨kk, e, x, h1, h2, h3, h4⟩ := any_live HR.out (HI.out.1 t ((hq3 t (hq2 t ht)).1 ht))
            exact h4) (ownsRow_base HV.out.bel.size hq5) (HV.out.bel.trans (hb9.mono HV.out.bs)))
      clear HF HI HV HM HR hq1 hq2 hq3 hq4 hq5 hb9 HK HSo
      go_wp2_with fail
      first
        | exact HF2.out
        | (go_ret; exact HF2.out)
end Go.Proofs.YtdinloecgaapaaaGreatDoor
namespace Go.Proofs.YtdinloecgaapaaaGreatDoor
open Go.RowKit Go.Maps
set_option linter.unusedVariables false
set_option maxRecDepth 100000

theorem rowHold : (96 : TypeId) < Tryz.prog.types.size := of_decide_eq_true (by kernel_rfl)
theorem wideHold : (match Tryz.prog.underlying 96 with | some (.array _ _) | some (.struct _) => true | _ => false) = true := by kernel_rfl
theorem lawHold : Keyed Tryz.prog 96 := Keyed.of_law (deep_law_laid laidOut (m := 2) (by omega) rowHold (by kernel_rfl) wideHold)
theorem cellsHold : Tryz.prog.cellsOf 96 = 2 := by kernel_rfl
theorem keyHold : Tryz.prog.keyType 96 = true := by kernel_rfl

theorem keyLits_hold (m : Nat) (a b : ByteArray) (ha : a.size ≤ maxLen) (hb : b.size ≤ maxLen) : Tryz.prog.keyLits (m + 2) 96 [.string a, .string b] = some [.string a.data.toList, .string b.data.toList] := by
  simp [Program.keyLits, Tryz.underlying96, cellsHold, Tryz.underlying9, cellsStr, ha, hb]
theorem sizeTypesH : ∃ m, Tryz.prog.types.size + 1 = m + 2 := by
  have h : (96 : Nat) < Tryz.prog.types.size := rowHold
  exact ⟨Tryz.prog.types.size - 1, by omega⟩

theorem keyOf_hold (x : Nt) (h : Small x) : keyOf Tryz.prog 96 (nval x) = some (nkey x) := by
  obtain ⟨m, hm⟩ := sizeTypesH
  have hl := keyLits_hold m x.1 x.2 h.1 h.2
  unfold keyOf
  rw [Tryz.underlying96]
  simp only [hm]
  simp [keyHold, nval, nkey, Value.formed, Tryz.underlying96, cellsHold, Value.cells, hl]

theorem keyLits_hold_inv (m : Nat) (c0 c1 : Value) (ls : List Lit) (h : Tryz.prog.keyLits (m + 2) 96 [c0, c1] = some ls) : ∃ a b : ByteArray, c0 = .string a ∧ c1 = .string b ∧ a.size ≤ maxLen ∧ b.size ≤ maxLen := by
  have e0 : ∀ c ls', Tryz.prog.keyLits (m + 1) 9 [c] = some ls' → ∃ a : ByteArray, c = .string a ∧ a.size ≤ maxLen := by
    intro c ls' h
    cases c <;> simp [Program.keyLits, Tryz.underlying9] at h
    exact ⟨_, rfl, h.1⟩
  have e1 : Tryz.prog.keyLits (m + 2) 96 [c0, c1] = ((Tryz.prog.keyLits (m + 1) 9 [c0]).bind fun x => (Tryz.prog.keyLits (m + 1) 9 [c1]).bind fun y => some (x ++ y)) := by
    conv => lhs; unfold Program.keyLits
    simp only [Tryz.underlying96]
    generalize hk : Tryz.prog.keyLits (m + 1) = F
    simp [cellsHold, cellsStr]
    cases F 9 [c0] <;> simp
    cases F 9 [c1] <;> simp
  rw [e1] at h
  obtain ⟨l0, h0, h⟩ := Option.bind_eq_some_iff.1 h
  obtain ⟨l1, h1, _⟩ := Option.bind_eq_some_iff.1 h
  obtain ⟨a, rfl, ha⟩ := e0 _ _ h0
  obtain ⟨b, rfl, hb⟩ := e0 _ _ h1
  exact ⟨a, b, rfl, rfl, ha, hb⟩

theorem keyOf_hold_inv {key : Value} {kl : Lit} (h : keyOf Tryz.prog 96 key = some kl) : ∃ x : Nt, key = nval x ∧ kl = nkey x ∧ Small x := by
  have h0 := h
  obtain ⟨m, hm⟩ := sizeTypesH
  unfold keyOf at h
  rw [Tryz.underlying96] at h
  simp only [hm] at h
  split at h
  · rename_i hc
    simp only [Bool.and_eq_true] at hc
    have hf := hc.2
    cases key <;> simp [Value.formed, Tryz.underlying96, cellsHold] at hf
    rename_i cs
    obtain ⟨l⟩ := cs
    match l, hf with
    | [c0, c1], _ =>
      simp only [Value.cells] at h
      obtain ⟨ls, hls, _⟩ := Option.map_eq_some_iff.1 h
      obtain ⟨a, b, rfl, rfl, ha, hb⟩ := keyLits_hold_inv m c0 c1 ls hls
      have h1 := keyOf_hold (a, b) ⟨ha, hb⟩
      have h2 : keyOf Tryz.prog 96 (nval (a, b)) = some kl := h0
      rw [h1] at h2
      exact ⟨(a, b), rfl, (Option.some.inj h2).symm, ha, hb⟩
  · cases h

noncomputable def hoC : KeyC Tryz.prog 96 Nt where
  law := lawHold
  mk := nval
  lit := nkey
  ok := Small
  of := keyOf_hold
  inv _ _ h := keyOf_hold_inv h
  inj _ _ := nval_inj
theorem zeroBoolH (W : World) : (zeroValue 4).run Tryz.prog W = .ok (.bool false) W := by kernel_rfl
end Go.Proofs.YtdinloecgaapaaaGreatDoor
