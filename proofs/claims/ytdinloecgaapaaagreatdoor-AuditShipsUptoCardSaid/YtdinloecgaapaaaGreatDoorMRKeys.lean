/- slices.Sorted(maps.Keys(m)) of a map with texts as keys: its keys, rising. Register.numbers, walked. -/
import Derived.Test.YtdinloecgaapaaaGreatDoorMGHold
import Derived.Test.YtdinloecgaapaaaGreatDoorRIter
import Derived.Test.YtdinloecgaapaaaGreatDoorMRMem
import Derived.Test.YtdinloecgaapaaaGreatDoorMRNum
import Derived.Test.YtdinloecgaapaaaGreatDoorRMay
import Derived.Test.YtdinloecgaapaaaGreatDoorMACopies
namespace Go.Proofs.YtdinloecgaapaaaGreatDoor
open Go.RowKit Go.Maps Go.Lib Go.Sort
set_option linter.unusedVariables false
set_option maxRecDepth 100000

def toBA (l : List UInt8) : ByteArray := ⟨l.toArray⟩
theorem toBA_list (l : List UInt8) : (toBA l).toList = l := by rw [ByteArray.toList_eq]; simp [toBA]
theorem toBA_of (x : ByteArray) : toBA x.data.toList = x := by apply ByteArray.ext; simp [toBA]
theorem toBA_inj {a b : List UInt8} (h : toBA a = toBA b) : a = b := by rw [← toBA_list a, h, toBA_list]
theorem strKeys_has {H : Type} {P : Program} {k : TypeId} {R : Value → Option (DataW H × List MemPlace)} {w : World} {b n : Nat} {D : DataW H} (hown : w.ownsMap P k R b n D) (K : Keyed P k) (hk : P.underlying k = some .string) : (strKeys D).Nodup ∧ ∀ x, x ∈ strKeys D ↔ Maps.has D (.string x) = true := by
  obtain ⟨es, hD, hpw, _⟩ := hown.entries K
  obtain ⟨es', hD', hko⟩ := hown.keysOf
  obtain rfl : es = es' := by rw [hD] at hD'; simpa using hD'
  subst hD
  have hs : ∀ p ∈ es, ∃ x, p.1 = .string x := fun p hp => by obtain ⟨v, hv⟩ := hko p hp; obtain ⟨x, _, hx, _⟩ := Maps.keyOf_str hk hv; exact ⟨x, hx⟩
  constructor
  · show (es.map fun p => strOf p.1).Nodup
    refine List.pairwise_map.2 (hpw.imp_of_mem fun {p q} hp' hq' hne e => hne ?_)
    obtain ⟨a, ha⟩ := hs p hp'
    obtain ⟨b, hb⟩ := hs q hq'
    rw [ha, hb] at e ⊢
    exact congrArg _ e
  · intro x
    rw [has_eq, List.any_eq_true]
    show x ∈ es.map (fun p => strOf p.1) ↔ _
    rw [List.mem_map]
    constructor
    · rintro ⟨p, hp', rfl⟩
      obtain ⟨a, ha⟩ := hs p hp'
      exact ⟨p, hp', by rw [ha]; simp [Lit.sameKey, strOf]⟩
    · rintro ⟨p, hp', hx⟩
      obtain ⟨a, ha⟩ := hs p hp'
      rw [ha] at hx
      exact ⟨p, hp', by rw [ha]; simpa [Lit.sameKey, strOf] using hx⟩
theorem sorted_srt (ss : List (List UInt8)) (h : ss.Nodup) : Srt ((ss.mergeSort leB).map toBA) := by
  have tr : ∀ a b c : List UInt8, leB a b = true → leB b c = true → leB a c = true := fun a b c h1 h2 => by simp only [leB, decide_eq_true_eq] at *; exact List.le_trans h1 h2
  have to' : ∀ a b : List UInt8, (leB a b || leB b a) = true := fun a b => by simp only [leB, Bool.or_eq_true, decide_eq_true_eq]; exact List.le_total a b
  have h1 := List.pairwise_mergeSort tr to' ss
  have h2 : (ss.mergeSort leB).Nodup := (List.mergeSort_perm ss leB).nodup_iff.2 h
  unfold Srt
  rw [List.pairwise_map]
  refine (h1.and h2).imp fun {a b} hab => ?_
  obtain ⟨ha, hb⟩ := hab
  rw [ltS_iff, toBA_list, toBA_list]
  simp only [leB, decide_eq_true_eq] at ha
  by_cases e : a < b
  · exact e
  · exact absurd (List.le_antisymm ha (List.not_lt.1 e)) hb

/-- the keys of a map, rising, in a row -/
def KyP {β : Type} (F : ByteArray → Option β) (nn : Nat) (w : World) (e : Ending) (w' : World) : Prop :=
  ∃ A c keys, e = .returned (.slice A (List.length keys) c) ∧ Srt keys ∧ (∀ x ∈ keys, x.size ≤ maxLen) ∧ (∀ x, x.size ≤ maxLen → (x ∈ keys ↔ (F x).isSome = true)) ∧ keys.length ≤ nn ∧ Ow w' w.heap.size (.slice A keys.length c) keys ∧ Below w.heap.size w w'
theorem keys_of {β : Type} {E : ElC β} {w w' : World} {b nn : Nat} {F : ByteArray → Option β} {D : DataW Unit} (hown : w.ownsMap Tryz.prog 9 E.R b nn D) (hR : Rd nmC E D F) {v : Value} {ss : List (List UInt8)} (hP : ss.Perm (strKeys D)) {base : Nat} (hrow : w'.ownsRow base 9 1 v ss.length ((ss.mergeSort (fun x y => decide (x ≤ y))).map encStr)) (hbs : w.heap.size ≤ base) (hb : Below w.heap.size w w') : KyP F nn w (.returned v) w' := by
  have hsz := hown.size_le
  obtain ⟨hnd, hmem⟩ := strKeys_has hown nmC.law Tryz.underlying9
  have hssn : ss.Nodup := hP.nodup_iff.2 hnd
  have hkl : ((ss.mergeSort leB).map toBA).length = ss.length := by simp
  have hmm : ∀ x, x ∈ (ss.mergeSort leB).map toBA ↔ x.data.toList ∈ strKeys D := by
    intro x
    rw [List.mem_map]
    constructor
    · rintro ⟨y, hy, rfl⟩
      have := hP.mem_iff.1 ((List.mergeSort_perm ss leB).mem_iff.1 hy)
      simpa [toBA] using this
    · intro hx
      exact ⟨x.data.toList, (List.mergeSort_perm ss leB).mem_iff.2 (hP.mem_iff.2 hx), toBA_of x⟩
  have hln : ss.length ≤ nn := by
    have h1 : ss.length = (strKeys D).length := hP.length_eq
    have h2 : (strKeys D).length = Maps.size D := by
      obtain ⟨es, rfl⟩ := hR.isMap
      show (es.map fun p => strOf p.1).length = _
      simp [Maps.size]
    omega
  have hrow' : w'.ownsRow base 9 1 v ((ss.mergeSort leB).map toBA).length (((ss.mergeSort leB).map toBA).map Value.string) := by
    rw [hkl, List.map_map]
    exact hrow
  obtain ⟨A, c, rfl, hs⟩ := sr_of_row rfl hrow'
  refine ⟨A, c, _, rfl, sorted_srt ss hssn, ?_, ?_, by rw [hkl]; exact hln, ownsRow_base hbs hrow', hb⟩
  · intro x hx
    have := strKeys_le hown Tryz.underlying9 _ ((hmm x).1 hx)
    rw [Array.length_toList] at this
    exact this
  · intro x hx
    rw [hmm x, hmem]
    have := hR.has x hx
    exact ⟨fun h => this.symm.trans h, fun h => this.trans h⟩
theorem keysB_fn (mb : Option Nat) (W : World) : Calls Tryz.prog 59 #[.map mb] W fun e w' => e = .returned (.func (.func 89) #[] #[.pointer (some ⟨W.heap.size, 0, none⟩)]) ∧ w' = W.alloc (.cells #[.map mb] 135) :=
  callsIn_wide.1 (Tryz.maps_Keys_59 mb W)
theorem sortedB_r (w : World) (b nn : Nat) (F : ByteArray → Option Bool) (hM : Mp nmC bE w b nn F) (hN : nn ≤ 1000000) :
    Calls Tryz.prog 30 #[.func (.func 89) #[] #[.pointer (some ⟨w.heap.size, 0, none⟩)]] (w.alloc (.cells #[.map (some b)] 135)) fun e w' => KyP F nn w e w' := by
  obtain ⟨D, hown, hR⟩ := hM
  have hsz := hown.size_le
  refine (callsIn_wide.1 (Tryz.slices_Sorted_keys_30_59 b nn D _ w hown (by unfold maxLen; omega) (by omega))).mono ?_
  rintro e w' ⟨v, ss, rfl, hP, hrow, hnil, hb⟩
  exact keys_of hown hR hP hrow (by simp) (((Below.refl _ w).alloc (Nat.le_refl _) _).trans (hb.mono (by simp)))
theorem keysL_fn (mb : Option Nat) (W : World) : Calls Tryz.prog 31 #[.map mb] W fun e w' => e = .returned (.func (.func 64) #[] #[.pointer (some ⟨W.heap.size, 0, none⟩)]) ∧ w' = W.alloc (.cells #[.map mb] 71) :=
  callsIn_wide.1 (Tryz.maps_Keys_31 mb W)
theorem sortedL_r {β : Type} (E : ElC β) (w : World) (b nn : Nat) (F : ByteArray → Option β) (hM : Mp nmC E w b nn F) (hN : nn ≤ 1000000) :
    Calls Tryz.prog 30 #[.func (.func 64) #[] #[.pointer (some ⟨w.heap.size, 0, none⟩)]] (w.alloc (.cells #[.map (some b)] 71)) fun e w' => KyP F nn w e w' := by
  obtain ⟨D, hown, hR⟩ := hM
  have hsz := hown.size_le
  refine (callsIn_wide.1 (Tryz.slices_Sorted_keys_30_31 b nn D _ w hown (by unfold maxLen; omega) (by omega))).mono ?_
  rintro e w' ⟨v, ss, rfl, hP, hrow, hnil, hb⟩
  exact keys_of hown hR hP hrow (by simp) (((Below.refl _ w).alloc (Nat.le_refl _) _).trans (hb.mono (by simp)))
end Go.Proofs.YtdinloecgaapaaaGreatDoor
namespace Go.Proofs.YtdinloecgaapaaaGreatDoor
open Go.RowKit Go.Maps Go.Lib Go.Sort
set_option linter.unusedVariables false
set_option maxRecDepth 100000

theorem toldB_some {G : ByteArray → Option (Option Nat)} {S : Nat → Option En} {p : En → Bool} {k : ByteArray} {e : Nat} {x : En} (hG : G k = some (some e)) (hS : S e = some x) : toldB G S p k = p x := by
  unfold toldB
  rw [hG]
  simp only
  rw [hS]
theorem toldB_is {G : ByteArray → Option (Option Nat)} {S : Nat → Option En} {p : En → Bool} {k : ByteArray} (h : toldB G S p k = true) : (G k).isSome = true := by
  unfold toldB at h
  cases hG : G k with
  | none => rw [hG] at h; cases h
  | some v => rfl
set_option maxHeartbeats 8000000 in
theorem numbers_r (base r N b n : Nat) (ca : ByteArray) (G : ByteArray → Option (Option Nat)) (S : Nat → Option En) (p : En → Bool) (g : FuncId) (cap : Array Value) (w : World) (hR : RgS w base r ca N b n G S) (hn : n ≤ 10000)
    (eg : ∀ args w, (callFunc g args).run Tryz.prog w = .ok (.enter g args) w)
    (hT : ∀ e x, S e = some x → ∀ W, Below w.heap.size w W → Calls Tryz.prog g (#[.pointer (some ⟨e, 0, none⟩)] ++ cap) W fun en w' => en = .returned (.bool (p x)) ∧ Below W.heap.size W w') :
    Calls Tryz.prog 56 #[.pointer (some ⟨r, 0, none⟩), .func (.func g) #[] cap] w fun e w' => NumP G S p n w e w' := by
  obtain ⟨k0, k1⟩ := hR.cell
  have hM := hR.map
  have hmb := hM.lt
  have HEnt := Lib.hid hR.ent
  have HT := Lib.hid hT
  have hbr : b ≠ r := by
    rintro rfl
    obtain ⟨es, ck, hm⟩ := hM.map?
    rw [hR.reg] at hm
    cases hm
  have HSort : Hid (∀ (W : World) (A : Option Addr) (c : Nat) (L : List ByteArray), Ow W (w.heap.size + 1) (.slice A L.length c) L → w.heap.size + 1 ≤ W.heap.size → L.length ≤ n → (∀ k, k ∈ L ↔ toldB G S p k = true) → Below w.heap.size w W →
      Calls Tryz.prog 63 #[.slice A L.length c] W fun e w' => e = .returned (.tuple #[]) ∧ NumP G S p n w (.returned (.slice A L.length c)) w') := Lib.hid (fun W A c L hL hs hl hok hb => by
    refine (sort_r (w.heap.size + 1) A c L W hL hs (by omega)).mono ?_
    rintro e w' ⟨rfl, L', h1, h2, h3, h4⟩
    exact ⟨rfl, A, c, L', by rw [h1], h3, fun k => (h2 k).trans (hok k), by omega, hb.trans (h4.mono (by omega))⟩)
  clear hR hT
  generalize hCP : NumP G S p n w = CP
  go_enter Tryz.func56, Tryz.ntmps56
  go_wp2_with (first
    | (at_range; refine wpList_range_mp _ rfl _ 113 rfl 124 Tryz.underlying113 b n G rfl hM ?_; intro w4 hrg4 hg4 hs4)
    | go_in)
  try go_frame
  rw [hCP] at HSort
  clear hCP
  obtain ⟨cnt4, hrg4⟩ := hrg4
  have hc4 := cntM_le hrg4
  have HB4 : Hid (Below w.heap.size w w4) := Lib.hid ((Below.refl _ _).grown hg4 (Nat.le_refl _) (fun j hj => by cases hj))
  go_loopw [5] (fun v wr => ∃ lf cnt A c L, Rn' nmC ptE wr b w.heap.size n G lf cnt ∧ (List.length L) + cnt ≤ n ∧ v = .slice A L.length c ∧ Hid (Ow wr (w.heap.size + 1) (.slice A L.length c) L) ∧ Hid (∀ k, k ∈ L ↔ (toldB G S p k = true ∧ lf k = false)) ∧ Hid (Below w.heap.size w wr)) (fun _ wr => wr.rangeLeft b w.heap.size)
  case atStart => exact ⟨_, cnt4, none, 0, [], hrg4, by simpa using hc4, rfl, Lib.hid (Ow.nil _ _), Lib.hid (fun k => ⟨fun h => by simp at h, fun h => by have := toldB_is h.1; rw [h.2] at this; cases this⟩), HB4⟩
  case round =>
    clear hM hg4 hs4 hrg4 HB4 hc4
    obtain ⟨lf, cnt, A, c, L, hrg, hcn, rfl, HL, HOk, HB⟩ := hrel
    have hrs := hrg.lt
    go_wp2_with (first
      | (at_next; refine wpList_next_pt _ rfl _ rfl b w.heap.size n G lf cnt rfl hrg ?_ ?_)
      | go_in)
    · intro hdone
      have HS := Lib.hid (HSort.out wr A c L HL.out (by omega) (by omega) (fun k => (HOk.out k).trans ⟨fun h => h.1, fun h => ⟨h, by
        have := toldB_is h
        cases hG : G k with
        | none => rw [hG] at this; cases this
        | some v => exact hdone k (by have := (HEnt.out k v hG).1; unfold maxLen; omega)⟩⟩) HB.out)
      clear hdone hrg
      go_wp2_with (first
        | (go_at_call 63; (with_reducible refine HS.out.mono ?_); rintro e w5 ⟨rfl, hF⟩; have HF := Lib.hid hF; clear hF)
        | fail)
      first
        | exact HF.out
        | (go_ret; exact HF.out)
    · intro x v w7 cnt7 hx hlx hGx hrg7 hlt7 hg7 hs7 hen
      obtain ⟨hx16, e, xE, rfl, hSe⟩ := HEnt.out x v hGx
      have hen' : (Instr.entry (.pointer (some ⟨w.heap.size, 0, none⟩))).run Tryz.prog w7 = .ok (.tuple #[.string x, .pointer (some ⟨e, 0, none⟩)]) w7 := hen
      have Hlft := Lib.hid hrg.left_eq
      have hne : ∀ q, (Value.slice A L.length c).ownBlock = some q → w.heap.size + 1 ≤ q := fun q hq => (HL.out.lt hq).1
      have HL7 : Ow w7 (w.heap.size + 1) (.slice A L.length c) L := HL.out.keep fun q hq => hg7.block q (HL.out.lt hq).2 (fun e => by have := hne q hq; injection e with e; omega)
      have hB7 : Below w.heap.size w w7 := HB.out.grown hg7 (by omega) (fun j hj => by injection hj with hj; omega)
      have HTk := Lib.hid (HT.out e xE hSe w7 hB7)
      have htold : toldB G S p x = p xE := toldB_some hGx hSe
      have HRg7 := Lib.hid hrg7
      have HB7 := Lib.hid hB7
      have HLL := Lib.hid HL7
      have HX : Hid (lf x = true) := Lib.hid hlx
      clear hg7 HL7 hB7 hen hGx hSe hlx hrg7 hrg HB HL HT
      cases hp : p xE with
      | false =>
        rw [hp] at HTk htold
        have HOk2 : Hid (∀ k, k ∈ L ↔ (toldB G S p k = true ∧ (lf k && !decide (k = x)) = false)) := Lib.hid (fun k => by
          rw [HOk.out k]
          by_cases hk : k = x
          · subst hk
            rw [htold]
            simp
          · simp [hk])
        clear htold HOk
        go_wp2_with (first
          | (go_at_fn g; refine HTk.out.mono ?_; rintro en w8 ⟨rfl, hb8⟩; have HB8 := Lib.hid hb8; clear hb8)
          | fail)
        have hrg8 := HRg7.out.kept (grown_below HB8.out none) (by simp) (by simp)
        have hs8 : w8.rangeLeft b w.heap.size = cnt7 := hrg8.left_eq
        have HL8 : Hid (Ow w8 (w.heap.size + 1) (.slice A L.length c) L) := Lib.hid (HLL.out.keep fun q hq => HB8.out.block q (HLL.out.lt hq).2)
        have HBw8 := Lib.hid (HB7.out.trans (HB8.out.mono HB7.out.size))
        go_roundw
        case rel => exact ⟨_, cnt7, A, c, L, hrg8, by omega, rfl, HL8, HOk2, HBw8⟩
        case measure => rw [hs8, Hlft.out]; exact hlt7
      | true =>
        rw [hp] at HTk htold
        have HOk2 : Hid (∀ k, k ∈ L ++ [x] ↔ (toldB G S p k = true ∧ (lf k && !decide (k = x)) = false)) := Lib.hid (fun k => by
          rw [List.mem_append, HOk.out k, List.mem_singleton]
          by_cases hk : k = x
          · subst hk
            simp [htold]
          · simp [hk])
        clear htold HOk
        have HMo : Hid (∀ W, Below w7.heap.size w7 W → ∃ A' c' w9, (Builtin.append_ #[22, 22] 22 #[.slice A L.length c, .slice (some ⟨W.heap.size, 0, none⟩) 1 1]).run Tryz.prog (W.alloc (.cells #[.string x] 9)) = .ok (.slice A' (L.length + 1) c') w9 ∧ Hid (Ow w9 (w.heap.size + 1) (.slice A' (L.length + 1) c') (L ++ [x])) ∧ Hid (Below w.heap.size w w9) ∧ Rn' nmC ptE w9 b w.heap.size n G (fun z => lf z && !decide (z = x)) cnt7) := Lib.hid (fun W hb => by
          have hB := HB7.out.trans (hb.mono HB7.out.size)
          have hLW : Ow W (w.heap.size + 1) (.slice A L.length c) L := HLL.out.keep fun q hq => hb.block q (HLL.out.lt hq).2
          have hsW : w.heap.size + 1 ≤ W.heap.size := by have := hb.size; omega
          obtain ⟨A', c', w9, h1, h2, h3⟩ := hLW.more x (by omega) hsW
          have hr8 := HRg7.out.kept (grown_below hb none) (by simp) (by simp)
          exact ⟨A', c', w9, h1, Lib.hid h2, Lib.hid ((hB.alloc hB.size _).grown h3 (by simp; omega) (fun j hj => by have := hne j hj; omega)), (hr8.alloc _).kept h3 (fun e => by have := hne b e.symm; omega) (fun e => by have := hne _ e.symm; omega)⟩)
        go_wp2_with (first
          | (go_at_fn g; refine HTk.out.mono ?_; rintro en w8 ⟨rfl, hb8⟩; obtain ⟨A9, c9, w9, hrn, HL9, HB9, hrg9⟩ := HMo.out w8 hb8; clear hb8 HMo)
          | (at_builtin; refine Lib.wpList_append_run _ rfl _ _ _ _ rfl _ _ rfl rfl _ _ hrn ?_)
          | fail)
        have hs9 : w9.rangeLeft b w.heap.size = cnt7 := hrg9.left_eq
        have hlen : (L ++ [x]).length = L.length + 1 := by simp
        go_roundw
        case rel => exact ⟨_, cnt7, A9, c9, L ++ [x], hrg9, by rw [hlen]; omega, by rw [hlen], Lib.hid (by rw [hlen]; exact HL9.out), HOk2, HB9⟩
        case measure => rw [hs9, Hlft.out]; exact hlt7
end Go.Proofs.YtdinloecgaapaaaGreatDoor
