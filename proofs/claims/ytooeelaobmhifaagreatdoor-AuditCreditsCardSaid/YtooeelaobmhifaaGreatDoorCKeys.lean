/- slices.Sorted(maps.Keys(takes)): the map's keys, rising. -/
import Derived.Test.YtooeelaobmhifaaGreatDoorMPlain
import Derived.Test.YtooeelaobmhifaaGreatDoorMZ
import Derived.Test.YtooeelaobmhifaaGreatDoorASame
import Derived.Test.YtooeelaobmhifaaGreatDoorALine
namespace Go.Proofs.YtooeelaobmhifaaGreatDoor
open Go.RowKit Go.Maps Go.Lib Go.Sort
set_option linter.unusedVariables false
set_option maxRecDepth 100000

/-- the counts' elements -/
noncomputable def cntE : ElC Int := intE Tryz.prog 3 Tryz.underlying3
def toBA (l : List UInt8) : ByteArray := ⟨l.toArray⟩
theorem toBA_list (l : List UInt8) : (toBA l).toList = l := by rw [ByteArray.toList_eq]; simp [toBA]
theorem toBA_of (x : ByteArray) : toBA x.data.toList = x := by apply ByteArray.ext; simp [toBA]
theorem toBA_inj {a b : List UInt8} (h : toBA a = toBA b) : a = b := by rw [← toBA_list a, h, toBA_list]
theorem strKeys_has {H : Type} {P : Program} {k : TypeId} {R : Value → Option (DataW H × List MemPlace)} {w : World} {b n : Nat} {D : DataW H} (hown : w.ownsMap P k R b n D) (K : Keyed P k) (hk : P.underlying k = some .string) : (strKeys D).Nodup ∧ ∀ x, x ∈ strKeys D ↔ Maps.has D (.string x) = true := by
  obtain ⟨es, hD, hpw, _⟩ := hown.entries K
  obtain ⟨es', hD', hko⟩ := hown.keysOf
  obtain rfl : es = es' := by rw [hD] at hD'; simpa using hD'
  subst hD
  have hs : ∀ p ∈ es, ∃ x, p.1 = .string x := fun p hp => by obtain ⟨v, hv⟩ := hko p hp; obtain ⟨x, _, hx, _⟩ := Maps.keyOf_str hk hv; exact ⟨x, hx⟩
  constructor
  · show (es.map fun p => strOf p.1).Nodup
    refine List.pairwise_map.2 (hpw.imp_of_mem fun {p q} hp' hq' hne e => hne ?_)
    obtain ⟨a, ha⟩ := hs p hp'
    obtain ⟨b, hb⟩ := hs q hq'
    rw [ha, hb] at e ⊢
    exact congrArg _ e
  · intro x
    rw [has_eq, List.any_eq_true]
    show x ∈ es.map (fun p => strOf p.1) ↔ _
    rw [List.mem_map]
    constructor
    · rintro ⟨p, hp', rfl⟩
      obtain ⟨a, ha⟩ := hs p hp'
      exact ⟨p, hp', by rw [ha]; simp [Lit.sameKey, strOf]⟩
    · rintro ⟨p, hp', hx⟩
      obtain ⟨a, ha⟩ := hs p hp'
      rw [ha] at hx
      exact ⟨p, hp', by rw [ha]; simpa [Lit.sameKey, strOf] using hx⟩
theorem sorted_srt (ss : List (List UInt8)) (h : ss.Nodup) : Srt ((ss.mergeSort leB).map toBA) := by
  have tr : ∀ a b c : List UInt8, leB a b = true → leB b c = true → leB a c = true := fun a b c h1 h2 => by simp only [leB, decide_eq_true_eq] at *; exact List.le_trans h1 h2
  have to' : ∀ a b : List UInt8, (leB a b || leB b a) = true := fun a b => by simp only [leB, Bool.or_eq_true, decide_eq_true_eq]; exact List.le_total a b
  have h1 := List.pairwise_mergeSort tr to' ss
  have h2 : (ss.mergeSort leB).Nodup := (List.mergeSort_perm ss leB).nodup_iff.2 h
  unfold Srt
  rw [List.pairwise_map]
  refine (h1.and h2).imp fun {a b} hab => ?_
  obtain ⟨ha, hb⟩ := hab
  rw [ltS_iff, toBA_list, toBA_list]
  simp only [leB, decide_eq_true_eq] at ha
  by_cases e : a < b
  · exact e
  · exact absurd (List.le_antisymm ha (List.not_lt.1 e)) hb

theorem keys_fn (mb : Option Nat) (W : World) : Calls Tryz.prog 27 #[.map mb] W fun e w' => e = .returned (.func (.func 46) #[] #[.pointer (some ⟨W.heap.size, 0, none⟩)]) ∧ w' = W.alloc (.cells #[.map mb] 64) :=
  callsIn_wide.1 (Tryz.maps_Keys_27 mb W)
theorem sortedKeys_any (w : World) (b nn : Nat) (F : ByteArray → Option Int) (hM : Mp curC cntE w b nn F) (hN : nn ≤ 1000000) :
    Calls Tryz.prog 26 #[.func (.func 46) #[] #[.pointer (some ⟨w.heap.size, 0, none⟩)]] (w.alloc (.cells #[.map (some b)] 64)) fun e w' =>
      ∃ A c keys, e = .returned (.slice A (List.length keys) c) ∧ Srt keys ∧ (∀ x ∈ keys, curC.ok x) ∧ (∀ x, curC.ok x → (x ∈ keys ↔ (F x).isSome = true)) ∧ keys.length ≤ nn ∧ Rs w' w'.heap.size A keys ∧ Below w.heap.size w w' := by
  obtain ⟨D, hown, hR⟩ := hM
  have hsz := hown.size_le
  obtain ⟨hnd, hmem⟩ := strKeys_has hown curC.law Tryz.underlying9
  refine (callsIn_wide.1 (Tryz.slices_Sorted_keys_26_27 b nn D _ w hown (by unfold maxLen; omega) (by omega))).mono ?_
  rintro e w' ⟨v, ss, rfl, hP, hrow, hnil, hb⟩
  have hssn : ss.Nodup := hP.nodup_iff.2 hnd
  have hkl : ((ss.mergeSort leB).map toBA).length = ss.length := by simp
  have hmm : ∀ x, x ∈ (ss.mergeSort leB).map toBA ↔ x.data.toList ∈ strKeys D := by
    intro x
    rw [List.mem_map]
    constructor
    · rintro ⟨y, hy, rfl⟩
      have := hP.mem_iff.1 ((List.mergeSort_perm ss leB).mem_iff.1 hy)
      simpa [toBA] using this
    · intro hx
      exact ⟨x.data.toList, (List.mergeSort_perm ss leB).mem_iff.2 (hP.mem_iff.2 hx), toBA_of x⟩
  have hbb : Below w.heap.size w w' := ((Below.refl _ w).alloc (Nat.le_refl _) _).trans (hb.mono (by simp))
  have hln : ss.length ≤ nn := by
    have h1 : ss.length = (strKeys D).length := hP.length_eq
    have h2 : (strKeys D).length = Maps.size D := by
      obtain ⟨es, rfl⟩ := hR.isMap
      show (es.map fun p => strOf p.1).length = _
      simp [Maps.size]
    omega
  have hrow' : w'.ownsRow (w.alloc (.cells #[.map (some b)] 64)).heap.size 9 1 v ((ss.mergeSort leB).map toBA).length (((ss.mergeSort leB).map toBA).map Value.string) := by
    rw [hkl, List.map_map]
    exact hrow
  refine ⟨(match v with | .slice A _ _ => A | _ => none), (match v with | .slice _ _ c => c | _ => 0), (ss.mergeSort leB).map toBA, ?_, sorted_srt ss hssn, ?_, ?_, by rw [hkl]; exact hln, ?_, hbb⟩
  · rcases hrow'.2 with ⟨rfl, h0⟩ | ⟨g, cap, cur, rfl, _⟩
    · simp only [h0]
    · rfl
  · intro x hx
    have := strKeys_le hown Tryz.underlying9 _ ((hmm x).1 hx)
    show x.size ≤ maxLen
    rw [Array.length_toList] at this
    exact this
  · intro x hx
    rw [hmm x, hmem]
    have := hR.has x hx
    exact ⟨fun h => this.symm.trans h, fun h => this.trans h⟩
  · rcases hrow'.2 with ⟨rfl, h0⟩ | ⟨g, cap, cur, rfl, _⟩
    · intro h
      omega
    · exact Rs.of_row hrow'
end Go.Proofs.YtooeelaobmhifaaGreatDoor
