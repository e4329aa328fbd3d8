/- Texts that rise: what Put makes of them; two such rows of the same texts are one. What audit.Credits and ref56.Credits say is one: the parts of it. The plain law: audit's lines of credits are ref's. -/
import Derived.Test.YtooeelaobmhifaaGreatDoorCRefP
import Derived.Sort.Walk0
import Derived.Test.YtooeelaobmhifaaGreatDoorAShelf
namespace Go.Proofs.YtooeelaobmhifaaGreatDoor
open Go.RowKit Go.Maps Go.Lib
set_option linter.unusedVariables false

theorem ltS_iff (x y : ByteArray) : ltS x y = true ↔ x.toList < y.toList := by
  unfold ltS
  rw [bytesLess_eq, decide_eq_true_iff]
theorem ltS_irrefl (x : ByteArray) : ltS x x = false := by
  rw [Bool.eq_false_iff, Ne, ltS_iff]
  exact List.lt_irrefl _
theorem ltS_trans {x y z : ByteArray} (h : ltS x y = true) (k : ltS y z = true) : ltS x z = true := by
  rw [ltS_iff] at *
  exact List.lt_trans h k
theorem ltS_asymm {x y : ByteArray} (h : ltS x y = true) (k : ltS y x = true) : False := by
  have := ltS_trans h k
  rw [ltS_irrefl] at this
  cases this
theorem tl_inj {x y : ByteArray} (h : x.toList = y.toList) : x = y := by
  rw [ByteArray.toList_eq, ByteArray.toList_eq] at h
  exact ByteArray.ext (Array.ext' h)
theorem ltS_total {x y : ByteArray} (h : ltS x y = false) (hne : x ≠ y) : ltS y x = true := by
  rw [ltS_iff]
  have h1 : ¬ x.toList < y.toList := by rw [← ltS_iff, h]; simp
  have h2 : y.toList ≤ x.toList := List.not_lt.1 h1
  by_cases h4 : y.toList < x.toList
  · exact h4
  · have h3 : x.toList ≤ y.toList := List.not_lt.1 h4
    exact absurd (tl_inj (List.le_antisymm h3 h2)) hne
def Srt (L : List ByteArray) : Prop := L.Pairwise fun a b => ltS a b = true
theorem inS_iff (L : List ByteArray) (s : ByteArray) : inS L s = true ↔ s ∈ L := by
  unfold inS
  rw [List.any_eq_true]
  constructor
  · rintro ⟨x, hx, e⟩
    rw [beq_iff_eq] at e
    rw [← tl_inj e]
    exact hx
  · intro h
    exact ⟨s, h, by simp⟩
theorem putL_has (s : ByteArray) : ∀ (L : List ByteArray) (x : ByteArray), x ∈ putL s L ↔ x = s ∨ x ∈ L
  | [], x => by simp [putL]
  | y :: l, x => by
    unfold putL
    split
    · rw [List.mem_cons, putL_has s l x, List.mem_cons]
      constructor
      · rintro (h | h | h)
        · exact .inr (.inl h)
        · exact .inl h
        · exact .inr (.inr h)
      · rintro (h | h | h)
        · exact .inr (.inl h)
        · exact .inl h
        · exact .inr (.inr h)
    · rw [List.mem_cons]
theorem putL_srt (s : ByteArray) : ∀ (L : List ByteArray), Srt L → s ∉ L → Srt (putL s L)
  | [], _, _ => by simp [putL, Srt]
  | y :: l, h, hs => by
    have hh := List.pairwise_cons.1 h
    have hsy : s ≠ y := fun e => hs (by simp [e])
    have hsl : s ∉ l := fun e => hs (by simp [e])
    unfold putL
    split
    · rename_i hy
      refine List.pairwise_cons.2 ⟨fun z hz => ?_, putL_srt s l hh.2 hsl⟩
      rcases (putL_has s l z).1 hz with rfl | hz
      · exact hy
      · exact hh.1 z hz
    · rename_i hy
      have hy' : ltS s y = true := ltS_total (by simpa using hy) (fun e => hsy e.symm)
      refine List.pairwise_cons.2 ⟨fun z hz => ?_, h⟩
      rcases List.mem_cons.1 hz with rfl | hz
      · exact hy'
      · exact ltS_trans hy' (hh.1 z hz)
theorem putS_srt {L : List ByteArray} (h : Srt L) (s : ByteArray) : Srt (putS L s) := by
  unfold putS
  split
  · exact h
  · rename_i hn
    exact putL_srt s L h (fun e => hn ((inS_iff L s).2 e))
theorem putS_has (L : List ByteArray) (s x : ByteArray) : x ∈ putS L s ↔ x = s ∨ x ∈ L := by
  unfold putS
  split
  · rename_i hi
    rw [inS_iff] at hi
    constructor
    · exact .inr
    · rintro (rfl | h)
      · exact hi
      · exact h
  · exact putL_has s L x
theorem idsOf_srt_has (l : List ByteArray) : Srt (idsOf l) ∧ ∀ x, x ∈ idsOf l ↔ ∃ t ∈ l, isCr t = true ∧ x = idOf t := by
  induction l using List.reverseRecOn' with
  | nil => exact ⟨List.Pairwise.nil, by simp [idsOf]⟩
  | snoc l t ih =>
    have e : idsOf (l ++ [t]) = if isCr t then putS (idsOf l) (idOf t) else idsOf l := by simp [idsOf]
    rw [e]
    cases hc : isCr t with
    | true =>
      rw [if_pos rfl]
      refine ⟨putS_srt ih.1 _, fun x => ?_⟩
      rw [putS_has, ih.2 x]
      constructor
      · rintro (rfl | ⟨u, hu, h1, h2⟩)
        · exact ⟨t, by simp, hc, rfl⟩
        · exact ⟨u, by simp [hu], h1, h2⟩
      · rintro ⟨u, hu, h1, h2⟩
        rcases List.mem_append.1 hu with hu | hu
        · exact .inr ⟨u, hu, h1, h2⟩
        · rw [List.mem_singleton] at hu
          subst hu
          exact .inl h2
    | false =>
      refine ⟨ih.1, fun x => ?_⟩
      rw [if_neg (by simp), ih.2 x]
      constructor
      · rintro ⟨u, hu, h1, h2⟩
        exact ⟨u, by simp [hu], h1, h2⟩
      · rintro ⟨u, hu, h1, h2⟩
        rcases List.mem_append.1 hu with hu | hu
        · exact ⟨u, hu, h1, h2⟩
        · rw [List.mem_singleton] at hu
          subst hu
          rw [hc] at h1
          cases h1
/-- two rows that rise and have the same texts are one -/
theorem srt_unique : ∀ (L M : List ByteArray), Srt L → Srt M → (∀ x, x ∈ L ↔ x ∈ M) → L = M
  | [], [], _, _, _ => rfl
  | [], y :: M, _, _, h => by have := (h y).2 (by simp); simp at this
  | x :: L, [], _, _, h => by have := (h x).1 (by simp); simp at this
  | x :: L, y :: M, hL, hM, h => by
    have h1 := List.pairwise_cons.1 hL
    have h2 := List.pairwise_cons.1 hM
    have hxy : x = y := by
      rcases List.mem_cons.1 ((h x).1 (by simp)) with e | e
      · exact e
      · rcases List.mem_cons.1 ((h y).2 (by simp)) with e' | e'
        · exact e'.symm
        · exact (ltS_asymm (h2.1 x e) (h1.1 y e')).elim
    subst hxy
    congr 1
    refine srt_unique L M h1.2 h2.2 (fun z => ?_)
    constructor
    · intro hz
      rcases List.mem_cons.1 ((h z).1 (by simp [hz])) with e | e
      · subst e
        have := h1.1 z hz
        rw [ltS_irrefl] at this
        cases this
      · exact e
    · intro hz
      rcases List.mem_cons.1 ((h z).2 (by simp [hz])) with e | e
      · subst e
        have := h2.1 z hz
        rw [ltS_irrefl] at this
        cases this
      · exact e
end Go.Proofs.YtooeelaobmhifaaGreatDoor
namespace Go.Proofs.YtooeelaobmhifaaGreatDoor
open Go.RowKit Go.Maps Go.Lib
set_option linter.unusedVariables false
set_option maxRecDepth 100000

theorem join_twice (name id : ByteArray) : (⟨(Lib.join ([name, id, ⟨#[116, 119, 105, 99, 101]⟩].map (·.data.toList)) [32]).toArray⟩ : ByteArray) = twiceT name id := by
  apply ByteArray.ext
  simp [twiceT, Lib.join, ByteArray.data_append]
theorem join_both (name id : ByteArray) : (⟨(Lib.join ([name, id, ⟨#[98, 111, 116, 104]⟩].map (·.data.toList)) [32]).toArray⟩ : ByteArray) = bothT name id := by
  apply ByteArray.ext
  simp [bothT, Lib.join, ByteArray.data_append]
theorem ext_list (t : ByteArray) (a b : Nat) : (t.extract a b).toList = (t.data.toList.drop a).take (b - a) := by
  rw [ByteArray.toList_eq, ByteArray.data_extract, Array.toList_extract, List.extract_eq_take_drop]
theorem idOf_list (t : ByteArray) : (idOf t).toList = t.data.toList.drop 5 := by
  unfold idOf
  rw [ext_list, List.take_of_length_le]
  rw [List.length_drop, Array.length_toList]
  exact Nat.le_refl _
theorem idOf_is (t : ByteArray) : idOf t = ⟨(t.data.toList.drop 5).toArray⟩ := by
  apply tl_inj
  rw [idOf_list, ByteArray.toList_eq]
theorem isCr_is (t : ByteArray) : isCr t = (Lib.hasPrefix t.data.toList [116, 97, 107, 101, 32] && Lib.hasPrefix (t.data.toList.drop 5) [99, 114, 101, 100, 105, 116, 58]) := by
  unfold isCr
  rw [ext_list, List.drop_zero]
  have hs : t.size = t.data.toList.length := (Array.length_toList (xs := t.data)).symm
  rw [hs]
  generalize t.data.toList = l
  rw [Bool.eq_iff_iff]
  simp only [Bool.and_eq_true, decide_eq_true_eq, beq_iff_eq, Lib.hasPrefix, List.isPrefixOf_iff_prefix]
  constructor
  · rintro ⟨h1, h2⟩
    have e : l = [116, 97, 107, 101, 32, 99, 114, 101, 100, 105, 116, 58] ++ l.drop 12 := by rw [← h2]; exact (List.take_append_drop 12 l).symm
    rw [e]
    exact ⟨⟨[99, 114, 101, 100, 105, 116, 58] ++ l.drop 12, rfl⟩, ⟨l.drop 12, rfl⟩⟩
  · rintro ⟨⟨r, e⟩, ⟨q, e2⟩⟩
    subst e
    have e3 : r = [99, 114, 101, 100, 105, 116, 58] ++ q := by rw [e2]; rfl
    subst e3
    exact ⟨by simp, rfl⟩
/-- the takes of a text's id, counted by the id -/
theorem isTake_is (id t : ByteArray) (h : isCr (takeX5 id) = true) : isTake id t = (isCr t && decide (idOf t = id)) := by
  unfold isTake
  have htl : (takeX5 id).data.toList = [116, 97, 107, 101, 32] ++ id.data.toList := by simp [takeX5, ByteArray.data_append]
  have hid : idOf (takeX5 id) = id := by
    rw [idOf_is, htl]
    apply ByteArray.ext
    simp
  rw [Bool.eq_iff_iff, beq_iff_eq, Bool.and_eq_true, decide_eq_true_eq]
  constructor
  · intro e
    have := tl_inj e
    subst this
    exact ⟨h, hid⟩
  · rintro ⟨h1, h2⟩
    rw [isCr_is, Bool.and_eq_true] at h1
    have h3 := h1.1
    simp only [Lib.hasPrefix, List.isPrefixOf_iff_prefix] at h3
    obtain ⟨r, e⟩ := h3
    rw [ByteArray.toList_eq, ByteArray.toList_eq, htl, ← e]
    rw [idOf_is, ← e] at h2
    rw [← h2]
    rfl
end Go.Proofs.YtooeelaobmhifaaGreatDoor
namespace Go.Proofs.YtooeelaobmhifaaGreatDoor
open Go.RowKit Go.Maps Go.Lib
set_option linter.unusedVariables false
set_option maxRecDepth 100000

/-- what audit.Credits tells, out of the keys, the counts and the holds of its two maps -/
def auditC (name : ByteArray) (keys : List ByteArray) (cnt : ByteArray → Nat) (held : ByteArray → Bool) : List ByteArray :=
  keys.flatMap fun id => (if 1 < cnt id then [twiceT name id] else []) ++ (if held id then [bothT name id] else [])
theorem bothL_none (name id : ByteArray) : ∀ (hs : List Hd), (∀ h ∈ hs, h.id ≠ id) → bothL name id hs = []
  | [], _ => rfl
  | h :: hs, hn => by
    have h1 : (h.id.toList == id.toList) = false := by
      rw [beq_eq_false_iff_ne]
      exact fun e => hn h (by simp) (tl_inj e)
    have h2 := bothL_none name id hs (fun x hx => hn x (by simp [hx]))
    unfold bothL at h2 ⊢
    rw [List.filterMap_cons, h1]
    simpa using h2
theorem bothL_once (name id : ByteArray) : ∀ (hs : List Hd), (hs.map fun h => h.id).Nodup → (∃ h ∈ hs, h.id = id) → bothL name id hs = [bothT name id]
  | [], _, h => by obtain ⟨x, hx, _⟩ := h; simp at hx
  | h :: hs, hd, hx => by
    rw [List.map_cons] at hd
    have hd' := List.nodup_cons.1 hd
    by_cases e : h.id = id
    · have h1 : (h.id.toList == id.toList) = true := by rw [e]; simp
      have h2 := bothL_none name id hs (fun x hx e2 => hd'.1 (by rw [e, ← e2]; exact List.mem_map_of_mem (f := fun h : Hd => h.id) hx))
      unfold bothL at h2 ⊢
      rw [List.filterMap_cons, h1]
      simp only [if_true]
      rw [h2]
    · have h1 : (h.id.toList == id.toList) = false := by
        rw [beq_eq_false_iff_ne]
        exact fun e2 => e (tl_inj e2)
      have h2 := bothL_once name id hs hd'.2 (by
        obtain ⟨x, hx, ex⟩ := hx
        rcases List.mem_cons.1 hx with rfl | hx
        · exact absurd ex e
        · exact ⟨x, hx, ex⟩)
      unfold bothL at h2 ⊢
      rw [List.filterMap_cons, h1]
      simpa using h2
theorem credits_law (name : ByteArray) (txt : List ByteArray) (hs : List Hd) (keys : List ByteArray) (cnt : ByteArray → Nat) (held : ByteArray → Bool) (hS : Srt keys) (hK : ∀ x, x ∈ keys ↔ ∃ t ∈ txt, isCr t = true ∧ x = idOf t)
    (hC : ∀ id ∈ keys, cnt id = countT txt id) (hd : (hs.map fun h => h.id).Nodup) (hH : ∀ id ∈ keys, held id = true ↔ ∃ h ∈ hs, h.id = id) : auditC name keys cnt held = linesC name txt hs (idsOf txt) := by
  have hk : keys = idsOf txt := srt_unique _ _ hS (idsOf_srt_has txt).1 (fun x => by rw [hK x, (idsOf_srt_has txt).2 x])
  rw [← hk]
  unfold auditC linesC
  suffices h : ∀ (l : List ByteArray), (∀ x ∈ l, x ∈ keys) → (l.flatMap fun id => (if 1 < cnt id then [twiceT name id] else []) ++ (if held id then [bothT name id] else [])) = l.flatMap (lineC name txt hs) from h keys (fun _ hx => hx)
  intro l hl
  induction l with
  | nil => rfl
  | cons id l ih =>
    rw [List.flatMap_cons, List.flatMap_cons, ih (fun x hx => hl x (by simp [hx]))]
    congr 1
    have hm := hl id (by simp)
    unfold lineC
    rw [hC id hm]
    congr 1
    cases hb : held id with
    | true => rw [if_pos rfl, bothL_once name id hs hd ((hH id hm).1 hb)]
    | false =>
      rw [if_neg (by simp)]
      exact (bothL_none name id hs (fun x hx e => by rw [(hH id hm).2 ⟨x, hx, e⟩] at hb; cases hb)).symm
end Go.Proofs.YtooeelaobmhifaaGreatDoor
