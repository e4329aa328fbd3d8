/- A coding: holds as elements of a map. What ref56.Credits tells. Texts that rise: what Put makes of them; two such rows of the same texts are one. -/
import Derived.Test.YtdinloecgaapaaaGreatDoorMGMap
import Derived.Test.YtdinloecgaapaaaGreatDoorCPut
import Derived.Deep.QuietTactic
import Derived.BigQuiet
import Derived.Deep.Cut
import Derived.Test.YtdinloecgaapaaaGreatDoorMACopies
import Derived.Sort.Walk0
namespace Go.Proofs.YtdinloecgaapaaaGreatDoor
open Go.RowKit Go.Maps
set_option linter.unusedVariables false

structure Hd where
  id : ByteArray
  acc : ByteArray
  cur : ByteArray
  n : Int
def Hd.val (a : Hd) : Value := .agg #[.string a.id, .string a.acc, .string a.cur, .int .i64 a.n]
def Hd.dat (a : Hd) : DataW Unit := .agg [.lit (.string a.id.data.toList), .lit (.string a.acc.data.toList), .lit (.string a.cur.data.toList), .lit (.int .i64 a.n)]
def hdR : Value → Option (DataW Unit × List MemPlace)
  | .agg ⟨[.string i, .string a, .string c, .int .i64 n]⟩ => some ((Hd.mk i a c n).dat, [])
  | _ => none
theorem ba_inj {x y : ByteArray} (h : x.data.toList = y.data.toList) : x = y := ByteArray.ext (Array.ext' h)
def hdE : ElC Hd where
  mk := Hd.val
  dat := Hd.dat
  ok _ := True
  R := hdR
  of v _ := rfl
  inv x z h := by
    unfold hdR at h
    split at h
    · cases h; exact ⟨⟨_, _, _, _⟩, rfl, rfl, trivial⟩
    · cases h
  inj u v h := by
    obtain ⟨a, b, c, d⟩ := u
    obtain ⟨a', b', c', d'⟩ := v
    simp only [Hd.dat, DataW.agg.injEq, List.cons.injEq, DataW.lit.injEq, Lit.string.injEq, Lit.int.injEq, true_and, and_true] at h
    obtain ⟨h1, h2, h3, h4⟩ := h
    rw [ba_inj h1, ba_inj h2, ba_inj h3, h4]
end Go.Proofs.YtdinloecgaapaaaGreatDoor
namespace Go.Proofs.YtdinloecgaapaaaGreatDoor
open Go.RowKit Go.Maps Go.Lib
set_option linter.unusedVariables false
set_option maxRecDepth 100000

/-- is a text that of a credit's take? -/
def isCr (t : ByteArray) : Bool := decide (12 ≤ t.size) && ((t.extract 0 12).toList == [116, 97, 107, 101, 32, 99, 114, 101, 100, 105, 116, 58])
def idOf (t : ByteArray) : ByteArray := t.extract 5 t.size
def idsOf (l : List ByteArray) : List ByteArray := l.foldl (fun ids t => if isCr t then putS ids (idOf t) else ids) []
theorem idsOf_step (l : List ByteArray) (k : Nat) (h : k < l.length) : idsOf (l.take (k + 1)) = if isCr l[k] then putS (idsOf (l.take k)) (idOf l[k]) else idsOf (l.take k) := by
  rw [List.take_succ_eq_append_getElem h]
  simp only [idsOf, List.foldl_append, List.foldl_cons, List.foldl_nil]
theorem idsOf_len (l : List ByteArray) : (idsOf l).length ≤ l.length := by
  suffices h : ∀ (l ids : List ByteArray), (l.foldl (fun ids t => if isCr t then putS ids (idOf t) else ids) ids).length ≤ ids.length + l.length by simpa [idsOf] using h l []
  intro l
  induction l with
  | nil => intro ids; simp
  | cons t l ih =>
    intro ids
    rw [List.foldl_cons]
    refine Nat.le_trans (ih _) ?_
    split
    · have := putS_len ids (idOf t); simp only [List.length_cons]; omega
    · simp only [List.length_cons]; omega

def takeX5 (id : ByteArray) : ByteArray := (⟨#[116, 97, 107, 101, 32]⟩ : ByteArray) ++ id
def isTake (id t : ByteArray) : Bool := t.toList == (takeX5 id).toList
def countT (l : List ByteArray) (id : ByteArray) : Nat := l.countP (isTake id)
theorem countT_step (l : List ByteArray) (id : ByteArray) (k : Nat) (h : k < l.length) : countT (l.take (k + 1)) id = countT (l.take k) id + if isTake id l[k] then 1 else 0 := by
  rw [List.take_succ_eq_append_getElem h]
  unfold countT
  rw [List.countP_append, List.countP_cons, List.countP_nil, Nat.zero_add]
def twiceT (name id : ByteArray) : ByteArray := name ++ (⟨#[32]⟩ : ByteArray) ++ id ++ (⟨#[32, 116, 119, 105, 99, 101]⟩ : ByteArray)
def bothT (name id : ByteArray) : ByteArray := name ++ (⟨#[32]⟩ : ByteArray) ++ id ++ (⟨#[32, 98, 111, 116, 104]⟩ : ByteArray)
def bothL (name id : ByteArray) (hs : List Hd) : List ByteArray := hs.filterMap fun h => if h.id.toList == id.toList then some (bothT name id) else none
theorem bothL_step (name id : ByteArray) (hs : List Hd) (k : Nat) (h : k < hs.length) : bothL name id (hs.take (k + 1)) = bothL name id (hs.take k) ++ if (hs[k].id.toList == id.toList) then [bothT name id] else [] := by
  rw [List.take_succ_eq_append_getElem h]
  simp only [bothL, List.filterMap_append]
  congr 1
  cases hc : (hs[k].id.toList == id.toList) with
  | true => simp only [List.filterMap_cons, List.filterMap_nil, hc, if_true]
  | false => simp only [List.filterMap_cons, List.filterMap_nil, hc, Bool.false_eq_true, if_false]
def lineC (name : ByteArray) (txt : List ByteArray) (hs : List Hd) (id : ByteArray) : List ByteArray := (if 1 < countT txt id then [twiceT name id] else []) ++ bothL name id hs
def linesC (name : ByteArray) (txt : List ByteArray) (hs : List Hd) (ids : List ByteArray) : List ByteArray := ids.flatMap (lineC name txt hs)
theorem linesC_step (name : ByteArray) (txt : List ByteArray) (hs : List Hd) (ids : List ByteArray) (k : Nat) (h : k < ids.length) : linesC name txt hs (ids.take (k + 1)) = linesC name txt hs (ids.take k) ++ lineC name txt hs ids[k] := by
  rw [List.take_succ_eq_append_getElem h]
  simp only [linesC, List.flatMap_append, List.flatMap_cons, List.flatMap_nil, List.append_nil]
/-- the slice's elements are the holds hs, in blocks below B -/
def Rh (w : World) (B : Nat) (A : Option Addr) (hs : List Hd) : Prop :=
  0 < hs.length → ∃ g off, A = some ⟨g, off, none⟩ ∧ g < B ∧ ∀ i h, hs[i]? = some h → w.cell? ⟨g, off + i * 4, none⟩ = some (.string h.id) ∧ w.cell? ⟨g, off + i * 4 + 1, none⟩ = some (.string h.acc) ∧ w.cell? ⟨g, off + i * 4 + 2, none⟩ = some (.string h.cur) ∧ w.cell? ⟨g, off + i * 4 + 3, none⟩ = some (.int .i64 h.n)
theorem Rh.below {w w' : World} {B : Nat} {A : Option Addr} {hs : List Hd} (h : Rh w B A hs) (hb : Below B w w') : Rh w' B A hs := fun hl => by
  obtain ⟨g, off, e, hg, hc⟩ := h hl
  exact ⟨g, off, e, hg, fun i x hx => ⟨(hb.cell (p := ⟨g, _, none⟩) hg).trans (hc i x hx).1, (hb.cell (p := ⟨g, _, none⟩) hg).trans (hc i x hx).2.1, (hb.cell (p := ⟨g, _, none⟩) hg).trans (hc i x hx).2.2.1, (hb.cell (p := ⟨g, _, none⟩) hg).trans (hc i x hx).2.2.2⟩⟩
theorem Rh.at_ {w : World} {B : Nat} {A : Option Addr} {hs : List Hd} (h : Rh w B A hs) {k : Nat} (hk : k < hs.length) : ∃ g off, A = some ⟨g, off, none⟩ ∧ g < B ∧ w.cell? ⟨g, off + k * 4, none⟩ = some (.string hs[k].id) := by
  obtain ⟨g, off, e, hg, hc⟩ := h (by omega)
  exact ⟨g, off, e, hg, (hc k _ (List.getElem?_eq_getElem hk)).1⟩

theorem putL_mem (s : ByteArray) : ∀ (L : List ByteArray) (x : ByteArray), x ∈ putL s L → x = s ∨ x ∈ L
  | [], x, h => by simp [putL] at h; exact .inl h
  | y :: l, x, h => by
    unfold putL at h
    split at h
    · rcases List.mem_cons.1 h with h | h
      · exact .inr (by simp [h])
      · rcases putL_mem s l x h with h | h
        · exact .inl h
        · exact .inr (by simp [h])
    · rcases List.mem_cons.1 h with h | h
      · exact .inl h
      · exact .inr h
theorem idsOf_mem (l : List ByteArray) : ∀ x ∈ idsOf l, ∃ t ∈ l, x = idOf t := by
  suffices h : ∀ (l ids : List ByteArray) (x : ByteArray), x ∈ l.foldl (fun ids t => if isCr t then putS ids (idOf t) else ids) ids → x ∈ ids ∨ ∃ t ∈ l, x = idOf t by
    intro x hx
    rcases h l [] x hx with h | h
    · simp at h
    · exact h
  intro l
  induction l with
  | nil => intro ids x hx; exact .inl hx
  | cons t l ih =>
    intro ids x hx
    rw [List.foldl_cons] at hx
    rcases ih _ x hx with h | ⟨u, hu, e⟩
    · split at h
      · unfold putS at h
        split at h
        · exact .inl h
        · rcases putL_mem _ _ _ h with h | h
          · exact .inr ⟨t, by simp, h⟩
          · exact .inl h
      · exact .inl h
    · exact .inr ⟨u, by simp [hu], e⟩
theorem idOf_size (t : ByteArray) (h : t.size ≤ 100) : (idOf t).size ≤ 100 := by
  unfold idOf
  rw [ByteArray.size_extract]
  omega
theorem bothL_len (name id : ByteArray) (hs : List Hd) : (bothL name id hs).length ≤ hs.length := List.length_filterMap_le _ _
theorem lineC_len (name : ByteArray) (txt : List ByteArray) (hs : List Hd) (id : ByteArray) (h : hs.length ≤ 100) : (lineC name txt hs id).length ≤ 101 := by
  have := bothL_len name id hs
  unfold lineC
  rw [List.length_append]
  split <;> simp <;> omega
theorem linesC_len (name : ByteArray) (txt : List ByteArray) (hs : List Hd) (h : hs.length ≤ 100) (ids : List ByteArray) : (linesC name txt hs ids).length ≤ ids.length * 101 := by
  induction ids with
  | nil => simp [linesC]
  | cons x l ih =>
    have := lineC_len name txt hs x h
    simp only [linesC, List.flatMap_cons, List.length_append, List.length_cons] at ih ⊢
    omega
end Go.Proofs.YtdinloecgaapaaaGreatDoor
namespace Go.Proofs.YtdinloecgaapaaaGreatDoor
open Go.RowKit Go.Maps Go.Lib
set_option linter.unusedVariables false

theorem ltS_iff (x y : ByteArray) : ltS x y = true ↔ x.toList < y.toList := by
  unfold ltS
  rw [bytesLess_eq, decide_eq_true_iff]
theorem ltS_irrefl (x : ByteArray) : ltS x x = false := by
  rw [Bool.eq_false_iff, Ne, ltS_iff]
  exact List.lt_irrefl _
theorem ltS_trans {x y z : ByteArray} (h : ltS x y = true) (k : ltS y z = true) : ltS x z = true := by
  rw [ltS_iff] at *
  exact List.lt_trans h k
theorem ltS_asymm {x y : ByteArray} (h : ltS x y = true) (k : ltS y x = true) : False := by
  have := ltS_trans h k
  rw [ltS_irrefl] at this
  cases this
theorem tl_inj {x y : ByteArray} (h : x.toList = y.toList) : x = y := by
  rw [ByteArray.toList_eq, ByteArray.toList_eq] at h
  exact ByteArray.ext (Array.ext' h)
theorem ltS_total {x y : ByteArray} (h : ltS x y = false) (hne : x ≠ y) : ltS y x = true := by
  rw [ltS_iff]
  have h1 : ¬ x.toList < y.toList := by rw [← ltS_iff, h]; simp
  have h2 : y.toList ≤ x.toList := List.not_lt.1 h1
  by_cases h4 : y.toList < x.toList
  · exact h4
  · have h3 : x.toList ≤ y.toList := List.not_lt.1 h4
    exact absurd (tl_inj (List.le_antisymm h3 h2)) hne
def Srt (L : List ByteArray) : Prop := L.Pairwise fun a b => ltS a b = true
theorem inS_iff (L : List ByteArray) (s : ByteArray) : inS L s = true ↔ s ∈ L := by
  unfold inS
  rw [List.any_eq_true]
  constructor
  · rintro ⟨x, hx, e⟩
    rw [beq_iff_eq] at e
    rw [← tl_inj e]
    exact hx
  · intro h
    exact ⟨s, h, by simp⟩
theorem putL_has (s : ByteArray) : ∀ (L : List ByteArray) (x : ByteArray), x ∈ putL s L ↔ x = s ∨ x ∈ L
  | [], x => by simp [putL]
  | y :: l, x => by
    unfold putL
    split
    · rw [List.mem_cons, putL_has s l x, List.mem_cons]
      constructor
      · rintro (h | h | h)
        · exact .inr (.inl h)
        · exact .inl h
        · exact .inr (.inr h)
      · rintro (h | h | h)
        · exact .inr (.inl h)
        · exact .inl h
        · exact .inr (.inr h)
    · rw [List.mem_cons]
theorem putL_srt (s : ByteArray) : ∀ (L : List ByteArray), Srt L → s ∉ L → Srt (putL s L)
  | [], _, _ => by simp [putL, Srt]
  | y :: l, h, hs => by
    have hh := List.pairwise_cons.1 h
    have hsy : s ≠ y := fun e => hs (by simp [e])
    have hsl : s ∉ l := fun e => hs (by simp [e])
    unfold putL
    split
    · rename_i hy
      refine List.pairwise_cons.2 ⟨fun z hz => ?_, putL_srt s l hh.2 hsl⟩
      rcases (putL_has s l z).1 hz with rfl | hz
      · exact hy
      · exact hh.1 z hz
    · rename_i hy
      have hy' : ltS s y = true := ltS_total (by simpa using hy) (fun e => hsy e.symm)
      refine List.pairwise_cons.2 ⟨fun z hz => ?_, h⟩
      rcases List.mem_cons.1 hz with rfl | hz
      · exact hy'
      · exact ltS_trans hy' (hh.1 z hz)
theorem putS_srt {L : List ByteArray} (h : Srt L) (s : ByteArray) : Srt (putS L s) := by
  unfold putS
  split
  · exact h
  · rename_i hn
    exact putL_srt s L h (fun e => hn ((inS_iff L s).2 e))
theorem putS_has (L : List ByteArray) (s x : ByteArray) : x ∈ putS L s ↔ x = s ∨ x ∈ L := by
  unfold putS
  split
  · rename_i hi
    rw [inS_iff] at hi
    constructor
    · exact .inr
    · rintro (rfl | h)
      · exact hi
      · exact h
  · exact putL_has s L x
theorem idsOf_srt_has (l : List ByteArray) : Srt (idsOf l) ∧ ∀ x, x ∈ idsOf l ↔ ∃ t ∈ l, isCr t = true ∧ x = idOf t := by
  induction l using List.reverseRecOn' with
  | nil => exact ⟨List.Pairwise.nil, by simp [idsOf]⟩
  | snoc l t ih =>
    have e : idsOf (l ++ [t]) = if isCr t then putS (idsOf l) (idOf t) else idsOf l := by simp [idsOf]
    rw [e]
    cases hc : isCr t with
    | true =>
      rw [if_pos rfl]
      refine ⟨putS_srt ih.1 _, fun x => ?_⟩
      rw [putS_has, ih.2 x]
      constructor
      · rintro (rfl | ⟨u, hu, h1, h2⟩)
        · exact ⟨t, by simp, hc, rfl⟩
        · exact ⟨u, by simp [hu], h1, h2⟩
      · rintro ⟨u, hu, h1, h2⟩
        rcases List.mem_append.1 hu with hu | hu
        · exact .inr ⟨u, hu, h1, h2⟩
        · rw [List.mem_singleton] at hu
          subst hu
          exact .inl h2
    | false =>
      refine ⟨ih.1, fun x => ?_⟩
      rw [if_neg (by simp), ih.2 x]
      constructor
      · rintro ⟨u, hu, h1, h2⟩
        exact ⟨u, by simp [hu], h1, h2⟩
      · rintro ⟨u, hu, h1, h2⟩
        rcases List.mem_append.1 hu with hu | hu
        · exact ⟨u, hu, h1, h2⟩
        · rw [List.mem_singleton] at hu
          subst hu
          rw [hc] at h1
          cases h1
/-- two rows that rise and have the same texts are one -/
theorem srt_unique : ∀ (L M : List ByteArray), Srt L → Srt M → (∀ x, x ∈ L ↔ x ∈ M) → L = M
  | [], [], _, _, _ => rfl
  | [], y :: M, _, _, h => by have := (h y).2 (by simp); simp at this
  | x :: L, [], _, _, h => by have := (h x).1 (by simp); simp at this
  | x :: L, y :: M, hL, hM, h => by
    have h1 := List.pairwise_cons.1 hL
    have h2 := List.pairwise_cons.1 hM
    have hxy : x = y := by
      rcases List.mem_cons.1 ((h x).1 (by simp)) with e | e
      · exact e
      · rcases List.mem_cons.1 ((h y).2 (by simp)) with e' | e'
        · exact e'.symm
        · exact (ltS_asymm (h2.1 x e) (h1.1 y e')).elim
    subst hxy
    congr 1
    refine srt_unique L M h1.2 h2.2 (fun z => ?_)
    constructor
    · intro hz
      rcases List.mem_cons.1 ((h z).1 (by simp [hz])) with e | e
      · subst e
        have := h1.1 z hz
        rw [ltS_irrefl] at this
        cases this
      · exact e
    · intro hz
      rcases List.mem_cons.1 ((h z).2 (by simp [hz])) with e | e
      · subst e
        have := h2.1 z hz
        rw [ltS_irrefl] at this
        cases this
      · exact e
end Go.Proofs.YtdinloecgaapaaaGreatDoor
