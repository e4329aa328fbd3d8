/- What ref56.Credits tells. -/
import Derived.Test.YtooeelaobmhifaaGreatDoorMPut
import Derived.Test.YtooeelaobmhifaaGreatDoorMG
import Derived.Deep.QuietTactic
import Derived.BigQuiet
import Derived.Deep.Cut
import Derived.Test.YtooeelaobmhifaaGreatDoorASums
namespace Go.Proofs.YtooeelaobmhifaaGreatDoor
open Go.RowKit Go.Maps Go.Lib
set_option linter.unusedVariables false
set_option maxRecDepth 100000

/-- is a text that of a credit's take? -/
def isCr (t : ByteArray) : Bool := decide (12 ≤ t.size) && ((t.extract 0 12).toList == [116, 97, 107, 101, 32, 99, 114, 101, 100, 105, 116, 58])
def idOf (t : ByteArray) : ByteArray := t.extract 5 t.size
def idsOf (l : List ByteArray) : List ByteArray := l.foldl (fun ids t => if isCr t then putS ids (idOf t) else ids) []
theorem idsOf_step (l : List ByteArray) (k : Nat) (h : k < l.length) : idsOf (l.take (k + 1)) = if isCr l[k] then putS (idsOf (l.take k)) (idOf l[k]) else idsOf (l.take k) := by
  rw [List.take_succ_eq_append_getElem h]
  simp only [idsOf, List.foldl_append, List.foldl_cons, List.foldl_nil]
theorem idsOf_len (l : List ByteArray) : (idsOf l).length ≤ l.length := by
  suffices h : ∀ (l ids : List ByteArray), (l.foldl (fun ids t => if isCr t then putS ids (idOf t) else ids) ids).length ≤ ids.length + l.length by simpa [idsOf] using h l []
  intro l
  induction l with
  | nil => intro ids; simp
  | cons t l ih =>
    intro ids
    rw [List.foldl_cons]
    refine Nat.le_trans (ih _) ?_
    split
    · have := putS_len ids (idOf t); simp only [List.length_cons]; omega
    · simp only [List.length_cons]; omega

def takeX5 (id : ByteArray) : ByteArray := (⟨#[116, 97, 107, 101, 32]⟩ : ByteArray) ++ id
def isTake (id t : ByteArray) : Bool := t.toList == (takeX5 id).toList
def countT (l : List ByteArray) (id : ByteArray) : Nat := l.countP (isTake id)
theorem countT_step (l : List ByteArray) (id : ByteArray) (k : Nat) (h : k < l.length) : countT (l.take (k + 1)) id = countT (l.take k) id + if isTake id l[k] then 1 else 0 := by
  rw [List.take_succ_eq_append_getElem h]
  unfold countT
  rw [List.countP_append, List.countP_cons, List.countP_nil, Nat.zero_add]
def twiceT (name id : ByteArray) : ByteArray := name ++ (⟨#[32]⟩ : ByteArray) ++ id ++ (⟨#[32, 116, 119, 105, 99, 101]⟩ : ByteArray)
def bothT (name id : ByteArray) : ByteArray := name ++ (⟨#[32]⟩ : ByteArray) ++ id ++ (⟨#[32, 98, 111, 116, 104]⟩ : ByteArray)
def bothL (name id : ByteArray) (hs : List Hd) : List ByteArray := hs.filterMap fun h => if h.id.toList == id.toList then some (bothT name id) else none
theorem bothL_step (name id : ByteArray) (hs : List Hd) (k : Nat) (h : k < hs.length) : bothL name id (hs.take (k + 1)) = bothL name id (hs.take k) ++ if (hs[k].id.toList == id.toList) then [bothT name id] else [] := by
  rw [List.take_succ_eq_append_getElem h]
  simp only [bothL, List.filterMap_append]
  congr 1
  cases hc : (hs[k].id.toList == id.toList) with
  | true => simp only [List.filterMap_cons, List.filterMap_nil, hc, if_true]
  | false => simp only [List.filterMap_cons, List.filterMap_nil, hc, Bool.false_eq_true, if_false]
def lineC (name : ByteArray) (txt : List ByteArray) (hs : List Hd) (id : ByteArray) : List ByteArray := (if 1 < countT txt id then [twiceT name id] else []) ++ bothL name id hs
def linesC (name : ByteArray) (txt : List ByteArray) (hs : List Hd) (ids : List ByteArray) : List ByteArray := ids.flatMap (lineC name txt hs)
theorem linesC_step (name : ByteArray) (txt : List ByteArray) (hs : List Hd) (ids : List ByteArray) (k : Nat) (h : k < ids.length) : linesC name txt hs (ids.take (k + 1)) = linesC name txt hs (ids.take k) ++ lineC name txt hs ids[k] := by
  rw [List.take_succ_eq_append_getElem h]
  simp only [linesC, List.flatMap_append, List.flatMap_cons, List.flatMap_nil, List.append_nil]
/-- the slice's elements are the holds hs, in blocks below B -/
def Rh (w : World) (B : Nat) (A : Option Addr) (hs : List Hd) : Prop :=
  0 < hs.length → ∃ g off, A = some ⟨g, off, none⟩ ∧ g < B ∧ ∀ i h, hs[i]? = some h → w.cell? ⟨g, off + i * 4, none⟩ = some (.string h.id) ∧ w.cell? ⟨g, off + i * 4 + 1, none⟩ = some (.string h.acc) ∧ w.cell? ⟨g, off + i * 4 + 2, none⟩ = some (.string h.cur) ∧ w.cell? ⟨g, off + i * 4 + 3, none⟩ = some (.int .i64 h.n)
theorem Rh.below {w w' : World} {B : Nat} {A : Option Addr} {hs : List Hd} (h : Rh w B A hs) (hb : Below B w w') : Rh w' B A hs := fun hl => by
  obtain ⟨g, off, e, hg, hc⟩ := h hl
  exact ⟨g, off, e, hg, fun i x hx => ⟨(hb.cell (p := ⟨g, _, none⟩) hg).trans (hc i x hx).1, (hb.cell (p := ⟨g, _, none⟩) hg).trans (hc i x hx).2.1, (hb.cell (p := ⟨g, _, none⟩) hg).trans (hc i x hx).2.2.1, (hb.cell (p := ⟨g, _, none⟩) hg).trans (hc i x hx).2.2.2⟩⟩
theorem Rh.at_ {w : World} {B : Nat} {A : Option Addr} {hs : List Hd} (h : Rh w B A hs) {k : Nat} (hk : k < hs.length) : ∃ g off, A = some ⟨g, off, none⟩ ∧ g < B ∧ w.cell? ⟨g, off + k * 4, none⟩ = some (.string hs[k].id) := by
  obtain ⟨g, off, e, hg, hc⟩ := h (by omega)
  exact ⟨g, off, e, hg, (hc k _ (List.getElem?_eq_getElem hk)).1⟩

theorem putL_mem (s : ByteArray) : ∀ (L : List ByteArray) (x : ByteArray), x ∈ putL s L → x = s ∨ x ∈ L
  | [], x, h => by simp [putL] at h; exact .inl h
  | y :: l, x, h => by
    unfold putL at h
    split at h
    · rcases List.mem_cons.1 h with h | h
      · exact .inr (by simp [h])
      · rcases putL_mem s l x h with h | h
        · exact .inl h
        · exact .inr (by simp [h])
    · rcases List.mem_cons.1 h with h | h
      · exact .inl h
      · exact .inr h
theorem idsOf_mem (l : List ByteArray) : ∀ x ∈ idsOf l, ∃ t ∈ l, x = idOf t := by
  suffices h : ∀ (l ids : List ByteArray) (x : ByteArray), x ∈ l.foldl (fun ids t => if isCr t then putS ids (idOf t) else ids) ids → x ∈ ids ∨ ∃ t ∈ l, x = idOf t by
    intro x hx
    rcases h l [] x hx with h | h
    · simp at h
    · exact h
  intro l
  induction l with
  | nil => intro ids x hx; exact .inl hx
  | cons t l ih =>
    intro ids x hx
    rw [List.foldl_cons] at hx
    rcases ih _ x hx with h | ⟨u, hu, e⟩
    · split at h
      · unfold putS at h
        split at h
        · exact .inl h
        · rcases putL_mem _ _ _ h with h | h
          · exact .inr ⟨t, by simp, h⟩
          · exact .inl h
      · exact .inl h
    · exact .inr ⟨u, by simp [hu], e⟩
theorem idOf_size (t : ByteArray) (h : t.size ≤ 100) : (idOf t).size ≤ 100 := by
  unfold idOf
  rw [ByteArray.size_extract]
  omega
theorem bothL_len (name id : ByteArray) (hs : List Hd) : (bothL name id hs).length ≤ hs.length := List.length_filterMap_le _ _
theorem lineC_len (name : ByteArray) (txt : List ByteArray) (hs : List Hd) (id : ByteArray) (h : hs.length ≤ 100) : (lineC name txt hs id).length ≤ 101 := by
  have := bothL_len name id hs
  unfold lineC
  rw [List.length_append]
  split <;> simp <;> omega
theorem linesC_len (name : ByteArray) (txt : List ByteArray) (hs : List Hd) (h : hs.length ≤ 100) (ids : List ByteArray) : (linesC name txt hs ids).length ≤ ids.length * 101 := by
  induction ids with
  | nil => simp [linesC]
  | cons x l ih =>
    have := lineC_len name txt hs x h
    simp only [linesC, List.flatMap_cons, List.length_append, List.length_cons] at ih ⊢
    omega
end Go.Proofs.YtooeelaobmhifaaGreatDoor
