/- The notary's notes: a map keyed by a party and a text, said as a list of notes. -/
import Derived.Test.YtlbenmndmoeioaaName
import Derived.Maps.RangeWalk
import Derived.Maps.OwnSet
import Derived.DeepKeys4
namespace Go.Proofs.Ytlbenmndmoeioaa
open Go.RowKit Go.Maps

theorem laidOut : laidOutB Try.prog = true := by kernel_rfl
theorem rowNote : (55 : TypeId) < Try.prog.types.size := of_decide_eq_true (by kernel_rfl)
theorem wideNote : (match Try.prog.underlying 55 with | some (.array _ _) | some (.struct _) => true | _ => false) = true := by kernel_rfl
theorem lawNote : Keyed Try.prog 55 := Keyed.of_law (deep_law_laid laidOut (m := 2) (by omega) rowNote (by kernel_rfl) wideNote)
theorem zeroBool (w : World) : (zeroValue 4).run Try.prog w = .ok (.bool false) w := by kernel_rfl
theorem cellsNote : Try.prog.cellsOf 55 = 2 := by kernel_rfl
theorem cellsStr : Try.prog.cellsOf 9 = 1 := by kernel_rfl
theorem keyNote : Try.prog.keyType 55 = true := by kernel_rfl

abbrev Nt := ByteArray × ByteArray
def nval (x : Nt) : Value := .agg #[.string x.1, .string x.2]
def nkey (x : Nt) : Lit := .string (keyBytes [.string x.1.data.toList, .string x.2.data.toList])
def Small (x : Nt) : Prop := x.1.size ≤ maxLen ∧ x.2.size ≤ maxLen

theorem keyLits_note (m : Nat) (a b : ByteArray) (ha : a.size ≤ maxLen) (hb : b.size ≤ maxLen) : Try.prog.keyLits (m + 2) 55 [.string a, .string b] = some [.string a.data.toList, .string b.data.toList] := by
  simp [Program.keyLits, Try.underlying55, cellsNote, Try.underlying9, cellsStr, ha, hb]
theorem sizeTypes : ∃ m, Try.prog.types.size + 1 = m + 2 := by
  have h : (55 : Nat) < Try.prog.types.size := rowNote
  exact ⟨Try.prog.types.size - 1, by omega⟩

theorem keyOf_note (x : Nt) (h : Small x) : keyOf Try.prog 55 (nval x) = some (nkey x) := by
  obtain ⟨m, hm⟩ := sizeTypes
  have hl := keyLits_note m x.1 x.2 h.1 h.2
  unfold keyOf
  rw [Try.underlying55]
  simp only [hm]
  simp [keyNote, nval, nkey, Value.formed, Try.underlying55, cellsNote, Value.cells, hl]

theorem keyLits_note_inv (m : Nat) (c0 c1 : Value) (ls : List Lit) (h : Try.prog.keyLits (m + 2) 55 [c0, c1] = some ls) : ∃ a b : ByteArray, c0 = .string a ∧ c1 = .string b ∧ a.size ≤ maxLen ∧ b.size ≤ maxLen := by
  have e0 : ∀ c ls', Try.prog.keyLits (m + 1) 9 [c] = some ls' → ∃ a : ByteArray, c = .string a ∧ a.size ≤ maxLen := by
    intro c ls' h
    cases c <;> simp [Program.keyLits, Try.underlying9] at h
    exact ⟨_, rfl, h.1⟩
  have e1 : Try.prog.keyLits (m + 2) 55 [c0, c1] = ((Try.prog.keyLits (m + 1) 9 [c0]).bind fun x => (Try.prog.keyLits (m + 1) 9 [c1]).bind fun y => some (x ++ y)) := by
    conv => lhs; unfold Program.keyLits
    simp only [Try.underlying55]
    generalize hk : Try.prog.keyLits (m + 1) = F
    simp [cellsNote, cellsStr]
    cases F 9 [c0] <;> simp
    cases F 9 [c1] <;> simp
  rw [e1] at h
  obtain ⟨l0, h0, h⟩ := Option.bind_eq_some_iff.1 h
  obtain ⟨l1, h1, _⟩ := Option.bind_eq_some_iff.1 h
  obtain ⟨a, rfl, ha⟩ := e0 _ _ h0
  obtain ⟨b, rfl, hb⟩ := e0 _ _ h1
  exact ⟨a, b, rfl, rfl, ha, hb⟩

theorem keyOf_note_inv {key : Value} {kl : Lit} (h : keyOf Try.prog 55 key = some kl) : ∃ x : Nt, key = nval x ∧ kl = nkey x ∧ Small x := by
  have h0 := h
  obtain ⟨m, hm⟩ := sizeTypes
  unfold keyOf at h
  rw [Try.underlying55] at h
  simp only [hm] at h
  split at h
  · rename_i hc
    simp only [Bool.and_eq_true] at hc
    have hf := hc.2
    cases key <;> simp [Value.formed, Try.underlying55, cellsNote] at hf
    rename_i cs
    obtain ⟨l⟩ := cs
    match l, hf with
    | [c0, c1], _ =>
      simp only [Value.cells] at h
      obtain ⟨ls, hls, _⟩ := Option.map_eq_some_iff.1 h
      obtain ⟨a, b, rfl, rfl, ha, hb⟩ := keyLits_note_inv m c0 c1 ls hls
      have h1 := keyOf_note (a, b) ⟨ha, hb⟩
      have h2 : keyOf Try.prog 55 (nval (a, b)) = some kl := h0
      rw [h1] at h2
      exact ⟨(a, b), rfl, (Option.some.inj h2).symm, ha, hb⟩
  · cases h

theorem nval_inj {x y : Nt} (h : nval x = nval y) : x = y := by
  obtain ⟨a, b⟩ := x
  obtain ⟨c, d⟩ := y
  simp only [nval] at h
  injection h with h
  simp at h
  simp [h]
theorem nkey_inj {x y : Nt} (hx : Small x) (hy : Small y) (h : nkey x = nkey y) : x = y :=
  nval_inj (lawNote.inj (keyOf_note x hx) (by rw [h]; exact keyOf_note y hy))

/-- what the map reads as -/
def setD (L : List Nt) : DataW Unit := Maps.setOf (.lit (.bool true)) (L.map nkey)
theorem isKey_nkey (x : Nt) : WideAt.IsKeyLit (nkey x) := trivial
theorem setD_snoc (L : List Nt) (x : Nt) : setD (L ++ [x]) = (setD L).put (nkey x) (.lit (.bool true)) := by simp [setD, setOf_snoc]
theorem setD_tidy (L : List Nt) : Tidy (setD L) := tidy_setOf _ _ (fun x hx => by obtain ⟨y, _, rfl⟩ := List.mem_map.1 hx; trivial)
instance decBA : DecidableEq ByteArray := fun a b => decidable_of_iff (a.data = b.data) ⟨fun h => ByteArray.ext h, fun h => by rw [h]⟩
def hasN (L : List Nt) (x : Nt) : Bool := L.any fun y => decide (y = x)
theorem hasN_iff (L : List Nt) (x : Nt) : hasN L x = true ↔ x ∈ L := by simp [hasN]
theorem hasN_false (L : List Nt) (x : Nt) : hasN L x = false ↔ x ∉ L := by rw [← hasN_iff]; simp
theorem any_nkey (L : List Nt) (x : Nt) (hL : ∀ y ∈ L, Small y) (hx : Small x) : (L.map nkey).any (fun y => y.sameKey (nkey x)) = hasN L x := by
  rw [Bool.eq_iff_iff, List.any_eq_true, hasN_iff]
  constructor
  · rintro ⟨k, hk, he⟩
    obtain ⟨y, hy, rfl⟩ := List.mem_map.1 hk
    have := nkey_inj (hL y hy) hx (WideAt.sameKey_eq he)
    subst this
    exact hy
  · intro h
    exact ⟨nkey x, List.mem_map.2 ⟨x, h, rfl⟩, WideAt.sameKey_self (isKey_nkey x)⟩
theorem keys_ok (L : List Nt) : ∀ x ∈ L.map nkey, WideAt.IsKeyLit x := fun x hx => by obtain ⟨y, _, rfl⟩ := List.mem_map.1 hx; trivial
theorem has_setD (L : List Nt) (x : Nt) (hL : ∀ y ∈ L, Small y) (hx : Small x) : Maps.has (setD L) (nkey x) = hasN L x := by
  unfold setD
  rw [has_setOf _ _ _ (keys_ok L)]
  exact any_nkey L x hL hx
theorem at_fold (z t : DataW Unit) (k : Lit) : ∀ (acc : List Lit) (m : DataW Unit), IsMap m → (∀ x ∈ acc, WideAt.IsKeyLit x) → m.atKey k z = (if Maps.has m k then t else z) →
    (acc.foldl (fun m x => m.put x t) m).atKey k z = if Maps.has (acc.foldl (fun m x => m.put x t) m) k then t else z
  | [], _, _, _, h => h
  | x :: r, m, hm, hk, h => by
    rw [List.foldl_cons]
    refine at_fold z t k r (m.put x t) (hm.put x t) (fun y hy => hk y (by simp [hy])) ?_
    by_cases e : k = x
    · subst e
      rw [atKey_put_same hm (hk k (by simp)), has_put_same hm (hk k (by simp)), if_pos rfl]
    · rw [atKey_put_other e, has_put_other e, h]
theorem at_setD (L : List Nt) (x : Nt) (hL : ∀ y ∈ L, Small y) (hx : Small x) (z : DataW Unit) : (setD L).atKey (nkey x) z = if hasN L x then .lit (.bool true) else z := by
  have h := at_fold z (.lit (.bool true)) (nkey x) (L.map nkey) (.map []) isMap_empty (keys_ok L) rfl
  have h2 := has_setD L x hL hx
  unfold setD setOf at h2 ⊢
  rw [h, h2]
theorem size_setD (L : List Nt) (hL : ∀ y ∈ L, Small y) (hn : L.Nodup) : Maps.size (setD L) = L.length := by
  unfold setD
  rw [size_setOf _ _ (keys_ok L)]
  suffices h : ∀ (M : List Nt) (acc : List Nt), (∀ y ∈ acc ++ M, Small y) → (acc ++ M).Nodup → ((M.map nkey).foldl addKey (acc.map nkey)).length = acc.length + M.length by
    simpa using h L [] (by simpa using hL) (by simpa using hn)
  intro M
  induction M with
  | nil => intro acc _ _; simp
  | cons y r ih =>
    intro acc ha hd
    rw [List.map_cons, List.foldl_cons]
    have hy : hasN acc y = false := by
      rw [hasN_false]
      intro h
      have := (List.nodup_append.1 hd).2.2 y h y (by simp)
      exact this rfl
    have e : addKey (acc.map nkey) (nkey y) = (acc ++ [y]).map nkey := by
      unfold addKey
      rw [any_nkey acc y (fun z hz => ha z (by simp [hz])) (ha y (by simp)), hy]
      simp
    rw [e, ih (acc ++ [y]) (by simpa using ha) (by simpa using hd)]
    simp
    omega

/-- block p is a notary whose notes, in block b, are the list L -/
structure Ny (w : World) (p b : Nat) (L : List Nt) : Prop where
  cell : w.heap[p]? = some (.cells #[.map (some b)] 53 (0, 0))
  own : w.ownsMap Try.prog 55 (plainElem (H := Unit) Try.prog 4) b L.length (setD L)
  nodup : L.Nodup
  small : ∀ x ∈ L, x.1.size ≤ 16 ∧ x.2.size ≤ 4096

theorem small_of {x : Nt} (h : x.1.size ≤ 16 ∧ x.2.size ≤ 4096) : Small x := ⟨by unfold maxLen; omega, by unfold maxLen; omega⟩

section
variable {w w' : World} {p b : Nat} {L : List Nt}
theorem Ny.smalls (h : Ny w p b L) : ∀ x ∈ L, Small x := fun x hx => small_of (h.small x hx)
theorem Ny.plt (h : Ny w p b L) : p < w.heap.size := (Array.getElem?_eq_some_iff.1 h.cell).1
theorem Ny.blt (h : Ny w p b L) : b < w.heap.size := h.own.lt
theorem Ny.ne (h : Ny w p b L) : p ≠ b := by
  rintro rfl
  obtain ⟨es, clock, hb, _⟩ := h.own
  have := h.cell
  rw [hb] at this
  cases this
theorem Ny.kept (h : Ny w p b L) {row : Option Nat} (hg : w.grownBy w' row) (hp : some p ≠ row) (hb : some b ≠ row) : Ny w' p b L :=
  ⟨(hg.block p h.plt hp).trans h.cell, h.own.kept hg hb, h.nodup, h.small⟩
theorem Ny.below (h : Ny w p b L) {B : Nat} (hg : Below B w w') (hp : p < B) (hb : b < B) : Ny w' p b L := by
  obtain ⟨h1, ⟨es, clock, h2, h3⟩, h4, h5⟩ := h
  exact ⟨(hg.block p hp).trans h1, ⟨es, clock, (hg.block b hb).trans h2, h3⟩, h4, h5⟩
theorem Ny.look (h : Ny w p b L) (x : Nt) (hx : Small x) : (Instr.lookup 51 (.map (some b)) (nval x) false).run Try.prog w = .ok (.bool (hasN L x)) w := by
  obtain ⟨v, ps, hrun, hv⟩ := h.own.lookup lawNote Try.underlying51 (zeroBool w) (plainElem_bool Try.underlying4 false) (keyOf_note x hx)
  rw [at_setD L x h.smalls hx] at hv
  have : v = .bool (hasN L x) := by
    unfold plainElem at hv
    rw [Try.underlying4] at hv
    cases v <;> simp at hv
    obtain ⟨hv, _⟩ := hv
    cases hh : hasN L x <;> rw [hh] at hv <;> simp at hv <;> simp [hv]
  rw [hrun, this]
end
end Go.Proofs.Ytlbenmndmoeioaa
