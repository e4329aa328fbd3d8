/- What the rows' list gives: the table of words stands; the frame's common parts. -/
import Derived.Test.YtadhncdcpdabkaaDoorTAwake
import Derived.Test.YtadhncdcpdabkaaDoorCards
import Derived.Test.YtadhncdcpdabkaaDoorTie
import Derived.ProofKit
import Derived.OpenShut
import Derived.Deep.DeepHandedRow
namespace Go.Proofs.YtadhncdcpdabkaaDoor
open Go.ChangeShapes Go.WideShapes Go.ChangeAt Go.RowKit Go.Lib

theorem own : ownKnob Tryd.prog.godebug = none := by kernel_rfl
theorem gWords : Tryd.prog.globalNamed "supercargo/token.words" = some 0 := by kernel_rfl
theorem gWordsType : (Tryd.prog.globals[0]?).map (·.type) = some 49 := by kernel_rfl
theorem cellsWords : Tryd.prog.cellsOf 49 = 35 := by kernel_rfl
theorem cellsString : Tryd.prog.cellsOf 9 = 1 := by kernel_rfl

def strData {H : Type} (zs : List Bs) : DataW H := .agg (zs.map fun z => .lit (.string z))
/-- an array of texts that reads as a list holds just these texts -/
theorem cells_of_strs {H : Type} {enc : TypeId × Value → H} {P : Program} {w : World} {base : Nat} {sp : Nat → Bool} {held : Bool} {fuel : Nat} {t e : TypeId} {n : Nat} {cs : List Value} {zs : List Bs} {p : List MemPlace}
    (ht : P.underlying t = some (.array n e)) (he : P.underlying e = some .string) (hce : P.cellsOf e = 1) (hct : P.cellsOf t = n)
    (h : DataW.trod enc P w base sp held fuel t cs = some (strData zs, p)) : cs = zs.map fun z => Value.string ⟨z.toArray⟩ := by
  cases fuel with
  | zero => simp [DataW.trod] at h
  | succ fuel =>
    simp only [DataW.trod, ht, hce, hct, Nat.mul_one] at h
    split at h
    · rename_i hl
      obtain ⟨xs, hm, hx⟩ := Option.map_eq_some_iff.1 h
      have hxs : xs.map (·.1) = zs.map fun z => (DataW.lit (.string z) : DataW H) := by
        have := congrArg Prod.fst hx
        simpa [strData] using this
      have hxl : xs.length = n := by simpa using mapM_length hm
      have hzl : zs.length = n := by
        have := congrArg List.length hxs
        simp at this
        omega
      apply List.ext_getElem?
      intro i
      by_cases hi : i < n
      · obtain ⟨b, hb, hf⟩ := mapM_at hm i i (by simp [hi])
        obtain ⟨z, hc, rfl, _⟩ := DataW.trod_string he hf
        have h1 : cs[i]? = some (.string z) := by
          have := congrArg (·[0]?) hc
          simpa [List.getElem?_take, List.getElem?_drop] using this
        have h2 : (xs.map (·.1))[i]? = some (DataW.lit (.string z.data.toList) : DataW H) := by simp [hb]
        rw [hxs] at h2
        simp only [List.getElem?_map, Option.map_eq_some_iff, DataW.lit.injEq, Lit.string.injEq] at h2
        obtain ⟨z', hz', rfl⟩ := h2
        simp [h1, hz']
      · rw [List.getElem?_eq_none (by omega), List.getElem?_eq_none (by simp; omega)]
    · cases h
theorem words_laid {H : Type} : (Rows.laid_supercargo_token_words : DataW H) = strData words := rfl
/-- the row's list: the words stand first -/
theorem wd_of {W : World} {rest : List (String × DataW Unit)} (h : laidMet Tryd.prog (("supercargo/token.words", Rows.laid_supercargo_token_words) :: rest) W) : Wd W := by
  obtain ⟨ps, ⟨g', t', cs, fuel, p, q, hg', ht', hvar, hd, _, _⟩, _⟩ := h
  obtain rfl := Option.some.inj (gWords.symm.trans hg')
  obtain rfl := Option.some.inj (gWordsType.symm.trans ht')
  rw [words_laid] at hd
  have hc := cells_of_strs Tryd.underlying49 Tryd.underlying9 cellsString cellsWords hd
  simp only [World.var?, gWords, Option.bind_some] at hvar
  split at hvar
  · rename_i cs' t fr hh
    injection hvar with hvar
    subst hvar
    have : cs' = wordCells := by rw [← Array.toList_inj, hc]; rfl
    subst this
    exact ⟨t, fr, hh⟩
  · cases hvar
/-- a world for the witness: the settled one, the table holding what its initialiser lays -/
noncomputable def laidWorld (os : Os) : World :=
  { World.holding Tryd.prog os ⟨#[], #[], []⟩ with heap := (World.holding Tryd.prog os ⟨#[], #[], []⟩).heap.modify 0 fun
      | .cells _ t frozen => .cells wordCells t frozen
      | o => o }
end Go.Proofs.YtadhncdcpdabkaaDoor
