/- What the rows' lists give; the frame's common parts. -/
import Derived.Test.YtbkffdfboloogaaGreatDoorMS
import Derived.Test.YtbkffdfboloogaaGreatDoorFOpen
import Derived.Test.YtbkffdfboloogaaGreatDoorCards
import Derived.Test.YtbkffdfboloogaaGreatDoorTie
import Derived.ProofKit
import Derived.OpenShut
import Derived.Deep.DeepHandedRow
import Derived.Deep.DeepWitnessRowRef
import Derived.Stop.LaidErr
import Derived.Lib.LaidTab
import Derived.Shelf.Vars
namespace Go.Proofs.YtbkffdfboloogaaGreatDoor
open Go.ChangeShapes Go.WideShapes Go.ChangeAt Go.RowKit Go.Deep Go.Lib
set_option linter.unusedVariables false
set_option maxRecDepth 100000

theorem own : ownKnob Tryz.prog.godebug = none := by kernel_rfl
theorem gKinds : Tryz.prog.globalNamed "supercargo/syntax.papers" = some 0 := by kernel_rfl
theorem gKindsType : (Tryz.prog.globals[0]?).map (·.type) = some 77 := by kernel_rfl
theorem cellsKinds : Tryz.prog.cellsOf 77 = 6 := by kernel_rfl
theorem cellsString : Tryz.prog.cellsOf 9 = 1 := by kernel_rfl
theorem gES : Tryz.prog.globalNamed "strconv.ErrSyntax" = some 1 := by kernel_rfl
theorem gESType : (Tryz.prog.globals[1]?).map (·.type) = some 100 := by kernel_rfl
theorem gER : Tryz.prog.globalNamed "strconv.ErrRange" = some 2 := by kernel_rfl
theorem gERType : (Tryz.prog.globals[2]?).map (·.type) = some 100 := by kernel_rfl
theorem cellsErr : Tryz.prog.cellsOf 203 = 1 := by kernel_rfl
theorem gPow : Tryz.prog.globalNamed "internal/strconv.uint64pow10" = some 3 := by kernel_rfl
theorem gPowType : (Tryz.prog.globals[3]?).map (·.type) = some 190 := by kernel_rfl
theorem cellsPow : Tryz.prog.cellsOf 190 = 20 := by kernel_rfl
theorem cellsU64 : Tryz.prog.cellsOf 151 = 1 := by kernel_rfl
theorem star : "*" ++ "errors.errorString" = "*errors.errorString" := by decide
theorem rowErr (u : TypeId) (h : Tryz.prog.typeName? 3 u = some "*errors.errorString") : u = 201 :=
  typeName_ptr_named (nm := "errors.errorString") (by rw [star]; kernel_rfl) (by kernel_rfl) (by decide) u (by rw [star]; exact h)
theorem maxLen_cell {W : World} (h : W.ShapedOpen Tryz.prog) : ∃ m, W.cell? ⟨4, 0, none⟩ = some (.int .i64 m) :=
  cell_of_shapedOpen_int (t := 3) (zero := #[.int .i64 0]) h (of_decide_eq_true (by kernel_rfl)) (by kernel_rfl) rfl (by kernel_rfl) (by kernel_rfl) Tryz.underlying3
theorem pow_laid {H : Type} : (Rows.laid_internal_strconv_uint64pow10 : DataW H) = tabData .u64 Lib.pow10Tab := rfl

def strData {H : Type} (zs : List (List UInt8)) : DataW H := .agg (zs.map fun z => .lit (.string z))
/-- an array of texts that reads as a list holds just these texts -/
theorem cells_of_strs {H : Type} {enc : TypeId × Value → H} {P : Program} {w : World} {base : Nat} {sp : Nat → Bool} {held : Bool} {fuel : Nat} {t e : TypeId} {n : Nat} {cs : List Value} {zs : List (List UInt8)} {p : List MemPlace}
    (ht : P.underlying t = some (.array n e)) (he : P.underlying e = some .string) (hce : P.cellsOf e = 1) (hct : P.cellsOf t = n)
    (h : DataW.trod enc P w base sp held fuel t cs = some (strData zs, p)) : cs = zs.map fun z => Value.string ⟨z.toArray⟩ := by
  cases fuel with
  | zero => simp [DataW.trod] at h
  | succ fuel =>
    simp only [DataW.trod, ht, hce, hct, Nat.mul_one] at h
    split at h
    · rename_i hl
      obtain ⟨xs, hm, hx⟩ := Option.map_eq_some_iff.1 h
      have hxs : xs.map (·.1) = zs.map fun z => (DataW.lit (.string z) : DataW H) := by
        have := congrArg Prod.fst hx
        simpa [strData] using this
      have hxl : xs.length = n := by simpa using mapM_length hm
      have hzl : zs.length = n := by
        have := congrArg List.length hxs
        simp at this
        omega
      apply List.ext_getElem?
      intro i
      by_cases hi : i < n
      · obtain ⟨b, hb, hf⟩ := mapM_at hm i i (by simp [hi])
        obtain ⟨z, hc, rfl, _⟩ := DataW.trod_string he hf
        have h1 : cs[i]? = some (.string z) := by
          have := congrArg (·[0]?) hc
          simpa [List.getElem?_take, List.getElem?_drop] using this
        have h2 : (xs.map (·.1))[i]? = some (DataW.lit (.string z.data.toList) : DataW H) := by simp [hb]
        rw [hxs] at h2
        simp only [List.getElem?_map, Option.map_eq_some_iff, DataW.lit.injEq, Lit.string.injEq] at h2
        obtain ⟨z', hz', rfl⟩ := h2
        simp [h1, hz']
      · rw [List.getElem?_eq_none (by omega), List.getElem?_eq_none (by simp; omega)]
    · cases h
def paperL : List (List UInt8) := [wordL 0, wordL 1, wordL 2, wordL 3, wordL 4, wordL 5]
def kindCells : Array Value := (paperL.map fun l => Value.string ⟨l.toArray⟩).toArray
theorem kinds_laid {H : Type} : (Rows.laid_supercargo_syntax_papers : DataW H) = strData paperL := rfl
theorem kindCells_at (k : Nat) (h : k < 6) : kindCells[k]? = some (.string ⟨(wordL k).toArray⟩) := by
  match k, h with
  | 0, _ => rfl
  | 1, _ => rfl
  | 2, _ => rfl
  | 3, _ => rfl
  | 4, _ => rfl
  | 5, _ => rfl
/-- the papers stand first on the list -/
theorem pp_of {W : World} {rest : List (String × DataW Unit)} (h : laidMet Tryz.prog (("supercargo/syntax.papers", Rows.laid_supercargo_syntax_papers) :: rest) W) : ∀ k : Nat, k < 6 → W.cell? ⟨0, k, none⟩ = some (.string ⟨(wordL k).toArray⟩) := by
  obtain ⟨ps, ⟨g', t', cs, fuel, p, q, hg', ht', hvar, hd, _, _⟩, _⟩ := h
  obtain rfl := Option.some.inj (gKinds.symm.trans hg')
  obtain rfl := Option.some.inj (gKindsType.symm.trans ht')
  rw [kinds_laid] at hd
  have hc := cells_of_strs Tryz.underlying77 Tryz.underlying9 cellsString cellsKinds hd
  simp only [World.var?, gKinds, Option.bind_some] at hvar
  split at hvar
  · rename_i cs' t fr hh
    injection hvar with hvar
    subst hvar
    have : cs' = kindCells := by rw [← Array.toList_inj, hc]; rfl
    subst this
    intro k hk
    simp only [World.cell?, hh]
    exact kindCells_at k hk
  · cases hvar
theorem gWords : Tryz.prog.globalNamed "supercargo/token.words" = some 7 := by kernel_rfl
theorem gWordsType : (Tryz.prog.globals[7]?).map (·.type) = some 222 := by kernel_rfl
theorem cellsWords : Tryz.prog.cellsOf 222 = 35 := by kernel_rfl
theorem words_laid {H : Type} : (Rows.laid_supercargo_token_words : DataW H) = strData words := rfl
/-- the words stand first on the list -/
theorem wd_of {W : World} {rest : List (String × DataW Unit)} (h : laidMet Tryz.prog (("supercargo/token.words", Rows.laid_supercargo_token_words) :: rest) W) : Wd W := by
  obtain ⟨ps, ⟨g', t', cs, fuel, p, q, hg', ht', hvar, hd, _, _⟩, _⟩ := h
  obtain rfl := Option.some.inj (gWords.symm.trans hg')
  obtain rfl := Option.some.inj (gWordsType.symm.trans ht')
  rw [words_laid] at hd
  have hc := cells_of_strs Tryz.underlying222 Tryz.underlying9 cellsString cellsWords hd
  simp only [World.var?, gWords, Option.bind_some] at hvar
  split at hvar
  · rename_i cs' t fr hh
    injection hvar with hvar
    subst hvar
    have : cs' = wordCells := by rw [← Array.toList_inj, hc]; rfl
    subst this
    exact ⟨t, fr, hh⟩
  · cases hvar
/-- the list from the table of powers on: what is read of the package variables -/
theorem gl_of {W : World} {rest : List (String × DataW Unit)} (h : laidMet Tryz.prog (("internal/strconv.uint64pow10", Rows.laid_internal_strconv_uint64pow10) :: ("strconv.ErrRange", Rows.laid_strconv_ErrRange) :: ("strconv.ErrSyntax", Rows.laid_strconv_ErrSyntax) :: rest) W) (hsh : W.ShapedOpen Tryz.prog) : Gl W := by
  have h2 := h.tail
  have h3 := h2.tail
  obtain ⟨a0, s0, hv0, -, -, -⟩ := laid_sentinel h2 gER gERType Tryz.underlying100 rowErr Tryz.underlying201 Tryz.underlying203 rfl rfl Tryz.underlying9 cellsErr cellsString
  obtain ⟨a1, s1, hv1, -, -, -⟩ := laid_sentinel h3 gES gESType Tryz.underlying100 rowErr Tryz.underlying201 Tryz.underlying203 rfl rfl Tryz.underlying9 cellsErr cellsString
  rw [pow_laid] at h
  exact ⟨⟨_, _, by simpa using World.var?_cell gES hv1 0⟩, ⟨_, _, by simpa using World.var?_cell gER hv0 0⟩, tabIs_of_head gPow gPowType Tryz.underlying190 Tryz.underlying151 cellsU64 cellsPow h, maxLen_cell hsh⟩
/-- what the programs' parts read of the package variables, by the rows' list -/
theorem ev_of {W : World} (h : laidMet Tryz.prog [("math/bits.deBruijn32tab", Rows.laid_math_bits_deBruijn32tab), ("math/bits.deBruijn64tab", Rows.laid_math_bits_deBruijn64tab), ("internal/strconv.uint64pow10", Rows.laid_internal_strconv_uint64pow10), ("strconv.ErrRange", Rows.laid_strconv_ErrRange), ("strconv.ErrSyntax", Rows.laid_strconv_ErrSyntax), ("supercargo/token.words", Rows.laid_supercargo_token_words), ("supercargo/syntax.papers", Rows.laid_supercargo_syntax_papers)] W) (hsh : W.ShapedOpen Tryz.prog) : Ev W := by
  have h2 := h.tail.tail
  have h3 := h2.tail.tail.tail
  exact ⟨wd_of h3, gl_of h2 hsh, fun k hk => pp_of h3.tail k hk⟩

def tab32 : Array Value := #[.int .u8 0, .int .u8 1, .int .u8 28, .int .u8 2, .int .u8 29, .int .u8 14, .int .u8 24, .int .u8 3, .int .u8 30, .int .u8 22, .int .u8 20, .int .u8 15, .int .u8 25, .int .u8 17, .int .u8 4, .int .u8 8, .int .u8 31, .int .u8 27, .int .u8 13, .int .u8 23, .int .u8 21, .int .u8 19, .int .u8 16, .int .u8 7, .int .u8 26, .int .u8 12, .int .u8 18, .int .u8 6, .int .u8 11, .int .u8 5, .int .u8 10, .int .u8 9]
def tab64 : Array Value := #[.int .u8 0, .int .u8 1, .int .u8 56, .int .u8 2, .int .u8 57, .int .u8 49, .int .u8 28, .int .u8 3, .int .u8 61, .int .u8 58, .int .u8 42, .int .u8 50, .int .u8 38, .int .u8 29, .int .u8 17, .int .u8 4, .int .u8 62, .int .u8 47, .int .u8 59, .int .u8 36, .int .u8 45, .int .u8 43, .int .u8 51, .int .u8 22, .int .u8 53, .int .u8 39, .int .u8 33, .int .u8 30, .int .u8 24, .int .u8 18, .int .u8 12, .int .u8 5, .int .u8 63, .int .u8 55, .int .u8 48, .int .u8 27, .int .u8 60, .int .u8 41, .int .u8 37, .int .u8 16, .int .u8 46, .int .u8 35, .int .u8 44, .int .u8 21, .int .u8 52, .int .u8 32, .int .u8 23, .int .u8 11, .int .u8 54, .int .u8 26, .int .u8 40, .int .u8 15, .int .u8 34, .int .u8 20, .int .u8 31, .int .u8 10, .int .u8 25, .int .u8 14, .int .u8 19, .int .u8 9, .int .u8 13, .int .u8 8, .int .u8 7, .int .u8 6]
def tabP : Array Value := #[.int .u64 1, .int .u64 10, .int .u64 100, .int .u64 1000, .int .u64 10000, .int .u64 100000, .int .u64 1000000, .int .u64 10000000, .int .u64 100000000, .int .u64 1000000000, .int .u64 10000000000, .int .u64 100000000000, .int .u64 1000000000000, .int .u64 10000000000000, .int .u64 100000000000000, .int .u64 1000000000000000, .int .u64 10000000000000000, .int .u64 100000000000000000, .int .u64 1000000000000000000, .int .u64 10000000000000000000]
def relaid (cs : Array Value) (o : Obj) : Obj := match o with
  | .cells _ t frozen => .cells cs t frozen
  | o => o
abbrev rangeS : ByteArray := { data := #[118, 97, 108, 117, 101, 32, 111, 117, 116, 32, 111, 102, 32, 114, 97, 110, 103, 101] }
abbrev syntaxS : ByteArray := { data := #[105, 110, 118, 97, 108, 105, 100, 32, 115, 121, 110, 116, 97, 120] }
noncomputable def low : Nat := (World.holding Tryz.prog default ⟨#[], #[], []⟩).heap.size
/-- a world for the witness: the settled one, the variables holding what their initialisers lay -/
noncomputable def laidWorld (os : Os) : World :=
  let w0 := World.holding Tryz.prog os ⟨#[.cells #[.string rangeS] 203, .cells #[.string syntaxS] 203], #[], []⟩
  { w0 with heap := ((((((w0.heap.modify 0 (relaid kindCells)).modify 1 (relaid #[.iface 201 (.pointer (some ⟨low + 1, 0, none⟩))])).modify 2 (relaid #[.iface 201 (.pointer (some ⟨low, 0, none⟩))])).modify 3 (relaid tabP)).modify 5 (relaid tab32)).modify 6 (relaid tab64)).modify 7 (relaid wordCells) }
end Go.Proofs.YtbkffdfboloogaaGreatDoor
