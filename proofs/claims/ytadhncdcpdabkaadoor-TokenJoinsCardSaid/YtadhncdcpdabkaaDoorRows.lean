/-
  NARROWER THAN 'FOR EVERY INPUT', by the rows' own cells (each row's printed sentence says how): TokenScans: laid · TokenBlanks: laid · TokenPlaces: laid · TokenWords: laid · TokenBack: laid · TokenQuotes: laid · TokenJoins: laid.
  DERIVED. THE GIVEN ROWS OF THIS SEAT. 7 by the template 'for every input the law returns true; each argument reads behind the call as it read before'; 0 by the template 'total and deterministic' (their statements: YtadhncdcpdabkaaDoorTotals.lean).
  GIVEN WITH THE SEED: the statements are not yours to turn. If you find one false, say at which input.
  Laid BY PROGRAM, IN A SANDBOX (cutbox-rows.mjs): the forced cells as the released guide's own fill.sh prints them over the translation 97302d12d71c6484… (all of the seat's roots in one cut). By AI agents, Wed Nov 11 2026. No macro, syntax, notation, axiom, sorry.
-/
import Derived.Test.YtadhncdcpdabkaaDoorChecked
import GoSem.Claim
import GoSem.ClaimJoined
import GoSem.ClaimMapViews
import Derived.JoinedTies
import Derived.KernelRfl
namespace Go.Proofs.YtadhncdcpdabkaaDoor
/- THE CELL 'sum', in the pinned program and in every row, IS THE sha256 OF THE DUMP (.gsa) THAT YtadhncdcpdabkaaDoorProg.lean LOADS. Nothing in Lean hashes anything: it is a label: what it is worth is what the hold of that sum in a sandbox is worth. -/
noncomputable def Tryd.pinned : Pinned := { name := "ytadhncdcpdabkaadoor", sum := "97302d12d71c64841a26d865cc312c171b46ee3c133d3e8472a07491d52c3d0a", checked := Tryd.checked }
namespace Rows
def none {H : Type} : Left H := { results := [], args := [] }

/- WHAT THE LISTED PACKAGE-LEVEL VARIABLES READ AS WHEN THE CALL BEGINS. Each datum BY PROGRAM (the guide's laid-datum.mjs) off the statement by which the dump's own 'gosem.cut.vars' lays the variable. In a bare row this is a premise. The card (YtadhncdcpdabkaaDoorCards.lean) ties it to the program's text. -/
def laid_supercargo_token_words {H : Type} : DataW H := .agg [.lit (.string [97, 98, 111, 118, 101]), .lit (.string [97, 108, 108]), .lit (.string [97, 110, 100]), .lit (.string [97, 110, 121]), .lit (.string [97, 112, 112, 108, 105, 99, 97, 110, 116]), .lit (.string [98, 101, 108, 111, 119]), .lit (.string [98, 101, 110, 101, 102, 105, 99, 105, 97, 114, 121]), .lit (.string [99, 104, 97, 110, 103, 101]), .lit (.string [99, 111, 110, 102, 105, 114, 109, 101, 114]), .lit (.string [99, 111, 112, 105, 101, 115]), .lit (.string [99, 114, 101, 100, 105, 116]), .lit (.string [100, 97, 121, 115]), .lit (.string [100, 114, 97, 102, 116]), .lit (.string [101, 120, 112, 105, 114, 121]), .lit (.string [102, 114, 111, 109]), .lit (.string [105, 110, 115, 117, 114, 97, 110, 99, 101]), .lit (.string [105, 110, 118, 111, 105, 99, 101]), .lit (.string [105, 115, 115, 117, 101, 114]), .lit (.string [108, 97, 100, 105, 110, 103]), .lit (.string [108, 97, 116, 101, 115, 116]), .lit (.string [110, 111]), .lit (.string [110, 111, 116]), .lit (.string [111, 102]), .lit (.string [111, 114]), .lit (.string [111, 114, 105, 103, 105, 110]), .lit (.string [112, 97, 99, 107, 105, 110, 103]), .lit (.string [112, 97, 114, 116, 105, 97, 108]), .lit (.string [115, 105, 103, 104, 116]), .lit (.string [115, 117, 109]), .lit (.string [116, 101, 110, 111, 114]), .lit (.string [116, 111]), .lit (.string [119, 97, 110, 116, 115]), .lit (.string [119, 105, 116, 104]), .lit (.string [119, 105, 116, 104, 105, 110]), .lit (.string [121, 101, 115])]
def laid_supercargo_token_kinds {H : Type} : DataW H := .agg [.lit (.string [119, 111, 114, 100]), .lit (.string [110, 97, 109, 101]), .lit (.string [110, 117, 109, 98, 101, 114]), .lit (.string [116, 101, 120, 116]), .lit (.string [99, 111, 100, 101]), .lit (.string [115, 105, 103, 110])]

/-- 'supercargolaw27.TokenScans': WHATEVER THE INPUT: true; the input reads as it did. -/
def tokenScansSpec : ChangeSpec := { name := "tokenScans", fn := fun _ => fun
  | [d] => { results := [.lit (.bool true)], args := [d] }
  | _ => none }
def tokenScansRow : OpenClaim := { program := "ytadhncdcpdabkaadoor", sum := "97302d12d71c64841a26d865cc312c171b46ee3c133d3e8472a07491d52c3d0a", func := "supercargo/supercargolaw27.TokenScans", spec := "tokenScans", unfollowed := true, recurses := true, named := ["supercargo/token.words"], apart := false, laid := [("supercargo/token.words", laid_supercargo_token_words)] }
def TokenScansSaid : Prop := tokenScansRow.holds Tryd.pinned (OpenSpec.ofChange tokenScansSpec)

/-- ITS FALSE NEIGHBOUR: 'it returns false'. Refute it at one input. -/
def tokenScansWrong : ChangeSpec := { name := "tokenScans", fn := fun _ => fun
  | [d] => { results := [.lit (.bool false)], args := [d] }
  | _ => none }
def TokenScansWrongFalsely : Prop := tokenScansRow.holds Tryd.pinned (OpenSpec.ofChange tokenScansWrong)

/-- 'supercargolaw27.TokenBlanks': WHATEVER THE INPUT: true; the input reads as it did. -/
def tokenBlanksSpec : ChangeSpec := { name := "tokenBlanks", fn := fun _ => fun
  | [d1, d2, d3, d4] => { results := [.lit (.bool true)], args := [d1, d2, d3, d4] }
  | _ => none }
def tokenBlanksRow : OpenClaim := { program := "ytadhncdcpdabkaadoor", sum := "97302d12d71c64841a26d865cc312c171b46ee3c133d3e8472a07491d52c3d0a", func := "supercargo/supercargolaw27.TokenBlanks", spec := "tokenBlanks", unfollowed := true, recurses := true, named := ["supercargo/token.words"], apart := false, laid := [("supercargo/token.words", laid_supercargo_token_words)] }
def TokenBlanksSaid : Prop := tokenBlanksRow.holds Tryd.pinned (OpenSpec.ofChange tokenBlanksSpec)

/-- ITS FALSE NEIGHBOUR: 'it returns false'. Refute it at one input. -/
def tokenBlanksWrong : ChangeSpec := { name := "tokenBlanks", fn := fun _ => fun
  | [d1, d2, d3, d4] => { results := [.lit (.bool false)], args := [d1, d2, d3, d4] }
  | _ => none }
def TokenBlanksWrongFalsely : Prop := tokenBlanksRow.holds Tryd.pinned (OpenSpec.ofChange tokenBlanksWrong)

/-- 'supercargolaw27.TokenPlaces': WHATEVER THE INPUT: true; the input reads as it did. -/
def tokenPlacesSpec : ChangeSpec := { name := "tokenPlaces", fn := fun _ => fun
  | [d] => { results := [.lit (.bool true)], args := [d] }
  | _ => none }
def tokenPlacesRow : OpenClaim := { program := "ytadhncdcpdabkaadoor", sum := "97302d12d71c64841a26d865cc312c171b46ee3c133d3e8472a07491d52c3d0a", func := "supercargo/supercargolaw27.TokenPlaces", spec := "tokenPlaces", unfollowed := true, recurses := true, named := ["supercargo/token.words"], apart := false, laid := [("supercargo/token.words", laid_supercargo_token_words)] }
def TokenPlacesSaid : Prop := tokenPlacesRow.holds Tryd.pinned (OpenSpec.ofChange tokenPlacesSpec)

/-- ITS FALSE NEIGHBOUR: 'it returns false'. Refute it at one input. -/
def tokenPlacesWrong : ChangeSpec := { name := "tokenPlaces", fn := fun _ => fun
  | [d] => { results := [.lit (.bool false)], args := [d] }
  | _ => none }
def TokenPlacesWrongFalsely : Prop := tokenPlacesRow.holds Tryd.pinned (OpenSpec.ofChange tokenPlacesWrong)

/-- 'supercargolaw27.TokenWords': WHATEVER THE INPUT: true; the input reads as it did. -/
def tokenWordsSpec : ChangeSpec := { name := "tokenWords", fn := fun _ => fun
  | [d] => { results := [.lit (.bool true)], args := [d] }
  | _ => none }
def tokenWordsRow : OpenClaim := { program := "ytadhncdcpdabkaadoor", sum := "97302d12d71c64841a26d865cc312c171b46ee3c133d3e8472a07491d52c3d0a", func := "supercargo/supercargolaw27.TokenWords", spec := "tokenWords", unfollowed := true, recurses := true, named := ["supercargo/token.words"], apart := false, laid := [("supercargo/token.words", laid_supercargo_token_words)] }
def TokenWordsSaid : Prop := tokenWordsRow.holds Tryd.pinned (OpenSpec.ofChange tokenWordsSpec)

/-- ITS FALSE NEIGHBOUR: 'it returns false'. Refute it at one input. -/
def tokenWordsWrong : ChangeSpec := { name := "tokenWords", fn := fun _ => fun
  | [d] => { results := [.lit (.bool false)], args := [d] }
  | _ => none }
def TokenWordsWrongFalsely : Prop := tokenWordsRow.holds Tryd.pinned (OpenSpec.ofChange tokenWordsWrong)

/-- 'supercargolaw27.TokenBack': WHATEVER THE INPUT: true; the input reads as it did. -/
def tokenBackSpec : ChangeSpec := { name := "tokenBack", fn := fun _ => fun
  | [d] => { results := [.lit (.bool true)], args := [d] }
  | _ => none }
def tokenBackRow : OpenClaim := { program := "ytadhncdcpdabkaadoor", sum := "97302d12d71c64841a26d865cc312c171b46ee3c133d3e8472a07491d52c3d0a", func := "supercargo/supercargolaw27.TokenBack", spec := "tokenBack", inPlace := ["internal/abi.NoEscape", "internal/bytealg.MakeNoZero"], unfollowed := true, recurses := true, named := ["supercargo/token.words"], apart := false, laid := [("supercargo/token.words", laid_supercargo_token_words)] }
def TokenBackSaid : Prop := tokenBackRow.holds Tryd.pinned (OpenSpec.ofChange tokenBackSpec)

/-- ITS FALSE NEIGHBOUR: 'it returns false'. Refute it at one input. -/
def tokenBackWrong : ChangeSpec := { name := "tokenBack", fn := fun _ => fun
  | [d] => { results := [.lit (.bool false)], args := [d] }
  | _ => none }
def TokenBackWrongFalsely : Prop := tokenBackRow.holds Tryd.pinned (OpenSpec.ofChange tokenBackWrong)

/-- 'supercargolaw27.TokenQuotes': WHATEVER THE INPUT: true; the input reads as it did. -/
def tokenQuotesSpec : ChangeSpec := { name := "tokenQuotes", fn := fun _ => fun
  | [d] => { results := [.lit (.bool true)], args := [d] }
  | _ => none }
def tokenQuotesRow : OpenClaim := { program := "ytadhncdcpdabkaadoor", sum := "97302d12d71c64841a26d865cc312c171b46ee3c133d3e8472a07491d52c3d0a", func := "supercargo/supercargolaw27.TokenQuotes", spec := "tokenQuotes", inPlace := ["internal/abi.NoEscape", "internal/bytealg.MakeNoZero"], unfollowed := true, recurses := true, named := ["supercargo/token.words"], apart := false, laid := [("supercargo/token.words", laid_supercargo_token_words)] }
def TokenQuotesSaid : Prop := tokenQuotesRow.holds Tryd.pinned (OpenSpec.ofChange tokenQuotesSpec)

/-- ITS FALSE NEIGHBOUR: 'it returns false'. Refute it at one input. -/
def tokenQuotesWrong : ChangeSpec := { name := "tokenQuotes", fn := fun _ => fun
  | [d] => { results := [.lit (.bool false)], args := [d] }
  | _ => none }
def TokenQuotesWrongFalsely : Prop := tokenQuotesRow.holds Tryd.pinned (OpenSpec.ofChange tokenQuotesWrong)

/-- 'supercargolaw27.TokenJoins': WHATEVER THE INPUT: true; the input reads as it did. -/
def tokenJoinsSpec : ChangeSpec := { name := "tokenJoins", fn := fun _ => fun
  | [d1, d2] => { results := [.lit (.bool true)], args := [d1, d2] }
  | _ => none }
def tokenJoinsRow : OpenClaim := { program := "ytadhncdcpdabkaadoor", sum := "97302d12d71c64841a26d865cc312c171b46ee3c133d3e8472a07491d52c3d0a", func := "supercargo/supercargolaw27.TokenJoins", spec := "tokenJoins", inPlace := ["internal/abi.NoEscape", "internal/bytealg.MakeNoZero"], unfollowed := true, recurses := true, named := ["supercargo/token.words", "supercargo/token.kinds"], apart := false, laid := [("supercargo/token.words", laid_supercargo_token_words), ("supercargo/token.kinds", laid_supercargo_token_kinds)] }
def TokenJoinsSaid : Prop := tokenJoinsRow.holds Tryd.pinned (OpenSpec.ofChange tokenJoinsSpec)

/-- ITS FALSE NEIGHBOUR: 'it returns false'. Refute it at one input. -/
def tokenJoinsWrong : ChangeSpec := { name := "tokenJoins", fn := fun _ => fun
  | [d1, d2] => { results := [.lit (.bool false)], args := [d1, d2] }
  | _ => none }
def TokenJoinsWrongFalsely : Prop := tokenJoinsRow.holds Tryd.pinned (OpenSpec.ofChange tokenJoinsWrong)

/- THE SECOND FORM. 'bulk': how many values and letters a reading holds, each counted each time it is reached (what is shared counts as often as it is met; a slice's spare places count too). A statement '..UptoSaid' is the law's where the arguments, and the package variables that the reading takes, are together of bulk at most 1048576: NARROWER than '..Said'. Prove '..Said' where nothing that the law and all that it calls make is longer than what came in: it says more and counts as full. Else prove '..UptoSaid'. A law counts once. -/
mutual
def uptoBulk {H : Type} : DataW H → Nat
  | .lit (.string bytes) => bytes.length + 1
  | .lit _ => 1
  | .nil => 1
  | .ptr d => uptoBulk d + 1
  | .slice elems spare => uptoBulkAll elems + uptoBulkAll spare + 1
  | .agg parts => uptoBulkAll parts + 1
  | .iface _ d => uptoBulk d + 1
  | .map entries => uptoBulkEntries entries + 1
  | .held _ => 1
def uptoBulkAll {H : Type} : List (DataW H) → Nat
  | [] => 0
  | d :: r => uptoBulk d + uptoBulkAll r
def uptoBulkEntries {H : Type} : List (Lit × DataW H) → Nat
  | [] => 0
  | x :: r => uptoBulkEntry x + uptoBulkEntries r
def uptoBulkEntry {H : Type} : Lit × DataW H → Nat
  | (.string bytes, d) => bytes.length + uptoBulk d + 1
  | (_, d) => uptoBulk d + 1
 end
def uptoSmall : (H : Type) → List (DataW H) → Bool := fun _ ds => decide (uptoBulkAll ds ≤ 1048576)
def OpenSpec.upto (s : _root_.Go.ChangeSpec) : _root_.Go.OpenSpec := { _root_.Go.OpenSpec.ofChange s with cond := some uptoSmall }

/-- 'supercargolaw27.TokenScans', WHERE WHAT IT READS IS OF BULK AT MOST 1048576: true; the input reads as it did. -/
def tokenScansUptoRow : OpenClaim := { program := "ytadhncdcpdabkaadoor", sum := "97302d12d71c64841a26d865cc312c171b46ee3c133d3e8472a07491d52c3d0a", func := "supercargo/supercargolaw27.TokenScans", spec := "tokenScans", unfollowed := true, recurses := true, named := ["supercargo/token.words"], apart := false, laid := [("supercargo/token.words", laid_supercargo_token_words)], narrowed := true }
def TokenScansUptoSaid : Prop := tokenScansUptoRow.holds Tryd.pinned (OpenSpec.upto tokenScansSpec)

/-- 'supercargolaw27.TokenBlanks', WHERE WHAT IT READS IS OF BULK AT MOST 1048576: true; the input reads as it did. -/
def tokenBlanksUptoRow : OpenClaim := { program := "ytadhncdcpdabkaadoor", sum := "97302d12d71c64841a26d865cc312c171b46ee3c133d3e8472a07491d52c3d0a", func := "supercargo/supercargolaw27.TokenBlanks", spec := "tokenBlanks", unfollowed := true, recurses := true, named := ["supercargo/token.words"], apart := false, laid := [("supercargo/token.words", laid_supercargo_token_words)], narrowed := true }
def TokenBlanksUptoSaid : Prop := tokenBlanksUptoRow.holds Tryd.pinned (OpenSpec.upto tokenBlanksSpec)

/-- 'supercargolaw27.TokenPlaces', WHERE WHAT IT READS IS OF BULK AT MOST 1048576: true; the input reads as it did. -/
def tokenPlacesUptoRow : OpenClaim := { program := "ytadhncdcpdabkaadoor", sum := "97302d12d71c64841a26d865cc312c171b46ee3c133d3e8472a07491d52c3d0a", func := "supercargo/supercargolaw27.TokenPlaces", spec := "tokenPlaces", unfollowed := true, recurses := true, named := ["supercargo/token.words"], apart := false, laid := [("supercargo/token.words", laid_supercargo_token_words)], narrowed := true }
def TokenPlacesUptoSaid : Prop := tokenPlacesUptoRow.holds Tryd.pinned (OpenSpec.upto tokenPlacesSpec)

/-- 'supercargolaw27.TokenWords', WHERE WHAT IT READS IS OF BULK AT MOST 1048576: true; the input reads as it did. -/
def tokenWordsUptoRow : OpenClaim := { program := "ytadhncdcpdabkaadoor", sum := "97302d12d71c64841a26d865cc312c171b46ee3c133d3e8472a07491d52c3d0a", func := "supercargo/supercargolaw27.TokenWords", spec := "tokenWords", unfollowed := true, recurses := true, named := ["supercargo/token.words"], apart := false, laid := [("supercargo/token.words", laid_supercargo_token_words)], narrowed := true }
def TokenWordsUptoSaid : Prop := tokenWordsUptoRow.holds Tryd.pinned (OpenSpec.upto tokenWordsSpec)

/-- 'supercargolaw27.TokenBack', WHERE WHAT IT READS IS OF BULK AT MOST 1048576: true; the input reads as it did. -/
def tokenBackUptoRow : OpenClaim := { program := "ytadhncdcpdabkaadoor", sum := "97302d12d71c64841a26d865cc312c171b46ee3c133d3e8472a07491d52c3d0a", func := "supercargo/supercargolaw27.TokenBack", spec := "tokenBack", inPlace := ["internal/abi.NoEscape", "internal/bytealg.MakeNoZero"], unfollowed := true, recurses := true, named := ["supercargo/token.words"], apart := false, laid := [("supercargo/token.words", laid_supercargo_token_words)], narrowed := true }
def TokenBackUptoSaid : Prop := tokenBackUptoRow.holds Tryd.pinned (OpenSpec.upto tokenBackSpec)

/-- 'supercargolaw27.TokenQuotes', WHERE WHAT IT READS IS OF BULK AT MOST 1048576: true; the input reads as it did. -/
def tokenQuotesUptoRow : OpenClaim := { program := "ytadhncdcpdabkaadoor", sum := "97302d12d71c64841a26d865cc312c171b46ee3c133d3e8472a07491d52c3d0a", func := "supercargo/supercargolaw27.TokenQuotes", spec := "tokenQuotes", inPlace := ["internal/abi.NoEscape", "internal/bytealg.MakeNoZero"], unfollowed := true, recurses := true, named := ["supercargo/token.words"], apart := false, laid := [("supercargo/token.words", laid_supercargo_token_words)], narrowed := true }
def TokenQuotesUptoSaid : Prop := tokenQuotesUptoRow.holds Tryd.pinned (OpenSpec.upto tokenQuotesSpec)

/-- 'supercargolaw27.TokenJoins', WHERE WHAT IT READS IS OF BULK AT MOST 1048576: true; the input reads as it did. -/
def tokenJoinsUptoRow : OpenClaim := { program := "ytadhncdcpdabkaadoor", sum := "97302d12d71c64841a26d865cc312c171b46ee3c133d3e8472a07491d52c3d0a", func := "supercargo/supercargolaw27.TokenJoins", spec := "tokenJoins", inPlace := ["internal/abi.NoEscape", "internal/bytealg.MakeNoZero"], unfollowed := true, recurses := true, named := ["supercargo/token.words", "supercargo/token.kinds"], apart := false, laid := [("supercargo/token.words", laid_supercargo_token_words), ("supercargo/token.kinds", laid_supercargo_token_kinds)], narrowed := true }
def TokenJoinsUptoSaid : Prop := tokenJoinsUptoRow.holds Tryd.pinned (OpenSpec.upto tokenJoinsSpec)

end Rows
end Go.Proofs.YtadhncdcpdabkaaDoor
