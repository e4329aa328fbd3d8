/-
  No cell of these rows narrows 'for every input' (looked for: loops, veiled, ifaces, maps, wideKeys, modest, calm, conditions, laid).
  DERIVED. THE GIVEN ROWS OF THIS SEAT. 6 by the template 'for every input the law returns true; each argument reads behind the call as it read before'; 0 by the template 'total and deterministic' (their statements: YtlbenmndmoeioaaTotals.lean).
  GIVEN WITH THE SEED: the statements are not yours to turn. If you find one false, say at which input.
  Laid BY PROGRAM, IN A SANDBOX (cutbox-rows.mjs): the forced cells as the released guide's own fill.sh prints them over the translation ec10f2f0401064a8… (all of the seat's roots in one cut). By AI agents, Wed Nov 11 2026. No macro, syntax, notation, axiom, sorry.
-/
import Derived.Test.YtlbenmndmoeioaaChecked
import GoSem.Claim
import GoSem.ClaimJoined
import GoSem.ClaimMapViews
import Derived.JoinedTies
import Derived.KernelRfl
namespace Go.Proofs.Ytlbenmndmoeioaa
/- THE CELL 'sum', in the pinned program and in every row, IS THE sha256 OF THE DUMP (.gsa) THAT YtlbenmndmoeioaaProg.lean LOADS. Nothing in Lean hashes anything: it is a label: what it is worth is what the hold of that sum in a sandbox is worth. -/
noncomputable def Try.pinned : Pinned := { name := "ytlbenmndmoeioaa", sum := "ec10f2f0401064a86f9de372ea5ab7af30de9aad559c4e1902dfc0955cd88d95", checked := Try.checked }
namespace Rows
def none {H : Type} : Left H := { results := [], args := [] }

/-- 'supercargolaw06.SealDigests': WHATEVER THE INPUT: true; the input reads as it did. -/
def sealDigestsSpec : ChangeSpec := { name := "sealDigests", fn := fun _ => fun
  | [d] => { results := [.lit (.bool true)], args := [d] }
  | _ => none }
def sealDigestsRow : OpenClaim := { program := "ytlbenmndmoeioaa", sum := "ec10f2f0401064a86f9de372ea5ab7af30de9aad559c4e1902dfc0955cd88d95", func := "supercargo/supercargolaw06.SealDigests", spec := "sealDigests", plainKeys := false, apart := false }
def SealDigestsSaid : Prop := sealDigestsRow.holds Try.pinned (OpenSpec.ofChange sealDigestsSpec)

/-- ITS FALSE NEIGHBOUR: 'it returns false'. Refute it at one input. -/
def sealDigestsWrong : ChangeSpec := { name := "sealDigests", fn := fun _ => fun
  | [d] => { results := [.lit (.bool false)], args := [d] }
  | _ => none }
def SealDigestsWrongFalsely : Prop := sealDigestsRow.holds Try.pinned (OpenSpec.ofChange sealDigestsWrong)

/-- 'supercargolaw06.SealSigns': WHATEVER THE INPUT: true; the input reads as it did. -/
def sealSignsSpec : ChangeSpec := { name := "sealSigns", fn := fun _ => fun
  | [d1, d2, d3] => { results := [.lit (.bool true)], args := [d1, d2, d3] }
  | _ => none }
def sealSignsRow : OpenClaim := { program := "ytlbenmndmoeioaa", sum := "ec10f2f0401064a86f9de372ea5ab7af30de9aad559c4e1902dfc0955cd88d95", func := "supercargo/supercargolaw06.SealSigns", spec := "sealSigns", plainKeys := false, apart := false }
def SealSignsSaid : Prop := sealSignsRow.holds Try.pinned (OpenSpec.ofChange sealSignsSpec)

/-- ITS FALSE NEIGHBOUR: 'it returns false'. Refute it at one input. -/
def sealSignsWrong : ChangeSpec := { name := "sealSigns", fn := fun _ => fun
  | [d1, d2, d3] => { results := [.lit (.bool false)], args := [d1, d2, d3] }
  | _ => none }
def SealSignsWrongFalsely : Prop := sealSignsRow.holds Try.pinned (OpenSpec.ofChange sealSignsWrong)

/-- 'supercargolaw06.SealAgain': WHATEVER THE INPUT: true; the input reads as it did. -/
def sealAgainSpec : ChangeSpec := { name := "sealAgain", fn := fun _ => fun
  | [d1, d2] => { results := [.lit (.bool true)], args := [d1, d2] }
  | _ => none }
def sealAgainRow : OpenClaim := { program := "ytlbenmndmoeioaa", sum := "ec10f2f0401064a86f9de372ea5ab7af30de9aad559c4e1902dfc0955cd88d95", func := "supercargo/supercargolaw06.SealAgain", spec := "sealAgain", plainKeys := false, apart := false }
def SealAgainSaid : Prop := sealAgainRow.holds Try.pinned (OpenSpec.ofChange sealAgainSpec)

/-- ITS FALSE NEIGHBOUR: 'it returns false'. Refute it at one input. -/
def sealAgainWrong : ChangeSpec := { name := "sealAgain", fn := fun _ => fun
  | [d1, d2] => { results := [.lit (.bool false)], args := [d1, d2] }
  | _ => none }
def SealAgainWrongFalsely : Prop := sealAgainRow.holds Try.pinned (OpenSpec.ofChange sealAgainWrong)

/-- 'supercargolaw06.SealApart': WHATEVER THE INPUT: true; the input reads as it did. -/
def sealApartSpec : ChangeSpec := { name := "sealApart", fn := fun _ => fun
  | [d1, d2, d3, d4, d5] => { results := [.lit (.bool true)], args := [d1, d2, d3, d4, d5] }
  | _ => none }
def sealApartRow : OpenClaim := { program := "ytlbenmndmoeioaa", sum := "ec10f2f0401064a86f9de372ea5ab7af30de9aad559c4e1902dfc0955cd88d95", func := "supercargo/supercargolaw06.SealApart", spec := "sealApart", plainKeys := false, apart := false }
def SealApartSaid : Prop := sealApartRow.holds Try.pinned (OpenSpec.ofChange sealApartSpec)

/-- ITS FALSE NEIGHBOUR: 'it returns false'. Refute it at one input. -/
def sealApartWrong : ChangeSpec := { name := "sealApart", fn := fun _ => fun
  | [d1, d2, d3, d4, d5] => { results := [.lit (.bool false)], args := [d1, d2, d3, d4, d5] }
  | _ => none }
def SealApartWrongFalsely : Prop := sealApartRow.holds Try.pinned (OpenSpec.ofChange sealApartWrong)

/-- 'supercargolaw06.SealMerges': WHATEVER THE INPUT: true; the input reads as it did. -/
def sealMergesSpec : ChangeSpec := { name := "sealMerges", fn := fun _ => fun
  | [d1, d2, d3] => { results := [.lit (.bool true)], args := [d1, d2, d3] }
  | _ => none }
def sealMergesRow : OpenClaim := { program := "ytlbenmndmoeioaa", sum := "ec10f2f0401064a86f9de372ea5ab7af30de9aad559c4e1902dfc0955cd88d95", func := "supercargo/supercargolaw06.SealMerges", spec := "sealMerges", plainKeys := false, apart := false }
def SealMergesSaid : Prop := sealMergesRow.holds Try.pinned (OpenSpec.ofChange sealMergesSpec)

/-- ITS FALSE NEIGHBOUR: 'it returns false'. Refute it at one input. -/
def sealMergesWrong : ChangeSpec := { name := "sealMerges", fn := fun _ => fun
  | [d1, d2, d3] => { results := [.lit (.bool false)], args := [d1, d2, d3] }
  | _ => none }
def SealMergesWrongFalsely : Prop := sealMergesRow.holds Try.pinned (OpenSpec.ofChange sealMergesWrong)

/-- 'supercargolaw06.SealRows': WHATEVER THE INPUT: true; the input reads as it did. -/
def sealRowsSpec : ChangeSpec := { name := "sealRows", fn := fun _ => fun
  | [d1, d2, d3, d4] => { results := [.lit (.bool true)], args := [d1, d2, d3, d4] }
  | _ => none }
def sealRowsRow : OpenClaim := { program := "ytlbenmndmoeioaa", sum := "ec10f2f0401064a86f9de372ea5ab7af30de9aad559c4e1902dfc0955cd88d95", func := "supercargo/supercargolaw06.SealRows", spec := "sealRows", plainKeys := false, apart := false }
def SealRowsSaid : Prop := sealRowsRow.holds Try.pinned (OpenSpec.ofChange sealRowsSpec)

/-- ITS FALSE NEIGHBOUR: 'it returns false'. Refute it at one input. -/
def sealRowsWrong : ChangeSpec := { name := "sealRows", fn := fun _ => fun
  | [d1, d2, d3, d4] => { results := [.lit (.bool false)], args := [d1, d2, d3, d4] }
  | _ => none }
def SealRowsWrongFalsely : Prop := sealRowsRow.holds Try.pinned (OpenSpec.ofChange sealRowsWrong)

/- THE SECOND FORM. 'bulk': how many values and letters a reading holds, each counted each time it is reached (what is shared counts as often as it is met; a slice's spare places count too). A statement '..UptoSaid' is the law's where the arguments, and the package variables that the reading takes, are together of bulk at most 1048576: NARROWER than '..Said'. Prove '..Said' where nothing that the law and all that it calls make is longer than what came in: it says more and counts as full. Else prove '..UptoSaid'. A law counts once. -/
mutual
def uptoBulk {H : Type} : DataW H → Nat
  | .lit (.string bytes) => bytes.length + 1
  | .lit _ => 1
  | .nil => 1
  | .ptr d => uptoBulk d + 1
  | .slice elems spare => uptoBulkAll elems + uptoBulkAll spare + 1
  | .agg parts => uptoBulkAll parts + 1
  | .iface _ d => uptoBulk d + 1
  | .map entries => uptoBulkEntries entries + 1
  | .held _ => 1
def uptoBulkAll {H : Type} : List (DataW H) → Nat
  | [] => 0
  | d :: r => uptoBulk d + uptoBulkAll r
def uptoBulkEntries {H : Type} : List (Lit × DataW H) → Nat
  | [] => 0
  | x :: r => uptoBulkEntry x + uptoBulkEntries r
def uptoBulkEntry {H : Type} : Lit × DataW H → Nat
  | (.string bytes, d) => bytes.length + uptoBulk d + 1
  | (_, d) => uptoBulk d + 1
 end
def uptoSmall : (H : Type) → List (DataW H) → Bool := fun _ ds => decide (uptoBulkAll ds ≤ 1048576)
def OpenSpec.upto (s : _root_.Go.ChangeSpec) : _root_.Go.OpenSpec := { _root_.Go.OpenSpec.ofChange s with cond := some uptoSmall }

/-- 'supercargolaw06.SealDigests', WHERE WHAT IT READS IS OF BULK AT MOST 1048576: true; the input reads as it did. -/
def sealDigestsUptoRow : OpenClaim := { program := "ytlbenmndmoeioaa", sum := "ec10f2f0401064a86f9de372ea5ab7af30de9aad559c4e1902dfc0955cd88d95", func := "supercargo/supercargolaw06.SealDigests", spec := "sealDigests", plainKeys := false, apart := false, narrowed := true }
def SealDigestsUptoSaid : Prop := sealDigestsUptoRow.holds Try.pinned (OpenSpec.upto sealDigestsSpec)

/-- 'supercargolaw06.SealSigns', WHERE WHAT IT READS IS OF BULK AT MOST 1048576: true; the input reads as it did. -/
def sealSignsUptoRow : OpenClaim := { program := "ytlbenmndmoeioaa", sum := "ec10f2f0401064a86f9de372ea5ab7af30de9aad559c4e1902dfc0955cd88d95", func := "supercargo/supercargolaw06.SealSigns", spec := "sealSigns", plainKeys := false, apart := false, narrowed := true }
def SealSignsUptoSaid : Prop := sealSignsUptoRow.holds Try.pinned (OpenSpec.upto sealSignsSpec)

/-- 'supercargolaw06.SealAgain', WHERE WHAT IT READS IS OF BULK AT MOST 1048576: true; the input reads as it did. -/
def sealAgainUptoRow : OpenClaim := { program := "ytlbenmndmoeioaa", sum := "ec10f2f0401064a86f9de372ea5ab7af30de9aad559c4e1902dfc0955cd88d95", func := "supercargo/supercargolaw06.SealAgain", spec := "sealAgain", plainKeys := false, apart := false, narrowed := true }
def SealAgainUptoSaid : Prop := sealAgainUptoRow.holds Try.pinned (OpenSpec.upto sealAgainSpec)

/-- 'supercargolaw06.SealApart', WHERE WHAT IT READS IS OF BULK AT MOST 1048576: true; the input reads as it did. -/
def sealApartUptoRow : OpenClaim := { program := "ytlbenmndmoeioaa", sum := "ec10f2f0401064a86f9de372ea5ab7af30de9aad559c4e1902dfc0955cd88d95", func := "supercargo/supercargolaw06.SealApart", spec := "sealApart", plainKeys := false, apart := false, narrowed := true }
def SealApartUptoSaid : Prop := sealApartUptoRow.holds Try.pinned (OpenSpec.upto sealApartSpec)

/-- 'supercargolaw06.SealMerges', WHERE WHAT IT READS IS OF BULK AT MOST 1048576: true; the input reads as it did. -/
def sealMergesUptoRow : OpenClaim := { program := "ytlbenmndmoeioaa", sum := "ec10f2f0401064a86f9de372ea5ab7af30de9aad559c4e1902dfc0955cd88d95", func := "supercargo/supercargolaw06.SealMerges", spec := "sealMerges", plainKeys := false, apart := false, narrowed := true }
def SealMergesUptoSaid : Prop := sealMergesUptoRow.holds Try.pinned (OpenSpec.upto sealMergesSpec)

/-- 'supercargolaw06.SealRows', WHERE WHAT IT READS IS OF BULK AT MOST 1048576: true; the input reads as it did. -/
def sealRowsUptoRow : OpenClaim := { program := "ytlbenmndmoeioaa", sum := "ec10f2f0401064a86f9de372ea5ab7af30de9aad559c4e1902dfc0955cd88d95", func := "supercargo/supercargolaw06.SealRows", spec := "sealRows", plainKeys := false, apart := false, narrowed := true }
def SealRowsUptoSaid : Prop := sealRowsUptoRow.holds Try.pinned (OpenSpec.upto sealRowsSpec)

end Rows
end Go.Proofs.Ytlbenmndmoeioaa
