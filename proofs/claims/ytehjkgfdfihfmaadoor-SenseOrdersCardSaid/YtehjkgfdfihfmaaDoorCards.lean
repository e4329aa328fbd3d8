/-
  DERIVED. GIVEN WITH THE SEED: THE CARDS: each row of YtehjkgfdfihfmaaDoorRows.lean that lists a variable, with what it lists TIED to the program's text (the seventh form; the later family's looks); each row that meets fmt, with fmt's text TOLD by the authors' own Lean function (tested against real Go, not proved from fmt's source: count such statements apart). THE CARD IS WHAT COUNTS. Prove the row's statement (the work); the ties are given (YtehjkgfdfihfmaaDoorTie.lean); close each card by the builder's one call (the guide's Derived/Test/ToyasCard.lean, 'card_holds'). Laid BY PROGRAM, IN A SANDBOX (cutbox-door.mjs). By AI agents, Wed Nov 11 2026. No macro, syntax, notation, axiom, sorry.
-/
import Derived.Test.YtehjkgfdfihfmaaDoorRows
import GoSem.ClaimSeven
namespace Go.Proofs.YtehjkgfdfihfmaaDoor
namespace Rows

/-- THE TIED CARD OF 'supercargolaw29.SenseOrders'. -/
def senseOrdersCard : Claim7 := { stood := { row := senseOrdersRow, standIns := [], harness := (true, "00f56a1d2bb71bbd123656679c5a5e2db77da18d5e555ce249ffef1141ceed32"), looks := true }, kinds := [], alts := [], laidByText := true, laidKinds := [.data, .data, .data, .sentinel, .sentinel], laidTests := true, laidLooks := .later }
def SenseOrdersCardSaid : Prop := Claim7.holds Tryd.pinned (.plain (OpenSpec.ofChange senseOrdersSpec)) senseOrdersCard

/-- THE TIED CARD OF 'supercargolaw29.SenseFields'. -/
def senseFieldsCard : Claim7 := { stood := { row := senseFieldsRow, standIns := [], harness := (true, "00f56a1d2bb71bbd123656679c5a5e2db77da18d5e555ce249ffef1141ceed32"), looks := true }, kinds := [], alts := [], laidByText := true, laidKinds := [.data, .data, .data, .sentinel, .sentinel, .data], laidTests := true, laidLooks := .later }
def SenseFieldsCardSaid : Prop := Claim7.holds Tryd.pinned (.plain (OpenSpec.ofChange senseFieldsSpec)) senseFieldsCard

/-- THE SECOND FORM's CARD OF 'supercargolaw29.SenseOrders'. -/
def senseOrdersUptoCard : Claim7 := { stood := { row := senseOrdersUptoRow, standIns := [], harness := (true, "00f56a1d2bb71bbd123656679c5a5e2db77da18d5e555ce249ffef1141ceed32"), looks := true }, kinds := [], alts := [], laidByText := true, laidKinds := [.data, .data, .data, .sentinel, .sentinel], laidTests := true, laidLooks := .later }
def SenseOrdersUptoCardSaid : Prop := Claim7.holds Tryd.pinned (.plain (OpenSpec.upto senseOrdersSpec)) senseOrdersUptoCard

/-- THE SECOND FORM's CARD OF 'supercargolaw29.SenseFields'. -/
def senseFieldsUptoCard : Claim7 := { stood := { row := senseFieldsUptoRow, standIns := [], harness := (true, "00f56a1d2bb71bbd123656679c5a5e2db77da18d5e555ce249ffef1141ceed32"), looks := true }, kinds := [], alts := [], laidByText := true, laidKinds := [.data, .data, .data, .sentinel, .sentinel, .data], laidTests := true, laidLooks := .later }
def SenseFieldsUptoCardSaid : Prop := Claim7.holds Tryd.pinned (.plain (OpenSpec.upto senseFieldsSpec)) senseFieldsUptoCard
end Rows
end Go.Proofs.YtehjkgfdfihfmaaDoor
