/-
  DERIVED. GIVEN WITH THE SEED: THE CARDS: each row of YtchkdidpnjakeaaGreatDoorRows.lean that lists a variable, with what it lists TIED to the program's text (the seventh form; the later family's looks); each row that meets fmt, with fmt's text TOLD by the authors' own Lean function (tested against real Go, not proved from fmt's source: count such statements apart). THE CARD IS WHAT COUNTS. Prove the row's statement (the work); the ties are given (YtchkdidpnjakeaaGreatDoorTie.lean); close each card by the builder's one call (the guide's Derived/Test/ToyasCard.lean, 'card_holds'). Laid BY PROGRAM, IN A SANDBOX (cutbox-door.mjs). By AI agents, Wed Nov 11 2026. No macro, syntax, notation, axiom, sorry.
-/
import Derived.Test.YtchkdidpnjakeaaGreatDoorRows
import GoSem.ClaimSeven
namespace Go.Proofs.YtchkdidpnjakeaaGreatDoor
namespace Rows

/-- THE TIED CARD OF 'supercargolaw54.TownMay'. -/
def townMayCard : Claim7 := { stood := { row := townMayRow, standIns := [], harness := (true, "8f2d2f2c36f723b8e9c19c29c38b460f13fac52a1b656a3127356916838a0bd9"), looks := true }, kinds := [], alts := [], laidByText := true, laidKinds := [.data, .data, .data, .sentinel, .sentinel, .data, .data], laidTests := true, laidLooks := .later }
def TownMayCardSaid : Prop := Claim7.holds Tryz.pinned (.plain (OpenSpec.ofChange townMaySpec)) townMayCard

/-- THE SECOND FORM's CARD OF 'supercargolaw54.TownMay'. -/
def townMayUptoCard : Claim7 := { stood := { row := townMayUptoRow, standIns := [], harness := (true, "8f2d2f2c36f723b8e9c19c29c38b460f13fac52a1b656a3127356916838a0bd9"), looks := true }, kinds := [], alts := [], laidByText := true, laidKinds := [.data, .data, .data, .sentinel, .sentinel, .data, .data], laidTests := true, laidLooks := .later }
def TownMayUptoCardSaid : Prop := Claim7.holds Tryz.pinned (.plain (OpenSpec.upto townMaySpec)) townMayUptoCard
end Rows
end Go.Proofs.YtchkdidpnjakeaaGreatDoor
