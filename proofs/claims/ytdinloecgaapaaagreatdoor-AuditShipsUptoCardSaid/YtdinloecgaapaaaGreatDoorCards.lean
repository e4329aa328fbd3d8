/-
  DERIVED. GIVEN WITH THE SEED: THE CARDS: each row of YtdinloecgaapaaaGreatDoorRows.lean that lists a variable, with what it lists TIED to the program's text (the seventh form; the later family's looks); each row that meets fmt, with fmt's text TOLD by the authors' own Lean function (tested against real Go, not proved from fmt's source: count such statements apart). THE CARD IS WHAT COUNTS. Prove the row's statement (the work); the ties are given (YtdinloecgaapaaaGreatDoorTie.lean); close each card by the builder's one call (the guide's Derived/Test/ToyasCard.lean, 'card_holds'). Laid BY PROGRAM, IN A SANDBOX (cutbox-door.mjs). By AI agents, Wed Nov 11 2026. No macro, syntax, notation, axiom, sorry.
-/
import Derived.Test.YtdinloecgaapaaaGreatDoorRows
import GoSem.ClaimSeven
namespace Go.Proofs.YtdinloecgaapaaaGreatDoor
namespace Rows

/-- THE TIED CARD OF 'supercargolaw56.AuditLives'. -/
def auditLivesCard : Claim7 := { stood := { row := auditLivesRow, standIns := [], harness := (true, "568dc04712385847a08e4b163ec78cf7c1cb4fb74767c77aaa921163d6707a66"), looks := false }, kinds := [], alts := [], laidByText := true, laidKinds := [.data, .data, .data], laidTests := true, laidLooks := .later }
def AuditLivesCardSaid : Prop := Claim7.holds Tryz.pinned (.plain (OpenSpec.ofChange auditLivesSpec)) auditLivesCard

/-- THE TIED CARD OF 'supercargolaw56.AuditShips'. -/
def auditShipsCard : Claim7 := { stood := { row := auditShipsRow, standIns := [], harness := (true, "568dc04712385847a08e4b163ec78cf7c1cb4fb74767c77aaa921163d6707a66"), looks := false }, kinds := [], alts := [], laidByText := true, laidKinds := [.data, .data, .data], laidTests := true, laidLooks := .later }
def AuditShipsCardSaid : Prop := Claim7.holds Tryz.pinned (.plain (OpenSpec.ofChange auditShipsSpec)) auditShipsCard

/-- THE SECOND FORM's CARD OF 'supercargolaw56.AuditLives'. -/
def auditLivesUptoCard : Claim7 := { stood := { row := auditLivesUptoRow, standIns := [], harness := (true, "568dc04712385847a08e4b163ec78cf7c1cb4fb74767c77aaa921163d6707a66"), looks := false }, kinds := [], alts := [], laidByText := true, laidKinds := [.data, .data, .data], laidTests := true, laidLooks := .later }
def AuditLivesUptoCardSaid : Prop := Claim7.holds Tryz.pinned (.plain (OpenSpec.upto auditLivesSpec)) auditLivesUptoCard

/-- THE SECOND FORM's CARD OF 'supercargolaw56.AuditShips'. -/
def auditShipsUptoCard : Claim7 := { stood := { row := auditShipsUptoRow, standIns := [], harness := (true, "568dc04712385847a08e4b163ec78cf7c1cb4fb74767c77aaa921163d6707a66"), looks := false }, kinds := [], alts := [], laidByText := true, laidKinds := [.data, .data, .data], laidTests := true, laidLooks := .later }
def AuditShipsUptoCardSaid : Prop := Claim7.holds Tryz.pinned (.plain (OpenSpec.upto auditShipsSpec)) auditShipsUptoCard
end Rows
end Go.Proofs.YtdinloecgaapaaaGreatDoor
