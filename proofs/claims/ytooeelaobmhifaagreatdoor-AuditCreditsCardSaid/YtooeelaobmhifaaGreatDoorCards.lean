/-
  DERIVED. GIVEN WITH THE SEED: THE CARDS: each row of YtooeelaobmhifaaGreatDoorRows.lean that lists a variable, with what it lists TIED to the program's text (the seventh form; the later family's looks); each row that meets fmt, with fmt's text TOLD by the authors' own Lean function (tested against real Go, not proved from fmt's source: count such statements apart). THE CARD IS WHAT COUNTS. Prove the row's statement (the work); the ties are given (YtooeelaobmhifaaGreatDoorTie.lean); close each card by the builder's one call (the guide's Derived/Test/ToyasCard.lean, 'card_holds'). Laid BY PROGRAM, IN A SANDBOX (cutbox-door.mjs). By AI agents, Wed Nov 11 2026. No macro, syntax, notation, axiom, sorry.
-/
import Derived.Test.YtooeelaobmhifaaGreatDoorRows
import GoSem.ClaimSeven
namespace Go.Proofs.YtooeelaobmhifaaGreatDoor
namespace Rows

/-- THE TIED CARD OF 'supercargolaw56.AuditCredits'. -/
def auditCreditsCard : Claim7 := { stood := { row := auditCreditsRow, standIns := [], harness := (true, "5af61206aac77186f18147d41cb6ac7e60f71409acd7a3ef858a9991df699522"), looks := false }, kinds := [], alts := [], laidByText := true, laidKinds := [.data, .data, .data], laidTests := true, laidLooks := .later }
def AuditCreditsCardSaid : Prop := Claim7.holds Tryz.pinned (.plain (OpenSpec.ofChange auditCreditsSpec)) auditCreditsCard

/-- THE SECOND FORM's CARD OF 'supercargolaw56.AuditCredits'. -/
def auditCreditsUptoCard : Claim7 := { stood := { row := auditCreditsUptoRow, standIns := [], harness := (true, "5af61206aac77186f18147d41cb6ac7e60f71409acd7a3ef858a9991df699522"), looks := false }, kinds := [], alts := [], laidByText := true, laidKinds := [.data, .data, .data], laidTests := true, laidLooks := .later }
def AuditCreditsUptoCardSaid : Prop := Claim7.holds Tryz.pinned (.plain (OpenSpec.upto auditCreditsSpec)) auditCreditsUptoCard
end Rows
end Go.Proofs.YtooeelaobmhifaaGreatDoor
