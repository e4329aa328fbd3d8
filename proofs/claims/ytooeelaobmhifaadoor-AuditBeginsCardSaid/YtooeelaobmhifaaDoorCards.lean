/-
  DERIVED. GIVEN WITH THE SEED: THE CARDS: each row of YtooeelaobmhifaaDoorRows.lean that lists a variable, with what it lists TIED to the program's text (the seventh form; the later family's looks); each row that meets fmt, with fmt's text TOLD by the authors' own Lean function (tested against real Go, not proved from fmt's source: count such statements apart). THE CARD IS WHAT COUNTS. Prove the row's statement (the work); the ties are given (YtooeelaobmhifaaDoorTie.lean); close each card by the builder's one call (the guide's Derived/Test/ToyasCard.lean, 'card_holds'). Laid BY PROGRAM, IN A SANDBOX (cutbox-door.mjs). By AI agents, Wed Nov 11 2026. No macro, syntax, notation, axiom, sorry.
-/
import Derived.Test.YtooeelaobmhifaaDoorRows
import GoSem.ClaimSeven
namespace Go.Proofs.YtooeelaobmhifaaDoor
namespace Rows

/-- THE TIED CARD OF 'supercargolaw56.AuditRemits'. -/
def auditRemitsCard : Claim7 := { stood := { row := auditRemitsRow, standIns := [], harness := (true, "bad0f90679f72f81aeb277de7e0858957eaead43db49e29eab14bb4de9b70e25"), looks := false }, kinds := [], alts := [], laidByText := true, laidKinds := [.data, .data, .data], laidTests := true, laidLooks := .later }
def AuditRemitsCardSaid : Prop := Claim7.holds Tryd.pinned (.plain (OpenSpec.ofChange auditRemitsSpec)) auditRemitsCard

/-- THE TIED CARD OF 'supercargolaw56.AuditBegins'. -/
def auditBeginsCard : Claim7 := { stood := { row := auditBeginsRow, standIns := [], harness := (true, "bad0f90679f72f81aeb277de7e0858957eaead43db49e29eab14bb4de9b70e25"), looks := false }, kinds := [], alts := [], laidByText := true, laidKinds := [.data, .data, .data], laidTests := true, laidLooks := .later }
def AuditBeginsCardSaid : Prop := Claim7.holds Tryd.pinned (.plain (OpenSpec.ofChange auditBeginsSpec)) auditBeginsCard

/-- THE SECOND FORM's CARD OF 'supercargolaw56.AuditRemits'. -/
def auditRemitsUptoCard : Claim7 := { stood := { row := auditRemitsUptoRow, standIns := [], harness := (true, "bad0f90679f72f81aeb277de7e0858957eaead43db49e29eab14bb4de9b70e25"), looks := false }, kinds := [], alts := [], laidByText := true, laidKinds := [.data, .data, .data], laidTests := true, laidLooks := .later }
def AuditRemitsUptoCardSaid : Prop := Claim7.holds Tryd.pinned (.plain (OpenSpec.upto auditRemitsSpec)) auditRemitsUptoCard

/-- THE SECOND FORM's CARD OF 'supercargolaw56.AuditBegins'. -/
def auditBeginsUptoCard : Claim7 := { stood := { row := auditBeginsUptoRow, standIns := [], harness := (true, "bad0f90679f72f81aeb277de7e0858957eaead43db49e29eab14bb4de9b70e25"), looks := false }, kinds := [], alts := [], laidByText := true, laidKinds := [.data, .data, .data], laidTests := true, laidLooks := .later }
def AuditBeginsUptoCardSaid : Prop := Claim7.holds Tryd.pinned (.plain (OpenSpec.upto auditBeginsSpec)) auditBeginsUptoCard
end Rows
end Go.Proofs.YtooeelaobmhifaaDoor
