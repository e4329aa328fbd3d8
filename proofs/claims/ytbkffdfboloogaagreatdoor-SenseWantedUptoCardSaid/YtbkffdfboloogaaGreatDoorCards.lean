/-
  DERIVED. GIVEN WITH THE SEED: THE CARDS: each row of YtbkffdfboloogaaGreatDoorRows.lean that lists a variable, with what it lists TIED to the program's text (the seventh form; the later family's looks); each row that meets fmt, with fmt's text TOLD by the authors' own Lean function (tested against real Go, not proved from fmt's source: count such statements apart). THE CARD IS WHAT COUNTS. Prove the row's statement (the work); the ties are given (YtbkffdfboloogaaGreatDoorTie.lean); close each card by the builder's one call (the guide's Derived/Test/ToyasCard.lean, 'card_holds'). Laid BY PROGRAM, IN A SANDBOX (cutbox-door.mjs). By AI agents, Wed Nov 11 2026. No macro, syntax, notation, axiom, sorry.
-/
import Derived.Test.YtbkffdfboloogaaGreatDoorRows
import GoSem.ClaimSeven
namespace Go.Proofs.YtbkffdfboloogaaGreatDoor
namespace Rows

/-- THE TIED CARD OF 'supercargolaw29.SenseFine'. -/
def senseFineCard : Claim7 := { stood := { row := senseFineRow, standIns := [], harness := (true, "a0c8907fc731a0d4806bc97235f0d9a8d72e68b13a3f89638ed971163de54bb2"), looks := true }, kinds := [], alts := [], laidByText := true, laidKinds := [.data, .data, .data, .sentinel, .sentinel, .data, .data], laidTests := true, laidLooks := .later }
def SenseFineCardSaid : Prop := Claim7.holds Tryz.pinned (.plain (OpenSpec.ofChange senseFineSpec)) senseFineCard

/-- THE TIED CARD OF 'supercargolaw29.SenseWanted'. -/
def senseWantedCard : Claim7 := { stood := { row := senseWantedRow, standIns := [], harness := (true, "a0c8907fc731a0d4806bc97235f0d9a8d72e68b13a3f89638ed971163de54bb2"), looks := true }, kinds := [], alts := [], laidByText := true, laidKinds := [.data, .data, .data, .sentinel, .sentinel, .data, .data], laidTests := true, laidLooks := .later }
def SenseWantedCardSaid : Prop := Claim7.holds Tryz.pinned (.plain (OpenSpec.ofChange senseWantedSpec)) senseWantedCard

/-- THE SECOND FORM's CARD OF 'supercargolaw29.SenseFine'. -/
def senseFineUptoCard : Claim7 := { stood := { row := senseFineUptoRow, standIns := [], harness := (true, "a0c8907fc731a0d4806bc97235f0d9a8d72e68b13a3f89638ed971163de54bb2"), looks := true }, kinds := [], alts := [], laidByText := true, laidKinds := [.data, .data, .data, .sentinel, .sentinel, .data, .data], laidTests := true, laidLooks := .later }
def SenseFineUptoCardSaid : Prop := Claim7.holds Tryz.pinned (.plain (OpenSpec.upto senseFineSpec)) senseFineUptoCard

/-- THE SECOND FORM's CARD OF 'supercargolaw29.SenseWanted'. -/
def senseWantedUptoCard : Claim7 := { stood := { row := senseWantedUptoRow, standIns := [], harness := (true, "a0c8907fc731a0d4806bc97235f0d9a8d72e68b13a3f89638ed971163de54bb2"), looks := true }, kinds := [], alts := [], laidByText := true, laidKinds := [.data, .data, .data, .sentinel, .sentinel, .data, .data], laidTests := true, laidLooks := .later }
def SenseWantedUptoCardSaid : Prop := Claim7.holds Tryz.pinned (.plain (OpenSpec.upto senseWantedSpec)) senseWantedUptoCard
end Rows
end Go.Proofs.YtbkffdfboloogaaGreatDoor
