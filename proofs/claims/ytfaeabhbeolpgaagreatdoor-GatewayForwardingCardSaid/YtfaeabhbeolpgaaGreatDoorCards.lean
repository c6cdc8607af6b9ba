/-
  DERIVED. GIVEN WITH THE SEED: THE CARDS: each row of YtfaeabhbeolpgaaGreatDoorRows.lean that lists a variable, with what it lists TIED to the program's text (the seventh form; the later family's looks); each row that meets fmt, with fmt's text TOLD by the authors' own Lean function (tested against real Go, not proved from fmt's source: count such statements apart). THE CARD IS WHAT COUNTS. Prove the row's statement (the work); the ties are given (YtfaeabhbeolpgaaGreatDoorTie.lean); close each card by the builder's one call (the guide's Derived/Test/ToyasCard.lean, 'card_holds'). Laid BY PROGRAM, IN A SANDBOX (cutbox-door.mjs). By AI agents, Wed Nov 11 2026. No macro, syntax, notation, axiom, sorry.
-/
import Derived.Test.YtfaeabhbeolpgaaGreatDoorRows
import GoSem.ClaimSeven
namespace Go.Proofs.YtfaeabhbeolpgaaGreatDoor
namespace Rows

/-- THE TIED CARD OF 'univocallaw33.GatewayForwarding'. -/
def gatewayForwardingCard : Claim7 := { stood := { row := gatewayForwardingRow, standIns := [], harness := (true, "1b60b7d20290cb6b2b3b8bd14a236892247c7217c4d93744133a7c2b8704a41f"), looks := true }, kinds := [], alts := [], laidByText := true, laidKinds := [.data], laidTests := true, laidLooks := .later }
def GatewayForwardingCardSaid : Prop := Claim7.holds Tryz.pinned (.plain (OpenSpec.ofChange gatewayForwardingSpec)) gatewayForwardingCard

/-- THE SECOND FORM's CARD OF 'univocallaw33.GatewayForwarding'. -/
def gatewayForwardingUptoCard : Claim7 := { stood := { row := gatewayForwardingUptoRow, standIns := [], harness := (true, "1b60b7d20290cb6b2b3b8bd14a236892247c7217c4d93744133a7c2b8704a41f"), looks := true }, kinds := [], alts := [], laidByText := true, laidKinds := [.data], laidTests := true, laidLooks := .later }
def GatewayForwardingUptoCardSaid : Prop := Claim7.holds Tryz.pinned (.plain (OpenSpec.upto gatewayForwardingSpec)) gatewayForwardingUptoCard
end Rows
end Go.Proofs.YtfaeabhbeolpgaaGreatDoor
