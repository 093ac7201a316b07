/-
  DERIVED. GIVEN WITH THE SEED: THE CARDS: each row of YtbngkdgmmknfjaaGreatDoorRows.lean that lists a variable, with what it lists TIED to the program's text (the seventh form; the later family's looks); each row that meets fmt, with fmt's text TOLD by the authors' own Lean function (tested against real Go, not proved from fmt's source: count such statements apart). THE CARD IS WHAT COUNTS. Prove the row's statement (the work); the ties are given (YtbngkdgmmknfjaaGreatDoorTie.lean); close each card by the builder's one call (the guide's Derived/Test/ToyasCard.lean, 'card_holds'). Laid BY PROGRAM, IN A SANDBOX (cutbox-door.mjs). By AI agents, Wed Nov 11 2026. No macro, syntax, notation, axiom, sorry.
-/
import Derived.Test.YtbngkdgmmknfjaaGreatDoorRows
import GoSem.ClaimSeven
namespace Go.Proofs.YtbngkdgmmknfjaaGreatDoor
namespace Rows

/-- THE TIED CARD OF 'castellanlaw22.MachineOfNothing'. -/
def machineOfNothingCard : Claim7 := { stood := { row := machineOfNothingRow, standIns := [], harness := (true, "fe496b9bd4777968d39e4f6016bbb57daf474dc9c64569dd8bc7bafb17aecc52"), looks := true }, kinds := [], alts := [], laidByText := true, laidKinds := [.data, .data, .data, .data, .sentinel, .sentinel, .pinned], laidTests := true, laidLooks := .later }
def MachineOfNothingCardSaid : Prop := Claim7.holds Tryz.pinned (.plain (OpenSpec.ofChange machineOfNothingSpec)) machineOfNothingCard

/-- THE SECOND FORM's CARD OF 'castellanlaw22.MachineOfNothing'. -/
def machineOfNothingUptoCard : Claim7 := { stood := { row := machineOfNothingUptoRow, standIns := [], harness := (true, "fe496b9bd4777968d39e4f6016bbb57daf474dc9c64569dd8bc7bafb17aecc52"), looks := true }, kinds := [], alts := [], laidByText := true, laidKinds := [.data, .data, .data, .data, .sentinel, .sentinel, .pinned], laidTests := true, laidLooks := .later }
def MachineOfNothingUptoCardSaid : Prop := Claim7.holds Tryz.pinned (.plain (OpenSpec.upto machineOfNothingSpec)) machineOfNothingUptoCard
end Rows
end Go.Proofs.YtbngkdgmmknfjaaGreatDoor
