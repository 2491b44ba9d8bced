/-
  DERIVED. GIVEN WITH THE SEED: THE CARDS: each row of YtagghdehbkbemaaGreatDoorRows.lean that lists a variable, with what it lists TIED to the program's text (the seventh form; the later family's looks); each row that meets fmt, with fmt's text TOLD by the authors' own Lean function (tested against real Go, not proved from fmt's source: count such statements apart). THE CARD IS WHAT COUNTS. Prove the row's statement (the work); the ties are given (YtagghdehbkbemaaGreatDoorTie.lean); close each card by the builder's one call (the guide's Derived/Test/ToyasCard.lean, 'card_holds'). Laid BY PROGRAM, IN A SANDBOX (cutbox-door.mjs). By AI agents, Wed Nov 11 2026. No macro, syntax, notation, axiom, sorry.
-/
import Derived.Test.YtagghdehbkbemaaGreatDoorRows
import GoSem.ClaimSeven
namespace Go.Proofs.YtagghdehbkbemaaGreatDoor
namespace Rows

/-- THE TIED CARD OF 'pergolalaw04.JsonoutKeeps'. -/
def jsonoutKeepsCard : Claim7 := { stood := { row := jsonoutKeepsRow, standIns := [], harness := (true, "7a09ce2a17b4f9647d0c2c17f896c6e18c83a515119b6b2d523d25f2e396764f"), looks := true }, kinds := [], alts := [], laidByText := true, laidKinds := [.data, .data, .data, .data, .data, .pinned, .pinned, .pinned], laidTests := true, laidLooks := .later }
def JsonoutKeepsCardSaid : Prop := Claim7.holds Tryz.pinned (.plain (OpenSpec.ofChange jsonoutKeepsSpec)) jsonoutKeepsCard

/-- THE SECOND FORM's CARD OF 'pergolalaw04.JsonoutKeeps'. -/
def jsonoutKeepsUptoCard : Claim7 := { stood := { row := jsonoutKeepsUptoRow, standIns := [], harness := (true, "7a09ce2a17b4f9647d0c2c17f896c6e18c83a515119b6b2d523d25f2e396764f"), looks := true }, kinds := [], alts := [], laidByText := true, laidKinds := [.data, .data, .data, .data, .data, .pinned, .pinned, .pinned], laidTests := true, laidLooks := .later }
def JsonoutKeepsUptoCardSaid : Prop := Claim7.holds Tryz.pinned (.plain (OpenSpec.upto jsonoutKeepsSpec)) jsonoutKeepsUptoCard
end Rows
end Go.Proofs.YtagghdehbkbemaaGreatDoor
