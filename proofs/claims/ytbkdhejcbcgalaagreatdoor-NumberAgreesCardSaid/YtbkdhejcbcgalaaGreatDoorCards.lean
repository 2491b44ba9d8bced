/-
  DERIVED. GIVEN WITH THE SEED: THE CARDS: each row of YtbkdhejcbcgalaaGreatDoorRows.lean that lists a variable, with what it lists TIED to the program's text (the seventh form; the later family's looks); each row that meets fmt, with fmt's text TOLD by the authors' own Lean function (tested against real Go, not proved from fmt's source: count such statements apart). THE CARD IS WHAT COUNTS. Prove the row's statement (the work); the ties are given (YtbkdhejcbcgalaaGreatDoorTie.lean); close each card by the builder's one call (the guide's Derived/Test/ToyasCard.lean, 'card_holds'). Laid BY PROGRAM, IN A SANDBOX (cutbox-door.mjs). By AI agents, Wed Nov 11 2026. No macro, syntax, notation, axiom, sorry.
-/
import Derived.Test.YtbkdhejcbcgalaaGreatDoorRows
import GoSem.ClaimSeven
namespace Go.Proofs.YtbkdhejcbcgalaaGreatDoor
namespace Rows

/-- THE TIED CARD OF 'pergolalaw02.NumberBack'. -/
def numberBackCard : Claim7 := { stood := { row := numberBackRow, standIns := [], harness := (true, "8c5e574e6d1a60ce001e4c6e433cf29645227fc87655d67cdc03f89dbbe63c47"), looks := true }, kinds := [], alts := [], laidByText := true, laidKinds := [.data, .data, .widerDeep, .widerDeep, .data, .data, .data, .data, .data, .sentinel, .sentinel, .pinned, .pinned], laidTests := true, laidLooks := .later }
def NumberBackCardSaid : Prop := Claim7.holds Tryz.pinned (.plain (OpenSpec.ofChange numberBackSpec)) numberBackCard

/-- THE TIED CARD OF 'pergolalaw02.NumberAgrees'. -/
def numberAgreesCard : Claim7 := { stood := { row := numberAgreesRow, standIns := [], harness := (true, "8c5e574e6d1a60ce001e4c6e433cf29645227fc87655d67cdc03f89dbbe63c47"), looks := true }, kinds := [], alts := [], laidByText := true, laidKinds := [.data, .data, .widerDeep, .widerDeep, .data, .data, .data, .data, .data, .sentinel, .sentinel, .pinned, .pinned], laidTests := true, laidLooks := .later }
def NumberAgreesCardSaid : Prop := Claim7.holds Tryz.pinned (.plain (OpenSpec.ofChange numberAgreesSpec)) numberAgreesCard

/-- THE SECOND FORM's CARD OF 'pergolalaw02.NumberBack'. -/
def numberBackUptoCard : Claim7 := { stood := { row := numberBackUptoRow, standIns := [], harness := (true, "8c5e574e6d1a60ce001e4c6e433cf29645227fc87655d67cdc03f89dbbe63c47"), looks := true }, kinds := [], alts := [], laidByText := true, laidKinds := [.data, .data, .widerDeep, .widerDeep, .data, .data, .data, .data, .data, .sentinel, .sentinel, .pinned, .pinned], laidTests := true, laidLooks := .later }
def NumberBackUptoCardSaid : Prop := Claim7.holds Tryz.pinned (.plain (OpenSpec.upto numberBackSpec)) numberBackUptoCard

/-- THE SECOND FORM's CARD OF 'pergolalaw02.NumberAgrees'. -/
def numberAgreesUptoCard : Claim7 := { stood := { row := numberAgreesUptoRow, standIns := [], harness := (true, "8c5e574e6d1a60ce001e4c6e433cf29645227fc87655d67cdc03f89dbbe63c47"), looks := true }, kinds := [], alts := [], laidByText := true, laidKinds := [.data, .data, .widerDeep, .widerDeep, .data, .data, .data, .data, .data, .sentinel, .sentinel, .pinned, .pinned], laidTests := true, laidLooks := .later }
def NumberAgreesUptoCardSaid : Prop := Claim7.holds Tryz.pinned (.plain (OpenSpec.upto numberAgreesSpec)) numberAgreesUptoCard
end Rows
end Go.Proofs.YtbkdhejcbcgalaaGreatDoor
