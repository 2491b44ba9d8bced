/-
  DERIVED. GIVEN WITH THE SEED: THE CARDS: each row of YtjhhdnnblcbdbaaGreatDoorRows.lean that lists a variable, with what it lists TIED to the program's text (the seventh form; the later family's looks); each row that meets fmt, with fmt's text TOLD by the authors' own Lean function (tested against real Go, not proved from fmt's source: count such statements apart). THE CARD IS WHAT COUNTS. Prove the row's statement (the work); the ties are given (YtjhhdnnblcbdbaaGreatDoorTie.lean); close each card by the builder's one call (the guide's Derived/Test/ToyasCard.lean, 'card_holds'). Laid BY PROGRAM, IN A SANDBOX (cutbox-door.mjs). By AI agents, Wed Nov 11 2026. No macro, syntax, notation, axiom, sorry.
-/
import Derived.Test.YtjhhdnnblcbdbaaGreatDoorRows
import GoSem.ClaimSeven
namespace Go.Proofs.YtjhhdnnblcbdbaaGreatDoor
namespace Rows

/-- THE TIED CARD OF 'pergolalaw05.JsoninStays'. -/
def jsoninStaysCard : Claim7 := { stood := { row := jsoninStaysRow, standIns := [], harness := (true, "8d2baeb34e66ef9d558769093218d8839405010472680bb87bbc99bda43af110"), looks := true }, kinds := [], alts := [], laidByText := true, laidKinds := [.data, .data, .widerDeep, .widerDeep, .data, .data, .data, .data, .data, .sentinel, .sentinel, .pinned, .pinned], laidTests := true, laidLooks := .later }
def JsoninStaysCardSaid : Prop := Claim7.holds Tryz.pinned (.plain (OpenSpec.ofChange jsoninStaysSpec)) jsoninStaysCard

/-- THE TIED CARD OF 'pergolalaw05.JsoninReads'. -/
def jsoninReadsCard : Claim7 := { stood := { row := jsoninReadsRow, standIns := [], harness := (true, "8d2baeb34e66ef9d558769093218d8839405010472680bb87bbc99bda43af110"), looks := true }, kinds := [], alts := [], laidByText := true, laidKinds := [.data, .data, .widerDeep, .widerDeep, .data, .data, .data, .data, .data, .sentinel, .sentinel, .pinned, .pinned], laidTests := true, laidLooks := .later }
def JsoninReadsCardSaid : Prop := Claim7.holds Tryz.pinned (.plain (OpenSpec.ofChange jsoninReadsSpec)) jsoninReadsCard

/-- THE TIED CARD OF 'pergolalaw05.JsoninNumbers'. -/
def jsoninNumbersCard : Claim7 := { stood := { row := jsoninNumbersRow, standIns := [], harness := (true, "8d2baeb34e66ef9d558769093218d8839405010472680bb87bbc99bda43af110"), looks := true }, kinds := [], alts := [], laidByText := true, laidKinds := [.data, .data, .widerDeep, .widerDeep, .data, .data, .data, .data, .data, .sentinel, .sentinel, .pinned, .pinned], laidTests := true, laidLooks := .later }
def JsoninNumbersCardSaid : Prop := Claim7.holds Tryz.pinned (.plain (OpenSpec.ofChange jsoninNumbersSpec)) jsoninNumbersCard

/-- THE TIED CARD OF 'pergolalaw05.JsoninKeeps'. -/
def jsoninKeepsCard : Claim7 := { stood := { row := jsoninKeepsRow, standIns := [], harness := (true, "8d2baeb34e66ef9d558769093218d8839405010472680bb87bbc99bda43af110"), looks := true }, kinds := [], alts := [], laidByText := true, laidKinds := [.data, .data, .widerDeep, .widerDeep, .data, .data, .data, .data, .data, .sentinel, .sentinel, .pinned, .pinned], laidTests := true, laidLooks := .later }
def JsoninKeepsCardSaid : Prop := Claim7.holds Tryz.pinned (.plain (OpenSpec.ofChange jsoninKeepsSpec)) jsoninKeepsCard

/-- THE TIED CARD OF 'pergolalaw05.JsoninShifts'. -/
def jsoninShiftsCard : Claim7 := { stood := { row := jsoninShiftsRow, standIns := [], harness := (true, "8d2baeb34e66ef9d558769093218d8839405010472680bb87bbc99bda43af110"), looks := true }, kinds := [], alts := [], laidByText := true, laidKinds := [.data, .data, .widerDeep, .widerDeep, .data, .data, .data, .data, .data, .sentinel, .sentinel, .pinned, .pinned], laidTests := true, laidLooks := .later }
def JsoninShiftsCardSaid : Prop := Claim7.holds Tryz.pinned (.plain (OpenSpec.ofChange jsoninShiftsSpec)) jsoninShiftsCard

/-- THE TIED CARD OF 'pergolalaw05.JsoninDepths'. -/
def jsoninDepthsCard : Claim7 := { stood := { row := jsoninDepthsRow, standIns := [], harness := (true, "8d2baeb34e66ef9d558769093218d8839405010472680bb87bbc99bda43af110"), looks := true }, kinds := [], alts := [], laidByText := true, laidKinds := [.data, .data, .widerDeep, .widerDeep, .data, .data, .data, .data, .data, .sentinel, .sentinel, .pinned, .pinned], laidTests := true, laidLooks := .later }
def JsoninDepthsCardSaid : Prop := Claim7.holds Tryz.pinned (.plain (OpenSpec.ofChange jsoninDepthsSpec)) jsoninDepthsCard

/-- THE TIED CARD OF 'pergolalaw05.JsoninTexts'. -/
def jsoninTextsCard : Claim7 := { stood := { row := jsoninTextsRow, standIns := [], harness := (true, "8d2baeb34e66ef9d558769093218d8839405010472680bb87bbc99bda43af110"), looks := true }, kinds := [], alts := [], laidByText := true, laidKinds := [.data, .data, .widerDeep, .widerDeep, .data, .data, .data, .data, .data, .data, .sentinel, .sentinel, .pinned, .pinned, .pinned], laidTests := true, laidLooks := .later }
def JsoninTextsCardSaid : Prop := Claim7.holds Tryz.pinned (.plain (OpenSpec.ofChange jsoninTextsSpec)) jsoninTextsCard

/-- THE TIED CARD OF 'pergolalaw05.JsoninKeys'. -/
def jsoninKeysCard : Claim7 := { stood := { row := jsoninKeysRow, standIns := [], harness := (true, "8d2baeb34e66ef9d558769093218d8839405010472680bb87bbc99bda43af110"), looks := true }, kinds := [], alts := [], laidByText := true, laidKinds := [.data, .data, .widerDeep, .widerDeep, .data, .data, .data, .data, .data, .data, .sentinel, .sentinel, .pinned, .pinned, .pinned], laidTests := true, laidLooks := .later }
def JsoninKeysCardSaid : Prop := Claim7.holds Tryz.pinned (.plain (OpenSpec.ofChange jsoninKeysSpec)) jsoninKeysCard

/-- THE TIED CARD OF 'pergolalaw05.JsoninWrites'. -/
def jsoninWritesCard : Claim7 := { stood := { row := jsoninWritesRow, standIns := [], harness := (true, "8d2baeb34e66ef9d558769093218d8839405010472680bb87bbc99bda43af110"), looks := true }, kinds := [], alts := [], laidByText := true, laidKinds := [.data, .data, .widerDeep, .widerDeep, .data, .data, .data, .data, .data, .data, .sentinel, .sentinel, .pinned, .pinned, .pinned], laidTests := true, laidLooks := .later }
def JsoninWritesCardSaid : Prop := Claim7.holds Tryz.pinned (.plain (OpenSpec.ofChange jsoninWritesSpec)) jsoninWritesCard

/-- THE SECOND FORM's CARD OF 'pergolalaw05.JsoninStays'. -/
def jsoninStaysUptoCard : Claim7 := { stood := { row := jsoninStaysUptoRow, standIns := [], harness := (true, "8d2baeb34e66ef9d558769093218d8839405010472680bb87bbc99bda43af110"), looks := true }, kinds := [], alts := [], laidByText := true, laidKinds := [.data, .data, .widerDeep, .widerDeep, .data, .data, .data, .data, .data, .sentinel, .sentinel, .pinned, .pinned], laidTests := true, laidLooks := .later }
def JsoninStaysUptoCardSaid : Prop := Claim7.holds Tryz.pinned (.plain (OpenSpec.upto jsoninStaysSpec)) jsoninStaysUptoCard

/-- THE SECOND FORM's CARD OF 'pergolalaw05.JsoninReads'. -/
def jsoninReadsUptoCard : Claim7 := { stood := { row := jsoninReadsUptoRow, standIns := [], harness := (true, "8d2baeb34e66ef9d558769093218d8839405010472680bb87bbc99bda43af110"), looks := true }, kinds := [], alts := [], laidByText := true, laidKinds := [.data, .data, .widerDeep, .widerDeep, .data, .data, .data, .data, .data, .sentinel, .sentinel, .pinned, .pinned], laidTests := true, laidLooks := .later }
def JsoninReadsUptoCardSaid : Prop := Claim7.holds Tryz.pinned (.plain (OpenSpec.upto jsoninReadsSpec)) jsoninReadsUptoCard

/-- THE SECOND FORM's CARD OF 'pergolalaw05.JsoninNumbers'. -/
def jsoninNumbersUptoCard : Claim7 := { stood := { row := jsoninNumbersUptoRow, standIns := [], harness := (true, "8d2baeb34e66ef9d558769093218d8839405010472680bb87bbc99bda43af110"), looks := true }, kinds := [], alts := [], laidByText := true, laidKinds := [.data, .data, .widerDeep, .widerDeep, .data, .data, .data, .data, .data, .sentinel, .sentinel, .pinned, .pinned], laidTests := true, laidLooks := .later }
def JsoninNumbersUptoCardSaid : Prop := Claim7.holds Tryz.pinned (.plain (OpenSpec.upto jsoninNumbersSpec)) jsoninNumbersUptoCard

/-- THE SECOND FORM's CARD OF 'pergolalaw05.JsoninKeeps'. -/
def jsoninKeepsUptoCard : Claim7 := { stood := { row := jsoninKeepsUptoRow, standIns := [], harness := (true, "8d2baeb34e66ef9d558769093218d8839405010472680bb87bbc99bda43af110"), looks := true }, kinds := [], alts := [], laidByText := true, laidKinds := [.data, .data, .widerDeep, .widerDeep, .data, .data, .data, .data, .data, .sentinel, .sentinel, .pinned, .pinned], laidTests := true, laidLooks := .later }
def JsoninKeepsUptoCardSaid : Prop := Claim7.holds Tryz.pinned (.plain (OpenSpec.upto jsoninKeepsSpec)) jsoninKeepsUptoCard

/-- THE SECOND FORM's CARD OF 'pergolalaw05.JsoninShifts'. -/
def jsoninShiftsUptoCard : Claim7 := { stood := { row := jsoninShiftsUptoRow, standIns := [], harness := (true, "8d2baeb34e66ef9d558769093218d8839405010472680bb87bbc99bda43af110"), looks := true }, kinds := [], alts := [], laidByText := true, laidKinds := [.data, .data, .widerDeep, .widerDeep, .data, .data, .data, .data, .data, .sentinel, .sentinel, .pinned, .pinned], laidTests := true, laidLooks := .later }
def JsoninShiftsUptoCardSaid : Prop := Claim7.holds Tryz.pinned (.plain (OpenSpec.upto jsoninShiftsSpec)) jsoninShiftsUptoCard

/-- THE SECOND FORM's CARD OF 'pergolalaw05.JsoninDepths'. -/
def jsoninDepthsUptoCard : Claim7 := { stood := { row := jsoninDepthsUptoRow, standIns := [], harness := (true, "8d2baeb34e66ef9d558769093218d8839405010472680bb87bbc99bda43af110"), looks := true }, kinds := [], alts := [], laidByText := true, laidKinds := [.data, .data, .widerDeep, .widerDeep, .data, .data, .data, .data, .data, .sentinel, .sentinel, .pinned, .pinned], laidTests := true, laidLooks := .later }
def JsoninDepthsUptoCardSaid : Prop := Claim7.holds Tryz.pinned (.plain (OpenSpec.upto jsoninDepthsSpec)) jsoninDepthsUptoCard

/-- THE SECOND FORM's CARD OF 'pergolalaw05.JsoninTexts'. -/
def jsoninTextsUptoCard : Claim7 := { stood := { row := jsoninTextsUptoRow, standIns := [], harness := (true, "8d2baeb34e66ef9d558769093218d8839405010472680bb87bbc99bda43af110"), looks := true }, kinds := [], alts := [], laidByText := true, laidKinds := [.data, .data, .widerDeep, .widerDeep, .data, .data, .data, .data, .data, .data, .sentinel, .sentinel, .pinned, .pinned, .pinned], laidTests := true, laidLooks := .later }
def JsoninTextsUptoCardSaid : Prop := Claim7.holds Tryz.pinned (.plain (OpenSpec.upto jsoninTextsSpec)) jsoninTextsUptoCard

/-- THE SECOND FORM's CARD OF 'pergolalaw05.JsoninKeys'. -/
def jsoninKeysUptoCard : Claim7 := { stood := { row := jsoninKeysUptoRow, standIns := [], harness := (true, "8d2baeb34e66ef9d558769093218d8839405010472680bb87bbc99bda43af110"), looks := true }, kinds := [], alts := [], laidByText := true, laidKinds := [.data, .data, .widerDeep, .widerDeep, .data, .data, .data, .data, .data, .data, .sentinel, .sentinel, .pinned, .pinned, .pinned], laidTests := true, laidLooks := .later }
def JsoninKeysUptoCardSaid : Prop := Claim7.holds Tryz.pinned (.plain (OpenSpec.upto jsoninKeysSpec)) jsoninKeysUptoCard

/-- THE SECOND FORM's CARD OF 'pergolalaw05.JsoninWrites'. -/
def jsoninWritesUptoCard : Claim7 := { stood := { row := jsoninWritesUptoRow, standIns := [], harness := (true, "8d2baeb34e66ef9d558769093218d8839405010472680bb87bbc99bda43af110"), looks := true }, kinds := [], alts := [], laidByText := true, laidKinds := [.data, .data, .widerDeep, .widerDeep, .data, .data, .data, .data, .data, .data, .sentinel, .sentinel, .pinned, .pinned, .pinned], laidTests := true, laidLooks := .later }
def JsoninWritesUptoCardSaid : Prop := Claim7.holds Tryz.pinned (.plain (OpenSpec.upto jsoninWritesSpec)) jsoninWritesUptoCard
end Rows
end Go.Proofs.YtjhhdnnblcbdbaaGreatDoor
