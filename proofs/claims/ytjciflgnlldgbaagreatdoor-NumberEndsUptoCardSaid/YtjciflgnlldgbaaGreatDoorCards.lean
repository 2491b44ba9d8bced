/-
  DERIVED. GIVEN WITH THE SEED: THE CARDS: each row of YtjciflgnlldgbaaGreatDoorRows.lean that lists a variable, with what it lists TIED to the program's text (the seventh form; the later family's looks); each row that meets fmt, with fmt's text TOLD by the authors' own Lean function (tested against real Go, not proved from fmt's source: count such statements apart). THE CARD IS WHAT COUNTS. Prove the row's statement (the work); the ties are given (YtjciflgnlldgbaaGreatDoorTie.lean); close each card by the builder's one call (the guide's Derived/Test/ToyasCard.lean, 'card_holds'). Laid BY PROGRAM, IN A SANDBOX (cutbox-door.mjs). By AI agents, Wed Nov 11 2026. No macro, syntax, notation, axiom, sorry.
-/
import Derived.Test.YtjciflgnlldgbaaGreatDoorRows
import GoSem.ClaimSeven
namespace Go.Proofs.YtjciflgnlldgbaaGreatDoor
namespace Rows

/-- THE TIED CARD OF 'pergolalaw02.NumberReads'. -/
def numberReadsCard : Claim7 := { stood := { row := numberReadsRow, standIns := [], harness := (true, "cf0ebeab82991395571fe77715351b4586e35b2cb550bdc13008e3682a4e204c"), looks := true }, kinds := [], alts := [], laidByText := true, laidKinds := [.data, .data, .widerDeep, .widerDeep, .data, .data, .data, .data, .data, .sentinel, .sentinel, .pinned, .pinned], laidTests := true, laidLooks := .later }
def NumberReadsCardSaid : Prop := Claim7.holds Tryz.pinned (.plain (OpenSpec.ofChange numberReadsSpec)) numberReadsCard

/-- THE TIED CARD OF 'pergolalaw02.NumberShortest'. -/
def numberShortestCard : Claim7 := { stood := { row := numberShortestRow, standIns := [], harness := (true, "cf0ebeab82991395571fe77715351b4586e35b2cb550bdc13008e3682a4e204c"), looks := true }, kinds := [], alts := [], laidByText := true, laidKinds := [.data, .data, .widerDeep, .widerDeep, .data, .data, .data, .data, .data, .sentinel, .sentinel, .pinned, .pinned], laidTests := true, laidLooks := .later }
def NumberShortestCardSaid : Prop := Claim7.holds Tryz.pinned (.plain (OpenSpec.ofChange numberShortestSpec)) numberShortestCard

/-- THE TIED CARD OF 'pergolalaw02.NumberEnds'. -/
def numberEndsCard : Claim7 := { stood := { row := numberEndsRow, standIns := [], harness := (true, "cf0ebeab82991395571fe77715351b4586e35b2cb550bdc13008e3682a4e204c"), looks := true }, kinds := [], alts := [], laidByText := true, laidKinds := [.data, .data, .widerDeep, .widerDeep, .data, .data, .data, .data, .data, .sentinel, .sentinel, .pinned, .pinned], laidTests := true, laidLooks := .later }
def NumberEndsCardSaid : Prop := Claim7.holds Tryz.pinned (.plain (OpenSpec.ofChange numberEndsSpec)) numberEndsCard

/-- THE TIED CARD OF 'pergolalaw02.NumberRises'. -/
def numberRisesCard : Claim7 := { stood := { row := numberRisesRow, standIns := [], harness := (true, "cf0ebeab82991395571fe77715351b4586e35b2cb550bdc13008e3682a4e204c"), looks := true }, kinds := [], alts := [], laidByText := true, laidKinds := [.data, .data, .widerDeep, .widerDeep, .data, .data, .data, .data, .data, .sentinel, .sentinel, .pinned, .pinned], laidTests := true, laidLooks := .later }
def NumberRisesCardSaid : Prop := Claim7.holds Tryz.pinned (.plain (OpenSpec.ofChange numberRisesSpec)) numberRisesCard

/-- THE SECOND FORM's CARD OF 'pergolalaw02.NumberReads'. -/
def numberReadsUptoCard : Claim7 := { stood := { row := numberReadsUptoRow, standIns := [], harness := (true, "cf0ebeab82991395571fe77715351b4586e35b2cb550bdc13008e3682a4e204c"), looks := true }, kinds := [], alts := [], laidByText := true, laidKinds := [.data, .data, .widerDeep, .widerDeep, .data, .data, .data, .data, .data, .sentinel, .sentinel, .pinned, .pinned], laidTests := true, laidLooks := .later }
def NumberReadsUptoCardSaid : Prop := Claim7.holds Tryz.pinned (.plain (OpenSpec.upto numberReadsSpec)) numberReadsUptoCard

/-- THE SECOND FORM's CARD OF 'pergolalaw02.NumberShortest'. -/
def numberShortestUptoCard : Claim7 := { stood := { row := numberShortestUptoRow, standIns := [], harness := (true, "cf0ebeab82991395571fe77715351b4586e35b2cb550bdc13008e3682a4e204c"), looks := true }, kinds := [], alts := [], laidByText := true, laidKinds := [.data, .data, .widerDeep, .widerDeep, .data, .data, .data, .data, .data, .sentinel, .sentinel, .pinned, .pinned], laidTests := true, laidLooks := .later }
def NumberShortestUptoCardSaid : Prop := Claim7.holds Tryz.pinned (.plain (OpenSpec.upto numberShortestSpec)) numberShortestUptoCard

/-- THE SECOND FORM's CARD OF 'pergolalaw02.NumberEnds'. -/
def numberEndsUptoCard : Claim7 := { stood := { row := numberEndsUptoRow, standIns := [], harness := (true, "cf0ebeab82991395571fe77715351b4586e35b2cb550bdc13008e3682a4e204c"), looks := true }, kinds := [], alts := [], laidByText := true, laidKinds := [.data, .data, .widerDeep, .widerDeep, .data, .data, .data, .data, .data, .sentinel, .sentinel, .pinned, .pinned], laidTests := true, laidLooks := .later }
def NumberEndsUptoCardSaid : Prop := Claim7.holds Tryz.pinned (.plain (OpenSpec.upto numberEndsSpec)) numberEndsUptoCard

/-- THE SECOND FORM's CARD OF 'pergolalaw02.NumberRises'. -/
def numberRisesUptoCard : Claim7 := { stood := { row := numberRisesUptoRow, standIns := [], harness := (true, "cf0ebeab82991395571fe77715351b4586e35b2cb550bdc13008e3682a4e204c"), looks := true }, kinds := [], alts := [], laidByText := true, laidKinds := [.data, .data, .widerDeep, .widerDeep, .data, .data, .data, .data, .data, .sentinel, .sentinel, .pinned, .pinned], laidTests := true, laidLooks := .later }
def NumberRisesUptoCardSaid : Prop := Claim7.holds Tryz.pinned (.plain (OpenSpec.upto numberRisesSpec)) numberRisesUptoCard
end Rows
end Go.Proofs.YtjciflgnlldgbaaGreatDoor
