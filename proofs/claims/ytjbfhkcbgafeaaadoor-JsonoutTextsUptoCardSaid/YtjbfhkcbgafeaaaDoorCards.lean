/-
  DERIVED. GIVEN WITH THE SEED: THE CARDS: each row of YtjbfhkcbgafeaaaDoorRows.lean that lists a variable, with what it lists TIED to the program's text (the seventh form; the later family's looks); each row that meets fmt, with fmt's text TOLD by the authors' own Lean function (tested against real Go, not proved from fmt's source: count such statements apart). THE CARD IS WHAT COUNTS. Prove the row's statement (the work); the ties are given (YtjbfhkcbgafeaaaDoorTie.lean); close each card by the builder's one call (the guide's Derived/Test/ToyasCard.lean, 'card_holds'). Laid BY PROGRAM, IN A SANDBOX (cutbox-door.mjs). By AI agents, Wed Nov 11 2026. No macro, syntax, notation, axiom, sorry.
-/
import Derived.Test.YtjbfhkcbgafeaaaDoorRows
import GoSem.ClaimSeven
namespace Go.Proofs.YtjbfhkcbgafeaaaDoor
namespace Rows

/-- THE TIED CARD OF 'pergolalaw04.JsonoutTexts'. -/
def jsonoutTextsCard : Claim7 := { stood := { row := jsonoutTextsRow, standIns := [], harness := (true, "8bc83b383fbb452367e53ae731dca8bfd48ffc8c4f0b17536322bf59bb584121"), looks := true }, kinds := [], alts := [], laidByText := true, laidKinds := [.data, .data, .data, .data, .data, .pinned, .pinned, .pinned], laidTests := true, laidLooks := .later }
def JsonoutTextsCardSaid : Prop := Claim7.holds Tryd.pinned (.plain (OpenSpec.ofChange jsonoutTextsSpec)) jsonoutTextsCard

/-- THE TIED CARD OF 'pergolalaw04.JsonoutSplices'. -/
def jsonoutSplicesCard : Claim7 := { stood := { row := jsonoutSplicesRow, standIns := [], harness := (true, "8bc83b383fbb452367e53ae731dca8bfd48ffc8c4f0b17536322bf59bb584121"), looks := true }, kinds := [], alts := [], laidByText := true, laidKinds := [.data, .data, .data, .data, .data, .pinned, .pinned, .pinned], laidTests := true, laidLooks := .later }
def JsonoutSplicesCardSaid : Prop := Claim7.holds Tryd.pinned (.plain (OpenSpec.ofChange jsonoutSplicesSpec)) jsonoutSplicesCard

/-- THE TIED CARD OF 'pergolalaw04.JsonoutReads'. -/
def jsonoutReadsCard : Claim7 := { stood := { row := jsonoutReadsRow, standIns := [], harness := (true, "8bc83b383fbb452367e53ae731dca8bfd48ffc8c4f0b17536322bf59bb584121"), looks := true }, kinds := [], alts := [], laidByText := true, laidKinds := [.data, .data, .data, .data, .data, .pinned, .pinned, .pinned], laidTests := true, laidLooks := .later }
def JsonoutReadsCardSaid : Prop := Claim7.holds Tryd.pinned (.plain (OpenSpec.ofChange jsonoutReadsSpec)) jsonoutReadsCard

/-- THE SECOND FORM's CARD OF 'pergolalaw04.JsonoutTexts'. -/
def jsonoutTextsUptoCard : Claim7 := { stood := { row := jsonoutTextsUptoRow, standIns := [], harness := (true, "8bc83b383fbb452367e53ae731dca8bfd48ffc8c4f0b17536322bf59bb584121"), looks := true }, kinds := [], alts := [], laidByText := true, laidKinds := [.data, .data, .data, .data, .data, .pinned, .pinned, .pinned], laidTests := true, laidLooks := .later }
def JsonoutTextsUptoCardSaid : Prop := Claim7.holds Tryd.pinned (.plain (OpenSpec.upto jsonoutTextsSpec)) jsonoutTextsUptoCard

/-- THE SECOND FORM's CARD OF 'pergolalaw04.JsonoutSplices'. -/
def jsonoutSplicesUptoCard : Claim7 := { stood := { row := jsonoutSplicesUptoRow, standIns := [], harness := (true, "8bc83b383fbb452367e53ae731dca8bfd48ffc8c4f0b17536322bf59bb584121"), looks := true }, kinds := [], alts := [], laidByText := true, laidKinds := [.data, .data, .data, .data, .data, .pinned, .pinned, .pinned], laidTests := true, laidLooks := .later }
def JsonoutSplicesUptoCardSaid : Prop := Claim7.holds Tryd.pinned (.plain (OpenSpec.upto jsonoutSplicesSpec)) jsonoutSplicesUptoCard

/-- THE SECOND FORM's CARD OF 'pergolalaw04.JsonoutReads'. -/
def jsonoutReadsUptoCard : Claim7 := { stood := { row := jsonoutReadsUptoRow, standIns := [], harness := (true, "8bc83b383fbb452367e53ae731dca8bfd48ffc8c4f0b17536322bf59bb584121"), looks := true }, kinds := [], alts := [], laidByText := true, laidKinds := [.data, .data, .data, .data, .data, .pinned, .pinned, .pinned], laidTests := true, laidLooks := .later }
def JsonoutReadsUptoCardSaid : Prop := Claim7.holds Tryd.pinned (.plain (OpenSpec.upto jsonoutReadsSpec)) jsonoutReadsUptoCard
end Rows
end Go.Proofs.YtjbfhkcbgafeaaaDoor
