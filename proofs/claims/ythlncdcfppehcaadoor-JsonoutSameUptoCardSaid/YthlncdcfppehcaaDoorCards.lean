/-
  DERIVED. GIVEN WITH THE SEED: THE CARDS: each row of YthlncdcfppehcaaDoorRows.lean that lists a variable, with what it lists TIED to the program's text (the seventh form; the later family's looks); each row that meets fmt, with fmt's text TOLD by the authors' own Lean function (tested against real Go, not proved from fmt's source: count such statements apart). THE CARD IS WHAT COUNTS. Prove the row's statement (the work); the ties are given (YthlncdcfppehcaaDoorTie.lean); close each card by the builder's one call (the guide's Derived/Test/ToyasCard.lean, 'card_holds'). Laid BY PROGRAM, IN A SANDBOX (cutbox-door.mjs). By AI agents, Wed Nov 11 2026. No macro, syntax, notation, axiom, sorry.
-/
import Derived.Test.YthlncdcfppehcaaDoorRows
import GoSem.ClaimSeven
namespace Go.Proofs.YthlncdcfppehcaaDoor
namespace Rows

/-- THE TIED CARD OF 'pergolalaw04.JsonoutBuilds'. -/
def jsonoutBuildsCard : Claim7 := { stood := { row := jsonoutBuildsRow, standIns := [], harness := (true, "397b3eff665bcf358597254b935d6420c93026efbfb8812bf756f28d4b78f2b6"), looks := true }, kinds := [], alts := [], laidByText := true, laidKinds := [.data, .data, .data, .data, .data, .pinned, .pinned, .pinned], laidTests := true, laidLooks := .later }
def JsonoutBuildsCardSaid : Prop := Claim7.holds Tryd.pinned (.plain (OpenSpec.ofChange jsonoutBuildsSpec)) jsonoutBuildsCard

/-- THE TIED CARD OF 'pergolalaw04.JsonoutPasses'. -/
def jsonoutPassesCard : Claim7 := { stood := { row := jsonoutPassesRow, standIns := [], harness := (true, "397b3eff665bcf358597254b935d6420c93026efbfb8812bf756f28d4b78f2b6"), looks := true }, kinds := [], alts := [], laidByText := true, laidKinds := [.data, .data, .data, .data, .data, .pinned, .pinned, .pinned], laidTests := true, laidLooks := .later }
def JsonoutPassesCardSaid : Prop := Claim7.holds Tryd.pinned (.plain (OpenSpec.ofChange jsonoutPassesSpec)) jsonoutPassesCard

/-- THE TIED CARD OF 'pergolalaw04.JsonoutSame'. -/
def jsonoutSameCard : Claim7 := { stood := { row := jsonoutSameRow, standIns := [], harness := (true, "397b3eff665bcf358597254b935d6420c93026efbfb8812bf756f28d4b78f2b6"), looks := true }, kinds := [], alts := [], laidByText := true, laidKinds := [.data, .data, .data, .data, .data, .pinned, .pinned, .pinned], laidTests := true, laidLooks := .later }
def JsonoutSameCardSaid : Prop := Claim7.holds Tryd.pinned (.plain (OpenSpec.ofChange jsonoutSameSpec)) jsonoutSameCard

/-- THE TIED CARD OF 'pergolalaw04.JsonoutRefuses'. -/
def jsonoutRefusesCard : Claim7 := { stood := { row := jsonoutRefusesRow, standIns := [], harness := (true, "397b3eff665bcf358597254b935d6420c93026efbfb8812bf756f28d4b78f2b6"), looks := true }, kinds := [], alts := [], laidByText := true, laidKinds := [.data, .data, .data, .data, .data, .pinned, .pinned, .pinned], laidTests := true, laidLooks := .later }
def JsonoutRefusesCardSaid : Prop := Claim7.holds Tryd.pinned (.plain (OpenSpec.ofChange jsonoutRefusesSpec)) jsonoutRefusesCard

/-- THE SECOND FORM's CARD OF 'pergolalaw04.JsonoutBuilds'. -/
def jsonoutBuildsUptoCard : Claim7 := { stood := { row := jsonoutBuildsUptoRow, standIns := [], harness := (true, "397b3eff665bcf358597254b935d6420c93026efbfb8812bf756f28d4b78f2b6"), looks := true }, kinds := [], alts := [], laidByText := true, laidKinds := [.data, .data, .data, .data, .data, .pinned, .pinned, .pinned], laidTests := true, laidLooks := .later }
def JsonoutBuildsUptoCardSaid : Prop := Claim7.holds Tryd.pinned (.plain (OpenSpec.upto jsonoutBuildsSpec)) jsonoutBuildsUptoCard

/-- THE SECOND FORM's CARD OF 'pergolalaw04.JsonoutPasses'. -/
def jsonoutPassesUptoCard : Claim7 := { stood := { row := jsonoutPassesUptoRow, standIns := [], harness := (true, "397b3eff665bcf358597254b935d6420c93026efbfb8812bf756f28d4b78f2b6"), looks := true }, kinds := [], alts := [], laidByText := true, laidKinds := [.data, .data, .data, .data, .data, .pinned, .pinned, .pinned], laidTests := true, laidLooks := .later }
def JsonoutPassesUptoCardSaid : Prop := Claim7.holds Tryd.pinned (.plain (OpenSpec.upto jsonoutPassesSpec)) jsonoutPassesUptoCard

/-- THE SECOND FORM's CARD OF 'pergolalaw04.JsonoutSame'. -/
def jsonoutSameUptoCard : Claim7 := { stood := { row := jsonoutSameUptoRow, standIns := [], harness := (true, "397b3eff665bcf358597254b935d6420c93026efbfb8812bf756f28d4b78f2b6"), looks := true }, kinds := [], alts := [], laidByText := true, laidKinds := [.data, .data, .data, .data, .data, .pinned, .pinned, .pinned], laidTests := true, laidLooks := .later }
def JsonoutSameUptoCardSaid : Prop := Claim7.holds Tryd.pinned (.plain (OpenSpec.upto jsonoutSameSpec)) jsonoutSameUptoCard

/-- THE SECOND FORM's CARD OF 'pergolalaw04.JsonoutRefuses'. -/
def jsonoutRefusesUptoCard : Claim7 := { stood := { row := jsonoutRefusesUptoRow, standIns := [], harness := (true, "397b3eff665bcf358597254b935d6420c93026efbfb8812bf756f28d4b78f2b6"), looks := true }, kinds := [], alts := [], laidByText := true, laidKinds := [.data, .data, .data, .data, .data, .pinned, .pinned, .pinned], laidTests := true, laidLooks := .later }
def JsonoutRefusesUptoCardSaid : Prop := Claim7.holds Tryd.pinned (.plain (OpenSpec.upto jsonoutRefusesSpec)) jsonoutRefusesUptoCard
end Rows
end Go.Proofs.YthlncdcfppehcaaDoor
