/-
  DERIVED. GIVEN WITH THE SEED: THE CARDS: each row of YthlncdcfppehcaaGreatDoorRows.lean that lists a variable, with what it lists TIED to the program's text (the seventh form; the later family's looks); each row that meets fmt, with fmt's text TOLD by the authors' own Lean function (tested against real Go, not proved from fmt's source: count such statements apart). THE CARD IS WHAT COUNTS. Prove the row's statement (the work); the ties are given (YthlncdcfppehcaaGreatDoorTie.lean); close each card by the builder's one call (the guide's Derived/Test/ToyasCard.lean, 'card_holds'). Laid BY PROGRAM, IN A SANDBOX (cutbox-door.mjs). By AI agents, Wed Nov 11 2026. No macro, syntax, notation, axiom, sorry.
-/
import Derived.Test.YthlncdcfppehcaaGreatDoorRows
import GoSem.ClaimSeven
namespace Go.Proofs.YthlncdcfppehcaaGreatDoor
namespace Rows

/-- THE TIED CARD OF 'pergolalaw04.JsonoutWrites'. -/
def jsonoutWritesCard : Claim7 := { stood := { row := jsonoutWritesRow, standIns := [], harness := (true, "2bb7ba5778d75796206e0cad5e5b059c1e6c1d83b41fb7dd84bf6c17965f6214"), looks := true }, kinds := [], alts := [], laidByText := true, laidKinds := [.data, .data, .data, .data, .data, .pinned, .pinned, .pinned], laidTests := true, laidLooks := .later }
def JsonoutWritesCardSaid : Prop := Claim7.holds Tryz.pinned (.plain (OpenSpec.ofChange jsonoutWritesSpec)) jsonoutWritesCard

/-- THE TIED CARD OF 'pergolalaw04.JsonoutSizes'. -/
def jsonoutSizesCard : Claim7 := { stood := { row := jsonoutSizesRow, standIns := [], harness := (true, "2bb7ba5778d75796206e0cad5e5b059c1e6c1d83b41fb7dd84bf6c17965f6214"), looks := true }, kinds := [], alts := [], laidByText := true, laidKinds := [.data, .data, .data, .data, .data, .pinned, .pinned, .pinned], laidTests := true, laidLooks := .later }
def JsonoutSizesCardSaid : Prop := Claim7.holds Tryz.pinned (.plain (OpenSpec.ofChange jsonoutSizesSpec)) jsonoutSizesCard

/-- THE TIED CARD OF 'pergolalaw04.JsonoutKeeps'. -/
def jsonoutKeepsCard : Claim7 := { stood := { row := jsonoutKeepsRow, standIns := [], harness := (true, "2bb7ba5778d75796206e0cad5e5b059c1e6c1d83b41fb7dd84bf6c17965f6214"), looks := true }, kinds := [], alts := [], laidByText := true, laidKinds := [.data, .data, .data, .data, .data, .pinned, .pinned, .pinned], laidTests := true, laidLooks := .later }
def JsonoutKeepsCardSaid : Prop := Claim7.holds Tryz.pinned (.plain (OpenSpec.ofChange jsonoutKeepsSpec)) jsonoutKeepsCard

/-- THE TIED CARD OF 'pergolalaw25.TableKeys'. -/
def tableKeysCard : Claim7 := { stood := { row := tableKeysRow, standIns := [], harness := (true, "2bb7ba5778d75796206e0cad5e5b059c1e6c1d83b41fb7dd84bf6c17965f6214"), looks := true }, kinds := [], alts := [], laidByText := true, laidKinds := [.data, .data, .data, .data, .data, .pinned, .pinned, .pinned], laidTests := true, laidLooks := .later }
def TableKeysCardSaid : Prop := Claim7.holds Tryz.pinned (.plain (OpenSpec.ofChange tableKeysSpec)) tableKeysCard

/-- THE SECOND FORM's CARD OF 'pergolalaw04.JsonoutWrites'. -/
def jsonoutWritesUptoCard : Claim7 := { stood := { row := jsonoutWritesUptoRow, standIns := [], harness := (true, "2bb7ba5778d75796206e0cad5e5b059c1e6c1d83b41fb7dd84bf6c17965f6214"), looks := true }, kinds := [], alts := [], laidByText := true, laidKinds := [.data, .data, .data, .data, .data, .pinned, .pinned, .pinned], laidTests := true, laidLooks := .later }
def JsonoutWritesUptoCardSaid : Prop := Claim7.holds Tryz.pinned (.plain (OpenSpec.upto jsonoutWritesSpec)) jsonoutWritesUptoCard

/-- THE SECOND FORM's CARD OF 'pergolalaw04.JsonoutSizes'. -/
def jsonoutSizesUptoCard : Claim7 := { stood := { row := jsonoutSizesUptoRow, standIns := [], harness := (true, "2bb7ba5778d75796206e0cad5e5b059c1e6c1d83b41fb7dd84bf6c17965f6214"), looks := true }, kinds := [], alts := [], laidByText := true, laidKinds := [.data, .data, .data, .data, .data, .pinned, .pinned, .pinned], laidTests := true, laidLooks := .later }
def JsonoutSizesUptoCardSaid : Prop := Claim7.holds Tryz.pinned (.plain (OpenSpec.upto jsonoutSizesSpec)) jsonoutSizesUptoCard

/-- THE SECOND FORM's CARD OF 'pergolalaw04.JsonoutKeeps'. -/
def jsonoutKeepsUptoCard : Claim7 := { stood := { row := jsonoutKeepsUptoRow, standIns := [], harness := (true, "2bb7ba5778d75796206e0cad5e5b059c1e6c1d83b41fb7dd84bf6c17965f6214"), looks := true }, kinds := [], alts := [], laidByText := true, laidKinds := [.data, .data, .data, .data, .data, .pinned, .pinned, .pinned], laidTests := true, laidLooks := .later }
def JsonoutKeepsUptoCardSaid : Prop := Claim7.holds Tryz.pinned (.plain (OpenSpec.upto jsonoutKeepsSpec)) jsonoutKeepsUptoCard

/-- THE SECOND FORM's CARD OF 'pergolalaw25.TableKeys'. -/
def tableKeysUptoCard : Claim7 := { stood := { row := tableKeysUptoRow, standIns := [], harness := (true, "2bb7ba5778d75796206e0cad5e5b059c1e6c1d83b41fb7dd84bf6c17965f6214"), looks := true }, kinds := [], alts := [], laidByText := true, laidKinds := [.data, .data, .data, .data, .data, .pinned, .pinned, .pinned], laidTests := true, laidLooks := .later }
def TableKeysUptoCardSaid : Prop := Claim7.holds Tryz.pinned (.plain (OpenSpec.upto tableKeysSpec)) tableKeysUptoCard
end Rows
end Go.Proofs.YthlncdcfppehcaaGreatDoor
