/-
  NARROWER THAN 'FOR EVERY INPUT', by the rows' own cells (each row's printed sentence says how): TableIdles: loops · TableFirst: loops · TableUsed: loops · TableGoes: loops · TableKeeps: loops.
  DERIVED. THE GIVEN ROWS OF THIS SEAT. 6 by the template 'for every input the law returns true; each argument reads behind the call as it read before'; 0 by the template 'total and deterministic' (their statements: YtmicjfdibhoamaaTotals.lean).
  GIVEN WITH THE SEED: the statements are not yours to turn. If you find one false, say at which input.
  Laid BY PROGRAM, IN A SANDBOX (cutbox-rows.mjs): the forced cells as the released guide's own fill.sh prints them over the translation c569256d3db2d9f9… (all of the seat's roots in one cut). By AI agents, Wed Nov 11 2026. No macro, syntax, notation, axiom, sorry.
-/
import Derived.Test.YtmicjfdibhoamaaChecked
import GoSem.Claim
import GoSem.ClaimJoined
import GoSem.ClaimMapViews
import Derived.JoinedTies
import Derived.KernelRfl
namespace Go.Proofs.Ytmicjfdibhoamaa
/- THE CELL 'sum', in the pinned program and in every row, IS THE sha256 OF THE DUMP (.gsa) THAT YtmicjfdibhoamaaProg.lean LOADS. Nothing in Lean hashes anything: it is a label: what it is worth is what the hold of that sum in a sandbox is worth. -/
noncomputable def Try.pinned : Pinned := { name := "ytmicjfdibhoamaa", sum := "c569256d3db2d9f989d5e64359c6c9f2e52279931717357872c4ad42724021eb", checked := Try.checked }
namespace Rows
def none {H : Type} : Left H := { results := [], args := [] }

/-- 'pergolalaw25.TableIdles': WHATEVER THE INPUT: true; the input reads as it did. -/
def tableIdlesSpec : ChangeSpec := { name := "tableIdles", fn := fun _ => fun
  | [d1, d2] => { results := [.lit (.bool true)], args := [d1, d2] }
  | _ => none }
def tableIdlesRow : OpenClaim := { program := "ytmicjfdibhoamaa", sum := "c569256d3db2d9f989d5e64359c6c9f2e52279931717357872c4ad42724021eb", func := "pergola/pergolalaw25.TableIdles", spec := "tableIdles", recurses := true, loops := true, plainKeys := false, apart := false }
def TableIdlesSaid : Prop := tableIdlesRow.holds Try.pinned (OpenSpec.ofChange tableIdlesSpec)

/-- ITS FALSE NEIGHBOUR: 'it returns false'. Refute it at one input. -/
def tableIdlesWrong : ChangeSpec := { name := "tableIdles", fn := fun _ => fun
  | [d1, d2] => { results := [.lit (.bool false)], args := [d1, d2] }
  | _ => none }
def TableIdlesWrongFalsely : Prop := tableIdlesRow.holds Try.pinned (OpenSpec.ofChange tableIdlesWrong)

/-- 'pergolalaw25.TableFirst': WHATEVER THE INPUT: true; the input reads as it did. -/
def tableFirstSpec : ChangeSpec := { name := "tableFirst", fn := fun _ => fun
  | [d1, d2] => { results := [.lit (.bool true)], args := [d1, d2] }
  | _ => none }
def tableFirstRow : OpenClaim := { program := "ytmicjfdibhoamaa", sum := "c569256d3db2d9f989d5e64359c6c9f2e52279931717357872c4ad42724021eb", func := "pergola/pergolalaw25.TableFirst", spec := "tableFirst", inPlace := ["math.Float64bits"], recurses := true, loops := true, plainKeys := false, apart := false }
def TableFirstSaid : Prop := tableFirstRow.holds Try.pinned (OpenSpec.ofChange tableFirstSpec)

/-- ITS FALSE NEIGHBOUR: 'it returns false'. Refute it at one input. -/
def tableFirstWrong : ChangeSpec := { name := "tableFirst", fn := fun _ => fun
  | [d1, d2] => { results := [.lit (.bool false)], args := [d1, d2] }
  | _ => none }
def TableFirstWrongFalsely : Prop := tableFirstRow.holds Try.pinned (OpenSpec.ofChange tableFirstWrong)

/-- 'pergolalaw25.TableUsed': WHATEVER THE INPUT: true; the input reads as it did. -/
def tableUsedSpec : ChangeSpec := { name := "tableUsed", fn := fun _ => fun
  | [d1, d2] => { results := [.lit (.bool true)], args := [d1, d2] }
  | _ => none }
def tableUsedRow : OpenClaim := { program := "ytmicjfdibhoamaa", sum := "c569256d3db2d9f989d5e64359c6c9f2e52279931717357872c4ad42724021eb", func := "pergola/pergolalaw25.TableUsed", spec := "tableUsed", inPlace := ["math.Float64bits"], recurses := true, loops := true, plainKeys := false, apart := false }
def TableUsedSaid : Prop := tableUsedRow.holds Try.pinned (OpenSpec.ofChange tableUsedSpec)

/-- ITS FALSE NEIGHBOUR: 'it returns false'. Refute it at one input. -/
def tableUsedWrong : ChangeSpec := { name := "tableUsed", fn := fun _ => fun
  | [d1, d2] => { results := [.lit (.bool false)], args := [d1, d2] }
  | _ => none }
def TableUsedWrongFalsely : Prop := tableUsedRow.holds Try.pinned (OpenSpec.ofChange tableUsedWrong)

/-- 'pergolalaw25.TableGoes': WHATEVER THE INPUT: true; the input reads as it did. -/
def tableGoesSpec : ChangeSpec := { name := "tableGoes", fn := fun _ => fun
  | [d1, d2] => { results := [.lit (.bool true)], args := [d1, d2] }
  | _ => none }
def tableGoesRow : OpenClaim := { program := "ytmicjfdibhoamaa", sum := "c569256d3db2d9f989d5e64359c6c9f2e52279931717357872c4ad42724021eb", func := "pergola/pergolalaw25.TableGoes", spec := "tableGoes", inPlace := ["math.Float64bits"], unfollowed := true, recurses := true, loops := true, plainKeys := false, apart := false }
def TableGoesSaid : Prop := tableGoesRow.holds Try.pinned (OpenSpec.ofChange tableGoesSpec)

/-- ITS FALSE NEIGHBOUR: 'it returns false'. Refute it at one input. -/
def tableGoesWrong : ChangeSpec := { name := "tableGoes", fn := fun _ => fun
  | [d1, d2] => { results := [.lit (.bool false)], args := [d1, d2] }
  | _ => none }
def TableGoesWrongFalsely : Prop := tableGoesRow.holds Try.pinned (OpenSpec.ofChange tableGoesWrong)

/-- 'pergolalaw25.TableKeeps': WHATEVER THE INPUT: true; the input reads as it did. -/
def tableKeepsSpec : ChangeSpec := { name := "tableKeeps", fn := fun _ => fun
  | [d1, d2] => { results := [.lit (.bool true)], args := [d1, d2] }
  | _ => none }
def tableKeepsRow : OpenClaim := { program := "ytmicjfdibhoamaa", sum := "c569256d3db2d9f989d5e64359c6c9f2e52279931717357872c4ad42724021eb", func := "pergola/pergolalaw25.TableKeeps", spec := "tableKeeps", inPlace := ["math.Float64bits"], unfollowed := true, recurses := true, loops := true, plainKeys := false, apart := false }
def TableKeepsSaid : Prop := tableKeepsRow.holds Try.pinned (OpenSpec.ofChange tableKeepsSpec)

/-- ITS FALSE NEIGHBOUR: 'it returns false'. Refute it at one input. -/
def tableKeepsWrong : ChangeSpec := { name := "tableKeeps", fn := fun _ => fun
  | [d1, d2] => { results := [.lit (.bool false)], args := [d1, d2] }
  | _ => none }
def TableKeepsWrongFalsely : Prop := tableKeepsRow.holds Try.pinned (OpenSpec.ofChange tableKeepsWrong)

/-- 'pergolalaw25.TableNil': WHATEVER THE INPUT: true; the input reads as it did. -/
def tableNilSpec : ChangeSpec := { name := "tableNil", fn := fun _ => fun
  | [d] => { results := [.lit (.bool true)], args := [d] }
  | _ => none }
def tableNilRow : OpenClaim := { program := "ytmicjfdibhoamaa", sum := "c569256d3db2d9f989d5e64359c6c9f2e52279931717357872c4ad42724021eb", func := "pergola/pergolalaw25.TableNil", spec := "tableNil", inPlace := ["math.Float64bits"], unfollowed := true, recurses := true, plainKeys := false, apart := false }
def TableNilSaid : Prop := tableNilRow.holds Try.pinned (OpenSpec.ofChange tableNilSpec)

/-- ITS FALSE NEIGHBOUR: 'it returns false'. Refute it at one input. -/
def tableNilWrong : ChangeSpec := { name := "tableNil", fn := fun _ => fun
  | [d] => { results := [.lit (.bool false)], args := [d] }
  | _ => none }
def TableNilWrongFalsely : Prop := tableNilRow.holds Try.pinned (OpenSpec.ofChange tableNilWrong)

/- THE SECOND FORM. 'bulk': how many values and letters a reading holds, each counted each time it is reached (what is shared counts as often as it is met; a slice's spare places count too). A statement '..UptoSaid' is the law's where the arguments, and the package variables that the reading takes, are together of bulk at most 1048576: NARROWER than '..Said'. Prove '..Said' where nothing that the law and all that it calls make is longer than what came in: it says more and counts as full. Else prove '..UptoSaid'. A law counts once. -/
mutual
def uptoBulk {H : Type} : DataW H → Nat
  | .lit (.string bytes) => bytes.length + 1
  | .lit _ => 1
  | .nil => 1
  | .ptr d => uptoBulk d + 1
  | .slice elems spare => uptoBulkAll elems + uptoBulkAll spare + 1
  | .agg parts => uptoBulkAll parts + 1
  | .iface _ d => uptoBulk d + 1
  | .map entries => uptoBulkEntries entries + 1
  | .held _ => 1
def uptoBulkAll {H : Type} : List (DataW H) → Nat
  | [] => 0
  | d :: r => uptoBulk d + uptoBulkAll r
def uptoBulkEntries {H : Type} : List (Lit × DataW H) → Nat
  | [] => 0
  | x :: r => uptoBulkEntry x + uptoBulkEntries r
def uptoBulkEntry {H : Type} : Lit × DataW H → Nat
  | (.string bytes, d) => bytes.length + uptoBulk d + 1
  | (_, d) => uptoBulk d + 1
 end
def uptoSmall : (H : Type) → List (DataW H) → Bool := fun _ ds => decide (uptoBulkAll ds ≤ 1048576)
def OpenSpec.upto (s : _root_.Go.ChangeSpec) : _root_.Go.OpenSpec := { _root_.Go.OpenSpec.ofChange s with cond := some uptoSmall }

/-- 'pergolalaw25.TableIdles', WHERE WHAT IT READS IS OF BULK AT MOST 1048576: true; the input reads as it did. -/
def tableIdlesUptoRow : OpenClaim := { program := "ytmicjfdibhoamaa", sum := "c569256d3db2d9f989d5e64359c6c9f2e52279931717357872c4ad42724021eb", func := "pergola/pergolalaw25.TableIdles", spec := "tableIdles", recurses := true, loops := true, plainKeys := false, apart := false, narrowed := true }
def TableIdlesUptoSaid : Prop := tableIdlesUptoRow.holds Try.pinned (OpenSpec.upto tableIdlesSpec)

/-- 'pergolalaw25.TableFirst', WHERE WHAT IT READS IS OF BULK AT MOST 1048576: true; the input reads as it did. -/
def tableFirstUptoRow : OpenClaim := { program := "ytmicjfdibhoamaa", sum := "c569256d3db2d9f989d5e64359c6c9f2e52279931717357872c4ad42724021eb", func := "pergola/pergolalaw25.TableFirst", spec := "tableFirst", inPlace := ["math.Float64bits"], recurses := true, loops := true, plainKeys := false, apart := false, narrowed := true }
def TableFirstUptoSaid : Prop := tableFirstUptoRow.holds Try.pinned (OpenSpec.upto tableFirstSpec)

/-- 'pergolalaw25.TableUsed', WHERE WHAT IT READS IS OF BULK AT MOST 1048576: true; the input reads as it did. -/
def tableUsedUptoRow : OpenClaim := { program := "ytmicjfdibhoamaa", sum := "c569256d3db2d9f989d5e64359c6c9f2e52279931717357872c4ad42724021eb", func := "pergola/pergolalaw25.TableUsed", spec := "tableUsed", inPlace := ["math.Float64bits"], recurses := true, loops := true, plainKeys := false, apart := false, narrowed := true }
def TableUsedUptoSaid : Prop := tableUsedUptoRow.holds Try.pinned (OpenSpec.upto tableUsedSpec)

/-- 'pergolalaw25.TableGoes', WHERE WHAT IT READS IS OF BULK AT MOST 1048576: true; the input reads as it did. -/
def tableGoesUptoRow : OpenClaim := { program := "ytmicjfdibhoamaa", sum := "c569256d3db2d9f989d5e64359c6c9f2e52279931717357872c4ad42724021eb", func := "pergola/pergolalaw25.TableGoes", spec := "tableGoes", inPlace := ["math.Float64bits"], unfollowed := true, recurses := true, loops := true, plainKeys := false, apart := false, narrowed := true }
def TableGoesUptoSaid : Prop := tableGoesUptoRow.holds Try.pinned (OpenSpec.upto tableGoesSpec)

/-- 'pergolalaw25.TableKeeps', WHERE WHAT IT READS IS OF BULK AT MOST 1048576: true; the input reads as it did. -/
def tableKeepsUptoRow : OpenClaim := { program := "ytmicjfdibhoamaa", sum := "c569256d3db2d9f989d5e64359c6c9f2e52279931717357872c4ad42724021eb", func := "pergola/pergolalaw25.TableKeeps", spec := "tableKeeps", inPlace := ["math.Float64bits"], unfollowed := true, recurses := true, loops := true, plainKeys := false, apart := false, narrowed := true }
def TableKeepsUptoSaid : Prop := tableKeepsUptoRow.holds Try.pinned (OpenSpec.upto tableKeepsSpec)

/-- 'pergolalaw25.TableNil', WHERE WHAT IT READS IS OF BULK AT MOST 1048576: true; the input reads as it did. -/
def tableNilUptoRow : OpenClaim := { program := "ytmicjfdibhoamaa", sum := "c569256d3db2d9f989d5e64359c6c9f2e52279931717357872c4ad42724021eb", func := "pergola/pergolalaw25.TableNil", spec := "tableNil", inPlace := ["math.Float64bits"], unfollowed := true, recurses := true, plainKeys := false, apart := false, narrowed := true }
def TableNilUptoSaid : Prop := tableNilUptoRow.holds Try.pinned (OpenSpec.upto tableNilSpec)

end Rows
end Go.Proofs.Ytmicjfdibhoamaa
