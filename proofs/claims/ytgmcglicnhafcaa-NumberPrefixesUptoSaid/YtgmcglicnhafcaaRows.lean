/-
  NARROWER THAN 'FOR EVERY INPUT', by the rows' own cells (each row's printed sentence says how): TableIdles: loops.
  DERIVED. THE GIVEN ROWS OF THIS SEAT. 6 by the template 'for every input the law returns true; each argument reads behind the call as it read before'; 0 by the template 'total and deterministic' (their statements: YtgmcglicnhafcaaTotals.lean).
  GIVEN WITH THE SEED: the statements are not yours to turn. If you find one false, say at which input.
  Laid BY PROGRAM, IN A SANDBOX (cutbox-rows.mjs): the forced cells as the released guide's own fill.sh prints them over the translation 8c8bd2d3d878616e… (all of the seat's roots in one cut). By AI agents, Wed Nov 11 2026. No macro, syntax, notation, axiom, sorry.
-/
import Derived.Test.YtgmcglicnhafcaaChecked
import GoSem.Claim
import GoSem.ClaimJoined
import GoSem.ClaimMapViews
import Derived.JoinedTies
import Derived.KernelRfl
namespace Go.Proofs.Ytgmcglicnhafcaa
/- THE CELL 'sum', in the pinned program and in every row, IS THE sha256 OF THE DUMP (.gsa) THAT YtgmcglicnhafcaaProg.lean LOADS. Nothing in Lean hashes anything: it is a label: what it is worth is what the hold of that sum in a sandbox is worth. -/
noncomputable def Try.pinned : Pinned := { name := "ytgmcglicnhafcaa", sum := "8c8bd2d3d878616ee61b0d397c340191c59455b77dc62c7546b44ed662fb9b96", checked := Try.checked }
namespace Rows
def none {H : Type} : Left H := { results := [], args := [] }

/-- 'pergolalaw02.NumberNames': WHATEVER THE INPUT: true; the input reads as it did. -/
def numberNamesSpec : ChangeSpec := { name := "numberNames", fn := fun _ => fun
  | [] => { results := [.lit (.bool true)], args := [] }
  | _ => none }
def numberNamesRow : OpenClaim := { program := "ytgmcglicnhafcaa", sum := "8c8bd2d3d878616ee61b0d397c340191c59455b77dc62c7546b44ed662fb9b96", func := "pergola/pergolalaw02.NumberNames", spec := "numberNames", plainKeys := false, apart := false }
def NumberNamesSaid : Prop := numberNamesRow.holds Try.pinned (OpenSpec.ofChange numberNamesSpec)

/-- ITS FALSE NEIGHBOUR: 'it returns false'. Refute it at one input. -/
def numberNamesWrong : ChangeSpec := { name := "numberNames", fn := fun _ => fun
  | [] => { results := [.lit (.bool false)], args := [] }
  | _ => none }
def NumberNamesWrongFalsely : Prop := numberNamesRow.holds Try.pinned (OpenSpec.ofChange numberNamesWrong)

/-- 'pergolalaw05.JsoninNames': WHATEVER THE INPUT: true; the input reads as it did. -/
def jsoninNamesSpec : ChangeSpec := { name := "jsoninNames", fn := fun _ => fun
  | [] => { results := [.lit (.bool true)], args := [] }
  | _ => none }
def jsoninNamesRow : OpenClaim := { program := "ytgmcglicnhafcaa", sum := "8c8bd2d3d878616ee61b0d397c340191c59455b77dc62c7546b44ed662fb9b96", func := "pergola/pergolalaw05.JsoninNames", spec := "jsoninNames", plainKeys := false, apart := false }
def JsoninNamesSaid : Prop := jsoninNamesRow.holds Try.pinned (OpenSpec.ofChange jsoninNamesSpec)

/-- ITS FALSE NEIGHBOUR: 'it returns false'. Refute it at one input. -/
def jsoninNamesWrong : ChangeSpec := { name := "jsoninNames", fn := fun _ => fun
  | [] => { results := [.lit (.bool false)], args := [] }
  | _ => none }
def JsoninNamesWrongFalsely : Prop := jsoninNamesRow.holds Try.pinned (OpenSpec.ofChange jsoninNamesWrong)

/-- 'pergolalaw27.RequestNames': WHATEVER THE INPUT: true; the input reads as it did. -/
def requestNamesSpec : ChangeSpec := { name := "requestNames", fn := fun _ => fun
  | [] => { results := [.lit (.bool true)], args := [] }
  | _ => none }
def requestNamesRow : OpenClaim := { program := "ytgmcglicnhafcaa", sum := "8c8bd2d3d878616ee61b0d397c340191c59455b77dc62c7546b44ed662fb9b96", func := "pergola/pergolalaw27.RequestNames", spec := "requestNames", plainKeys := false, apart := false }
def RequestNamesSaid : Prop := requestNamesRow.holds Try.pinned (OpenSpec.ofChange requestNamesSpec)

/-- ITS FALSE NEIGHBOUR: 'it returns false'. Refute it at one input. -/
def requestNamesWrong : ChangeSpec := { name := "requestNames", fn := fun _ => fun
  | [] => { results := [.lit (.bool false)], args := [] }
  | _ => none }
def RequestNamesWrongFalsely : Prop := requestNamesRow.holds Try.pinned (OpenSpec.ofChange requestNamesWrong)

/-- 'pergolalaw25.TableIdles': WHATEVER THE INPUT: true; the input reads as it did. -/
def tableIdlesSpec : ChangeSpec := { name := "tableIdles", fn := fun _ => fun
  | [d1, d2] => { results := [.lit (.bool true)], args := [d1, d2] }
  | _ => none }
def tableIdlesRow : OpenClaim := { program := "ytgmcglicnhafcaa", sum := "8c8bd2d3d878616ee61b0d397c340191c59455b77dc62c7546b44ed662fb9b96", func := "pergola/pergolalaw25.TableIdles", spec := "tableIdles", recurses := true, loops := true, plainKeys := false, apart := false }
def TableIdlesSaid : Prop := tableIdlesRow.holds Try.pinned (OpenSpec.ofChange tableIdlesSpec)

/-- ITS FALSE NEIGHBOUR: 'it returns false'. Refute it at one input. -/
def tableIdlesWrong : ChangeSpec := { name := "tableIdles", fn := fun _ => fun
  | [d1, d2] => { results := [.lit (.bool false)], args := [d1, d2] }
  | _ => none }
def TableIdlesWrongFalsely : Prop := tableIdlesRow.holds Try.pinned (OpenSpec.ofChange tableIdlesWrong)

/-- 'pergolalaw02.NumberWholes': WHATEVER THE INPUT: true; the input reads as it did. -/
def numberWholesSpec : ChangeSpec := { name := "numberWholes", fn := fun _ => fun
  | [d1, d2] => { results := [.lit (.bool true)], args := [d1, d2] }
  | _ => none }
def numberWholesRow : OpenClaim := { program := "ytgmcglicnhafcaa", sum := "8c8bd2d3d878616ee61b0d397c340191c59455b77dc62c7546b44ed662fb9b96", func := "pergola/pergolalaw02.NumberWholes", spec := "numberWholes", inPlace := ["math.archTrunc", "math.Float64bits", "math.Float64frombits"], plainKeys := false, apart := false }
def NumberWholesSaid : Prop := numberWholesRow.holds Try.pinned (OpenSpec.ofChange numberWholesSpec)

/-- ITS FALSE NEIGHBOUR: 'it returns false'. Refute it at one input. -/
def numberWholesWrong : ChangeSpec := { name := "numberWholes", fn := fun _ => fun
  | [d1, d2] => { results := [.lit (.bool false)], args := [d1, d2] }
  | _ => none }
def NumberWholesWrongFalsely : Prop := numberWholesRow.holds Try.pinned (OpenSpec.ofChange numberWholesWrong)

/-- 'pergolalaw02.NumberPrefixes': WHATEVER THE INPUT: true; the input reads as it did. -/
def numberPrefixesSpec : ChangeSpec := { name := "numberPrefixes", fn := fun _ => fun
  | [d] => { results := [.lit (.bool true)], args := [d] }
  | _ => none }
def numberPrefixesRow : OpenClaim := { program := "ytgmcglicnhafcaa", sum := "8c8bd2d3d878616ee61b0d397c340191c59455b77dc62c7546b44ed662fb9b96", func := "pergola/pergolalaw02.NumberPrefixes", spec := "numberPrefixes", plainKeys := false, apart := false }
def NumberPrefixesSaid : Prop := numberPrefixesRow.holds Try.pinned (OpenSpec.ofChange numberPrefixesSpec)

/-- ITS FALSE NEIGHBOUR: 'it returns false'. Refute it at one input. -/
def numberPrefixesWrong : ChangeSpec := { name := "numberPrefixes", fn := fun _ => fun
  | [d] => { results := [.lit (.bool false)], args := [d] }
  | _ => none }
def NumberPrefixesWrongFalsely : Prop := numberPrefixesRow.holds Try.pinned (OpenSpec.ofChange numberPrefixesWrong)

/- THE SECOND FORM. 'bulk': how many values and letters a reading holds, each counted each time it is reached (what is shared counts as often as it is met; a slice's spare places count too). A statement '..UptoSaid' is the law's where the arguments, and the package variables that the reading takes, are together of bulk at most 1048576: NARROWER than '..Said'. Prove '..Said' where nothing that the law and all that it calls make is longer than what came in: it says more and counts as full. Else prove '..UptoSaid'. A law counts once. -/
mutual
def uptoBulk {H : Type} : DataW H → Nat
  | .lit (.string bytes) => bytes.length + 1
  | .lit _ => 1
  | .nil => 1
  | .ptr d => uptoBulk d + 1
  | .slice elems spare => uptoBulkAll elems + uptoBulkAll spare + 1
  | .agg parts => uptoBulkAll parts + 1
  | .iface _ d => uptoBulk d + 1
  | .map entries => uptoBulkEntries entries + 1
  | .held _ => 1
def uptoBulkAll {H : Type} : List (DataW H) → Nat
  | [] => 0
  | d :: r => uptoBulk d + uptoBulkAll r
def uptoBulkEntries {H : Type} : List (Lit × DataW H) → Nat
  | [] => 0
  | x :: r => uptoBulkEntry x + uptoBulkEntries r
def uptoBulkEntry {H : Type} : Lit × DataW H → Nat
  | (.string bytes, d) => bytes.length + uptoBulk d + 1
  | (_, d) => uptoBulk d + 1
 end
def uptoSmall : (H : Type) → List (DataW H) → Bool := fun _ ds => decide (uptoBulkAll ds ≤ 1048576)
def OpenSpec.upto (s : _root_.Go.ChangeSpec) : _root_.Go.OpenSpec := { _root_.Go.OpenSpec.ofChange s with cond := some uptoSmall }

/-- 'pergolalaw02.NumberNames', WHERE WHAT IT READS IS OF BULK AT MOST 1048576: true; the input reads as it did. -/
def numberNamesUptoRow : OpenClaim := { program := "ytgmcglicnhafcaa", sum := "8c8bd2d3d878616ee61b0d397c340191c59455b77dc62c7546b44ed662fb9b96", func := "pergola/pergolalaw02.NumberNames", spec := "numberNames", plainKeys := false, apart := false, narrowed := true }
def NumberNamesUptoSaid : Prop := numberNamesUptoRow.holds Try.pinned (OpenSpec.upto numberNamesSpec)

/-- 'pergolalaw05.JsoninNames', WHERE WHAT IT READS IS OF BULK AT MOST 1048576: true; the input reads as it did. -/
def jsoninNamesUptoRow : OpenClaim := { program := "ytgmcglicnhafcaa", sum := "8c8bd2d3d878616ee61b0d397c340191c59455b77dc62c7546b44ed662fb9b96", func := "pergola/pergolalaw05.JsoninNames", spec := "jsoninNames", plainKeys := false, apart := false, narrowed := true }
def JsoninNamesUptoSaid : Prop := jsoninNamesUptoRow.holds Try.pinned (OpenSpec.upto jsoninNamesSpec)

/-- 'pergolalaw27.RequestNames', WHERE WHAT IT READS IS OF BULK AT MOST 1048576: true; the input reads as it did. -/
def requestNamesUptoRow : OpenClaim := { program := "ytgmcglicnhafcaa", sum := "8c8bd2d3d878616ee61b0d397c340191c59455b77dc62c7546b44ed662fb9b96", func := "pergola/pergolalaw27.RequestNames", spec := "requestNames", plainKeys := false, apart := false, narrowed := true }
def RequestNamesUptoSaid : Prop := requestNamesUptoRow.holds Try.pinned (OpenSpec.upto requestNamesSpec)

/-- 'pergolalaw25.TableIdles', WHERE WHAT IT READS IS OF BULK AT MOST 1048576: true; the input reads as it did. -/
def tableIdlesUptoRow : OpenClaim := { program := "ytgmcglicnhafcaa", sum := "8c8bd2d3d878616ee61b0d397c340191c59455b77dc62c7546b44ed662fb9b96", func := "pergola/pergolalaw25.TableIdles", spec := "tableIdles", recurses := true, loops := true, plainKeys := false, apart := false, narrowed := true }
def TableIdlesUptoSaid : Prop := tableIdlesUptoRow.holds Try.pinned (OpenSpec.upto tableIdlesSpec)

/-- 'pergolalaw02.NumberWholes', WHERE WHAT IT READS IS OF BULK AT MOST 1048576: true; the input reads as it did. -/
def numberWholesUptoRow : OpenClaim := { program := "ytgmcglicnhafcaa", sum := "8c8bd2d3d878616ee61b0d397c340191c59455b77dc62c7546b44ed662fb9b96", func := "pergola/pergolalaw02.NumberWholes", spec := "numberWholes", inPlace := ["math.archTrunc", "math.Float64bits", "math.Float64frombits"], plainKeys := false, apart := false, narrowed := true }
def NumberWholesUptoSaid : Prop := numberWholesUptoRow.holds Try.pinned (OpenSpec.upto numberWholesSpec)

/-- 'pergolalaw02.NumberPrefixes', WHERE WHAT IT READS IS OF BULK AT MOST 1048576: true; the input reads as it did. -/
def numberPrefixesUptoRow : OpenClaim := { program := "ytgmcglicnhafcaa", sum := "8c8bd2d3d878616ee61b0d397c340191c59455b77dc62c7546b44ed662fb9b96", func := "pergola/pergolalaw02.NumberPrefixes", spec := "numberPrefixes", plainKeys := false, apart := false, narrowed := true }
def NumberPrefixesUptoSaid : Prop := numberPrefixesUptoRow.holds Try.pinned (OpenSpec.upto numberPrefixesSpec)

end Rows
end Go.Proofs.Ytgmcglicnhafcaa
