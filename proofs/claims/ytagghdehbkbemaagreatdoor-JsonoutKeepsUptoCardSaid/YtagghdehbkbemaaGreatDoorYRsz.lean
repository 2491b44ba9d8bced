/- The reference's Size: it answers some number. -/
import Derived.Test.YtagghdehbkbemaaGreatDoorGSpl
namespace Go.Proofs.YtagghdehbkbemaaGreatDoor.look
open Go.RowKit mem txt app smap val
attribute [local go_sem] run_store_float
set_option linter.unusedVariables false

def RsPost (N : Nat) (w : World) (e : Ending) (w' : World) : Prop := ∃ n : Int, 0 ≤ n ∧ n ≤ 1100000 * ((N : Int) + 1) ∧ e = .returned (.int .i64 n) ∧ Below w.heap.size w w'
end Go.Proofs.YtagghdehbkbemaaGreatDoor.look
