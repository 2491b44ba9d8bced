/- The library's contracts that these texts use, laid at this dump (plain text that the kit's tools lay-shelf.mjs and lay-plain.mjs printed). -/
import Derived.Shelf.LaysM
import Derived.Shelf.Unicode.ValidAny
import Derived.Test.YtagghdehbkbemaaGreatDoorProg
namespace Go.Proofs.YtagghdehbkbemaaGreatDoor.shelf
open Go.Shelf
def laysValid_ren : Go.Shelf.Ren := ⟨fun | 196 => 40 | 259 => 57 | n => n, fun | 9 => 9 | 4 => 4 | 3 => 3 | 5 => 5 | 12 => 12 | 119 => 94 | 0 => 0 | 46 => 73 | 139 => 97 | 138 => 96 | 53 => 76 | n => n, fun | 3 => 0 | 4 => 1 | n => n⟩
theorem laysValid : Go.Proofs.Lays.n196 Tryz.prog laysValid_ren := {
  mixed := by kernel_rfl
  f196 := Tryz.func40.trans (congrArg some (by kernel_rfl))
  f259 := Tryz.func57.trans (congrArg some (by kernel_rfl))
  t0 := Tryz.underlying0
  a0 := Tryz.isAgg0
  z0 := Tryz.sizeOf0
  v0 := Tryz.zeroValue0
  t3 := Tryz.underlying3
  a3 := Tryz.isAgg3
  z3 := Tryz.sizeOf3
  v3 := Tryz.zeroValue3
  t4 := Tryz.underlying4
  a4 := Tryz.isAgg4
  z4 := Tryz.sizeOf4
  v4 := Tryz.zeroValue4
  t5 := Tryz.underlying5
  a5 := Tryz.isAgg5
  z5 := Tryz.sizeOf5
  v5 := Tryz.zeroValue5
  t9 := Tryz.underlying9
  a9 := Tryz.isAgg9
  z9 := Tryz.sizeOf9
  v9 := Tryz.zeroValue9
  t12 := Tryz.underlying12
  a12 := Tryz.isAgg12
  z12 := Tryz.sizeOf12
  v12 := Tryz.zeroValue12
  t46 := Tryz.underlying73
  a46 := Tryz.isAgg73
  z46 := Tryz.sizeOf73
  v46 := Tryz.zeroValue73
  t53 := Tryz.underlying76
  a53 := Tryz.isAgg76
  z53 := Tryz.sizeOf76
  v53 := Tryz.zeroValue76
  t119 := Tryz.underlying94
  a119 := Tryz.isAgg94
  z119 := Tryz.sizeOf94
  t138 := Tryz.underlying96
  a138 := Tryz.isAgg96
  z138 := Tryz.sizeOf96
  v138 := Tryz.zeroValue96
  t139 := Tryz.underlying97
  a139 := Tryz.isAgg97
  z139 := Tryz.sizeOf97
  v139 := Tryz.zeroValue97
  g3 := by kernel_rfl
  g4 := by kernel_rfl }
end Go.Proofs.YtagghdehbkbemaaGreatDoor.shelf
