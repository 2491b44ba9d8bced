/- What the three lifts share: the tables that a listed variable's reading gives; a world that lays them; the witness. -/
import Derived.Test.YtjbfhkcbgafeaaaDoorCards
import Derived.Test.YtjbfhkcbgafeaaaDoorTie
import Derived.Test.YtjbfhkcbgafeaaaDoorAwake
import Derived.ProofKit
import Derived.OpenShut
import Derived.Deep.DeepHandedRow
import Derived.Lib.LaidTab
import Derived.PinnedBridge
import Derived.Lib.LaidU8T
import Derived.Lay
import Derived.LaidOnce
import Derived.SevenTiedAt
import Derived.JoinedCond
import Derived.Carry
namespace Go.Proofs.YtjbfhkcbgafeaaaDoor.upJ
open Go.ChangeShapes Go.WideShapes Go.ChangeAt Go.RowKit Go.Lib Go.Shelf

theorem own : ownKnob Tryd.prog.godebug = none := by kernel_rfl
theorem xU8 : U8Extra Tryd.prog shelf.laysValid_ren := ⟨by kernel_rfl, by kernel_rfl, by kernel_rfl, by kernel_rfl, by kernel_rfl, by kernel_rfl, by kernel_rfl⟩
theorem accept_eq : (Rows.laid_unicode_utf8_acceptRanges : DataW Unit) = acceptData := by kernel_rfl
def laidJ : List (String × DataW Unit) := Rows.jsonoutTextsRow.laid
theorem tabs {W : World} (h : laidMetH Tryd.prog laidJ W) : look.Tabs W := by
  rw [MakeChecks.laidMetH_plain _ _ _ (by kernel_rfl)] at h
  have h1 : VarReads Tryd.prog W "unicode/utf8.first" Rows.laid_unicode_utf8_first := Lib.laidMet.reads h (by unfold laidJ; simp [Rows.jsonoutTextsRow])
  have h2 : VarReads Tryd.prog W "unicode/utf8.acceptRanges" Rows.laid_unicode_utf8_acceptRanges := Lib.laidMet.reads h (by unfold laidJ; simp [Rows.jsonoutTextsRow])
  rw [accept_eq] at h2
  exact utf8Tabs_of_readsT (U8Types.of196 shelf.laysValid) xU8 (Pinned.utf8First_eq ▸ h1) h2
noncomputable abbrev wL (os : Os) : World := World.laidAll Tryd.prog os laidJ
set_option maxRecDepth 100000 in
theorem fits (os : Os) : (World.holding Tryd.prog os ⟨#[], #[], []⟩).layFits Tryd.prog laidJ [] = true := by kernel_rfl
set_option maxRecDepth 100000 in
theorem laid_met (os : Os) (args : Array Value) : laidMet Tryd.prog laidJ ((wL os).forCall (fun _ _ => 0) ⟨#[], args, []⟩).memory := laidMet_laidAll args (fits os) (by kernel_rfl)
set_option maxRecDepth 100000 in
theorem zip (os : Os) (args : Array Value) : ((wL os).forCall (fun _ _ => 0) ⟨#[], args, []⟩).variablesZipB Tryd.checked.prog = true := by kernel_rfl
set_option maxRecDepth 100000 in
theorem rest (os : Os) (args : Array Value) : (((wL os).forCall (fun _ _ => 0) ⟨#[], args, []⟩).heap.toList.drop Tryd.checked.prog.globals.size).take ((begin Tryd.checked.prog (fun _ _ => 0) default).world.heap.size - Tryd.checked.prog.globals.size) = (begin Tryd.checked.prog (fun _ _ => 0) default).world.heap.toList.drop Tryd.checked.prog.globals.size := by kernel_rfl
theorem witness {H : Type} {enc : TypeId × Value → H} (os : Os) {f : FuncId} {fn : Func} {s : OpenSpec} {conds : List PathCond} {apart : Bool} {laid : List (String × DataW Unit)} (args : Array Value)
    (hok : Input.okWideB Tryd.checked.prog ((wL os).forCall (fun _ _ => 0) ⟨#[], args, []⟩) f ⟨#[], args, []⟩ = true)
    (hrow : s.preRow enc Tryd.checked.prog fn conds apart laid ((wL os).forCall (fun _ _ => 0) ⟨#[], args, []⟩).memory args) :
    ∃ (w : World) (tape : Tape) (i : Input), w.os = os ∧ (w.forCall tape i).Shaped Tryd.checked.prog ∧ i.vars = [] ∧ Input.okWide Tryd.checked.prog (w.forCall tape i) .any w.heap.size f i ∧
      s.preRow enc Tryd.checked.prog fn conds apart laid (w.forCall tape i).memory i.args ∧ ({} : Assume).holds Tryd.checked.prog (lone (Frame.enter Tryd.checked.prog f i.args .normal) [] (w.forCall tape i)) :=
  ⟨wL os, fun _ _ => 0, ⟨#[], args, []⟩, World.laidAll_os _ _ _, World.shaped_of_ZipB (zip os args) (rest os args), (Input.okWide_of_okWideB (base := 0) hok).1, (Input.okWide_of_okWideB hok).2, hrow, by
    simp only [Assume.holds]
    exact ⟨by simp, by simp, fun _ => Modest.zero, by simp, by simp⟩⟩
end Go.Proofs.YtjbfhkcbgafeaaaDoor.upJ
