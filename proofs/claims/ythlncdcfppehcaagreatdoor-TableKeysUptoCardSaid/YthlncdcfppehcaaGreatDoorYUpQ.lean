/- What the lifts of this seat share: the tables that the listed variables' readings give; a world that lays them; the witness. -/
import Derived.Test.YthlncdcfppehcaaGreatDoorCards
import Derived.Test.YthlncdcfppehcaaGreatDoorTie
import Derived.Test.YthlncdcfppehcaaGreatDoorGSnd6
import Derived.ProofKit
import Derived.OpenShut
import Derived.Deep.DeepHandedRow
import Derived.Lib.LaidTab
import Derived.Lib.LaidU8
import Derived.Lib.LaidU8T
import GoSem.PinnedTables
import Derived.KernelRfl
import Derived.Lay
import Derived.LaidOnce
import Derived.SevenTiedAt
import Derived.JoinedCond
import Derived.Carry
namespace Go.Proofs.YthlncdcfppehcaaGreatDoor.upQ
open Go.ChangeShapes Go.WideShapes Go.ChangeAt Go.RowKit Go.Lib Go.Shelf us uw pg
set_option linter.unusedVariables false

theorem own : ownKnob Tryz.prog.godebug = none := by kernel_rfl
def laidQ : List (String × DataW Unit) := Rows.jsonoutWritesRow.laid
theorem uHL : Tryz.prog.underlying 205 = some (.struct #[{ name := "hi", type := 108, offset := 0, embedded := false, tag := "", pkgPath := "internal/strconv", byteOffset := 0 }, { name := "lo", type := 108, offset := 1, embedded := false, tag := "", pkgPath := "internal/strconv", byteOffset := 8 }]) := by kernel_rfl
theorem uTab : Tryz.prog.underlying 206 = some (.array 696 205) := by kernel_rfl
theorem uU : Tryz.prog.underlying 108 = some (.int .u64) := by kernel_rfl
theorem cU : Tryz.prog.cellsOf 108 = 1 := by kernel_rfl
theorem cHL : Tryz.prog.cellsOf 205 = 2 := by kernel_rfl
theorem rows_eq : (Go.Pinned.pow10Rows.length = 696) ∧ ∀ i, i < 696 → Go.Pinned.pow10Rows[i]? = some (tabH i, tabL i) := by
  have h : Go.Pinned.pow10Rows = (List.range 696).map fun i => (tabH i, tabL i) := by decide +kernel
  refine ⟨by rw [h]; simp, fun i hi => ?_⟩
  rw [h, List.getElem?_map, List.getElem?_range hi]
  rfl
theorem pow_of {W : World} (h : VarReads Tryz.prog W "internal/strconv.pow10Tab" Go.Pinned.pow10Tab) : PowAt W := by
  obtain ⟨g, t, cs, fuel, p, hg, hty, hvar, hd⟩ := h
  obtain rfl := Option.some.inj ((show Tryz.prog.globalNamed "internal/strconv.pow10Tab" = some 5 by kernel_rfl).symm.trans hg)
  obtain rfl := Option.some.inj ((show (Tryz.prog.globals[5]?).map (·.type) = some 206 by kernel_rfl).symm.trans hty)
  intro i hi
  obtain ⟨fuel', d, q, hdi, he⟩ := array_elem uTab hd i hi
  simp only [List.getElem?_map, rows_eq.2 i hi, Option.map_some, Option.some.injEq] at hdi
  subst hdi
  rw [cHL] at he
  have hcs := ints_of_struct (zs := [(tabH i : Int), (tabL i : Int)]) uHL (fun j f hj => by
      match j, hj with
      | 0, hj => simp at hj; subst hj; exact ⟨uU, rfl, cU⟩
      | 1, hj => simp at hj; subst hj; exact ⟨uU, rfl, cU⟩
      | j + 2, hj => simp at hj) (by rw [cHL]; rfl) he
  have e0 := congrArg (·[0]?) hcs
  have e1 := congrArg (·[1]?) hcs
  simp only [List.getElem?_take, List.getElem?_drop] at e0 e1
  constructor
  · rw [World.var?_cell hg hvar (i * 2), ← Array.getElem?_toList]
    simpa using e0
  · rw [World.var?_cell hg hvar (i * 2 + 1), ← Array.getElem?_toList]
    simpa using e1
theorem tab_of {W : World} (h : VarReads Tryz.prog W "internal/strconv.uint64pow10" Rows.laid_internal_strconv_uint64pow10) : Lib.TabIs Tryz.prog W "internal/strconv.uint64pow10" .u64 Lib.pow10Tab := by
  obtain ⟨g, t, cs, fuel, p, hg, hty, hvar, hd⟩ := h
  obtain rfl := Option.some.inj ((show Tryz.prog.globalNamed "internal/strconv.uint64pow10" = some 4 by kernel_rfl).symm.trans hg)
  obtain rfl := Option.some.inj ((show (Tryz.prog.globals[4]?).map (·.type) = some 182 by kernel_rfl).symm.trans hty)
  rw [show (Rows.laid_internal_strconv_uint64pow10 : DataW Unit) = tabData .u64 Lib.pow10Tab by kernel_rfl] at hd
  unfold TabIs
  rw [hvar, ← cells_of_tab (t := 182) (e := 108) (n := 20) (by kernel_rfl) uU cU (by kernel_rfl) hd]
theorem xU8 : U8Extra Tryz.prog shelf.laysValid_ren := ⟨by kernel_rfl, by kernel_rfl, by kernel_rfl, by kernel_rfl, by kernel_rfl, by kernel_rfl, by kernel_rfl⟩
theorem accept_eq : (Rows.laid_unicode_utf8_acceptRanges : DataW Unit) = acceptData := by kernel_rfl
theorem first_eq : (Rows.laid_unicode_utf8_first : DataW Unit) = firstData := by kernel_rfl
/-- what the listed variables give -/
theorem tabs {W : World} (hsz : 8 < W.heap.size) (h : laidMetH Tryz.prog laidQ W) : look.Env W := by
  rw [MakeChecks.laidMetH_plain _ _ _ (by kernel_rfl)] at h
  have h1 : VarReads Tryz.prog W "unicode/utf8.first" Rows.laid_unicode_utf8_first := Lib.laidMet.reads h (by unfold laidQ; simp [Rows.jsonoutWritesRow])
  have h2 : VarReads Tryz.prog W "unicode/utf8.acceptRanges" Rows.laid_unicode_utf8_acceptRanges := Lib.laidMet.reads h (by unfold laidQ; simp [Rows.jsonoutWritesRow])
  rw [accept_eq] at h2
  rw [first_eq] at h1
  exact ⟨utf8Tabs_of_readsT (U8Types.of196 shelf.laysValid) xU8 h1 h2, pow_of (Lib.laidMet.reads h (by unfold laidQ; simp [Rows.jsonoutWritesRow, Rows.laid_internal_strconv_pow10Tab])), hsz, tab_of (Lib.laidMet.reads h (by unfold laidQ; simp [Rows.jsonoutWritesRow]))⟩
theorem big_of {W : World} {d : DataW Unit} (h : VarReads Tryz.prog W "math/bits.deBruijn64tab" d) : 8 < W.heap.size := by
  obtain ⟨g, t, cs, fuel, p, hg, hty, hvar, hd⟩ := h
  obtain rfl := Option.some.inj ((show Tryz.prog.globalNamed "math/bits.deBruijn64tab" = some 8 by kernel_rfl).symm.trans hg)
  unfold World.var? at hvar
  simp only [hg, Option.bind_some] at hvar
  rcases Nat.lt_or_ge 8 W.heap.size with h' | h'
  · exact h'
  · rw [Array.getElem?_eq_none h'] at hvar
    simp at hvar
theorem heap_big {W : World} (h : laidMetH Tryz.prog laidQ W) : 8 < W.heap.size := by
  rw [MakeChecks.laidMetH_plain _ _ _ (by kernel_rfl)] at h
  exact big_of (d := Rows.laid_math_bits_deBruijn64tab) (Lib.laidMet.reads h (by unfold laidQ; simp [Rows.jsonoutWritesRow]))
theorem env {W : World} (h : laidMetH Tryz.prog laidQ W) : look.Env W := tabs (heap_big h) h
noncomputable abbrev wL (os : Os) : World := World.laidAll Tryz.prog os laidQ
set_option maxRecDepth 100000 in
theorem fits (os : Os) : (World.holding Tryz.prog os ⟨#[], #[], []⟩).layFits Tryz.prog laidQ [] = true := by kernel_rfl
set_option maxRecDepth 100000 in
theorem laid_met (os : Os) (args : Array Value) : laidMet Tryz.prog laidQ ((wL os).forCall (fun _ _ => 0) ⟨#[], args, []⟩).memory := laidMet_laidAll args (fits os) (by kernel_rfl)
set_option maxRecDepth 100000 in
theorem zip (os : Os) (args : Array Value) : ((wL os).forCall (fun _ _ => 0) ⟨#[], args, []⟩).variablesZipB Tryz.checked.prog = true := by kernel_rfl
set_option maxRecDepth 100000 in
theorem rest (os : Os) (args : Array Value) : (((wL os).forCall (fun _ _ => 0) ⟨#[], args, []⟩).heap.toList.drop Tryz.checked.prog.globals.size).take ((begin Tryz.checked.prog (fun _ _ => 0) default).world.heap.size - Tryz.checked.prog.globals.size) = (begin Tryz.checked.prog (fun _ _ => 0) default).world.heap.toList.drop Tryz.checked.prog.globals.size := by kernel_rfl
theorem witness {H : Type} {enc : TypeId × Value → H} (os : Os) {f : FuncId} {fn : Func} {s : OpenSpec} {conds : List PathCond} {apart : Bool} {laid : List (String × DataW Unit)} (args : Array Value)
    (hok : Input.okWideB Tryz.checked.prog ((wL os).forCall (fun _ _ => 0) ⟨#[], args, []⟩) f ⟨#[], args, []⟩ = true)
    (hrow : s.preRow enc Tryz.checked.prog fn conds apart laid ((wL os).forCall (fun _ _ => 0) ⟨#[], args, []⟩).memory args) :
    ∃ (w : World) (tape : Tape) (i : Input), w.os = os ∧ (w.forCall tape i).Shaped Tryz.checked.prog ∧ i.vars = [] ∧ Input.okWide Tryz.checked.prog (w.forCall tape i) .any w.heap.size f i ∧
      s.preRow enc Tryz.checked.prog fn conds apart laid (w.forCall tape i).memory i.args ∧ ({} : Assume).holds Tryz.checked.prog (lone (Frame.enter Tryz.checked.prog f i.args .normal) [] (w.forCall tape i)) :=
  ⟨wL os, fun _ _ => 0, ⟨#[], args, []⟩, World.laidAll_os _ _ _, World.shaped_of_ZipB (zip os args) (rest os args), (Input.okWide_of_okWideB (base := 0) hok).1, (Input.okWide_of_okWideB hok).2, hrow, by
    simp only [Assume.holds]
    exact ⟨by simp, by simp, fun _ => Modest.zero, by simp, by simp⟩⟩
end Go.Proofs.YthlncdcfppehcaaGreatDoor.upQ
