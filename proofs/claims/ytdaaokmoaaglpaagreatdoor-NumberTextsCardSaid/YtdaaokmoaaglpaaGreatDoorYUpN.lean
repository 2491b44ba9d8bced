/- What the lifts of the Number statements share: the tables that the listed variables' readings give; a world that lays them; the witness. -/
import Derived.Test.YtdaaokmoaaglpaaGreatDoorCards
import Derived.Test.YtdaaokmoaaglpaaGreatDoorTie
import Derived.Test.YtdaaokmoaaglpaaGreatDoorYNt
import Derived.ProofKit
import Derived.OpenShut
import Derived.Deep.DeepHandedRow
import Derived.Lib.LaidTab
import Derived.Lib.LaidU8
import Derived.Lay
import Derived.LaidOnce
import Derived.SevenTiedAt
import Derived.JoinedCond
import Derived.Carry
namespace Go.Proofs.YtdaaokmoaaglpaaGreatDoor.upN
open Go.ChangeShapes Go.WideShapes Go.ChangeAt Go.RowKit Go.Lib Go.Shelf us uw pg
set_option linter.unusedVariables false

theorem own : ownKnob Tryz.prog.godebug = none := by kernel_rfl
def laidN : List (String × DataW Unit) := Rows.numberTextsRow.laid
theorem u196 : Tryz.prog.underlying 196 = some (.struct #[{ name := "hi", type := 31, offset := 0, embedded := false, tag := "", pkgPath := "internal/strconv", byteOffset := 0 }, { name := "lo", type := 31, offset := 1, embedded := false, tag := "", pkgPath := "internal/strconv", byteOffset := 8 }]) := by kernel_rfl
theorem u197 : Tryz.prog.underlying 197 = some (.array 696 196) := by kernel_rfl
theorem u184 : Tryz.prog.underlying 184 = some (.struct #[{ name := "mantbits", type := 108, offset := 0, embedded := false, tag := "", pkgPath := "internal/strconv", byteOffset := 0 }, { name := "expbits", type := 108, offset := 1, embedded := false, tag := "", pkgPath := "internal/strconv", byteOffset := 8 }, { name := "bias", type := 3, offset := 2, embedded := false, tag := "", pkgPath := "internal/strconv", byteOffset := 16 }]) := by kernel_rfl
theorem u31 : Tryz.prog.underlying 31 = some (.int .u64) := by kernel_rfl
theorem u108 : Tryz.prog.underlying 108 = some (.int .u64) := by kernel_rfl
theorem u4 : Tryz.prog.underlying 4 = some .bool := by kernel_rfl
theorem c31 : Tryz.prog.cellsOf 31 = 1 := by kernel_rfl
theorem c108 : Tryz.prog.cellsOf 108 = 1 := by kernel_rfl
theorem c196 : Tryz.prog.cellsOf 196 = 2 := by kernel_rfl
theorem rows_eq : (Go.Pinned.pow10Rows.length = 696) ∧ ∀ i, i < 696 → Go.Pinned.pow10Rows[i]? = some (tabH i, tabL i) := by
  have h : Go.Pinned.pow10Rows = (List.range 696).map fun i => (tabH i, tabL i) := by decide +kernel
  refine ⟨by rw [h]; simp, fun i hi => ?_⟩
  rw [h, List.getElem?_map, List.getElem?_range hi]
  rfl
theorem pow_of {W : World} (h : VarReads Tryz.prog W "internal/strconv.pow10Tab" Go.Pinned.pow10Tab) : PowAt W := by
  obtain ⟨g, t, cs, fuel, p, hg, hty, hvar, hd⟩ := h
  obtain rfl := Option.some.inj ((show Tryz.prog.globalNamed "internal/strconv.pow10Tab" = some 7 by kernel_rfl).symm.trans hg)
  obtain rfl := Option.some.inj ((show (Tryz.prog.globals[7]?).map (·.type) = some 197 by kernel_rfl).symm.trans hty)
  intro i hi
  obtain ⟨fuel', d, q, hdi, he⟩ := array_elem u197 hd i hi
  simp only [List.getElem?_map, rows_eq.2 i hi, Option.map_some, Option.some.injEq] at hdi
  subst hdi
  rw [c196] at he
  have hcs := ints_of_struct (zs := [(tabH i : Int), (tabL i : Int)]) u196 (fun j f hj => by
      match j, hj with
      | 0, hj => simp at hj; subst hj; exact ⟨u31, rfl, c31⟩
      | 1, hj => simp at hj; subst hj; exact ⟨u31, rfl, c31⟩
      | j + 2, hj => simp at hj) (by rw [c196]; rfl) he
  have e0 := congrArg (·[0]?) hcs
  have e1 := congrArg (·[1]?) hcs
  simp only [List.getElem?_take, List.getElem?_drop] at e0 e1
  constructor
  · rw [World.var?_cell hg hvar (i * 2), ← Array.getElem?_toList]
    simpa using e0
  · rw [World.var?_cell hg hvar (i * 2 + 1), ← Array.getElem?_toList]
    simpa using e1
theorem opt_of {W : World} (h : VarReads Tryz.prog W "internal/strconv.optimize" Rows.laid_internal_strconv_optimize) : OptAt W := by
  obtain ⟨g, t, cs, fuel, p, hg, hty, hvar, hd⟩ := h
  obtain rfl := Option.some.inj ((show Tryz.prog.globalNamed "internal/strconv.optimize" = some 3 by kernel_rfl).symm.trans hg)
  obtain rfl := Option.some.inj ((show (Tryz.prog.globals[3]?).map (·.type) = some 4 by kernel_rfl).symm.trans hty)
  obtain ⟨b, hc, hx⟩ := DataW.trod_bool u4 hd
  have hb : b = true := by
    have := congrArg Prod.fst hx
    simp [Rows.laid_internal_strconv_optimize] at this
    exact this
  subst hb
  unfold OptAt
  rw [World.var?_cell hg hvar 0, ← Array.getElem?_toList, hc]
  rfl
theorem info_of {W : World} (h : VarReads Tryz.prog W "internal/strconv.float64info" Rows.laid_internal_strconv_float64info) : InfoAt W := by
  obtain ⟨g, t, cs, fuel, p, hg, hty, hvar, hd⟩ := h
  obtain rfl := Option.some.inj ((show Tryz.prog.globalNamed "internal/strconv.float64info" = some 6 by kernel_rfl).symm.trans hg)
  obtain rfl := Option.some.inj ((show (Tryz.prog.globals[6]?).map (·.type) = some 184 by kernel_rfl).symm.trans hty)
  obtain ⟨xs, n, rfl, hx, hl, hxl, hall⟩ := DataW.trod_struct u184 hd
  have h0 := hall 0 _ rfl
  have hxs := congrArg Prod.fst hx
  simp only [Rows.laid_internal_strconv_float64info, DataW.agg.injEq] at hxs
  match xs, hxl, hxs, h0 with
  | b :: r, _, hxs, h0 =>
    simp only [List.map_cons, List.cons.injEq] at hxs
    simp only [List.getElem?_cons_zero] at h0
    obtain ⟨z, hcz, rfl, _⟩ := DataW.trod_int u108 h0
    have hz : z = 52 := by
      have := hxs.1
      simp at this
      exact this.symm
    subst hz
    have h2 := congrArg (·[0]?) hcz
    unfold InfoAt
    rw [World.var?_cell hg hvar 0, ← Array.getElem?_toList]
    have h3 : 0 < Tryz.prog.cellsOf 108 ∧ cs[0]? = some (Value.int IntKind.u64 52) := by simpa [List.getElem?_take, List.getElem?_drop] using h2
    simpa using h3.2
theorem tab_of {W : World} (h : VarReads Tryz.prog W "internal/strconv.uint64pow10" Rows.laid_internal_strconv_uint64pow10) : Lib.TabIs Tryz.prog W "internal/strconv.uint64pow10" .u64 Lib.pow10Tab := by
  obtain ⟨g, t, cs, fuel, p, hg, hty, hvar, hd⟩ := h
  obtain rfl := Option.some.inj ((show Tryz.prog.globalNamed "internal/strconv.uint64pow10" = some 4 by kernel_rfl).symm.trans hg)
  obtain rfl := Option.some.inj ((show (Tryz.prog.globals[4]?).map (·.type) = some 151 by kernel_rfl).symm.trans hty)
  rw [show (Rows.laid_internal_strconv_uint64pow10 : DataW Unit) = tabData .u64 Lib.pow10Tab by kernel_rfl] at hd
  unfold TabIs
  rw [hvar, ← cells_of_tab (t := 151) (e := 31) (n := 20) (by kernel_rfl) u31 c31 (by kernel_rfl) hd]
/-- what the listed variables give -/
def Tabs (W : World) : Prop := PowAt W ∧ OptAt W ∧ InfoAt W ∧ Lib.TabIs Tryz.prog W "internal/strconv.uint64pow10" .u64 Lib.pow10Tab
theorem tabs {W : World} (h : laidMetH Tryz.prog laidN W) : Tabs W := by
  rw [MakeChecks.laidMetH_plain _ _ _ (by kernel_rfl)] at h
  exact ⟨pow_of (Lib.laidMet.reads h (by unfold laidN; simp [Rows.numberTextsRow, Rows.laid_internal_strconv_pow10Tab])), opt_of (Lib.laidMet.reads h (by unfold laidN; simp [Rows.numberTextsRow])), info_of (Lib.laidMet.reads h (by unfold laidN; simp [Rows.numberTextsRow])), tab_of (Lib.laidMet.reads h (by unfold laidN; simp [Rows.numberTextsRow]))⟩
noncomputable abbrev wL (os : Os) : World := World.laidAll Tryz.prog os laidN
set_option maxRecDepth 100000 in
theorem fits (os : Os) : (World.holding Tryz.prog os ⟨#[], #[], []⟩).layFits Tryz.prog laidN [] = true := by kernel_rfl
set_option maxRecDepth 100000 in
theorem laid_met (os : Os) (args : Array Value) : laidMet Tryz.prog laidN ((wL os).forCall (fun _ _ => 0) ⟨#[], args, []⟩).memory := laidMet_laidAll args (fits os) (by kernel_rfl)
set_option maxRecDepth 100000 in
theorem zip (os : Os) (args : Array Value) : ((wL os).forCall (fun _ _ => 0) ⟨#[], args, []⟩).variablesZipB Tryz.checked.prog = true := by kernel_rfl
set_option maxRecDepth 100000 in
theorem rest (os : Os) (args : Array Value) : (((wL os).forCall (fun _ _ => 0) ⟨#[], args, []⟩).heap.toList.drop Tryz.checked.prog.globals.size).take ((begin Tryz.checked.prog (fun _ _ => 0) default).world.heap.size - Tryz.checked.prog.globals.size) = (begin Tryz.checked.prog (fun _ _ => 0) default).world.heap.toList.drop Tryz.checked.prog.globals.size := by kernel_rfl
theorem witness {H : Type} {enc : TypeId × Value → H} (os : Os) {f : FuncId} {fn : Func} {s : OpenSpec} {conds : List PathCond} {apart : Bool} {laid : List (String × DataW Unit)} (args : Array Value)
    (hok : Input.okWideB Tryz.checked.prog ((wL os).forCall (fun _ _ => 0) ⟨#[], args, []⟩) f ⟨#[], args, []⟩ = true)
    (hrow : s.preRow enc Tryz.checked.prog fn conds apart laid ((wL os).forCall (fun _ _ => 0) ⟨#[], args, []⟩).memory args) :
    ∃ (w : World) (tape : Tape) (i : Input), w.os = os ∧ (w.forCall tape i).Shaped Tryz.checked.prog ∧ i.vars = [] ∧ Input.okWide Tryz.checked.prog (w.forCall tape i) .any w.heap.size f i ∧
      s.preRow enc Tryz.checked.prog fn conds apart laid (w.forCall tape i).memory i.args ∧ ({} : Assume).holds Tryz.checked.prog (lone (Frame.enter Tryz.checked.prog f i.args .normal) [] (w.forCall tape i)) :=
  ⟨wL os, fun _ _ => 0, ⟨#[], args, []⟩, World.laidAll_os _ _ _, World.shaped_of_ZipB (zip os args) (rest os args), (Input.okWide_of_okWideB (base := 0) hok).1, (Input.okWide_of_okWideB hok).2, hrow, by
    simp only [Assume.holds]
    exact ⟨by simp, by simp, fun _ => Modest.zero, by simp, by simp⟩⟩
end Go.Proofs.YtdaaokmoaaglpaaGreatDoor.upN
