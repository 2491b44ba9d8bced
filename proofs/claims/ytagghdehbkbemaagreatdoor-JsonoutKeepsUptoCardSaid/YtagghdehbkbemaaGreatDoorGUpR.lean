/- What the lifts of this seat share: the tables that the listed variables' readings give; a world that lays them; the witness. JsonoutKeeps, as a card: called with any two values whose readings together are of bulk at most 1048576 the Go function returns true and writes nothing that was there. Condition: that bound alone ('Upto'), and the package variables as the program's text lays them (tied). -/
import Derived.Test.YtagghdehbkbemaaGreatDoorCards
import Derived.Test.YtagghdehbkbemaaGreatDoorTie
import Derived.Test.YtagghdehbkbemaaGreatDoorGSnd6
import Derived.ProofKit
import Derived.OpenShut
import Derived.Deep.DeepHandedRow
import Derived.Lib.LaidTab
import Derived.Lib.LaidU8
import Derived.Lib.LaidU8T
import GoSem.PinnedTables
import Derived.KernelRfl
import Derived.Lay
import Derived.LaidOnce
import Derived.SevenTiedAt
import Derived.JoinedCond
import Derived.Carry
import Derived.Test.YtagghdehbkbemaaGreatDoorGJkp
import Derived.Test.YtagghdehbkbemaaGreatDoorGRdq
import Derived.ChangeMaps5
section
namespace Go.Proofs.YtagghdehbkbemaaGreatDoor.upQ
open Go.ChangeShapes Go.WideShapes Go.ChangeAt Go.RowKit Go.Lib Go.Shelf us uw pg
set_option linter.unusedVariables false

theorem own : ownKnob Tryz.prog.godebug = none := by kernel_rfl
def laidQ : List (String × DataW Unit) := Rows.jsonoutKeepsRow.laid
theorem uHL : Tryz.prog.underlying 182 = some (.struct #[{ name := "hi", type := 76, offset := 0, embedded := false, tag := "", pkgPath := "internal/strconv", byteOffset := 0 }, { name := "lo", type := 76, offset := 1, embedded := false, tag := "", pkgPath := "internal/strconv", byteOffset := 8 }]) := by kernel_rfl
theorem uTab : Tryz.prog.underlying 183 = some (.array 696 182) := by kernel_rfl
theorem uU : Tryz.prog.underlying 76 = some (.int .u64) := by kernel_rfl
theorem cU : Tryz.prog.cellsOf 76 = 1 := by kernel_rfl
theorem cHL : Tryz.prog.cellsOf 182 = 2 := by kernel_rfl
theorem rows_eq : (Go.Pinned.pow10Rows.length = 696) ∧ ∀ i, i < 696 → Go.Pinned.pow10Rows[i]? = some (tabH i, tabL i) := by
  have h : Go.Pinned.pow10Rows = (List.range 696).map fun i => (tabH i, tabL i) := by decide +kernel
  refine ⟨by rw [h]; simp, fun i hi => ?_⟩
  rw [h, List.getElem?_map, List.getElem?_range hi]
  rfl
theorem pow_of {W : World} (h : VarReads Tryz.prog W "internal/strconv.pow10Tab" Go.Pinned.pow10Tab) : PowAt W := by
  obtain ⟨g, t, cs, fuel, p, hg, hty, hvar, hd⟩ := h
  obtain rfl := Option.some.inj ((show Tryz.prog.globalNamed "internal/strconv.pow10Tab" = some 5 by kernel_rfl).symm.trans hg)
  obtain rfl := Option.some.inj ((show (Tryz.prog.globals[5]?).map (·.type) = some 183 by kernel_rfl).symm.trans hty)
  intro i hi
  obtain ⟨fuel', d, q, hdi, he⟩ := array_elem uTab hd i hi
  simp only [List.getElem?_map, rows_eq.2 i hi, Option.map_some, Option.some.injEq] at hdi
  subst hdi
  rw [cHL] at he
  have hcs := ints_of_struct (zs := [(tabH i : Int), (tabL i : Int)]) uHL (fun j f hj => by
      match j, hj with
      | 0, hj => simp at hj; subst hj; exact ⟨uU, rfl, cU⟩
      | 1, hj => simp at hj; subst hj; exact ⟨uU, rfl, cU⟩
      | j + 2, hj => simp at hj) (by rw [cHL]; rfl) he
  have e0 := congrArg (·[0]?) hcs
  have e1 := congrArg (·[1]?) hcs
  simp only [List.getElem?_take, List.getElem?_drop] at e0 e1
  constructor
  · rw [World.var?_cell hg hvar (i * 2), ← Array.getElem?_toList]
    simpa using e0
  · rw [World.var?_cell hg hvar (i * 2 + 1), ← Array.getElem?_toList]
    simpa using e1
theorem tab_of {W : World} (h : VarReads Tryz.prog W "internal/strconv.uint64pow10" Rows.laid_internal_strconv_uint64pow10) : Lib.TabIs Tryz.prog W "internal/strconv.uint64pow10" .u64 Lib.pow10Tab := by
  obtain ⟨g, t, cs, fuel, p, hg, hty, hvar, hd⟩ := h
  obtain rfl := Option.some.inj ((show Tryz.prog.globalNamed "internal/strconv.uint64pow10" = some 4 by kernel_rfl).symm.trans hg)
  obtain rfl := Option.some.inj ((show (Tryz.prog.globals[4]?).map (·.type) = some 159 by kernel_rfl).symm.trans hty)
  rw [show (Rows.laid_internal_strconv_uint64pow10 : DataW Unit) = tabData .u64 Lib.pow10Tab by kernel_rfl] at hd
  unfold TabIs
  rw [hvar, ← cells_of_tab (t := 159) (e := 76) (n := 20) (by kernel_rfl) uU cU (by kernel_rfl) hd]
theorem xU8 : U8Extra Tryz.prog shelf.laysValid_ren := ⟨by kernel_rfl, by kernel_rfl, by kernel_rfl, by kernel_rfl, by kernel_rfl, by kernel_rfl, by kernel_rfl⟩
theorem accept_eq : (Rows.laid_unicode_utf8_acceptRanges : DataW Unit) = acceptData := by kernel_rfl
theorem first_eq : (Rows.laid_unicode_utf8_first : DataW Unit) = firstData := by kernel_rfl
/-- what the listed variables give -/
theorem tabs {W : World} (hsz : 8 < W.heap.size) (h : laidMetH Tryz.prog laidQ W) : look.Env W := by
  rw [MakeChecks.laidMetH_plain _ _ _ (by kernel_rfl)] at h
  have h1 : VarReads Tryz.prog W "unicode/utf8.first" Rows.laid_unicode_utf8_first := Lib.laidMet.reads h (by unfold laidQ; simp [Rows.jsonoutKeepsRow])
  have h2 : VarReads Tryz.prog W "unicode/utf8.acceptRanges" Rows.laid_unicode_utf8_acceptRanges := Lib.laidMet.reads h (by unfold laidQ; simp [Rows.jsonoutKeepsRow])
  rw [accept_eq] at h2
  rw [first_eq] at h1
  exact ⟨utf8Tabs_of_readsT (U8Types.of196 shelf.laysValid) xU8 h1 h2, pow_of (Lib.laidMet.reads h (by unfold laidQ; simp [Rows.jsonoutKeepsRow, Rows.laid_internal_strconv_pow10Tab])), hsz, tab_of (Lib.laidMet.reads h (by unfold laidQ; simp [Rows.jsonoutKeepsRow]))⟩
theorem big_of {W : World} {d : DataW Unit} (h : VarReads Tryz.prog W "math/bits.deBruijn64tab" d) : 8 < W.heap.size := by
  obtain ⟨g, t, cs, fuel, p, hg, hty, hvar, hd⟩ := h
  obtain rfl := Option.some.inj ((show Tryz.prog.globalNamed "math/bits.deBruijn64tab" = some 8 by kernel_rfl).symm.trans hg)
  unfold World.var? at hvar
  simp only [hg, Option.bind_some] at hvar
  rcases Nat.lt_or_ge 8 W.heap.size with h' | h'
  · exact h'
  · rw [Array.getElem?_eq_none h'] at hvar
    simp at hvar
theorem heap_big {W : World} (h : laidMetH Tryz.prog laidQ W) : 8 < W.heap.size := by
  rw [MakeChecks.laidMetH_plain _ _ _ (by kernel_rfl)] at h
  exact big_of (d := Rows.laid_math_bits_deBruijn64tab) (Lib.laidMet.reads h (by unfold laidQ; simp [Rows.jsonoutKeepsRow]))
theorem env {W : World} (h : laidMetH Tryz.prog laidQ W) : look.Env W := tabs (heap_big h) h
noncomputable abbrev wL (os : Os) : World := World.laidAll Tryz.prog os laidQ
set_option maxRecDepth 100000 in
theorem fits (os : Os) : (World.holding Tryz.prog os ⟨#[], #[], []⟩).layFits Tryz.prog laidQ [] = true := by kernel_rfl
set_option maxRecDepth 100000 in
theorem laid_met (os : Os) (args : Array Value) : laidMet Tryz.prog laidQ ((wL os).forCall (fun _ _ => 0) ⟨#[], args, []⟩).memory := laidMet_laidAll args (fits os) (by kernel_rfl)
set_option maxRecDepth 100000 in
theorem zip (os : Os) (args : Array Value) : ((wL os).forCall (fun _ _ => 0) ⟨#[], args, []⟩).variablesZipB Tryz.checked.prog = true := by kernel_rfl
set_option maxRecDepth 100000 in
theorem rest (os : Os) (args : Array Value) : (((wL os).forCall (fun _ _ => 0) ⟨#[], args, []⟩).heap.toList.drop Tryz.checked.prog.globals.size).take ((begin Tryz.checked.prog (fun _ _ => 0) default).world.heap.size - Tryz.checked.prog.globals.size) = (begin Tryz.checked.prog (fun _ _ => 0) default).world.heap.toList.drop Tryz.checked.prog.globals.size := by kernel_rfl
theorem witness {H : Type} {enc : TypeId × Value → H} (os : Os) {f : FuncId} {fn : Func} {s : OpenSpec} {conds : List PathCond} {apart : Bool} {laid : List (String × DataW Unit)} (args : Array Value)
    (hok : Input.okWideB Tryz.checked.prog ((wL os).forCall (fun _ _ => 0) ⟨#[], args, []⟩) f ⟨#[], args, []⟩ = true)
    (hrow : s.preRow enc Tryz.checked.prog fn conds apart laid ((wL os).forCall (fun _ _ => 0) ⟨#[], args, []⟩).memory args) :
    ∃ (w : World) (tape : Tape) (i : Input), w.os = os ∧ (w.forCall tape i).Shaped Tryz.checked.prog ∧ i.vars = [] ∧ Input.okWide Tryz.checked.prog (w.forCall tape i) .any w.heap.size f i ∧
      s.preRow enc Tryz.checked.prog fn conds apart laid (w.forCall tape i).memory i.args ∧ ({} : Assume).holds Tryz.checked.prog (lone (Frame.enter Tryz.checked.prog f i.args .normal) [] (w.forCall tape i)) :=
  ⟨wL os, fun _ _ => 0, ⟨#[], args, []⟩, World.laidAll_os _ _ _, World.shaped_of_ZipB (zip os args) (rest os args), (Input.okWide_of_okWideB (base := 0) hok).1, (Input.okWide_of_okWideB hok).2, hrow, by
    simp only [Assume.holds]
    exact ⟨by simp, by simp, fun _ => Modest.zero, by simp, by simp⟩⟩
end Go.Proofs.YtagghdehbkbemaaGreatDoor.upQ
end
section
namespace Go.Proofs.YtagghdehbkbemaaGreatDoor.upKeeps
open Go.ChangeShapes Go.WideShapes Go.ChangeAt Go.RowKit Go.Lib
open Go.ChangeMaps (open_string shut_string)
set_option linter.unusedVariables false

theorem laidOut : laidOutB Tryz.prog = true := by kernel_rfl
section
variable {H : Type} {enc : TypeId × Value → H}
set_option maxRecDepth 100000 in
theorem contract (W : World) (base : Nat) (args : Array Value) (ds gs : List (DataW H)) (before : List MemPlace)
    (hval : ∀ (j : Nat) t v, Tryz.f3.params[j]? = some t → args[j]? = some v → Value.okWide Tryz.prog W .any base t v)
    (hW : DataW.Whole enc Tryz.prog Tryz.f3.params.toList Rows.jsonoutKeepsSpec.vars false W args.toList ds gs before) (hk : Rows.uptoSmall H (ds ++ gs) = true) (hL : laidMetH Tryz.prog upQ.laidQ W) :
    Calls Tryz.prog 3 args W fun e W' => ∃ v, e = .returned v ∧ Rows.jsonoutKeepsSpec.post enc Tryz.prog Tryz.f3 false true false false W args v W' := by
  have hW' := hW
  obtain ⟨p, q, hA0, hV, rfl, hfz, hnd⟩ := hW
  have hA : DataW.TrodAll enc Tryz.prog W 0 (fun _ => true) true Tryz.f3.params.toList args.toList ds p := hA0
  rw [Tryz.params3] at hA hval
  obtain ⟨v0, vs0, d0, ds0, p0, q0, hargs, rfl, rfl, h0, r0⟩ := trodAll_cons hA
  obtain ⟨v1, vs1, d1, ds1, p1, q1, rfl, rfl, rfl, h1, r1⟩ := trodAll_cons r0
  obtain ⟨rfl, rfl, rfl⟩ := trodAll_nil r1
  obtain rfl : args = #[v0, v1] := by cases args; simp_all
  obtain ⟨rfl, rfl⟩ := trodVars_none hV
  have hbk := bulks.bound hk
  simp only [List.append_nil, Rows.uptoBulkAll] at hbk
  obtain ⟨cs1, rfl, _⟩ := okWide_struct Tryz.underlying27 (hval 0 27 v0 rfl rfl)
  obtain ⟨cs2, rfl, _⟩ := okWide_struct Tryz.underlying27 (hval 1 27 v1 rfl rfl)
  have k0 := h0
  have k1 := h1
  have lt0 : ∀ x ∈ p0, x.block < W.heap.size := by obtain ⟨m, hm⟩ := k0; exact DataW.trod_lt m _ _ _ hm
  have lt1 : ∀ x ∈ p1, x.block < W.heap.size := by obtain ⟨m, hm⟩ := k1; exact DataW.trod_lt m _ _ _ hm
  obtain ⟨m0, hm0⟩ := h0
  obtain ⟨m1, hm1⟩ := h1
  obtain ⟨x, ⟨hI, hok⟩, hb0⟩ := val.value_of _ _ _ _ (Nat.le_refl _) (by simp only; omega) hm0
  obtain ⟨x', ⟨hI', hok'⟩, hb1⟩ := val.value_of _ _ _ _ (Nat.le_refl _) (by simp only; omega) hm1
  simp only at hb0 hb1
  have he : (Value.agg cs1) = .agg (cs1.toList.toArray) := by simp
  have he' : (Value.agg cs2) = .agg (cs2.toList.toArray) := by simp
  refine (show Calls Tryz.prog 3 #[.agg cs1, .agg cs2] W (look.TruePost W) by
    rw [he, he']
    exact look.keeps_any x x' _ _ W (val.Low W) (by omega) (by have := val.sz_wt x; omega) (by have := val.sz_wt x'; omega) hok hok' hI hI' (fun _ h => h) (upQ.env hL)).mono fun e W' ⟨he, bel⟩ => ?_
  subst he
  exact ⟨_, rfl, _, _, _, [], _, [], hW', trodAll_mk1 (shut_bool Tryz.underlying4 _), (trodAll_cons_mk (Below.trod laidOut (by kernel_rfl) (of_decide_eq_true (by kernel_rfl)) k0 bel lt0) (trodAll_cons_mk (Below.trod laidOut (by kernel_rfl) (of_decide_eq_true (by kernel_rfl)) k1 bel lt1) trodAll_mk0)), rfl, bel.frame _, fun h => by cases h⟩
end

set_option maxRecDepth 100000 in
theorem lifted (os : Os) (started : os.Started) (H : Type) (enc : TypeId × Value → H) (F : Stop.Interp) :
    ReturnsInHanded {} Tryz.checked os 3 .any ((Rows.OpenSpec.upto Rows.jsonoutKeepsSpec).preRow enc Tryz.prog Tryz.f3 Rows.jsonoutKeepsUptoRow.domain false Rows.jsonoutKeepsUptoRow.laid) (((Rows.OpenSpec.upto Rows.jsonoutKeepsSpec).at F).post enc Tryz.prog Tryz.f3 false true false false) := by
  refine returnsInHanded_of_row (C := Tryz.checked) (s := Rows.OpenSpec.upto Rows.jsonoutKeepsSpec) upQ.own started (by kernel_rfl) Tryz.func3
    (upQ.witness (enc := enc) os #[.agg #[.int .i64 0, .bool false, .int .i64 0, .float .f64 0, .string ⟨#[]⟩, .string ⟨#[]⟩, .slice none 0 0, .slice none 0 0], .agg #[.int .i64 0, .bool false, .int .i64 0, .float .f64 0, .string ⟨#[]⟩, .string ⟨#[]⟩, .slice none 0 0, .slice none 0 0]] (by kernel_rfl)
      (OpenSpec.preRow_of_cond 8 (x := ([.agg [.lit (.int .i64 0), .lit (.bool false), .lit (.int .i64 0), .lit (.float .f64 0), .lit (.string []), .lit (.string []), .nil, .nil], .agg [.lit (.int .i64 0), .lit (.bool false), .lit (.int .i64 0), .lit (.float .f64 0), .lit (.string []), .lit (.string []), .nil, .nil]], [], [])) (by kernel_rfl) (by kernel_rfl) (fun k hk => by cases hk; kernel_rfl) (by kernel_rfl) (by rw [MakeChecks.laidMetH_plain _ _ _ (by kernel_rfl)]; exact upQ.laid_met os _))) ?_
  intro W base args ds gs before hval hW _ hcond _ hL _ _
  exact contract W base args ds gs before hval hW (hcond _ rfl) hL

theorem over : Rows.JsonoutKeepsUptoSaid :=
  OpenClaim.holds_of_cond 3 Tryz.f3 rfl rfl rfl rfl rfl rfl rfl ⟨rfl, rfl, rfl, rfl, rfl⟩ rfl rfl rfl rfl rfl (by kernel_rfl) Tryz.func3 (by kernel_rfl)
    (of_decide_eq_true (by kernel_rfl)) (by unfold Func.isWrapper; first | (rw [if_pos (by decide +kernel)]; kernel_rfl) | (rw [if_neg (by decide +kernel)]; exact ⟨rfl, rfl⟩))
    (fun os started H enc _ F => by rw [OpenClaim.pre_eq_preRow]; exact lifted os started H enc F)

theorem plain (f : FuncId) (fn : Func) (hf : Tryz.pinned.checked.prog.funcNamed "pergola/pergolalaw04.JsonoutKeeps" = some f) (hfn : Tryz.pinned.checked.prog.funcs[f]? = some fn) :
    true = Tryz.pinned.checked.prog.looks [] ∧ ∀ (j : Nat) t, fn.params[j]? = some t → Tryz.pinned.checked.prog.wantsStandIn t = false := by
  obtain rfl : f = 3 := Option.some.inj ((show Tryz.prog.funcNamed "pergola/pergolalaw04.JsonoutKeeps" = some 3 by kernel_rfl).symm.trans hf) |>.symm
  obtain rfl : fn = Tryz.f3 := (Option.some.inj (Tryz.func3.symm.trans hfn)).symm
  refine ⟨by kernel_rfl, fun j t ht => ?_⟩
  rw [Tryz.params3] at ht
  have hm : t ∈ [27, 27] := by simpa using Array.mem_of_getElem? ht
  have hall : ([27, 27].all fun u => !Tryz.prog.wantsStandIn u) = true := by kernel_rfl
  exact (show Tryz.prog.wantsStandIn t = false by simpa using List.all_eq_true.1 hall t hm)

/-- the statement: the second form's card -/
theorem proved : Rows.JsonoutKeepsUptoCardSaid :=
  Claim7.holds_tied_plain_at .later [] _ _ _ _ over (fun _ h => by cases h) (by kernel_rfl) (fun _ h => by cases h) jsonoutKeepsUpto_row_tie rfl ⟨rfl, rfl⟩ (by kernel_rfl) rfl plain (by kernel_rfl)
end Go.Proofs.YtagghdehbkbemaaGreatDoor.upKeeps
end
