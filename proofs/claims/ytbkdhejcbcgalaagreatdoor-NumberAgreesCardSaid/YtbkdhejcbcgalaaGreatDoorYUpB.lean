/- What the lifts of NumberBack and NumberAgrees share: the tables that the listed variables' readings give; a world that lays them; the witness. -/
import Derived.Test.YtbkdhejcbcgalaaGreatDoorCards
import Derived.Test.YtbkdhejcbcgalaaGreatDoorTie
import Derived.Test.YtbkdhejcbcgalaaGreatDoorYNb
import Derived.ProofKit
import Derived.OpenShut
import Derived.Deep.DeepHandedRow
import Derived.Lib.LaidTab
import Derived.Lib.LaidU8
import GoSem.PinnedTables
import Derived.KernelRfl
import Derived.Lay
import Derived.LaidOnce
import Derived.LaidMore
import Derived.SevenTiedAt
import Derived.JoinedCond
import Derived.Carry
namespace Go.Proofs.YtbkdhejcbcgalaaGreatDoor.upN
open Go.ChangeShapes Go.WideShapes Go.ChangeAt Go.RowKit Go.Lib Go.Shelf us uw pg
set_option linter.unusedVariables false

theorem own : ownKnob Tryz.prog.godebug = none := by kernel_rfl
def laidN : List (String × DataW Unit) := Rows.numberBackRow.laid
theorem uHL : Tryz.prog.underlying 140 = some (.struct #[{ name := "hi", type := 27, offset := 0, embedded := false, tag := "", pkgPath := "internal/strconv", byteOffset := 0 }, { name := "lo", type := 27, offset := 1, embedded := false, tag := "", pkgPath := "internal/strconv", byteOffset := 8 }]) := by kernel_rfl
theorem uTab : Tryz.prog.underlying 141 = some (.array 696 140) := by kernel_rfl
theorem uU : Tryz.prog.underlying 27 = some (.int .u64) := by kernel_rfl
theorem cU : Tryz.prog.cellsOf 27 = 1 := by kernel_rfl
theorem cHL : Tryz.prog.cellsOf 140 = 2 := by kernel_rfl
theorem rows_eq : (Go.Pinned.pow10Rows.length = 696) ∧ ∀ i, i < 696 → Go.Pinned.pow10Rows[i]? = some (tabH i, tabL i) := by
  have h : Go.Pinned.pow10Rows = (List.range 696).map fun i => (tabH i, tabL i) := by decide +kernel
  refine ⟨by rw [h]; simp, fun i hi => ?_⟩
  rw [h, List.getElem?_map, List.getElem?_range hi]
  rfl
theorem pow_of {W : World} (h : VarReads Tryz.prog W "internal/strconv.pow10Tab" Go.Pinned.pow10Tab) : PowAt W := by
  obtain ⟨g, t, cs, fuel, p, hg, hty, hvar, hd⟩ := h
  obtain rfl := Option.some.inj ((show Tryz.prog.globalNamed "internal/strconv.pow10Tab" = some 5 by kernel_rfl).symm.trans hg)
  obtain rfl := Option.some.inj ((show (Tryz.prog.globals[5]?).map (·.type) = some 141 by kernel_rfl).symm.trans hty)
  intro i hi
  obtain ⟨fuel', d, q, hdi, he⟩ := array_elem uTab hd i hi
  simp only [List.getElem?_map, rows_eq.2 i hi, Option.map_some, Option.some.injEq] at hdi
  subst hdi
  rw [cHL] at he
  have hcs := ints_of_struct (zs := [(tabH i : Int), (tabL i : Int)]) uHL (fun j f hj => by
      match j, hj with
      | 0, hj => simp at hj; subst hj; exact ⟨uU, rfl, cU⟩
      | 1, hj => simp at hj; subst hj; exact ⟨uU, rfl, cU⟩
      | j + 2, hj => simp at hj) (by rw [cHL]; rfl) he
  have e0 := congrArg (·[0]?) hcs
  have e1 := congrArg (·[1]?) hcs
  simp only [List.getElem?_take, List.getElem?_drop] at e0 e1
  constructor
  · rw [World.var?_cell hg hvar (i * 2), ← Array.getElem?_toList]
    simpa using e0
  · rw [World.var?_cell hg hvar (i * 2 + 1), ← Array.getElem?_toList]
    simpa using e1
theorem tab_of {W : World} (h : VarReads Tryz.prog W "internal/strconv.uint64pow10" Rows.laid_internal_strconv_uint64pow10) : Lib.TabIs Tryz.prog W "internal/strconv.uint64pow10" .u64 Lib.pow10Tab := by
  obtain ⟨g, t, cs, fuel, p, hg, hty, hvar, hd⟩ := h
  obtain rfl := Option.some.inj ((show Tryz.prog.globalNamed "internal/strconv.uint64pow10" = some 4 by kernel_rfl).symm.trans hg)
  obtain rfl := Option.some.inj ((show (Tryz.prog.globals[4]?).map (·.type) = some 113 by kernel_rfl).symm.trans hty)
  rw [show (Rows.laid_internal_strconv_uint64pow10 : DataW Unit) = tabData .u64 Lib.pow10Tab by kernel_rfl] at hd
  unfold TabIs
  rw [hvar, ← cells_of_tab (t := 113) (e := 27) (n := 20) (by kernel_rfl) uU cU (by kernel_rfl) hd]
theorem uB : Tryz.prog.underlying 4 = some .bool := by kernel_rfl
theorem uUI : Tryz.prog.underlying 77 = some (.int .u64) := by kernel_rfl
theorem uFI : Tryz.prog.underlying 157 = some (.struct #[{ name := "mantbits", type := 77, offset := 0, embedded := false, tag := "", pkgPath := "internal/strconv", byteOffset := 0 }, { name := "expbits", type := 77, offset := 1, embedded := false, tag := "", pkgPath := "internal/strconv", byteOffset := 8 }, { name := "bias", type := 3, offset := 2, embedded := false, tag := "", pkgPath := "internal/strconv", byteOffset := 16 }]) := by kernel_rfl
theorem opt_of {W : World} (h : VarReads Tryz.prog W "internal/strconv.optimize" Rows.laid_internal_strconv_optimize) : OptAt W := by
  obtain ⟨g, t, cs, fuel, p, hg, hty, hvar, hd⟩ := h
  obtain rfl := Option.some.inj ((show Tryz.prog.globalNamed "internal/strconv.optimize" = some 1 by kernel_rfl).symm.trans hg)
  obtain rfl := Option.some.inj ((show (Tryz.prog.globals[1]?).map (·.type) = some 4 by kernel_rfl).symm.trans hty)
  obtain ⟨b, hc, hx⟩ := DataW.trod_bool uB hd
  have hb : b = true := by
    have := congrArg Prod.fst hx
    simp [Rows.laid_internal_strconv_optimize] at this
    exact this
  subst hb
  unfold OptAt
  rw [World.var?_cell hg hvar 0, ← Array.getElem?_toList, hc]
  rfl
theorem info_of {W : World} (h : VarReads Tryz.prog W "internal/strconv.float64info" Rows.laid_internal_strconv_float64info) : InfoAt W := by
  obtain ⟨g, t, cs, fuel, p, hg, hty, hvar, hd⟩ := h
  obtain rfl := Option.some.inj ((show Tryz.prog.globalNamed "internal/strconv.float64info" = some 8 by kernel_rfl).symm.trans hg)
  obtain rfl := Option.some.inj ((show (Tryz.prog.globals[8]?).map (·.type) = some 157 by kernel_rfl).symm.trans hty)
  obtain ⟨xs, n, rfl, hx, hl, hxl, hall⟩ := DataW.trod_struct uFI hd
  have h0 := hall 0 _ rfl
  have hxs := congrArg Prod.fst hx
  simp only [Rows.laid_internal_strconv_float64info, DataW.agg.injEq] at hxs
  match xs, hxl, hxs, h0 with
  | b :: r, _, hxs, h0 =>
    simp only [List.map_cons, List.cons.injEq] at hxs
    simp only [List.getElem?_cons_zero] at h0
    obtain ⟨z, hcz, rfl, _⟩ := DataW.trod_int uUI h0
    have hz : z = 52 := by
      have := hxs.1
      simp at this
      exact this.symm
    subst hz
    have h2 := congrArg (·[0]?) hcz
    unfold InfoAt
    rw [World.var?_cell hg hvar 0, ← Array.getElem?_toList]
    have h3 : 0 < Tryz.prog.cellsOf 77 ∧ cs[0]? = some (Value.int IntKind.u64 52) := by simpa [List.getElem?_take, List.getElem?_drop] using h2
    simpa using h3.2
theorem uSF : Tryz.prog.underlying 174 = some (.slice 25) := by kernel_rfl
theorem uF : Tryz.prog.underlying 25 = some (.float .f64) := by kernel_rfl
theorem cF : Tryz.prog.cellsOf 25 = 1 := by kernel_rfl
theorem float_of {P : Program} {w : World} {base : Nat} {sp : Nat → Bool} {fuel : Nat} {t : TypeId} {v : Value} {b : Nat} {q : List MemPlace} (ht : P.underlying t = some (.float .f64)) (h : DataW.trod (H := Unit) (fun _ => ()) P w base sp false fuel t [v] = some (.lit (.float .f64 b), q)) : v = .float .f64 b := by
  cases fuel with
  | zero => simp [DataW.trod] at h
  | succ n =>
    unfold DataW.trod at h
    rw [ht] at h
    split at h <;> simp_all
theorem p10_of {W : World} (h : VarReads Tryz.prog W "internal/strconv.float64pow10" Rows.laid_internal_strconv_float64pow10) : P10At W ∧ 13 < W.heap.size := by
  obtain ⟨g, t, cs, fuel, p, hg, hty, hvar, hd⟩ := h
  obtain rfl := Option.some.inj ((show Tryz.prog.globalNamed "internal/strconv.float64pow10" = some 13 by kernel_rfl).symm.trans hg)
  obtain rfl := Option.some.inj ((show (Tryz.prog.globals[13]?).map (·.type) = some 174 by kernel_rfl).symm.trans hty)
  have hlen : 13 < W.heap.size := by
    have hv := hvar
    unfold World.var? at hv
    simp only [hg, Option.bind_some] at hv
    rcases Nat.lt_or_ge 13 W.heap.size with h' | h'
    · exact h'
    · rw [Array.getElem?_eq_none h'] at hv
      simp at hv
  refine ⟨?_, hlen⟩
  have he : (Rows.laid_internal_strconv_float64pow10 : DataW Unit) = .slice (big.p10.map fun x => .lit (.float .f64 x)) [] := by kernel_rfl
  rw [he] at hd
  obtain ⟨a, cap, hcs, hcap, hel⟩ := open_row uSF cF hd
  have hl : big.p10.length = 23 := by decide
  rw [List.length_map, hl] at hcs
  have hk : ∀ k, k ≤ 22 → W.cell? (a.add k) = some (.float .f64 (big.p10.getD k 0)) := fun k hk => by
    have hk2 : k < big.p10.length := by omega
    obtain ⟨v, n, q, h1, h2⟩ := hel k (.lit (.float .f64 (big.p10.getD k 0))) (by
      rw [List.getElem?_map, List.getElem?_eq_getElem hk2, List.getD_eq_getElem?_getD, List.getElem?_eq_getElem hk2]
      rfl)
    rw [float_of uF h2] at h1
    exact h1
  have h0 := hk 0 (by omega)
  have hsp : a.spot = none := by
    rw [show a.add 0 = a from rfl] at h0
    unfold World.cell? at h0
    split at h0
    · split at h0
      · cases h0
      · rename_i h
        simpa using h
    · cases h0
  refine ⟨a, cap, ?_, hsp, by have := World.block_lt_of_cell? W _ h0; simpa [mem.add_block] using this, fun k hk2 => ?_⟩
  · rw [World.var?_cell hg hvar 0, ← Array.getElem?_toList, hcs]
    rfl
  · have h1 := hk k hk2
    obtain ⟨gb, go, gs⟩ := a
    simp only at hsp
    subst hsp
    rw [show (⟨gb, go, none⟩ : Addr).add k = ⟨gb, go + k, none⟩ from by unfold Addr.add; split <;> simp_all] at h1
    exact h1
/-- what the listed variables give -/
theorem env {W : World} (h : laidMetH Tryz.prog laidN W) : NEnv W := by
  rw [MakeChecks.laidMetH_plain _ _ _ (by kernel_rfl)] at h
  have hp := p10_of (Lib.laidMet.reads h (by unfold laidN; simp [Rows.numberBackRow]))
  exact ⟨info_of (Lib.laidMet.reads h (by unfold laidN; simp [Rows.numberBackRow])), opt_of (Lib.laidMet.reads h (by unfold laidN; simp [Rows.numberBackRow])), hp.1, pow_of (Lib.laidMet.reads h (by unfold laidN; simp [Rows.numberBackRow, Rows.laid_internal_strconv_pow10Tab])), hp.2, tab_of (Lib.laidMet.reads h (by unfold laidN; simp [Rows.numberBackRow]))⟩
noncomputable abbrev wL (os : Os) : World := World.laidAll Tryz.prog os laidN
set_option maxRecDepth 100000 in
theorem fits (os : Os) : (World.holding Tryz.prog os ⟨#[], #[], []⟩).layFits Tryz.prog laidN [] = true := by kernel_rfl
set_option maxRecDepth 100000 in
theorem laid_met (os : Os) (args : Array Value) : laidMet Tryz.prog laidN ((wL os).forCall (fun _ _ => 0) ⟨#[], args, []⟩).memory := laidMet_laidAll args (fits os) (by kernel_rfl)
set_option maxRecDepth 100000 in
theorem zip (os : Os) (args : Array Value) : ((wL os).forCall (fun _ _ => 0) ⟨#[], args, []⟩).variablesZipB Tryz.checked.prog = true := by kernel_rfl
set_option maxRecDepth 100000 in
theorem rest (os : Os) (args : Array Value) : (((wL os).forCall (fun _ _ => 0) ⟨#[], args, []⟩).heap.toList.drop Tryz.checked.prog.globals.size).take ((begin Tryz.checked.prog (fun _ _ => 0) default).world.heap.size - Tryz.checked.prog.globals.size) = (begin Tryz.checked.prog (fun _ _ => 0) default).world.heap.toList.drop Tryz.checked.prog.globals.size := by kernel_rfl
theorem witness {H : Type} {enc : TypeId × Value → H} (os : Os) {f : FuncId} {fn : Func} {s : OpenSpec} {conds : List PathCond} {apart : Bool} {laid : List (String × DataW Unit)} (args : Array Value)
    (hok : Input.okWideB Tryz.checked.prog ((wL os).forCall (fun _ _ => 0) ⟨#[], args, []⟩) f ⟨#[], args, []⟩ = true)
    (hrow : s.preRow enc Tryz.checked.prog fn conds apart laid ((wL os).forCall (fun _ _ => 0) ⟨#[], args, []⟩).memory args) :
    ∃ (w : World) (tape : Tape) (i : Input), w.os = os ∧ (w.forCall tape i).Shaped Tryz.checked.prog ∧ i.vars = [] ∧ Input.okWide Tryz.checked.prog (w.forCall tape i) .any w.heap.size f i ∧
      s.preRow enc Tryz.checked.prog fn conds apart laid (w.forCall tape i).memory i.args ∧ ({} : Assume).holds Tryz.checked.prog (lone (Frame.enter Tryz.checked.prog f i.args .normal) [] (w.forCall tape i)) :=
  ⟨wL os, fun _ _ => 0, ⟨#[], args, []⟩, World.laidAll_os _ _ _, World.shaped_of_ZipB (zip os args) (rest os args), (Input.okWide_of_okWideB (base := 0) hok).1, (Input.okWide_of_okWideB hok).2, hrow, by
    simp only [Assume.holds]
    exact ⟨by simp, by simp, fun _ => Modest.zero, by simp, by simp⟩⟩
end Go.Proofs.YtbkdhejcbcgalaaGreatDoor.upN
