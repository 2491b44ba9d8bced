/- JsoninKeys, as a card: called with any list of strings, of bulk at most 1048576, the Go function returns true and writes nothing that was there. Condition: that bound alone ('Upto'), and the package variables as the program's text lays them (tied). -/
import Derived.Test.YtjhhdnnblcbdbaaGreatDoorGKy
import Derived.SliceStrings
import Derived.Test.YtjhhdnnblcbdbaaGreatDoorGJw
import Derived.Test.YtjhhdnnblcbdbaaGreatDoorBulk
import Derived.ChangeMaps5
namespace Go.Proofs.YtjhhdnnblcbdbaaGreatDoor.upKy
open Go.ChangeShapes Go.WideShapes Go.ChangeAt Go.RowKit Go.Lib
open Go.ChangeMaps (open_string shut_string)
set_option linter.unusedVariables false

theorem laidOut : laidOutB Tryz.prog = true := by kernel_rfl
section
variable {H : Type} {enc : TypeId × Value → H}
theorem wf_i64 {n : Int} (h : (Lit.int .i64 n).wf = true) : -9223372036854775808 ≤ n ∧ n ≤ 9223372036854775807 := by
  have : IntKind.i64.min ≤ n ∧ n ≤ IntKind.i64.max := by simpa [Lit.wf] using h
  have e1 : IntKind.i64.min = -9223372036854775808 := by decide
  have e2 : IntKind.i64.max = 9223372036854775807 := by decide
  rw [e1, e2] at this
  exact this
theorem sum_bulk (l : List ByteArray) : (l.map ByteArray.size).sum ≤ Rows.uptoBulkAll (strs (H := H) l) := by
  induction l with
  | nil => simp
  | cons s r ih =>
    have h1 := bulks.string_eq (H := H) s.data.toList
    have h2 := Lib.size_eq s
    have h3 : Rows.uptoBulkAll (strs (H := H) (s :: r)) = Rows.uptoBulk (.lit (.string s.data.toList) : DataW H) + Rows.uptoBulkAll (strs (H := H) r) := rfl
    simp only [List.map_cons, List.sum_cons]
    omega
theorem tot_cons (s : ByteArray) (r : List ByteArray) : ∀ q : Nat, jw.totS (s :: r) (q + 1) = s.size + jw.totS r q
  | 0 => by simp [jw.totS]
  | q + 1 => by
    have ih := tot_cons s r q
    show jw.totS (s :: r) (q + 1) + ((s :: r).getD (q + 1) ByteArray.empty).size = s.size + (jw.totS r q + (r.getD q ByteArray.empty).size)
    rw [ih, List.getD_cons_succ]
    omega
theorem tot_sum : ∀ (l : List ByteArray) (q : Nat), jw.totS l q ≤ (l.map ByteArray.size).sum
  | [], q => by
    induction q with
    | zero => simp [jw.totS]
    | succ q ih => simp only [jw.totS, List.getD_nil]; exact ih
  | s :: r, 0 => by simp [jw.totS]
  | s :: r, q + 1 => by
    have := tot_sum r q
    rw [tot_cons]
    simp only [List.map_cons, List.sum_cons]
    omega
set_option maxRecDepth 100000 in
theorem contract (W : World) (base : Nat) (args : Array Value) (ds gs : List (DataW H)) (before : List MemPlace)
    (hval : ∀ (j : Nat) t v, Tryz.f10.params[j]? = some t → args[j]? = some v → Value.okWide Tryz.prog W .any base t v)
    (hW : DataW.Whole enc Tryz.prog Tryz.f10.params.toList Rows.jsoninKeysSpec.vars false W args.toList ds gs before) (hk : Rows.uptoSmall H (ds ++ gs) = true) (hL : laidMetH Tryz.prog upT.laidT W) :
    Calls Tryz.prog 10 args W fun e W' => ∃ v, e = .returned v ∧ Rows.jsoninKeysSpec.post enc Tryz.prog Tryz.f10 false true false false W args v W' := by
  have hW' := hW
  obtain ⟨p, q, hA0, hV, rfl, hfz, hnd⟩ := hW
  have hA : DataW.TrodAll enc Tryz.prog W 0 (fun _ => true) true Tryz.f10.params.toList args.toList ds p := hA0
  rw [Tryz.params10] at hA hval
  obtain ⟨v0, vs0, d0, ds0, p0, q0, hargs, rfl, rfl, h0, r0⟩ := trodAll_cons hA
  obtain ⟨rfl, rfl, rfl⟩ := trodAll_nil r0
  obtain rfl : args = #[v0] := by cases args; simp_all
  obtain ⟨rfl, rfl⟩ := trodVars_none hV
  have hbk := bulks.bound hk
  simp only [List.append_nil, Rows.uptoBulkAll] at hbk
  obtain ⟨a0, len0, cap0, rfl⟩ := okWide_slice Tryz.underlying58 (hval 0 58 v0 rfl rfl)
  have k0 := h0
  have lt0 : ∀ x ∈ p0, x.block < W.heap.size := by obtain ⟨m, hm⟩ := k0; exact DataW.trod_lt m _ _ _ hm
  obtain ⟨m0, hm0⟩ := h0
  obtain ⟨ss, hlen, hn, hs, hsum, hr⟩ : ∃ ss : List ByteArray, ss.length = len0 ∧ ss.length ≤ 1048576 ∧ (∀ s ∈ ss, s.size ≤ 1048576) ∧ (ss.map ByteArray.size).sum ≤ 1048576 ∧ mem.Rd W W.heap.size a0 (ss.map .string) := by
    rcases open_strings Tryz.underlying58 Tryz.underlying9 (show Tryz.prog.cellsOf 9 = 1 by kernel_rfl) hm0 with ⟨hcs, hx⟩ | ⟨a, len', cap', ss, hcs, _, hl, hm, hz, hx, hcell, hws⟩
    · injection hcs with hcs
      injection hcs with e1 e2 e3
      subst e1 e2
      exact ⟨[], rfl, by simp, fun s h => (by cases h), by simp, mem.Rd.nil⟩
    · injection hcs with hcs
      injection hcs with e1 e2 e3
      subst e1 e2
      have hx1 := congrArg Prod.fst hx
      simp only at hx1
      subst hx1
      have h2 := bulks.slice_elems (strs (H := H) (ss.take len0)) (strs (ss.drop len0))
      have h3 := bulks.length_le (strs (H := H) (ss.take len0))
      have hz2 : len0 ≤ ss.length := by
        simp at hz
        omega
      have hl3 : (ss.take len0).length = len0 := by rw [List.length_take]; omega
      have h4 : (strs (H := H) (ss.take len0)).length = len0 := by rw [← hl3]; simp [strs]
      have h6 := sum_bulk (H := H) (ss.take len0)
      refine ⟨ss.take len0, hl3, by omega, fun s hsm => ?_, by omega, fun j u hu => ⟨a, rfl, ?_, ?_⟩⟩
      · have h5 : Rows.uptoBulk (.lit (.string s.data.toList) : DataW H) ≤ Rows.uptoBulkAll (strs (H := H) (ss.take len0)) := bulks.part_le (List.mem_map.2 ⟨s, hsm, rfl⟩)
        rw [bulks.string_eq] at h5
        have := Lib.size_eq s
        omega
      · have hj : j < ss.length := by
          have := (List.getElem?_eq_some_iff.1 hu).1
          simp at this
          omega
        rcases Nat.lt_or_ge a.block W.heap.size with h' | h'
        · exact h'
        · have := hcell j hj
          simp [World.cell?, mem.add_block, Array.getElem?_eq_none h'] at this
      · have hj : j < len0 := by
          have := (List.getElem?_eq_some_iff.1 hu).1
          simp at this
          omega
        rw [hcell j (by omega), ← hu]
        simp [List.getD, hj]
        rw [List.getElem?_eq_getElem (by omega)]
        simp
  subst hlen
  obtain ⟨z, hz⟩ : ∃ z : Nat, z = 1074 := ⟨_, rfl⟩
  obtain ⟨P, hP⟩ : ∃ P : Nat, P = 2 ^ z := ⟨_, rfl⟩
  have hE := upT.envT hL
  have hnum := jw.num_of hz hP hE
  refine (jw.keys_any (P := P) a0 cap0 ss.length ss W hr rfl hn (fun k hk2 => by
    rw [List.getD_eq_getElem?_getD, List.getElem?_eq_getElem hk2]
    exact hs _ (List.getElem_mem hk2)) (fun q => Nat.le_trans (tot_sum ss q) hsum) (upT.tabs hL) hE.ne.tab hnum (jw.fixed_all W hnum (fun l => jw.fn_nf P l) (jw.fn15 hz hP) (jw.fn1 P))).mono fun e W' ⟨he, bel⟩ => ?_
  subst he
  exact ⟨_, rfl, _, _, _, [], _, [], hW', trodAll_mk1 (shut_bool Tryz.underlying4 _), trodAll_cons_mk (Below.trod laidOut (by kernel_rfl) (of_decide_eq_true (by kernel_rfl)) k0 bel lt0) trodAll_mk0, rfl, bel.frame _, fun h => by cases h⟩
end

set_option maxRecDepth 100000 in
theorem lifted (os : Os) (started : os.Started) (H : Type) (enc : TypeId × Value → H) (F : Stop.Interp) :
    ReturnsInHanded {} Tryz.checked os 10 .any ((Rows.OpenSpec.upto Rows.jsoninKeysSpec).preRow enc Tryz.prog Tryz.f10 Rows.jsoninKeysUptoRow.domain false Rows.jsoninKeysUptoRow.laid) (((Rows.OpenSpec.upto Rows.jsoninKeysSpec).at F).post enc Tryz.prog Tryz.f10 false true false false) := by
  refine returnsInHanded_of_row (C := Tryz.checked) (s := Rows.OpenSpec.upto Rows.jsoninKeysSpec) upN.own started (by kernel_rfl) Tryz.func10
    (upT.witnessT (enc := enc) os #[.slice none 0 0] (by kernel_rfl)
      (OpenSpec.preRow_of_cond 8 (x := ([.nil], [], [])) (by kernel_rfl) (by kernel_rfl) (fun k hk => by cases hk; kernel_rfl) (by kernel_rfl) (by rw [MakeChecks.laidMetH_plain _ _ _ (by kernel_rfl)]; exact upT.laid_metT os _))) ?_
  intro W base args ds gs before hval hW _ hcond _ hL _ _
  exact contract W base args ds gs before hval hW (hcond _ rfl) hL

theorem over : Rows.JsoninKeysUptoSaid :=
  OpenClaim.holds_of_cond 10 Tryz.f10 rfl rfl rfl rfl rfl rfl rfl ⟨rfl, rfl, rfl, rfl, rfl⟩ rfl rfl rfl rfl rfl (by kernel_rfl) Tryz.func10 (by kernel_rfl)
    (of_decide_eq_true (by kernel_rfl)) (by unfold Func.isWrapper; first | (rw [if_pos (by decide +kernel)]; kernel_rfl) | (rw [if_neg (by decide +kernel)]; exact ⟨rfl, rfl⟩))
    (fun os started H enc _ F => by rw [OpenClaim.pre_eq_preRow]; exact lifted os started H enc F)

theorem plain (f : FuncId) (fn : Func) (hf : Tryz.pinned.checked.prog.funcNamed "pergola/pergolalaw05.JsoninKeys" = some f) (hfn : Tryz.pinned.checked.prog.funcs[f]? = some fn) :
    true = Tryz.pinned.checked.prog.looks [] ∧ ∀ (j : Nat) t, fn.params[j]? = some t → Tryz.pinned.checked.prog.wantsStandIn t = false := by
  obtain rfl : f = 10 := Option.some.inj ((show Tryz.prog.funcNamed "pergola/pergolalaw05.JsoninKeys" = some 10 by kernel_rfl).symm.trans hf) |>.symm
  obtain rfl : fn = Tryz.f10 := (Option.some.inj (Tryz.func10.symm.trans hfn)).symm
  refine ⟨by kernel_rfl, fun j t ht => ?_⟩
  rw [Tryz.params10] at ht
  have hm : t ∈ [58] := by simpa using Array.mem_of_getElem? ht
  have hall : ([58].all fun u => !Tryz.prog.wantsStandIn u) = true := by kernel_rfl
  exact (show Tryz.prog.wantsStandIn t = false by simpa using List.all_eq_true.1 hall t hm)

/-- the statement: the second form's card -/
theorem proved : Rows.JsoninKeysUptoCardSaid :=
  Claim7.holds_tied_plain_at .later [] _ _ _ _ over (fun _ h => by cases h) (by kernel_rfl) (fun _ h => by cases h) jsoninKeysUpto_row_tie rfl ⟨rfl, rfl⟩ (by kernel_rfl) rfl plain (by kernel_rfl)
end Go.Proofs.YtjhhdnnblcbdbaaGreatDoor.upKy
