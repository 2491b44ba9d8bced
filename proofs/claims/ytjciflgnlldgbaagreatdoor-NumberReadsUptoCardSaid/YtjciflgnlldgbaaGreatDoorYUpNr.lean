/- NumberReads, as a card: called with any list of texts whose reading is of bulk at most 1048576 the Go function returns true and writes nothing that was there. Condition: that bound alone ('Upto'), and the package variables as the program's text lays them (tied). -/
import Derived.Test.YtjciflgnlldgbaaGreatDoorYUpE
import Derived.SliceStrings
import Derived.Test.YtjciflgnlldgbaaGreatDoorBulk
import Derived.ChangeMaps5
namespace Go.Proofs.YtjciflgnlldgbaaGreatDoor.upNr
open Go.ChangeShapes Go.WideShapes Go.ChangeAt Go.RowKit Go.Lib
open Go.ChangeMaps (open_string shut_string)
set_option linter.unusedVariables false

theorem laidOut : laidOutB Tryz.prog = true := by kernel_rfl
section
variable {H : Type} {enc : TypeId × Value → H}
set_option maxRecDepth 100000 in
theorem contract (W : World) (base : Nat) (args : Array Value) (ds gs : List (DataW H)) (before : List MemPlace)
    (hval : ∀ (j : Nat) t v, Tryz.f3.params[j]? = some t → args[j]? = some v → Value.okWide Tryz.prog W .any base t v)
    (hW : DataW.Whole enc Tryz.prog Tryz.f3.params.toList Rows.numberReadsSpec.vars false W args.toList ds gs before) (hk : Rows.uptoSmall H (ds ++ gs) = true) (hL : laidMetH Tryz.prog upN.laidN W) :
    Calls Tryz.prog 3 args W fun e W' => ∃ v, e = .returned v ∧ Rows.numberReadsSpec.post enc Tryz.prog Tryz.f3 false true false false W args v W' := by
  have hW' := hW
  obtain ⟨p, q, hA0, hV, rfl, hfz, hnd⟩ := hW
  have hA : DataW.TrodAll enc Tryz.prog W 0 (fun _ => true) true Tryz.f3.params.toList args.toList ds p := hA0
  rw [Tryz.params3] at hA hval
  obtain ⟨v0, vs0, d0, ds0, p0, q0, hargs, rfl, rfl, h0, r0⟩ := trodAll_cons hA
  obtain ⟨rfl, rfl, rfl⟩ := trodAll_nil r0
  obtain rfl : args = #[v0] := by cases args; simp_all
  obtain ⟨rfl, rfl⟩ := trodVars_none hV
  have hbk := bulks.bound hk
  simp only [List.append_nil, Rows.uptoBulkAll] at hbk
  obtain ⟨a0, len0, cap0, rfl⟩ := okWide_slice Tryz.underlying22 (hval 0 22 v0 rfl rfl)
  have k0 := h0
  have lt0 : ∀ x ∈ p0, x.block < W.heap.size := by obtain ⟨m, hm⟩ := k0; exact DataW.trod_lt m _ _ _ hm
  obtain ⟨m0, hm0⟩ := h0
  obtain ⟨ss, hlen, hn, hs, hr⟩ : ∃ ss : List ByteArray, ss.length = len0 ∧ ss.length ≤ 1048576 ∧ (∀ s ∈ ss, s.size ≤ 1048576) ∧ mem.Rd W W.heap.size a0 (ss.map .string) := by
    rcases open_strings Tryz.underlying22 Tryz.underlying9 (show Tryz.prog.cellsOf 9 = 1 by kernel_rfl) hm0 with ⟨hcs, hx⟩ | ⟨a, len', cap', ss, hcs, _, hl, hm, hz, hx, hcell, hws⟩
    · injection hcs with hcs
      injection hcs with e1 e2 e3
      subst e1 e2
      exact ⟨[], rfl, by simp, fun s h => (by cases h), mem.Rd.nil⟩
    · injection hcs with hcs
      injection hcs with e1 e2 e3
      subst e1 e2
      have hx1 := congrArg Prod.fst hx
      simp only at hx1
      subst hx1
      have h2 := bulks.slice_elems (strs (H := H) (ss.take len0)) (strs (ss.drop len0))
      have h3 := bulks.length_le (strs (H := H) (ss.take len0))
      have hz2 : len0 ≤ ss.length := by
        simp at hz
        omega
      have hl3 : (ss.take len0).length = len0 := by rw [List.length_take]; omega
      have h4 : (strs (H := H) (ss.take len0)).length = len0 := by rw [← hl3]; simp [strs]
      refine ⟨ss.take len0, hl3, by omega, fun s hsm => ?_, fun j u hu => ⟨a, rfl, ?_, ?_⟩⟩
      · have h5 : Rows.uptoBulk (.lit (.string s.data.toList) : DataW H) ≤ Rows.uptoBulkAll (strs (H := H) (ss.take len0)) := bulks.part_le (List.mem_map.2 ⟨s, hsm, rfl⟩)
        rw [bulks.string_eq] at h5
        have := Lib.size_eq s
        omega
      · have hj : j < ss.length := by
          have := (List.getElem?_eq_some_iff.1 hu).1
          simp at this
          omega
        rcases Nat.lt_or_ge a.block W.heap.size with h' | h'
        · exact h'
        · have := hcell j hj
          simp [World.cell?, mem.add_block, Array.getElem?_eq_none h'] at this
      · have hj : j < len0 := by
          have := (List.getElem?_eq_some_iff.1 hu).1
          simp at this
          omega
        rw [hcell j (by omega), ← hu]
        simp [List.getD, hj]
        rw [List.getElem?_eq_getElem (by omega)]
        simp
  subst hlen
  obtain ⟨z, hz⟩ : ∃ z : Nat, z = 1074 := ⟨_, rfl⟩
  obtain ⟨P, hP⟩ : ∃ P : Nat, P = 2 ^ z := ⟨_, rfl⟩
  refine (dcm.numberReads_any hz hP a0 cap0 ss.length ss W hr rfl (fun k hk2 => by
    rw [List.getD_eq_getElem?_getD, List.getElem?_eq_getElem hk2]
    have := hs _ (List.getElem_mem hk2)
    simp only [Option.getD_some]
    omega) (by omega) (upN.env hL)).mono fun e W' ⟨he, bel⟩ => ?_
  subst he
  exact ⟨_, rfl, _, _, _, [], _, [], hW', trodAll_mk1 (shut_bool Tryz.underlying4 _), trodAll_cons_mk (Below.trod laidOut (by kernel_rfl) (of_decide_eq_true (by kernel_rfl)) k0 bel lt0) trodAll_mk0, rfl, bel.frame _, fun h => by cases h⟩
end

set_option maxRecDepth 100000 in
theorem lifted (os : Os) (started : os.Started) (H : Type) (enc : TypeId × Value → H) (F : Stop.Interp) :
    ReturnsInHanded {} Tryz.checked os 3 .any ((Rows.OpenSpec.upto Rows.numberReadsSpec).preRow enc Tryz.prog Tryz.f3 Rows.numberReadsUptoRow.domain false Rows.numberReadsUptoRow.laid) (((Rows.OpenSpec.upto Rows.numberReadsSpec).at F).post enc Tryz.prog Tryz.f3 false true false false) := by
  refine returnsInHanded_of_row (C := Tryz.checked) (s := Rows.OpenSpec.upto Rows.numberReadsSpec) upN.own started (by kernel_rfl) Tryz.func3
    (upN.witness (enc := enc) os #[.slice none 0 0] (by kernel_rfl)
      (OpenSpec.preRow_of_cond 8 (x := ([.nil], [], [])) (by kernel_rfl) (by kernel_rfl) (fun k hk => by cases hk; kernel_rfl) (by kernel_rfl) (by rw [MakeChecks.laidMetH_plain _ _ _ (by kernel_rfl)]; exact upN.laid_met os _))) ?_
  intro W base args ds gs before hval hW _ hcond _ hL _ _
  exact contract W base args ds gs before hval hW (hcond _ rfl) hL

theorem over : Rows.NumberReadsUptoSaid :=
  OpenClaim.holds_of_cond 3 Tryz.f3 rfl rfl rfl rfl rfl rfl rfl ⟨rfl, rfl, rfl, rfl, rfl⟩ rfl rfl rfl rfl rfl (by kernel_rfl) Tryz.func3 (by kernel_rfl)
    (of_decide_eq_true (by kernel_rfl)) (by unfold Func.isWrapper; first | (rw [if_pos (by decide +kernel)]; kernel_rfl) | (rw [if_neg (by decide +kernel)]; exact ⟨rfl, rfl⟩))
    (fun os started H enc _ F => by rw [OpenClaim.pre_eq_preRow]; exact lifted os started H enc F)

theorem plain (f : FuncId) (fn : Func) (hf : Tryz.pinned.checked.prog.funcNamed "pergola/pergolalaw02.NumberReads" = some f) (hfn : Tryz.pinned.checked.prog.funcs[f]? = some fn) :
    true = Tryz.pinned.checked.prog.looks [] ∧ ∀ (j : Nat) t, fn.params[j]? = some t → Tryz.pinned.checked.prog.wantsStandIn t = false := by
  obtain rfl : f = 3 := Option.some.inj ((show Tryz.prog.funcNamed "pergola/pergolalaw02.NumberReads" = some 3 by kernel_rfl).symm.trans hf) |>.symm
  obtain rfl : fn = Tryz.f3 := (Option.some.inj (Tryz.func3.symm.trans hfn)).symm
  refine ⟨by kernel_rfl, fun j t ht => ?_⟩
  rw [Tryz.params3] at ht
  have hm : t ∈ [22] := by simpa using Array.mem_of_getElem? ht
  have hall : ([22].all fun u => !Tryz.prog.wantsStandIn u) = true := by kernel_rfl
  exact (show Tryz.prog.wantsStandIn t = false by simpa using List.all_eq_true.1 hall t hm)

/-- the statement: the second form's card -/
theorem proved : Rows.NumberReadsUptoCardSaid :=
  Claim7.holds_tied_plain_at .later [] _ _ _ _ over (fun _ h => by cases h) (by kernel_rfl) (fun _ h => by cases h) numberReadsUpto_row_tie rfl ⟨rfl, rfl⟩ (by kernel_rfl) rfl plain (by kernel_rfl)
end Go.Proofs.YtjciflgnlldgbaaGreatDoor.upNr
