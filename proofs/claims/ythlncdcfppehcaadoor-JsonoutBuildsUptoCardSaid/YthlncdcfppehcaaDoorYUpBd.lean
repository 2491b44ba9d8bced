/- JsonoutBuilds, as a card: called with any list of values and any list of names whose reading is of bulk at most 1048576 the Go function returns true and writes nothing that was there. Condition: that bound alone ('Upto'), and the package variables as the program's text lays them (tied). -/
import Derived.Test.YthlncdcfppehcaaDoorYUpQ
import Derived.Test.YthlncdcfppehcaaDoorYBld3
import Derived.SliceStrings
import Derived.Test.YthlncdcfppehcaaDoorGRdq
import Derived.ChangeMaps5
namespace Go.Proofs.YthlncdcfppehcaaDoor.upBuilds
open Go.ChangeShapes Go.WideShapes Go.ChangeAt Go.RowKit Go.Lib
open Go.ChangeMaps (open_string shut_string)
set_option linter.unusedVariables false

theorem nbs_bulk {H : Type} : ∀ ss : List ByteArray, val.nbs ss ≤ Rows.uptoBulkAll (strs (H := H) ss)
  | [] => by simp [val.nbs]
  | s :: r => by
    have := nbs_bulk (H := H) r
    have h2 := Lib.size_eq s
    simp only [strs, List.map_cons, val.nbs, Rows.uptoBulkAll, bulks.string_eq] at this ⊢
    omega
theorem laidOut : laidOutB Tryd.prog = true := by kernel_rfl
section
variable {H : Type} {enc : TypeId × Value → H}
set_option maxRecDepth 100000 in
theorem contract (W : World) (base : Nat) (args : Array Value) (ds gs : List (DataW H)) (before : List MemPlace)
    (hval : ∀ (j : Nat) t v, Tryd.f3.params[j]? = some t → args[j]? = some v → Value.okWide Tryd.prog W .any base t v)
    (hW : DataW.Whole enc Tryd.prog Tryd.f3.params.toList Rows.jsonoutBuildsSpec.vars false W args.toList ds gs before) (hk : Rows.uptoSmall H (ds ++ gs) = true) (hL : laidMetH Tryd.prog upQ.laidQ W) :
    Calls Tryd.prog 3 args W fun e W' => ∃ v, e = .returned v ∧ Rows.jsonoutBuildsSpec.post enc Tryd.prog Tryd.f3 false true false false W args v W' := by
  have hW' := hW
  obtain ⟨p, q, hA0, hV, rfl, hfz, hnd⟩ := hW
  have hA : DataW.TrodAll enc Tryd.prog W 0 (fun _ => true) true Tryd.f3.params.toList args.toList ds p := hA0
  rw [Tryd.params3] at hA hval
  obtain ⟨v0, vs0, d0, ds0, p0, q0, hargs, rfl, rfl, h0, r0⟩ := trodAll_cons hA
  obtain ⟨v1, vs1, d1, ds1, p1, q1, rfl, rfl, rfl, h1, r1⟩ := trodAll_cons r0
  obtain ⟨rfl, rfl, rfl⟩ := trodAll_nil r1
  obtain rfl : args = #[v0, v1] := by cases args; simp_all
  obtain ⟨rfl, rfl⟩ := trodVars_none hV
  have hbk := bulks.bound hk
  simp only [List.append_nil, Rows.uptoBulkAll] at hbk
  obtain ⟨a0, len0, cap0, rfl⟩ := okWide_slice Tryd.underlying22 (hval 0 22 v0 rfl rfl)
  obtain ⟨a1, len1, cap1, rfl⟩ := okWide_slice Tryd.underlying23 (hval 1 23 v1 rfl rfl)
  have k0 := h0
  have k1 := h1
  have lt0 : ∀ x ∈ p0, x.block < W.heap.size := by obtain ⟨m, hm⟩ := k0; exact DataW.trod_lt m _ _ _ hm
  have lt1 : ∀ x ∈ p1, x.block < W.heap.size := by obtain ⟨m, hm⟩ := k1; exact DataW.trod_lt m _ _ _ hm
  obtain ⟨m0, hm0⟩ := h0
  obtain ⟨m1, hm1⟩ := h1
  obtain ⟨A, c, l, hv, hAn, hI, hok, hb0⟩ := val.values_of (by simp only; omega) hm0
  injection hv with hv1 hv2 hv3
  subst hv1 hv2 hv3
  simp only at hb0
  obtain ⟨ss, hlen, hn, hs, hr, hnb⟩ : ∃ ss : List ByteArray, ss.length = len1 ∧ ss.length ≤ 1048576 ∧ (∀ s ∈ ss, s.size ≤ 1048576) ∧ mem.Rd W W.heap.size a1 (ss.map .string) ∧ val.nbs ss ≤ 1048576 := by
    rcases open_strings Tryd.underlying23 Tryd.underlying9 (show Tryd.prog.cellsOf 9 = 1 by kernel_rfl) hm1 with ⟨hcs, hx⟩ | ⟨a, len', cap', ss, hcs, _, hl, hm, hz, hx, hcell, hws⟩
    · injection hcs with hcs
      injection hcs with e1 e2 e3
      subst e1 e2
      exact ⟨[], rfl, by simp, fun s h => (by cases h), mem.Rd.nil, by simp [val.nbs]⟩
    · injection hcs with hcs
      injection hcs with e1 e2 e3
      subst e1 e2
      have hx1 := congrArg Prod.fst hx
      simp only at hx1
      subst hx1
      have h2 := bulks.slice_elems (strs (H := H) (ss.take len1)) (strs (ss.drop len1))
      have h3 := bulks.length_le (strs (H := H) (ss.take len1))
      have hz2 : len1 ≤ ss.length := by
        simp at hz
        omega
      have hl3 : (ss.take len1).length = len1 := by rw [List.length_take]; omega
      have h4 : (strs (H := H) (ss.take len1)).length = len1 := by rw [← hl3]; simp [strs]
      refine ⟨ss.take len1, hl3, by omega, fun s hsm => ?_, fun j u hu => ⟨a, rfl, ?_, ?_⟩, by have := nbs_bulk (H := H) (ss.take len1); omega⟩
      · have h5 : Rows.uptoBulk (.lit (.string s.data.toList) : DataW H) ≤ Rows.uptoBulkAll (strs (H := H) (ss.take len1)) := bulks.part_le (List.mem_map.2 ⟨s, hsm, rfl⟩)
        rw [bulks.string_eq] at h5
        have := Lib.size_eq s
        omega
      · have hj : j < ss.length := by
          have := (List.getElem?_eq_some_iff.1 hu).1
          simp at this
          omega
        rcases Nat.lt_or_ge a.block W.heap.size with h' | h'
        · exact h'
        · have := hcell j hj
          simp [World.cell?, mem.add_block, Array.getElem?_eq_none h'] at this
      · have hj : j < len1 := by
          have := (List.getElem?_eq_some_iff.1 hu).1
          simp at this
          omega
        rw [hcell j (by omega), ← hu]
        simp [List.getD, hj]
        rw [List.getElem?_eq_getElem (by omega)]
        simp
  refine (look.builds_any l ss a0 a1 _ _ cap0 cap1 W (val.Low W) rfl hlen (by omega) hnb (by omega) hok hs hI (fun j s hj => ?_) (fun _ h => h) (upQ.env hL)).mono fun e W' ⟨he, bel⟩ => ?_
  · obtain ⟨ad, e, h1, h2⟩ := hr j (.string s) (by rw [List.getElem?_map, hj]; rfl)
    exact ⟨ad, e, h1, h2⟩
  subst he
  exact ⟨_, rfl, _, _, _, [], _, [], hW', trodAll_mk1 (shut_bool Tryd.underlying4 _), (trodAll_cons_mk (Below.trod laidOut (by kernel_rfl) (of_decide_eq_true (by kernel_rfl)) k0 bel lt0) (trodAll_cons_mk (Below.trod laidOut (by kernel_rfl) (of_decide_eq_true (by kernel_rfl)) k1 bel lt1) trodAll_mk0)), rfl, bel.frame _, fun h => by cases h⟩
end

set_option maxRecDepth 100000 in
theorem lifted (os : Os) (started : os.Started) (H : Type) (enc : TypeId × Value → H) (F : Stop.Interp) :
    ReturnsInHanded {} Tryd.checked os 3 .any ((Rows.OpenSpec.upto Rows.jsonoutBuildsSpec).preRow enc Tryd.prog Tryd.f3 Rows.jsonoutBuildsUptoRow.domain false Rows.jsonoutBuildsUptoRow.laid) (((Rows.OpenSpec.upto Rows.jsonoutBuildsSpec).at F).post enc Tryd.prog Tryd.f3 false true false false) := by
  refine returnsInHanded_of_row (C := Tryd.checked) (s := Rows.OpenSpec.upto Rows.jsonoutBuildsSpec) upQ.own started (by kernel_rfl) Tryd.func3
    (upQ.witness (enc := enc) os #[.slice none 0 0, .slice none 0 0] (by kernel_rfl)
      (OpenSpec.preRow_of_cond 8 (x := ([.nil, .nil], [], [])) (by kernel_rfl) (by kernel_rfl) (fun k hk => by cases hk; kernel_rfl) (by kernel_rfl) (by rw [MakeChecks.laidMetH_plain _ _ _ (by kernel_rfl)]; exact upQ.laid_met os _))) ?_
  intro W base args ds gs before hval hW _ hcond _ hL _ _
  exact contract W base args ds gs before hval hW (hcond _ rfl) hL

theorem over : Rows.JsonoutBuildsUptoSaid :=
  OpenClaim.holds_of_cond 3 Tryd.f3 rfl rfl rfl rfl rfl rfl rfl ⟨rfl, rfl, rfl, rfl, rfl⟩ rfl rfl rfl rfl rfl (by kernel_rfl) Tryd.func3 (by kernel_rfl)
    (of_decide_eq_true (by kernel_rfl)) (by unfold Func.isWrapper; first | (rw [if_pos (by decide +kernel)]; kernel_rfl) | (rw [if_neg (by decide +kernel)]; exact ⟨rfl, rfl⟩))
    (fun os started H enc _ F => by rw [OpenClaim.pre_eq_preRow]; exact lifted os started H enc F)

theorem plain (f : FuncId) (fn : Func) (hf : Tryd.pinned.checked.prog.funcNamed "pergola/pergolalaw04.JsonoutBuilds" = some f) (hfn : Tryd.pinned.checked.prog.funcs[f]? = some fn) :
    true = Tryd.pinned.checked.prog.looks [] ∧ ∀ (j : Nat) t, fn.params[j]? = some t → Tryd.pinned.checked.prog.wantsStandIn t = false := by
  obtain rfl : f = 3 := Option.some.inj ((show Tryd.prog.funcNamed "pergola/pergolalaw04.JsonoutBuilds" = some 3 by kernel_rfl).symm.trans hf) |>.symm
  obtain rfl : fn = Tryd.f3 := (Option.some.inj (Tryd.func3.symm.trans hfn)).symm
  refine ⟨by kernel_rfl, fun j t ht => ?_⟩
  rw [Tryd.params3] at ht
  have hm : t ∈ [22, 23] := by simpa using Array.mem_of_getElem? ht
  have hall : ([22, 23].all fun u => !Tryd.prog.wantsStandIn u) = true := by kernel_rfl
  exact (show Tryd.prog.wantsStandIn t = false by simpa using List.all_eq_true.1 hall t hm)

/-- the statement: the second form's card -/
theorem proved : Rows.JsonoutBuildsUptoCardSaid :=
  Claim7.holds_tied_plain_at .later [] _ _ _ _ over (fun _ h => by cases h) (by kernel_rfl) (fun _ h => by cases h) jsonoutBuildsUpto_row_tie rfl ⟨rfl, rfl⟩ (by kernel_rfl) rfl plain (by kernel_rfl)
end Go.Proofs.YthlncdcfppehcaaDoor.upBuilds
