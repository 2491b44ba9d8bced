/- NumberAgrees, as a card: called with any lists of bits and of whole numbers the Go function returns true and writes nothing that was there. Condition: the package variables as the program's text lays them (tied). -/
import Derived.Test.YtbkdhejcbcgalaaGreatDoorYUpB
import Derived.Test.YtbkdhejcbcgalaaGreatDoorYNa
import Derived.Deep.Slices
import Derived.SizedLaws
namespace Go.Proofs.YtbkdhejcbcgalaaGreatDoor.upNa
open Go.ChangeShapes Go.WideShapes Go.ChangeAt Go.RowKit Go.Deep mem big
set_option linter.unusedVariables false

theorem laidOut : laidOutB Tryz.prog = true := by kernel_rfl
theorem bytes64 : Tryz.prog.bytesOf 27 = 8 := by kernel_rfl
theorem bytesI : Tryz.prog.bytesOf 2 = 8 := by kernel_rfl

section
variable {H : Type} {enc : TypeId × Value → H}
/-- a slice of integers, nil or not -/
theorem ints {P : Program} {w : World} {base : Nat} {sp : Nat → Bool} {held : Bool} {t e : TypeId} {k : IntKind} {fuel : Nat} {v : Value} {x : DataW H × List MemPlace} (ht : P.underlying t = some (.slice e)) (he : P.underlying e = some (.int k)) (hc : P.cellsOf e = 1)
    (h : DataW.trod enc P w base sp held fuel t [v] = some x) :
    ∃ (A : Option Addr) (c : Nat) (xs : List Int), v = .slice A xs.length c ∧ Rd w w.heap.size A (xs.map (.int k)) ∧ (∀ n ∈ xs, (Lit.int k n).wf = true) ∧ (xs.length = 0 ∨ ∃ (elems spare : List (DataW H)), x.1 = .slice elems spare ∧ elems.length = xs.length) := by
  rcases open_ints ht he hc h with ⟨hcs, rfl⟩ | ⟨a, len, cap, zs, hcs, _, hl, hm, hz, rfl, hcell, hwz⟩
  · obtain rfl : v = .slice none 0 0 := by simpa using hcs
    exact ⟨none, 0, [], rfl, Rd.nil, by simp, .inl rfl⟩
  · obtain rfl : v = .slice (some a) len cap := by simpa using hcs
    have hlz : len ≤ zs.length := by rw [hz]; split <;> omega
    have hlen : (zs.take len).length = len := by rw [List.length_take]; omega
    refine ⟨some a, cap, zs.take len, by rw [hlen], ?_, fun n hn => hwz n (List.mem_of_mem_take hn), .inr ⟨_, _, rfl, by simp [lits]⟩⟩
    intro j u hu
    rw [List.getElem?_map, List.getElem?_take] at hu
    by_cases hj : j < len
    · rw [if_pos hj] at hu
      have hjz : j < zs.length := by omega
      have h1 := hcell j hjz
      have h2 : zs[j]? = some zs[j] := List.getElem?_eq_getElem hjz
      rw [h2] at hu
      simp only [Option.map_some, Option.some.injEq] at hu
      subst hu
      have h3 : zs.getD j 0 = zs[j] := by simp [hjz]
      rw [h3] at h1
      have hb := World.block_lt_of_cell? w _ h1
      rw [add_block] at hb
      exact ⟨a, rfl, hb, h1⟩
    · rw [if_neg hj] at hu
      simp at hu
theorem wf_u64 {n : Int} (h : (Lit.int .u64 n).wf = true) : 0 ≤ n ∧ n < 18446744073709551616 := by
  have : IntKind.u64.min ≤ n ∧ n ≤ IntKind.u64.max := by simpa [Lit.wf] using h
  have e1 : IntKind.u64.min = 0 := by decide
  have e2 : IntKind.u64.max = 18446744073709551615 := by decide
  rw [e1, e2] at this
  omega
theorem wf_i64 {n : Int} (h : (Lit.int .i64 n).wf = true) : -9223372036854775808 ≤ n ∧ n ≤ 9223372036854775807 := by
  have : IntKind.i64.min ≤ n ∧ n ≤ IntKind.i64.max := by simpa [Lit.wf] using h
  have e1 : IntKind.i64.min = -9223372036854775808 := by decide
  have e2 : IntKind.i64.max = 9223372036854775807 := by decide
  rw [e1, e2] at this
  exact this
theorem u64s_of (xs : List Int) (h : ∀ n ∈ xs, (Lit.int .u64 n).wf = true) : xs.map (Value.int .u64) = pg.u64s (xs.map Int.toNat) := by
  unfold pg.u64s
  rw [List.map_map]
  refine List.map_congr_left fun n hn => ?_
  have := wf_u64 (h n hn)
  simp only [Function.comp]
  congr 1
  omega

set_option maxRecDepth 100000 in
theorem contract (W : World) (base : Nat) (args : Array Value) (ds gs : List (DataW H)) (before : List MemPlace)
    (hval : ∀ (j : Nat) t v, Tryz.f4.params[j]? = some t → args[j]? = some v → Value.okWide Tryz.prog W .any base t v)
    (hW : DataW.Whole enc Tryz.prog Tryz.f4.params.toList Rows.numberAgreesSpec.vars false W args.toList ds gs before)
    (hL : laidMetH Tryz.prog upN.laidN W)
    (hsz0 : (DataW.weightsEach Tryz.prog (Tryz.f4.params.toList ++ Rows.numberAgreesSpec.plain.varTypes Tryz.prog) (ds ++ gs)).all (· ≤ reachBytes) = true) :
    Calls Tryz.prog 4 args W fun e W' => ∃ v, e = .returned v ∧ Rows.numberAgreesSpec.post enc Tryz.prog Tryz.f4 false true false false W args v W' := by
  have hsz := hsz0
  have hW' := hW
  obtain ⟨p, q, hA0, hV, rfl, hfz, hnd⟩ := hW
  have hA : DataW.TrodAll enc Tryz.prog W 0 (fun _ => true) true Tryz.f4.params.toList args.toList ds p := hA0
  rw [Tryz.params4] at hA hval hsz
  obtain ⟨v0, vs0, d0, ds0, p0, q0, hargs, rfl, rfl, h0, r0⟩ := trodAll_cons hA
  obtain ⟨v1, vs1, d1, ds1, p1, q1, rfl, rfl, rfl, h1, r1⟩ := trodAll_cons r0
  obtain ⟨rfl, rfl, rfl⟩ := trodAll_nil r1
  obtain rfl : args = #[v0, v1] := by cases args; simp_all
  obtain ⟨rfl, rfl⟩ := trodVars_none hV
  obtain ⟨a0, len0, cap0, rfl⟩ := okWide_slice Tryz.underlying22 (hval 0 22 v0 rfl rfl)
  obtain ⟨a1, len1, cap1, rfl⟩ := okWide_slice Tryz.underlying23 (hval 1 23 v1 rfl rfl)
  have k0 := h0
  have k1 := h1
  have lt0 : ∀ x ∈ p0, x.block < W.heap.size := by obtain ⟨m, hm⟩ := k0; exact DataW.trod_lt m _ _ _ hm
  have lt1 : ∀ x ∈ p1, x.block < W.heap.size := by obtain ⟨m, hm⟩ := k1; exact DataW.trod_lt m _ _ _ hm
  obtain ⟨m0, hm0⟩ := h0
  obtain ⟨m1, hm1⟩ := h1
  obtain ⟨A, c, xs, hv, hR, hw, hs0⟩ := ints Tryz.underlying22 Tryz.underlying27 (show Tryz.prog.cellsOf 27 = 1 by kernel_rfl) hm0
  obtain ⟨A', c', ys, hv', hR', hw', hs1⟩ := ints Tryz.underlying23 Tryz.underlying2 (show Tryz.prog.cellsOf 2 = 1 by kernel_rfl) hm1
  injection hv with hv1 hv2 hv3
  subst hv1 hv2 hv3
  injection hv' with hv1 hv2 hv3
  subst hv1 hv2 hv3
  have hn : xs.length ≤ 4611686018427387904 := by
    rcases hs0 with h | ⟨el, sp, h, hl⟩
    · omega
    · simp only at h
      subst h
      have := sized_slice hsz (j := 0) (t := 22) (e := 27) rfl rfl Tryz.underlying22
      rw [bytes64] at this
      simp only [reachBytes] at this
      omega
  have hn' : ys.length ≤ 4611686018427387904 := by
    rcases hs1 with h | ⟨el, sp, h, hl⟩
    · omega
    · simp only at h
      subst h
      have := sized_slice hsz (j := 1) (t := 23) (e := 2) rfl rfl Tryz.underlying23
      rw [bytesI] at this
      simp only [reachBytes] at this
      omega
  refine (pg.numberAgrees_any a0 a1 cap0 cap1 xs.length ys.length (xs.map Int.toNat) ys W (by rw [← u64s_of xs hw]; exact hR) hR' (by simp) rfl (fun k hk => ?_) (fun k hk => ?_) hn hn' (upN.env hL)).mono fun e W' ⟨he, bel⟩ => ?_
  · rw [List.getD_eq_getElem?_getD, List.getElem?_map, List.getElem?_eq_getElem hk]
    have := wf_u64 (hw _ (List.getElem_mem hk))
    simp only [Option.map_some, Option.getD_some]
    omega
  · rw [List.getD_eq_getElem?_getD, List.getElem?_eq_getElem hk]
    exact wf_i64 (hw' _ (List.getElem_mem hk))
  · subst he
    exact ⟨_, rfl, _, _, _, [], _, [], hW', trodAll_mk1 (shut_bool Tryz.underlying4 _), (trodAll_cons_mk (Below.trod laidOut (by kernel_rfl) (of_decide_eq_true (by kernel_rfl)) k0 bel lt0) (trodAll_cons_mk (Below.trod laidOut (by kernel_rfl) (of_decide_eq_true (by kernel_rfl)) k1 bel lt1) trodAll_mk0)), rfl, bel.frame _, fun h => by cases h⟩
end

set_option maxRecDepth 100000 in
theorem lifted (os : Os) (started : os.Started) (H : Type) (enc : TypeId × Value → H) (F : Stop.Interp) :
    ReturnsInHanded {} Tryz.checked os 4 .any ((OpenSpec.ofChange Rows.numberAgreesSpec).preRow enc Tryz.prog Tryz.f4 Rows.numberAgreesRow.domain false Rows.numberAgreesRow.laid) (((OpenSpec.ofChange Rows.numberAgreesSpec).at F).post enc Tryz.prog Tryz.f4 false true false false) := by
  refine returnsInHanded_of_row (C := Tryz.checked) (s := OpenSpec.ofChange Rows.numberAgreesSpec) upN.own started (by kernel_rfl) Tryz.func4
    (upN.witness (enc := enc) os #[.slice none 0 0, .slice none 0 0] (by kernel_rfl)
      (OpenSpec.preRow_of_cond 8 (x := ([.nil, .nil], [], [])) (by kernel_rfl) (by kernel_rfl) (fun k hk => by cases hk) (by kernel_rfl) (by rw [MakeChecks.laidMetH_plain _ _ _ (by kernel_rfl)]; exact upN.laid_met os _))) ?_
  intro W base args ds gs before hval hW _ _ hsz hL _ _
  exact contract W base args ds gs before hval hW hL hsz

theorem over : Rows.NumberAgreesSaid :=
  OpenClaim.holds_of_cond 4 Tryz.f4 rfl rfl rfl rfl rfl rfl rfl ⟨rfl, rfl, rfl, rfl, rfl⟩ rfl rfl rfl rfl rfl (by kernel_rfl) Tryz.func4 (by kernel_rfl)
    (of_decide_eq_true (by kernel_rfl)) (by unfold Func.isWrapper; first | (rw [if_pos (by decide +kernel)]; kernel_rfl) | (rw [if_neg (by decide +kernel)]; exact ⟨rfl, rfl⟩))
    (fun os started H enc _ F => by rw [OpenClaim.pre_eq_preRow]; exact lifted os started H enc F)

theorem plain (f : FuncId) (fn : Func) (hf : Tryz.pinned.checked.prog.funcNamed "pergola/pergolalaw02.NumberAgrees" = some f) (hfn : Tryz.pinned.checked.prog.funcs[f]? = some fn) :
    true = Tryz.pinned.checked.prog.looks [] ∧ ∀ (j : Nat) t, fn.params[j]? = some t → Tryz.pinned.checked.prog.wantsStandIn t = false := by
  obtain rfl : f = 4 := Option.some.inj ((show Tryz.prog.funcNamed "pergola/pergolalaw02.NumberAgrees" = some 4 by kernel_rfl).symm.trans hf) |>.symm
  obtain rfl : fn = Tryz.f4 := (Option.some.inj (Tryz.func4.symm.trans hfn)).symm
  refine ⟨by kernel_rfl, fun j t ht => ?_⟩
  rw [Tryz.params4] at ht
  have hm : t ∈ [22, 23] := by simpa using Array.mem_of_getElem? ht
  have hall : ([22, 23].all fun u => !Tryz.prog.wantsStandIn u) = true := by kernel_rfl
  exact (show Tryz.prog.wantsStandIn t = false by simpa using List.all_eq_true.1 hall t hm)

/-- the statement: the card -/
theorem proved : Rows.NumberAgreesCardSaid :=
  Claim7.holds_tied_plain_at .later [] _ _ _ _ over (fun _ h => by cases h) (by kernel_rfl) (fun _ h => by cases h) numberAgrees_row_tie rfl ⟨rfl, rfl⟩ (by kernel_rfl) rfl plain (by kernel_rfl)
end Go.Proofs.YtbkdhejcbcgalaaGreatDoor.upNa
