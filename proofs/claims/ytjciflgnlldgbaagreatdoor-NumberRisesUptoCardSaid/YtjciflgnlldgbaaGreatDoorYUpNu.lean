/- NumberRises, as a card: called with any two lists of bytes and any power, of bulk at most 1048576 together, the Go function returns true and writes nothing that was there. Condition: that bound alone ('Upto'), and the package variables as the program's text lays them (tied). -/
import Derived.Test.YtjciflgnlldgbaaGreatDoorYUpE
import Derived.Test.YtjciflgnlldgbaaGreatDoorGWt
import Derived.Test.YtjciflgnlldgbaaGreatDoorBulk
import Derived.ChangeMaps5
import Derived.Deep.Slices
namespace Go.Proofs.YtjciflgnlldgbaaGreatDoor.upNu
open Go.ChangeShapes Go.WideShapes Go.ChangeAt Go.RowKit Go.Lib Go.Deep mem big
open Go.ChangeMaps (open_string shut_string)
set_option linter.unusedVariables false

theorem laidOut : laidOutB Tryz.prog = true := by kernel_rfl

section
variable {H : Type} {enc : TypeId × Value → H}
/-- a slice of integers, nil or not -/
theorem ints {P : Program} {w : World} {base : Nat} {sp : Nat → Bool} {held : Bool} {t e : TypeId} {k : IntKind} {fuel : Nat} {v : Value} {x : DataW H × List MemPlace} (ht : P.underlying t = some (.slice e)) (he : P.underlying e = some (.int k)) (hc : P.cellsOf e = 1)
    (h : DataW.trod enc P w base sp held fuel t [v] = some x) :
    ∃ (A : Option Addr) (c : Nat) (xs : List Int), v = .slice A xs.length c ∧ Rd w w.heap.size A (xs.map (.int k)) ∧ (∀ n ∈ xs, (Lit.int k n).wf = true) ∧ (xs.length = 0 ∨ ∃ (elems spare : List (DataW H)), x.1 = .slice elems spare ∧ elems.length = xs.length) := by
  rcases open_ints ht he hc h with ⟨hcs, rfl⟩ | ⟨a, len, cap, zs, hcs, _, hl, hm, hz, rfl, hcell, hwz⟩
  · obtain rfl : v = .slice none 0 0 := by simpa using hcs
    exact ⟨none, 0, [], rfl, Rd.nil, by simp, .inl rfl⟩
  · obtain rfl : v = .slice (some a) len cap := by simpa using hcs
    have hlz : len ≤ zs.length := by rw [hz]; split <;> omega
    have hlen : (zs.take len).length = len := by rw [List.length_take]; omega
    refine ⟨some a, cap, zs.take len, by rw [hlen], ?_, fun n hn => hwz n (List.mem_of_mem_take hn), .inr ⟨_, _, rfl, by simp [lits]⟩⟩
    intro j u hu
    rw [List.getElem?_map, List.getElem?_take] at hu
    by_cases hj : j < len
    · rw [if_pos hj] at hu
      have hjz : j < zs.length := by omega
      have h1 := hcell j hjz
      have h2 : zs[j]? = some zs[j] := List.getElem?_eq_getElem hjz
      rw [h2] at hu
      simp only [Option.map_some, Option.some.injEq] at hu
      subst hu
      have h3 : zs.getD j 0 = zs[j] := by simp [hjz]
      rw [h3] at h1
      have hb := World.block_lt_of_cell? w _ h1
      rw [add_block] at hb
      exact ⟨a, rfl, hb, h1⟩
    · rw [if_neg hj] at hu
      simp at hu
theorem wf_u8 {n : Int} (h : (Lit.int .u8 n).wf = true) : 0 ≤ n ∧ n < 256 := by
  have : IntKind.u8.min ≤ n ∧ n ≤ IntKind.u8.max := by simpa [Lit.wf] using h
  have e1 : IntKind.u8.min = 0 := by decide
  have e2 : IntKind.u8.max = 255 := by decide
  rw [e1, e2] at this
  omega
theorem wf_i32 {n : Int} (h : (Lit.int .i32 n).wf = true) : -2147483648 ≤ n ∧ n ≤ 2147483647 := by
  have : IntKind.i32.min ≤ n ∧ n ≤ IntKind.i32.max := by simpa [Lit.wf] using h
  have e1 : IntKind.i32.min = -2147483648 := by decide
  have e2 : IntKind.i32.max = 2147483647 := by decide
  rw [e1, e2] at this
  exact this
theorem ns_of (xs : List Int) (h : ∀ n ∈ xs, (Lit.int .u8 n).wf = true) : xs.map (Value.int .u8) = big.ns (xs.map Int.toNat) := by
  unfold big.ns
  rw [List.map_map]
  refine List.map_congr_left fun n hn => ?_
  have := wf_u8 (h n hn)
  simp only [Function.comp]
  congr 1
  omega
set_option maxRecDepth 100000 in
theorem contract (W : World) (base : Nat) (args : Array Value) (ds gs : List (DataW H)) (before : List MemPlace)
    (hval : ∀ (j : Nat) t v, Tryz.f6.params[j]? = some t → args[j]? = some v → Value.okWide Tryz.prog W .any base t v)
    (hW : DataW.Whole enc Tryz.prog Tryz.f6.params.toList Rows.numberRisesSpec.vars false W args.toList ds gs before) (hk : Rows.uptoSmall H (ds ++ gs) = true) (hL : laidMetH Tryz.prog upN.laidN W) :
    Calls Tryz.prog 6 args W fun e W' => ∃ v, e = .returned v ∧ Rows.numberRisesSpec.post enc Tryz.prog Tryz.f6 false true false false W args v W' := by
  have hW' := hW
  obtain ⟨p, q, hA0, hV, rfl, hfz, hnd⟩ := hW
  have hA : DataW.TrodAll enc Tryz.prog W 0 (fun _ => true) true Tryz.f6.params.toList args.toList ds p := hA0
  rw [Tryz.params6] at hA hval
  obtain ⟨v0, vs0, d0, ds0, p0, q0, hargs, rfl, rfl, h0, r0⟩ := trodAll_cons hA
  obtain ⟨v1, vs1, d1, ds1, p1, q1, rfl, rfl, rfl, h1, r1⟩ := trodAll_cons r0
  obtain ⟨v2, vs2, d2, ds2, p2, q2, rfl, rfl, rfl, h2, r2⟩ := trodAll_cons r1
  obtain ⟨rfl, rfl, rfl⟩ := trodAll_nil r2
  obtain rfl : args = #[v0, v1, v2] := by cases args; simp_all
  obtain ⟨rfl, rfl⟩ := trodVars_none hV
  obtain ⟨a0, len0, cap0, rfl⟩ := okWide_slice Tryz.underlying45 (hval 0 45 v0 rfl rfl)
  obtain ⟨a1, len1, cap1, rfl⟩ := okWide_slice Tryz.underlying45 (hval 1 45 v1 rfl rfl)
  have k0 := h0
  have k1 := h1
  have lt0 : ∀ x ∈ p0, x.block < W.heap.size := by obtain ⟨m, hm⟩ := k0; exact DataW.trod_lt m _ _ _ hm
  have lt1 : ∀ x ∈ p1, x.block < W.heap.size := by obtain ⟨m, hm⟩ := k1; exact DataW.trod_lt m _ _ _ hm
  obtain ⟨m0, hm0⟩ := h0
  obtain ⟨m1, hm1⟩ := h1
  obtain ⟨A, c, xs, hv, hR, hw, hs0⟩ := ints Tryz.underlying45 Tryz.underlying5 (show Tryz.prog.cellsOf 5 = 1 by kernel_rfl) hm0
  obtain ⟨A', c', ys, hv', hR', hw', hs1⟩ := ints Tryz.underlying45 Tryz.underlying5 (show Tryz.prog.cellsOf 5 = 1 by kernel_rfl) hm1
  injection hv with hv1 hv2 hv3
  subst hv1 hv2 hv3
  injection hv' with hv1 hv2 hv3
  subst hv1 hv2 hv3
  obtain ⟨n, rfl, rfl, rfl, hwn⟩ := open_int Tryz.underlying21 (hval 2 21 v2 rfl rfl) h2
  have hpn := wf_i32 hwn
  have hbk := bulks.bound hk
  simp only [List.append_nil, Rows.uptoBulkAll] at hbk
  have hn : xs.length ≤ 1048576 := by
    rcases hs0 with h | ⟨el, sp, h, hl⟩
    · omega
    · simp only at h
      subst h
      have := bulks.slice_le el sp
      omega
  have hn' : ys.length ≤ 1048576 := by
    rcases hs1 with h | ⟨el, sp, h, hl⟩
    · omega
    · simp only at h
      subst h
      have := bulks.slice_le el sp
      omega
  obtain ⟨z, hz⟩ : ∃ z : Nat, z = 1074 := ⟨_, rfl⟩
  obtain ⟨P, hP⟩ : ∃ P : Nat, P = 2 ^ z := ⟨_, rfl⟩
  have hbyte : ∀ (l : List Int), (∀ n ∈ l, (Lit.int .u8 n).wf = true) → ∀ k, k < l.length → (l.map Int.toNat).getD k 0 < 256 := fun l hl k hk => by
    rw [List.getD_eq_getElem?_getD, List.getElem?_map, List.getElem?_eq_getElem hk]
    have := wf_u8 (hl _ (List.getElem_mem hk))
    simp only [Option.map_some, Option.getD_some]
    omega
  refine (dcm.numberRises_any hz hP a0 a1 cap0 cap1 xs.length ys.length (xs.map Int.toNat) (ys.map Int.toNat) n W (by rw [← ns_of xs hw]; exact hR) (by rw [← ns_of ys hw']; exact hR') (by simp) (by simp) (hbyte xs hw) (hbyte ys hw') hn hn' hpn.1 hpn.2 (upN.env hL)).mono fun e W' ⟨he, bel⟩ => ?_
  subst he
  exact ⟨_, rfl, _, _, _, [], _, [], hW', trodAll_mk1 (shut_bool Tryz.underlying4 _), (trodAll_cons_mk (Below.trod laidOut (by kernel_rfl) (of_decide_eq_true (by kernel_rfl)) k0 bel lt0) (trodAll_cons_mk (Below.trod laidOut (by kernel_rfl) (of_decide_eq_true (by kernel_rfl)) k1 bel lt1) (trodAll_cons_mk (shut_int Tryz.underlying21 hwn) trodAll_mk0))), rfl, bel.frame _, fun h => by cases h⟩
end

set_option maxRecDepth 100000 in
theorem lifted (os : Os) (started : os.Started) (H : Type) (enc : TypeId × Value → H) (F : Stop.Interp) :
    ReturnsInHanded {} Tryz.checked os 6 .any ((Rows.OpenSpec.upto Rows.numberRisesSpec).preRow enc Tryz.prog Tryz.f6 Rows.numberRisesUptoRow.domain false Rows.numberRisesUptoRow.laid) (((Rows.OpenSpec.upto Rows.numberRisesSpec).at F).post enc Tryz.prog Tryz.f6 false true false false) := by
  refine returnsInHanded_of_row (C := Tryz.checked) (s := Rows.OpenSpec.upto Rows.numberRisesSpec) upN.own started (by kernel_rfl) Tryz.func6
    (upN.witness (enc := enc) os #[.slice none 0 0, .slice none 0 0, .int .i32 0] (by kernel_rfl)
      (OpenSpec.preRow_of_cond 8 (x := ([.nil, .nil, .lit (.int .i32 0)], [], [])) (by kernel_rfl) (by kernel_rfl) (fun k hk => by cases hk; kernel_rfl) (by kernel_rfl) (by rw [MakeChecks.laidMetH_plain _ _ _ (by kernel_rfl)]; exact upN.laid_met os _))) ?_
  intro W base args ds gs before hval hW _ hcond _ hL _ _
  exact contract W base args ds gs before hval hW (hcond _ rfl) hL

theorem over : Rows.NumberRisesUptoSaid :=
  OpenClaim.holds_of_cond 6 Tryz.f6 rfl rfl rfl rfl rfl rfl rfl ⟨rfl, rfl, rfl, rfl, rfl⟩ rfl rfl rfl rfl rfl (by kernel_rfl) Tryz.func6 (by kernel_rfl)
    (of_decide_eq_true (by kernel_rfl)) (by unfold Func.isWrapper; first | (rw [if_pos (by decide +kernel)]; kernel_rfl) | (rw [if_neg (by decide +kernel)]; exact ⟨rfl, rfl⟩))
    (fun os started H enc _ F => by rw [OpenClaim.pre_eq_preRow]; exact lifted os started H enc F)

theorem plain (f : FuncId) (fn : Func) (hf : Tryz.pinned.checked.prog.funcNamed "pergola/pergolalaw02.NumberRises" = some f) (hfn : Tryz.pinned.checked.prog.funcs[f]? = some fn) :
    true = Tryz.pinned.checked.prog.looks [] ∧ ∀ (j : Nat) t, fn.params[j]? = some t → Tryz.pinned.checked.prog.wantsStandIn t = false := by
  obtain rfl : f = 6 := Option.some.inj ((show Tryz.prog.funcNamed "pergola/pergolalaw02.NumberRises" = some 6 by kernel_rfl).symm.trans hf) |>.symm
  obtain rfl : fn = Tryz.f6 := (Option.some.inj (Tryz.func6.symm.trans hfn)).symm
  refine ⟨by kernel_rfl, fun j t ht => ?_⟩
  rw [Tryz.params6] at ht
  have hm : t ∈ [45, 45, 21] := by simpa using Array.mem_of_getElem? ht
  have hall : ([45, 45, 21].all fun u => !Tryz.prog.wantsStandIn u) = true := by kernel_rfl
  exact (show Tryz.prog.wantsStandIn t = false by simpa using List.all_eq_true.1 hall t hm)

/-- the statement: the second form's card -/
theorem proved : Rows.NumberRisesUptoCardSaid :=
  Claim7.holds_tied_plain_at .later [] _ _ _ _ over (fun _ h => by cases h) (by kernel_rfl) (fun _ h => by cases h) numberRisesUpto_row_tie rfl ⟨rfl, rfl⟩ (by kernel_rfl) rfl plain (by kernel_rfl)
end Go.Proofs.YtjciflgnlldgbaaGreatDoor.upNu
