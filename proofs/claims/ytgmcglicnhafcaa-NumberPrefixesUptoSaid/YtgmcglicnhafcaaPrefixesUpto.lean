/- NumberPrefixes: called with any list of spots whose reading is of bulk at most 1048576 the Go function returns true and writes nothing that was there. Condition: that bound alone ('Upto'). -/
import Derived.Test.YtgmcglicnhafcaaPfxAll
import Derived.Test.YtgmcglicnhafcaaRead
import Derived.OpenShut
import Derived.JoinedCond
namespace Go.Proofs.Ytgmcglicnhafcaa.prefixesUpto
open Go.ChangeShapes Go.WideShapes Go.ChangeAt Go.RowKit Go.Deep mem pfx
set_option linter.unusedVariables false

theorem own : ownKnob Try.prog.godebug = none := by kernel_rfl
theorem laidOut : laidOutB Try.prog = true := by kernel_rfl
theorem cells68 : Try.prog.cellsOf 68 = 3 := by kernel_rfl
theorem cells64 : Try.prog.cellsOf 64 = 1 := by kernel_rfl
theorem cells66 : Try.prog.cellsOf 66 = 1 := by kernel_rfl
theorem cells3 : Try.prog.cellsOf 3 = 1 := by kernel_rfl
theorem cells5 : Try.prog.cellsOf 5 = 1 := by kernel_rfl
theorem cells21 : Try.prog.cellsOf 21 = 1 := by kernel_rfl

section
variable {H : Type} {enc : TypeId × Value → H}
theorem spot_of {w : World} {sp : Nat → Bool} {ad : Addr} {n : Nat} {cs : List Value} {x : DataW H × List MemPlace} (hc : w.cells? 0 ad 3 = some cs) (h : DataW.trod enc Try.prog w 0 sp true n 68 cs = some x) (hb : Rows.uptoBulk x.1 ≤ 1048576) :
    SpotAt w w.heap.size ad := by
  obtain ⟨_, hcl, hat⟩ := World.cells?_some hc
  obtain ⟨v0, y0, n0, e0, t0, b0⟩ := read.field Try.underlying68 h 0 _ rfl cells64 (by rw [hcl]; show (0 : Nat) < 3; omega)
  obtain ⟨v1, y1, n1, e1, t1, b1⟩ := read.field Try.underlying68 h 1 _ rfl cells66 (by rw [hcl]; show (1 : Nat) < 3; omega)
  obtain ⟨v2, y2, n2, e2, t2, b2⟩ := read.field Try.underlying68 h 2 _ rfl cells3 (by rw [hcl]; show (2 : Nat) < 3; omega)
  obtain ⟨AS, cS, xs, rfl, hS, hnS, hxs, hlS⟩ := read.ints Try.underlying64 Try.underlying5 cells5 t0
  obtain ⟨AR, cR, rs, rfl, hR, hnR, hrs, hlR⟩ := read.ints Try.underlying66 Try.underlying21 cells21 t1
  obtain ⟨p, hp, _, hwp⟩ := DataW.trod_int Try.underlying3 t2
  obtain rfl : v2 = .int .i64 p := by simpa using hp
  have c0 := hat 0 (by omega)
  have c1 := hat 1 (by omega)
  have c2 := hat 2 (by omega)
  have e0' : cs[0]? = _ := e0
  have e1' : cs[1]? = _ := e1
  have e2' : cs[2]? = _ := e2
  rw [e0'] at c0
  rw [e1'] at c1
  rw [e2'] at c2
  have hbl := World.block_lt_of_cell? w _ c0
  rw [add_block] at hbl
  refine ⟨AS, AR, cS, cR, xs, rs, p, by simpa [Addr.add] using c0, c1, c2, hbl, hS, hR, hnS, hnR, by omega, by omega, ?_, ?_, ?_⟩
  · intro x hx
    have := hxs x hx
    simpa [Lit.wf, IntKind.min, IntKind.max, IntKind.signed, IntKind.bits] using this
  · intro x hx
    have := hrs x hx
    simpa [Lit.wf, IntKind.min, IntKind.max, IntKind.signed, IntKind.bits] using this
  · simpa [Lit.wf, IntKind.min, IntKind.max, IntKind.signed, IntKind.bits] using hwp

set_option maxRecDepth 100000 in
theorem contract (W : World) (base : Nat) (args : Array Value) (ds gs : List (DataW H)) (before : List MemPlace)
    (hval0 : ∀ (j : Nat) t v, Try.f8.params[j]? = some t → args[j]? = some v → Value.okWide Try.prog W .any base t v)
    (hW : DataW.Whole enc Try.prog Try.f8.params.toList Rows.numberPrefixesSpec.vars false W args.toList ds gs before) (hk : Rows.uptoSmall H (ds ++ gs) = true) :
    Calls Try.prog 8 args W fun e W' => ∃ v, e = .returned v ∧ Rows.numberPrefixesSpec.post enc Try.prog Try.f8 false true false false W args v W' := by
  have hval : ∀ (j : Nat) t v, Try.f8.params[j]? = some t → args[j]? = some v → Value.okWide Try.prog W .any base t v := hval0
  have hW' := hW
  obtain ⟨p, q, hA0, hV, rfl, hfz, hnd⟩ := hW
  have hA : DataW.TrodAll enc Try.prog W 0 (fun _ => true) true Try.f8.params.toList args.toList ds p := hA0
  rw [Try.params8] at hA hval
  obtain ⟨v0, vs0, d0, ds0, p0, q0, hargs, rfl, rfl, h0, r0⟩ := trodAll_cons hA
  obtain ⟨rfl, rfl, rfl⟩ := trodAll_nil r0
  obtain rfl : args = #[v0] := by cases args; simp_all
  obtain ⟨rfl, rfl⟩ := trodVars_none hV
  have hbk := bulks.bound hk
  obtain ⟨a0, len0, cap0, rfl⟩ := okWide_slice Try.underlying60 (hval 0 60 v0 rfl rfl)
  have k0 := h0
  have lt0 : ∀ x ∈ p0, x.block < W.heap.size := by obtain ⟨m, hm⟩ := k0; exact DataW.trod_lt m _ _ _ hm
  have hsp : len0 ≤ 1048576 ∧ ∀ k, k < len0 → ∃ ad, a0 = some ad ∧ SpotAt W W.heap.size (ad.add (k * 3)) := by
    obtain ⟨fuel, hf⟩ := h0
    rcases open_slice Try.underlying60 hf with ⟨hcs, _⟩ | ⟨x, l, c, m, n, D, Pl, hcs, _, hl, hm, hmm, hx, hall⟩
    · simp [Value.cells] at hcs
      obtain ⟨rfl, rfl, rfl⟩ := hcs
      exact ⟨by omega, fun k hk => absurd hk (by omega)⟩
    · simp [Value.cells] at hcs
      obtain ⟨rfl, rfl, rfl⟩ := hcs
      have hml : len0 ≤ m := by rw [hmm]; split <;> omega
      simp only [Prod.mk.injEq] at hx
      obtain ⟨rfl, rfl⟩ := hx
      simp only [List.append_nil, Rows.uptoBulkAll] at hbk
      have h2 := bulks.slice_le (H := H) (List.map D (List.range len0)) (List.map (fun j => D (len0 + j)) (List.range (m - len0)))
      have h3 := bulks.slice_elems (H := H) (List.map D (List.range len0)) (List.map (fun j => D (len0 + j)) (List.range (m - len0)))
      simp only [List.length_map, List.length_range] at h2
      refine ⟨by omega, fun k hkl => ?_⟩
      obtain ⟨cs', hc', ht'⟩ := hall k (by omega)
      rw [cells68] at hc'
      have h4 := bulks.part_le (H := H) (d := D k) (l := List.map D (List.range len0)) (List.mem_map.2 ⟨k, List.mem_range.2 hkl, rfl⟩)
      exact ⟨x, rfl, spot_of hc' ht' (by show Rows.uptoBulk (D k) ≤ _; omega)⟩
  clear hA0 hval0
  refine (prefixes_any a0 len0 cap0 W hsp.1 hsp.2).mono fun e W' ⟨he, bel⟩ => ?_
  subst he
  exact ⟨_, rfl, _, _, _, [], _, [], hW', trodAll_mk1 (shut_bool Try.underlying4 _), (trodAll_cons_mk (Below.trod laidOut (by kernel_rfl) (of_decide_eq_true (by kernel_rfl)) k0 bel lt0) trodAll_mk0), rfl, bel.frame _, fun h => by cases h⟩
end

set_option maxRecDepth 100000 in
theorem lifted (os : Os) (started : os.Started) (H : Type) (enc : TypeId × Value → H) (F : Stop.Interp) :
    ReturnsInHanded {} Try.checked os 8 .any ((Rows.OpenSpec.upto Rows.numberPrefixesSpec).pre6 enc Try.prog Try.f8 Rows.numberPrefixesUptoRow.domain false) (((Rows.OpenSpec.upto Rows.numberPrefixesSpec).at F).post enc Try.prog Try.f8 false true false false) := by
  refine returnsInHanded_of_cond (C := Try.checked) (s := Rows.OpenSpec.upto Rows.numberPrefixesSpec) (k := Rows.uptoSmall) rfl own started (by kernel_rfl) Try.func8
    (OpenSpec.witness (enc := enc) (C := Try.checked) (s := Rows.OpenSpec.upto Rows.numberPrefixesSpec) (k := Rows.uptoSmall) rfl false ⟨#[], #[.slice none 0 0], []⟩ 8 (by kernel_rfl) (by kernel_rfl) (by kernel_rfl)
      (x := ([.nil], [], [])) (by kernel_rfl) rfl (by kernel_rfl)) ?_
  intro W base args ds gs before hval hW _ hk _
  exact contract W base args ds gs before hval hW hk

theorem over : Rows.numberPrefixesUptoRow.holds Try.pinned (Rows.OpenSpec.upto Rows.numberPrefixesSpec) :=
  OpenClaim.holds_of_cond 8 Try.f8 rfl rfl rfl rfl rfl rfl rfl ⟨rfl, rfl, rfl, rfl, rfl⟩ rfl rfl rfl rfl rfl (by kernel_rfl) Try.func8 (by kernel_rfl)
    (of_decide_eq_true (by kernel_rfl)) (by unfold Func.isWrapper; first | (rw [if_pos (by decide +kernel)]; kernel_rfl) | (rw [if_neg (by decide +kernel)]; exact ⟨rfl, rfl⟩))
    (fun os started H enc _ F => lifted os started H enc F)

/-- the statement -/
theorem proved : Rows.NumberPrefixesUptoSaid := over
end Go.Proofs.Ytgmcglicnhafcaa.prefixesUpto
