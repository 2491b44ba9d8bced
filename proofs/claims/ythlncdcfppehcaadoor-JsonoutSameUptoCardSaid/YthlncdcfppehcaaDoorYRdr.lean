/- From the form's reading to a tree of values: its weight is less than the reading's bulk. -/
import Derived.Test.YthlncdcfppehcaaDoorGRdq
namespace Go.Proofs.YthlncdcfppehcaaDoor.val
open Go.ChangeShapes Go.WideShapes Go.Deep Go.RowKit mem
set_option linter.unusedVariables false
section
variable {H : Type} {enc : TypeId × Value → H} {w : World} {base : Nat} {sp : Nat → Bool} {held : Bool}
theorem value_of2 {fuel : Nat} {cs : List Value} {x : DataW H × List MemPlace} (hM : Rows.uptoBulk x.1 ≤ 1048576) (h : DataW.trod enc Tryd.prog w base sp held fuel 30 cs = some x) :
    ∃ v, (IsV w (Low w) v cs ∧ ok v) ∧ wt v + 1 ≤ Rows.uptoBulk x.1 := by
  obtain ⟨ys, n, hb, hl, hall⟩ := fields Tryd.underlying30 h
  rw [cV] at hl
  obtain ⟨v0, e0, t0⟩ := drop1 (i := 0) hl (by omega)
  obtain ⟨v1, e1, t1⟩ := drop1 (i := 1) hl (by omega)
  obtain ⟨v2, e2, t2⟩ := drop1 (i := 2) hl (by omega)
  obtain ⟨v3, e3, t3⟩ := drop1 (i := 3) hl (by omega)
  obtain ⟨v4, e4, t4⟩ := drop1 (i := 4) hl (by omega)
  obtain ⟨v5, e5, t5⟩ := drop1 (i := 5) hl (by omega)
  obtain ⟨v6, e6, t6⟩ := drop1 (i := 6) hl (by omega)
  obtain ⟨v7, e7, t7⟩ := drop1 (i := 7) hl (by omega)
  obtain ⟨y0, _, h0⟩ := hall 0 _ rfl
  obtain ⟨y1, _, h1⟩ := hall 1 _ rfl
  obtain ⟨y2, _, h2⟩ := hall 2 _ rfl
  obtain ⟨y3, _, h3⟩ := hall 3 _ rfl
  obtain ⟨y4, b4, h4⟩ := hall 4 _ rfl
  obtain ⟨y5, b5, h5⟩ := hall 5 _ rfl
  obtain ⟨y6, b6, h6⟩ := hall 6 _ rfl
  obtain ⟨y7, b7, h7⟩ := hall 7 _ rfl
  have h0 : DataW.trod enc Tryd.prog w base sp held n 26 [v0] = some y0 := by have hh := congrArg (fun q => (cs.drop 0).take q) cK; rw [← t0]; rw [← hh]; exact h0
  have h1 : DataW.trod enc Tryd.prog w base sp held n 4 [v1] = some y1 := by have hh := congrArg (fun q => (cs.drop 1).take q) cBo; rw [← t1]; rw [← hh]; exact h1
  have h2 : DataW.trod enc Tryd.prog w base sp held n 2 [v2] = some y2 := by have hh := congrArg (fun q => (cs.drop 2).take q) cI6; rw [← t2]; rw [← hh]; exact h2
  have h3 : DataW.trod enc Tryd.prog w base sp held n 27 [v3] = some y3 := by have hh := congrArg (fun q => (cs.drop 3).take q) cF6; rw [← t3]; rw [← hh]; exact h3
  have h4 : DataW.trod enc Tryd.prog w base sp held n 9 [v4] = some y4 := by have hh := congrArg (fun q => (cs.drop 4).take q) cSt; rw [← t4]; rw [← hh]; exact h4
  have h5 : DataW.trod enc Tryd.prog w base sp held n 9 [v5] = some y5 := by have hh := congrArg (fun q => (cs.drop 5).take q) cSt; rw [← t5]; rw [← hh]; exact h5
  have h6 : DataW.trod enc Tryd.prog w base sp held n 22 [v6] = some y6 := by have hh := congrArg (fun q => (cs.drop 6).take q) cVs; rw [← t6]; rw [← hh]; exact h6
  have h7 : DataW.trod enc Tryd.prog w base sp held n 28 [v7] = some y7 := by have hh := congrArg (fun q => (cs.drop 7).take q) cMs; rw [← t7]; rw [← hh]; exact h7
  obtain ⟨k, q0, _⟩ := DataW.trod_int Tryd.underlying26 h0
  obtain ⟨b, q1, _⟩ := DataW.trod_bool Tryd.underlying4 h1
  obtain ⟨i, q2, _, wi⟩ := DataW.trod_int Tryd.underlying2 h2
  obtain ⟨f, q3, wf⟩ := trod_flt Tryd.underlying27 h3
  obtain ⟨t, q4, rfl, wt4⟩ := DataW.trod_string Tryd.underlying9 h4
  obtain ⟨y, q5, rfl, wt5⟩ := DataW.trod_string Tryd.underlying9 h5
  have hsum := four_le b4 b5 b6 b7
  simp only [Rows.uptoBulk] at hsum
  have e4 := Lib.size_eq t
  have e5 := Lib.size_eq y
  have p6 := bulks.one_le y6.1
  have p7 := bulks.one_le y7.1
  obtain ⟨A, c, is, q6, hA, hwA, _, hisA⟩ := slice_of 8 (by omega) Tryd.underlying22 cV (fun v ds => IsV w (Low w) v ds ∧ ok v) wts wt (by simp [wts]) (fun l x => by rw [wts_append]; simp [wts]) h6 (fun n ds y hy ht => value_of _ n ds y (Nat.le_refl _) (by omega) ht)
  obtain ⟨A', c', fs, q7, hA', hwA', _, hfsA⟩ := slice_of 9 (by omega) Tryd.underlying28 cM (fun (p : ByteArray × V) ds => (∃ es, ds = .string p.1 :: es ∧ IsV w (Low w) p.2 es) ∧ p.1.size ≤ 1048576 ∧ ok p.2) wtf (fun p => p.1.size + wt p.2) (by simp [wtf]) (fun l x => by rw [wtf_append]; simp [wtf]) h7 (fun n ds y hy ht => by
    obtain ⟨zs, m, hb', hl', hall'⟩ := fields Tryd.underlying38 ht
    rw [cM] at hl'
    obtain ⟨z0, c0, k0⟩ := hall' 0 _ rfl
    obtain ⟨z1, c1, k1⟩ := hall' 1 _ rfl
    obtain ⟨u0, g0, r0⟩ := drop1 (i := 0) hl' (by omega)
    have k0 : DataW.trod enc Tryd.prog w base sp held m 9 [u0] = some z0 := by have hh := congrArg (fun q => (ds.drop 0).take q) cSt; rw [← r0]; rw [← hh]; exact k0
    obtain ⟨s, q8, rfl, _⟩ := DataW.trod_string Tryd.underlying9 k0
    have hz := two_le (by omega : 0 < 1) c0 c1
    simp only [Rows.uptoBulk] at hz
    have e8 := Lib.size_eq s
    obtain ⟨v, ⟨hv, hvo⟩, hvs⟩ := value_of _ m _ z1 (Nat.le_refl _) (by omega) k1
    refine ⟨(s, v), ⟨⟨_, ?_, hv⟩, by simp only; omega, hvo⟩, by simp only; omega⟩
    obtain rfl : u0 = .string s := by simpa using q8
    show ds = .string s :: (ds.drop 1).take (Tryd.prog.cellsOf 30)
    have h9 : (ds.drop 1).take (Tryd.prog.cellsOf 30) = ds.drop 1 := (by rw [cV]; exact List.take_of_length_le (by simp; omega))
    rw [h9]
    have h10 := List.drop_eq_getElem_cons (l := ds) (i := 0) (by omega)
    simp only [List.drop_zero] at h10
    have h11 : ds[0]'(by omega) = .string s := by
      rw [List.getElem?_eq_getElem (by omega)] at g0
      injection g0
    rw [h11] at h10
    exact h10)
  have wfi : -9223372036854775808 ≤ i ∧ i ≤ 9223372036854775807 := by
    have h := wi
    simp only [Lit.wf, Bool.and_eq_true, decide_eq_true_eq] at h
    rw [show IntKind.i64.min = -9223372036854775808 by decide, show IntKind.i64.max = 9223372036854775807 by decide] at h
    exact h
  have wff : f < 18446744073709551616 := by simpa [Lit.wf] using wf
  have hos : oks is := oks_of fun x hx => by
    obtain ⟨j, hj⟩ := List.mem_iff_getElem?.1 hx
    obtain ⟨ad, ds, a1, a2, a3, a4⟩ := hisA j x hj
    exact a4.2
  have hof : okf fs := okf_of fun x hx => by
    obtain ⟨j, hj⟩ := List.mem_iff_getElem?.1 hx
    obtain ⟨ad, ds, a1, a2, a3, a4⟩ := hfsA j x hj
    exact a4.2
  refine ⟨.mk k b i f t y is fs, ⟨?_, by simp only [ok]; exact ⟨⟨wfi.1, wfi.2, wff, by omega, by omega⟩, hos, hof⟩⟩, by simp only [wt]; omega⟩
  obtain rfl : v0 = _ := by simpa using q0
  obtain rfl : v1 = _ := by simpa using q1
  obtain rfl : v2 = _ := by simpa using q2
  obtain rfl : v3 = _ := by simpa using q3
  obtain rfl : v4 = _ := by simpa using q4
  obtain rfl : v5 = _ := by simpa using q5
  obtain rfl : v6 = _ := by simpa using q6
  obtain rfl : v7 = _ := by simpa using q7
  simp only [IsV]
  refine ⟨A, c, A', c', list8 hl e0 e1 e2 e3 e4 e5 e6 e7, hA, hA', IsVs.of fun j v hv => ?_, IsFs.of fun j p hp => ?_⟩
  · obtain ⟨ad, ds, a1, a2, a3, a4, _⟩ := hisA j v hv
    rw [Nat.zero_add]
    exact ⟨ad, ds, a1, a2, a3, a4⟩
  · obtain ⟨ad, ds, a1, a2, a3, ⟨es, rfl, a4⟩, _⟩ := hfsA j p hp
    rw [Nat.zero_add]
    exact ⟨ad, es, a1, a2, a3, a4⟩

end
end Go.Proofs.YthlncdcfppehcaaDoor.val
