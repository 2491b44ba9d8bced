/- From the form's readings to trees of values, calls, entries. -/
import Derived.Test.YtagghdehbkbemaaGreatDoorBulk
import Derived.ProofKit
import Derived.Deep.Slices
import Derived.Deep.Fields
import Derived.Test.YtagghdehbkbemaaGreatDoorGFtx
import Derived.Test.YtagghdehbkbemaaGreatDoorProg
import Derived.ChangeArms
import Derived.KernelRfl
set_option linter.unusedVariables false
namespace Go.Proofs.YtagghdehbkbemaaGreatDoor.val
open Go.ChangeShapes Go.WideShapes Go.Deep Go.RowKit mem

theorem szs_append (l r : List V) : szs (l ++ r) = szs l + szs r := by
  induction l with
  | nil => simp [szs]
  | cons x l ih => simp only [List.cons_append, szs, ih]; omega
theorem szf_append (l r : List (ByteArray × V)) : szf (l ++ r) = szf l + szf r := by
  induction l with
  | nil => simp [szf]
  | cons x l ih => obtain ⟨s, x⟩ := x; simp only [List.cons_append, szf, ih]; omega
theorem wts_append (l r : List V) : wts (l ++ r) = wts l + wts r := by
  induction l with
  | nil => simp [wts]
  | cons x l ih => simp only [List.cons_append, wts, ih]; omega
theorem wtf_append (l r : List (ByteArray × V)) : wtf (l ++ r) = wtf l + wtf r := by
  induction l with
  | nil => simp [wtf]
  | cons x l ih => obtain ⟨s, x⟩ := x; simp only [List.cons_append, wtf, ih]; omega
theorem oks_of : ∀ {l : List V}, (∀ x ∈ l, ok x) → oks l
  | [], _ => by simp only [oks]
  | x :: r, h => by
    simp only [oks]
    exact ⟨h x (List.mem_cons_self ..), oks_of fun y hy => h y (List.mem_cons_of_mem _ hy)⟩
theorem okf_of : ∀ {l : List (ByteArray × V)}, (∀ p ∈ l, p.1.size ≤ 1048576 ∧ ok p.2) → okf l
  | [], _ => by simp only [okf]
  | (s, x) :: r, h => by
    simp only [okf]
    have h0 := h (s, x) (List.mem_cons_self ..)
    exact ⟨h0.1, h0.2, okf_of fun y hy => h y (List.mem_cons_of_mem _ hy)⟩
theorem four_le {H : Type} {l : List (DataW H)} {a b c d : DataW H} (h4 : l[4]? = some a) (h5 : l[5]? = some b) (h6 : l[6]? = some c) (h7 : l[7]? = some d) : Rows.uptoBulk a + Rows.uptoBulk b + Rows.uptoBulk c + Rows.uptoBulk d ≤ Rows.uptoBulkAll l := by
  rcases l with _ | ⟨x0, _ | ⟨x1, _ | ⟨x2, _ | ⟨x3, _ | ⟨x4, _ | ⟨x5, _ | ⟨x6, _ | ⟨x7, r⟩⟩⟩⟩⟩⟩⟩⟩ <;> simp at h4 h5 h6 h7
  subst h4 h5 h6 h7
  simp only [Rows.uptoBulkAll]
  omega
/-- a list chosen place by place, with a weight that adds up -/
theorem list_of {α H : Type} (n : Nat) (Q : Nat → α → Prop) (wt : List α → Nat) (w1 : α → Nat) (hw0 : wt [] = 0) (hw : ∀ l x, wt (l ++ [x]) = wt l + w1 x) (D : Nat → DataW H) (h : ∀ i, i < n → ∃ x, Q i x ∧ w1 x ≤ Rows.uptoBulk (D i)) :
    ∃ l : List α, l.length = n ∧ (∀ i x, l[i]? = some x → Q i x) ∧ wt l ≤ Rows.uptoBulkAll ((List.range n).map D) := by
  induction n with
  | zero => exact ⟨[], rfl, fun i x h => by simp at h, by simp [hw0]⟩
  | succ n ih =>
    obtain ⟨l, h1, h2, h3⟩ := ih (fun i hi => h i (by omega))
    obtain ⟨x, hx, hb⟩ := h n (by omega)
    refine ⟨l ++ [x], by simp [h1], fun i y hy => ?_, ?_⟩
    · by_cases hi : i < l.length
      · rw [List.getElem?_append_left hi] at hy
        exact h2 i y hy
      · rw [List.getElem?_append_right (by omega)] at hy
        have h0 : i - l.length = 0 := by
          have := (List.getElem?_eq_some_iff.1 hy).1
          simp at this
          omega
        rw [h0] at hy
        simp at hy
        subst hy
        rw [show i = n by omega]
        exact hx
    · rw [hw, List.range_succ, List.map_append, bulks.append]
      simp only [List.map_cons, List.map_nil, Rows.uptoBulkAll]
      omega

section
variable {H : Type} {enc : TypeId × Value → H} {P : Program} {w : World} {base : Nat} {sp : Nat → Bool} {held : Bool}

theorem trod_flt {t : TypeId} {k : FloatKind} {fuel : Nat} {cs : List Value} {x : DataW H × List MemPlace} (ht : P.underlying t = some (.float k)) (h : DataW.trod enc P w base sp held fuel t cs = some x) : ∃ b, cs = [.float k b] ∧ (Lit.float k b).wf = true := by
  cases fuel with
  | zero => simp [DataW.trod] at h
  | succ n =>
    unfold DataW.trod at h
    rw [ht] at h
    split at h <;> simp_all

theorem two_le {l : List (DataW H)} {i j : Nat} {a b : DataW H} (hij : i < j) (ha : l[i]? = some a) (hb : l[j]? = some b) : Rows.uptoBulk a + Rows.uptoBulk b ≤ Rows.uptoBulkAll l := by
  induction l generalizing i j with
  | nil => simp at ha
  | cons x r ih =>
    simp only [Rows.uptoBulkAll]
    cases j with
    | zero => omega
    | succ j =>
      cases i with
      | zero =>
        simp at ha hb
        subst ha
        have := bulks.part_le (List.mem_of_getElem? hb)
        omega
      | succ i =>
        have := ih (i := i) (j := j) (by omega) (by simpa using ha) (by simpa using hb)
        omega
theorem one_part {l : List (DataW H)} {i : Nat} {a : DataW H} (ha : l[i]? = some a) : Rows.uptoBulk a ≤ Rows.uptoBulkAll l := bulks.part_le (List.mem_of_getElem? ha)

/-- the fields of a struct -/
theorem fields {t : TypeId} {fs : Array Field} {fuel : Nat} {cs : List Value} {x : DataW H × List MemPlace} (ht : P.underlying t = some (.struct fs)) (h : DataW.trod enc P w base sp held fuel t cs = some x) :
    ∃ (ys : List (DataW H)) (n : Nat), Rows.uptoBulk x.1 = Rows.uptoBulkAll ys + 1 ∧ cs.length = P.cellsOf t ∧
      ∀ (i : Nat) (f : Field), fs[i]? = some f → ∃ y : DataW H × List MemPlace, ys[i]? = some y.1 ∧ DataW.trod enc P w base sp held n f.type ((cs.drop f.offset).take (P.cellsOf f.type)) = some y := by
  obtain ⟨xs, n, _, rfl, hl, hxl, hall⟩ := DataW.trod_struct ht h
  refine ⟨xs.map (·.1), n, by simp [Rows.uptoBulk], hl, fun i f hf => ?_⟩
  have hi : i < xs.length := by rw [hxl]; exact (Array.getElem?_eq_some_iff.1 hf).1
  have h1 := hall i f hf
  rw [List.getElem?_eq_getElem hi] at h1
  exact ⟨xs[i], by simp [hi], h1⟩

theorem cellsAt_of {a : Addr} {n : Nat} {cs : List Value} (h : w.cells? base a n = some cs) : cs.length = n ∧ CellsAt w a cs ∧ (0 < n → a.block < w.heap.size) := by
  obtain ⟨_, hcl, hat⟩ := World.cells?_some h
  have h1 : CellsAt w a cs := fun o u hu => by
    have ho : o < n := by rw [← hcl]; exact (List.getElem?_eq_some_iff.1 hu).1
    exact (hat o ho).trans hu
  refine ⟨hcl, h1, fun hn => ?_⟩
  have h2 := h1 0 _ (List.getElem?_eq_getElem (by omega))
  have h3 := World.block_lt_of_cell? w _ h2
  rwa [add_block] at h3

/-- a slice of records -/
theorem slice_of {α : Type} {t e : TypeId} {fuel : Nat} {cs : List Value} {x : DataW H × List MemPlace} (size : Nat) (hsz : 0 < size) (ht : P.underlying t = some (.slice e)) (hc : P.cellsOf e = size) (R : α → List Value → Prop) (wt : List α → Nat) (w1 : α → Nat) (hw0 : wt [] = 0) (hw : ∀ l x, wt (l ++ [x]) = wt l + w1 x)
    (h : DataW.trod enc P w base sp held fuel t cs = some x)
    (hel : ∀ (n : Nat) (ds : List Value) (y : DataW H × List MemPlace), Rows.uptoBulk y.1 < Rows.uptoBulk x.1 → DataW.trod enc P w base sp held n e ds = some y → ∃ v, R v ds ∧ w1 v ≤ Rows.uptoBulk y.1) :
    ∃ (A : Option Addr) (c : Nat) (l : List α), cs = [.slice A l.length c] ∧ (A = none → l.length = 0) ∧ wt l + 1 ≤ Rows.uptoBulk x.1 ∧ l.length + 1 ≤ Rows.uptoBulk x.1 ∧
      ∀ (i : Nat) (v : α), l[i]? = some v → ∃ (ad : Addr) (ds : List Value), A = some ad ∧ ad.block < w.heap.size ∧ CellsAt w (ad.add (i * size)) ds ∧ R v ds := by
  rcases open_slice ht h with ⟨rfl, rfl⟩ | ⟨a, len, cap, m, n, D, Pl, rfl, _, hl, hm, hmm, rfl, hall⟩
  · exact ⟨none, 0, [], rfl, fun _ => rfl, by rw [hw0]; simp [Rows.uptoBulk], by simp [Rows.uptoBulk], fun i v h => by simp at h⟩
  · have hml : len ≤ m := by rw [hmm]; split <;> omega
    have hb := bulks.slice_elems (H := H) (List.map D (List.range len)) (List.map (fun j => D (len + j)) (List.range (m - len)))
    have hb2 := bulks.slice_le (H := H) (List.map D (List.range len)) (List.map (fun j => D (len + j)) (List.range (m - len)))
    simp only [List.length_map, List.length_range] at hb2
    obtain ⟨l, h1, h2, h3⟩ := list_of len (fun i v => ∃ ds, CellsAt w (a.add (i * size)) ds ∧ a.block < w.heap.size ∧ R v ds) wt w1 hw0 hw D (fun i hi => by
      obtain ⟨cs', hc', ht'⟩ := hall i (by omega)
      rw [hc] at hc'
      obtain ⟨hcl, hca, hbl⟩ := cellsAt_of hc'
      have hp := bulks.part_le (H := H) (d := D i) (l := List.map D (List.range len)) (List.mem_map.2 ⟨i, List.mem_range.2 hi, rfl⟩)
      obtain ⟨v, hv, hwv⟩ := hel n cs' _ (by show Rows.uptoBulk (D i) < Rows.uptoBulk (DataW.slice (List.map D (List.range len)) (List.map (fun j => D (len + j)) (List.range (m - len)))); omega) ht'
      have hbl' := hbl hsz
      rw [add_block] at hbl'
      exact ⟨v, ⟨cs', hca, hbl', hv⟩, hwv⟩)
    refine ⟨some a, cap, l, by rw [h1], (fun h => by cases h), (by show _ ≤ Rows.uptoBulk (DataW.slice (List.map D (List.range len)) (List.map (fun j => D (len + j)) (List.range (m - len)))); omega), (by show _ ≤ Rows.uptoBulk (DataW.slice (List.map D (List.range len)) (List.map (fun j => D (len + j)) (List.range (m - len)))); rw [h1]; omega), fun i v hv => ?_⟩
    obtain ⟨ds, q1, q2, q3⟩ := h2 i v hv
    exact ⟨a, ds, rfl, q2, q1, q3⟩
end

theorem cV : Tryz.prog.cellsOf 27 = 8 := by kernel_rfl
theorem cM : Tryz.prog.cellsOf 41 = 9 := by kernel_rfl
theorem cK : Tryz.prog.cellsOf 22 = 1 := by kernel_rfl
theorem cBo : Tryz.prog.cellsOf 4 = 1 := by kernel_rfl
theorem cI6 : Tryz.prog.cellsOf 2 = 1 := by kernel_rfl
theorem cF6 : Tryz.prog.cellsOf 23 = 1 := by kernel_rfl
theorem cSt : Tryz.prog.cellsOf 9 = 1 := by kernel_rfl
theorem cVs : Tryz.prog.cellsOf 24 = 1 := by kernel_rfl
theorem cMs : Tryz.prog.cellsOf 25 = 1 := by kernel_rfl

section
variable {H : Type} {enc : TypeId × Value → H} {w : World} {base : Nat} {sp : Nat → Bool} {held : Bool}
def Low (w : World) (b : Nat) : Prop := b < w.heap.size

theorem drop1 {cs : List Value} {i n : Nat} (h : cs.length = n) (hi : i < n) : ∃ v, cs[i]? = some v ∧ (cs.drop i).take 1 = [v] := by
  have hi' : i < cs.length := by omega
  refine ⟨cs[i], List.getElem?_eq_getElem hi', ?_⟩
  rw [List.drop_eq_getElem_cons hi']
  rfl
theorem list8 {cs : List Value} {a b c d e f g h : Value} (hl : cs.length = 8) (h0 : cs[0]? = some a) (h1 : cs[1]? = some b) (h2 : cs[2]? = some c) (h3 : cs[3]? = some d) (h4 : cs[4]? = some e) (h5 : cs[5]? = some f) (h6 : cs[6]? = some g) (h7 : cs[7]? = some h) : cs = [a, b, c, d, e, f, g, h] := by
  match cs, hl with
  | [x0, x1, x2, x3, x4, x5, x6, x7], _ => simp at h0 h1 h2 h3 h4 h5 h6 h7; subst h0 h1 h2 h3 h4 h5 h6 h7; rfl

set_option maxRecDepth 100000 in
theorem value_of : ∀ (N fuel : Nat) (cs : List Value) (x : DataW H × List MemPlace), Rows.uptoBulk x.1 ≤ N → N ≤ 1048576 → DataW.trod enc Tryz.prog w base sp held fuel 27 cs = some x →
    ∃ v, (IsV w (Low w) v cs ∧ ok v) ∧ wt v ≤ Rows.uptoBulk x.1 := by
  intro N
  induction N with
  | zero => intro fuel cs x hN hM; have := bulks.one_le x.1; omega
  | succ N ih =>
    intro fuel cs x hN hM h
    obtain ⟨ys, n, hb, hl, hall⟩ := fields Tryz.underlying27 h
    rw [cV] at hl
    obtain ⟨v0, e0, t0⟩ := drop1 (i := 0) hl (by omega)
    obtain ⟨v1, e1, t1⟩ := drop1 (i := 1) hl (by omega)
    obtain ⟨v2, e2, t2⟩ := drop1 (i := 2) hl (by omega)
    obtain ⟨v3, e3, t3⟩ := drop1 (i := 3) hl (by omega)
    obtain ⟨v4, e4, t4⟩ := drop1 (i := 4) hl (by omega)
    obtain ⟨v5, e5, t5⟩ := drop1 (i := 5) hl (by omega)
    obtain ⟨v6, e6, t6⟩ := drop1 (i := 6) hl (by omega)
    obtain ⟨v7, e7, t7⟩ := drop1 (i := 7) hl (by omega)
    obtain ⟨y0, _, h0⟩ := hall 0 _ rfl
    obtain ⟨y1, _, h1⟩ := hall 1 _ rfl
    obtain ⟨y2, _, h2⟩ := hall 2 _ rfl
    obtain ⟨y3, _, h3⟩ := hall 3 _ rfl
    obtain ⟨y4, b4, h4⟩ := hall 4 _ rfl
    obtain ⟨y5, b5, h5⟩ := hall 5 _ rfl
    obtain ⟨y6, b6, h6⟩ := hall 6 _ rfl
    obtain ⟨y7, b7, h7⟩ := hall 7 _ rfl
    have h0 : DataW.trod enc Tryz.prog w base sp held n 22 [v0] = some y0 := by have hh := congrArg (fun q => (cs.drop 0).take q) cK; rw [← t0]; rw [← hh]; exact h0
    have h1 : DataW.trod enc Tryz.prog w base sp held n 4 [v1] = some y1 := by have hh := congrArg (fun q => (cs.drop 1).take q) cBo; rw [← t1]; rw [← hh]; exact h1
    have h2 : DataW.trod enc Tryz.prog w base sp held n 2 [v2] = some y2 := by have hh := congrArg (fun q => (cs.drop 2).take q) cI6; rw [← t2]; rw [← hh]; exact h2
    have h3 : DataW.trod enc Tryz.prog w base sp held n 23 [v3] = some y3 := by have hh := congrArg (fun q => (cs.drop 3).take q) cF6; rw [← t3]; rw [← hh]; exact h3
    have h4 : DataW.trod enc Tryz.prog w base sp held n 9 [v4] = some y4 := by have hh := congrArg (fun q => (cs.drop 4).take q) cSt; rw [← t4]; rw [← hh]; exact h4
    have h5 : DataW.trod enc Tryz.prog w base sp held n 9 [v5] = some y5 := by have hh := congrArg (fun q => (cs.drop 5).take q) cSt; rw [← t5]; rw [← hh]; exact h5
    have h6 : DataW.trod enc Tryz.prog w base sp held n 24 [v6] = some y6 := by have hh := congrArg (fun q => (cs.drop 6).take q) cVs; rw [← t6]; rw [← hh]; exact h6
    have h7 : DataW.trod enc Tryz.prog w base sp held n 25 [v7] = some y7 := by have hh := congrArg (fun q => (cs.drop 7).take q) cMs; rw [← t7]; rw [← hh]; exact h7
    obtain ⟨k, q0, _⟩ := DataW.trod_int Tryz.underlying22 h0
    obtain ⟨b, q1, _⟩ := DataW.trod_bool Tryz.underlying4 h1
    obtain ⟨i, q2, _, wi⟩ := DataW.trod_int Tryz.underlying2 h2
    obtain ⟨f, q3, wf⟩ := trod_flt Tryz.underlying23 h3
    obtain ⟨t, q4, rfl, wt4⟩ := DataW.trod_string Tryz.underlying9 h4
    obtain ⟨y, q5, rfl, wt5⟩ := DataW.trod_string Tryz.underlying9 h5
    have hsum := four_le b4 b5 b6 b7
    simp only [Rows.uptoBulk] at hsum
    have e4 := Lib.size_eq t
    have e5 := Lib.size_eq y
    have p6 := bulks.one_le y6.1
    have p7 := bulks.one_le y7.1
    obtain ⟨A, c, is, q6, hA, hwA, _, hisA⟩ := slice_of 8 (by omega) Tryz.underlying24 cV (fun v ds => IsV w (Low w) v ds ∧ ok v) wts wt (by simp [wts]) (fun l x => by rw [wts_append]; simp [wts]) h6 (fun n ds y hy ht => ih n ds y (by omega) (by omega) ht)
    obtain ⟨A', c', fs, q7, hA', hwA', _, hfsA⟩ := slice_of 9 (by omega) Tryz.underlying25 cM (fun (p : ByteArray × V) ds => (∃ es, ds = .string p.1 :: es ∧ IsV w (Low w) p.2 es) ∧ p.1.size ≤ 1048576 ∧ ok p.2) wtf (fun p => p.1.size + wt p.2) (by simp [wtf]) (fun l x => by rw [wtf_append]; simp [wtf]) h7 (fun n ds y hy ht => by
      obtain ⟨zs, m, hb', hl', hall'⟩ := fields Tryz.underlying41 ht
      rw [cM] at hl'
      obtain ⟨z0, c0, k0⟩ := hall' 0 _ rfl
      obtain ⟨z1, c1, k1⟩ := hall' 1 _ rfl
      obtain ⟨u0, g0, r0⟩ := drop1 (i := 0) hl' (by omega)
      have k0 : DataW.trod enc Tryz.prog w base sp held m 9 [u0] = some z0 := by have hh := congrArg (fun q => (ds.drop 0).take q) cSt; rw [← r0]; rw [← hh]; exact k0
      obtain ⟨s, q8, rfl, _⟩ := DataW.trod_string Tryz.underlying9 k0
      have hz := two_le (by omega : 0 < 1) c0 c1
      simp only [Rows.uptoBulk] at hz
      have e8 := Lib.size_eq s
      obtain ⟨v, ⟨hv, hvo⟩, hvs⟩ := ih m _ z1 (by omega) (by omega) k1
      refine ⟨(s, v), ⟨⟨_, ?_, hv⟩, by simp only; omega, hvo⟩, by simp only; omega⟩
      obtain rfl : u0 = .string s := by simpa using q8
      show ds = .string s :: (ds.drop 1).take (Tryz.prog.cellsOf 27)
      have h9 : (ds.drop 1).take (Tryz.prog.cellsOf 27) = ds.drop 1 := (by rw [cV]; exact List.take_of_length_le (by simp; omega))
      rw [h9]
      have h10 := List.drop_eq_getElem_cons (l := ds) (i := 0) (by omega)
      simp only [List.drop_zero] at h10
      have h11 : ds[0]'(by omega) = .string s := by
        rw [List.getElem?_eq_getElem (by omega)] at g0
        injection g0
      rw [h11] at h10
      exact h10)
    have wfi : -9223372036854775808 ≤ i ∧ i ≤ 9223372036854775807 := by
      have h := wi
      simp only [Lit.wf, Bool.and_eq_true, decide_eq_true_eq] at h
      rw [show IntKind.i64.min = -9223372036854775808 by decide, show IntKind.i64.max = 9223372036854775807 by decide] at h
      exact h
    have wff : f < 18446744073709551616 := by simpa [Lit.wf] using wf
    have hos : oks is := oks_of fun x hx => by
      obtain ⟨j, hj⟩ := List.mem_iff_getElem?.1 hx
      obtain ⟨ad, ds, a1, a2, a3, a4⟩ := hisA j x hj
      exact a4.2
    have hof : okf fs := okf_of fun x hx => by
      obtain ⟨j, hj⟩ := List.mem_iff_getElem?.1 hx
      obtain ⟨ad, ds, a1, a2, a3, a4⟩ := hfsA j x hj
      exact a4.2
    refine ⟨.mk k b i f t y is fs, ⟨?_, by simp only [ok]; exact ⟨⟨wfi.1, wfi.2, wff, by omega, by omega⟩, hos, hof⟩⟩, by simp only [wt]; omega⟩
    obtain rfl : v0 = _ := by simpa using q0
    obtain rfl : v1 = _ := by simpa using q1
    obtain rfl : v2 = _ := by simpa using q2
    obtain rfl : v3 = _ := by simpa using q3
    obtain rfl : v4 = _ := by simpa using q4
    obtain rfl : v5 = _ := by simpa using q5
    obtain rfl : v6 = _ := by simpa using q6
    obtain rfl : v7 = _ := by simpa using q7
    simp only [IsV]
    refine ⟨A, c, A', c', list8 hl e0 e1 e2 e3 e4 e5 e6 e7, hA, hA', IsVs.of fun j v hv => ?_, IsFs.of fun j p hp => ?_⟩
    · obtain ⟨ad, ds, a1, a2, a3, a4, _⟩ := hisA j v hv
      rw [Nat.zero_add]
      exact ⟨ad, ds, a1, a2, a3, a4⟩
    · obtain ⟨ad, ds, a1, a2, a3, ⟨es, rfl, a4⟩, _⟩ := hfsA j p hp
      rw [Nat.zero_add]
      exact ⟨ad, es, a1, a2, a3, a4⟩

theorem values_of {fuel : Nat} {v : Value} {x : DataW H × List MemPlace} (hM : Rows.uptoBulk x.1 ≤ 1048576) (h : DataW.trod enc Tryz.prog w base sp held fuel 24 [v] = some x) :
    ∃ (A : Option Addr) (c : Nat) (l : List V), v = .slice A l.length c ∧ (A = none → l.length = 0) ∧ IsVs w (Low w) l A 0 ∧ oks l ∧ wts l + 1 ≤ Rows.uptoBulk x.1 := by
  obtain ⟨A, c, l, hv, hA, hb, _, hel⟩ := slice_of 8 (by omega) Tryz.underlying24 cV (fun v ds => IsV w (Low w) v ds ∧ ok v) wts wt (by simp [wts]) (fun l x => by rw [wts_append]; simp [wts]) h (fun n ds y hy ht => value_of _ n ds y (Nat.le_refl _) (by omega) ht)
  refine ⟨A, c, l, by simpa using hv, hA, IsVs.of fun j v hv => ?_, oks_of fun x hx => ?_, hb⟩
  · obtain ⟨ad, ds, a1, a2, a3, a4, _⟩ := hel j v hv
    rw [Nat.zero_add]
    exact ⟨ad, ds, a1, a2, a3, a4⟩
  · obtain ⟨j, hj⟩ := List.mem_iff_getElem?.1 hx
    obtain ⟨ad, ds, a1, a2, a3, a4⟩ := hel j x hj
    exact a4.2
end
end Go.Proofs.YtagghdehbkbemaaGreatDoor.val
