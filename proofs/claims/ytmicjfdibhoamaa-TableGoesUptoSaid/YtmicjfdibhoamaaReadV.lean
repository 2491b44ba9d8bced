/- From the form's readings to trees of values, calls, entries. -/
import Derived.Test.YtmicjfdibhoamaaRead
import Derived.Test.YtmicjfdibhoamaaOut
import Derived.Test.YtmicjfdibhoamaaProg
import Derived.ChangeArms
import Derived.KernelRfl
namespace Go.Proofs.Ytmicjfdibhoamaa.val
open Go.ChangeShapes Go.WideShapes Go.Deep Go.RowKit mem

theorem szs_append (l r : List V) : szs (l ++ r) = szs l + szs r := by
  induction l with
  | nil => simp [szs]
  | cons x l ih => simp only [List.cons_append, szs, ih]; omega
theorem szf_append (l r : List (ByteArray × V)) : szf (l ++ r) = szf l + szf r := by
  induction l with
  | nil => simp [szf]
  | cons x l ih => obtain ⟨s, x⟩ := x; simp only [List.cons_append, szf, ih]; omega
theorem szE_app (l r : List (C × O)) : szE (l ++ r) = szE l + szE r := by
  induction l with
  | nil => simp [szE]
  | cons x l ih => simp only [List.cons_append, szE, ih]; omega

/-- a list chosen place by place, with a weight that adds up -/
theorem list_of {α H : Type} (n : Nat) (Q : Nat → α → Prop) (wt : List α → Nat) (w1 : α → Nat) (hw0 : wt [] = 0) (hw : ∀ l x, wt (l ++ [x]) = wt l + w1 x) (D : Nat → DataW H) (h : ∀ i, i < n → ∃ x, Q i x ∧ w1 x ≤ Rows.uptoBulk (D i)) :
    ∃ l : List α, l.length = n ∧ (∀ i x, l[i]? = some x → Q i x) ∧ wt l ≤ Rows.uptoBulkAll ((List.range n).map D) := by
  induction n with
  | zero => exact ⟨[], rfl, fun i x h => by simp at h, by simp [hw0]⟩
  | succ n ih =>
    obtain ⟨l, h1, h2, h3⟩ := ih (fun i hi => h i (by omega))
    obtain ⟨x, hx, hb⟩ := h n (by omega)
    refine ⟨l ++ [x], by simp [h1], fun i y hy => ?_, ?_⟩
    · by_cases hi : i < l.length
      · rw [List.getElem?_append_left hi] at hy
        exact h2 i y hy
      · rw [List.getElem?_append_right (by omega)] at hy
        have h0 : i - l.length = 0 := by
          have := (List.getElem?_eq_some_iff.1 hy).1
          simp at this
          omega
        rw [h0] at hy
        simp at hy
        subst hy
        rw [show i = n by omega]
        exact hx
    · rw [hw, List.range_succ, List.map_append, bulks.append]
      simp only [List.map_cons, List.map_nil, Rows.uptoBulkAll]
      omega

section
variable {H : Type} {enc : TypeId × Value → H} {P : Program} {w : World} {base : Nat} {sp : Nat → Bool} {held : Bool}

theorem trod_flt {t : TypeId} {k : FloatKind} {fuel : Nat} {cs : List Value} {x : DataW H × List MemPlace} (ht : P.underlying t = some (.float k)) (h : DataW.trod enc P w base sp held fuel t cs = some x) : ∃ b, cs = [.float k b] ∧ (Lit.float k b).wf = true := by
  cases fuel with
  | zero => simp [DataW.trod] at h
  | succ n =>
    unfold DataW.trod at h
    rw [ht] at h
    split at h <;> simp_all

theorem two_le {l : List (DataW H)} {i j : Nat} {a b : DataW H} (hij : i < j) (ha : l[i]? = some a) (hb : l[j]? = some b) : Rows.uptoBulk a + Rows.uptoBulk b ≤ Rows.uptoBulkAll l := by
  induction l generalizing i j with
  | nil => simp at ha
  | cons x r ih =>
    simp only [Rows.uptoBulkAll]
    cases j with
    | zero => omega
    | succ j =>
      cases i with
      | zero =>
        simp at ha hb
        subst ha
        have := bulks.part_le (List.mem_of_getElem? hb)
        omega
      | succ i =>
        have := ih (i := i) (j := j) (by omega) (by simpa using ha) (by simpa using hb)
        omega
theorem one_part {l : List (DataW H)} {i : Nat} {a : DataW H} (ha : l[i]? = some a) : Rows.uptoBulk a ≤ Rows.uptoBulkAll l := bulks.part_le (List.mem_of_getElem? ha)

/-- the fields of a struct -/
theorem fields {t : TypeId} {fs : Array Field} {fuel : Nat} {cs : List Value} {x : DataW H × List MemPlace} (ht : P.underlying t = some (.struct fs)) (h : DataW.trod enc P w base sp held fuel t cs = some x) :
    ∃ (ys : List (DataW H)) (n : Nat), Rows.uptoBulk x.1 = Rows.uptoBulkAll ys + 1 ∧ cs.length = P.cellsOf t ∧
      ∀ (i : Nat) (f : Field), fs[i]? = some f → ∃ y : DataW H × List MemPlace, ys[i]? = some y.1 ∧ DataW.trod enc P w base sp held n f.type ((cs.drop f.offset).take (P.cellsOf f.type)) = some y := by
  obtain ⟨xs, n, _, rfl, hl, hxl, hall⟩ := DataW.trod_struct ht h
  refine ⟨xs.map (·.1), n, by simp [Rows.uptoBulk], hl, fun i f hf => ?_⟩
  have hi : i < xs.length := by rw [hxl]; exact (Array.getElem?_eq_some_iff.1 hf).1
  have h1 := hall i f hf
  rw [List.getElem?_eq_getElem hi] at h1
  exact ⟨xs[i], by simp [hi], h1⟩

theorem cellsAt_of {a : Addr} {n : Nat} {cs : List Value} (h : w.cells? base a n = some cs) : cs.length = n ∧ CellsAt w a cs ∧ (0 < n → a.block < w.heap.size) := by
  obtain ⟨_, hcl, hat⟩ := World.cells?_some h
  have h1 : CellsAt w a cs := fun o u hu => by
    have ho : o < n := by rw [← hcl]; exact (List.getElem?_eq_some_iff.1 hu).1
    exact (hat o ho).trans hu
  refine ⟨hcl, h1, fun hn => ?_⟩
  have h2 := h1 0 _ (List.getElem?_eq_getElem (by omega))
  have h3 := World.block_lt_of_cell? w _ h2
  rwa [add_block] at h3

/-- a slice of records -/
theorem slice_of {α : Type} {t e : TypeId} {fuel : Nat} {cs : List Value} {x : DataW H × List MemPlace} (size : Nat) (hsz : 0 < size) (ht : P.underlying t = some (.slice e)) (hc : P.cellsOf e = size) (R : α → List Value → Prop) (wt : List α → Nat) (w1 : α → Nat) (hw0 : wt [] = 0) (hw : ∀ l x, wt (l ++ [x]) = wt l + w1 x)
    (h : DataW.trod enc P w base sp held fuel t cs = some x)
    (hel : ∀ (n : Nat) (ds : List Value) (y : DataW H × List MemPlace), Rows.uptoBulk y.1 < Rows.uptoBulk x.1 → DataW.trod enc P w base sp held n e ds = some y → ∃ v, R v ds ∧ w1 v ≤ Rows.uptoBulk y.1) :
    ∃ (A : Option Addr) (c : Nat) (l : List α), cs = [.slice A l.length c] ∧ (A = none → l.length = 0) ∧ wt l + 1 ≤ Rows.uptoBulk x.1 ∧ l.length + 1 ≤ Rows.uptoBulk x.1 ∧
      ∀ (i : Nat) (v : α), l[i]? = some v → ∃ (ad : Addr) (ds : List Value), A = some ad ∧ ad.block < w.heap.size ∧ CellsAt w (ad.add (i * size)) ds ∧ R v ds := by
  rcases open_slice ht h with ⟨rfl, rfl⟩ | ⟨a, len, cap, m, n, D, Pl, rfl, _, hl, hm, hmm, rfl, hall⟩
  · exact ⟨none, 0, [], rfl, fun _ => rfl, by rw [hw0]; simp [Rows.uptoBulk], by simp [Rows.uptoBulk], fun i v h => by simp at h⟩
  · have hml : len ≤ m := by rw [hmm]; split <;> omega
    have hb := bulks.slice_elems (H := H) (List.map D (List.range len)) (List.map (fun j => D (len + j)) (List.range (m - len)))
    have hb2 := bulks.slice_le (H := H) (List.map D (List.range len)) (List.map (fun j => D (len + j)) (List.range (m - len)))
    simp only [List.length_map, List.length_range] at hb2
    obtain ⟨l, h1, h2, h3⟩ := list_of len (fun i v => ∃ ds, CellsAt w (a.add (i * size)) ds ∧ a.block < w.heap.size ∧ R v ds) wt w1 hw0 hw D (fun i hi => by
      obtain ⟨cs', hc', ht'⟩ := hall i (by omega)
      rw [hc] at hc'
      obtain ⟨hcl, hca, hbl⟩ := cellsAt_of hc'
      have hp := bulks.part_le (H := H) (d := D i) (l := List.map D (List.range len)) (List.mem_map.2 ⟨i, List.mem_range.2 hi, rfl⟩)
      obtain ⟨v, hv, hwv⟩ := hel n cs' _ (by show Rows.uptoBulk (D i) < Rows.uptoBulk (DataW.slice (List.map D (List.range len)) (List.map (fun j => D (len + j)) (List.range (m - len)))); omega) ht'
      have hbl' := hbl hsz
      rw [add_block] at hbl'
      exact ⟨v, ⟨cs', hca, hbl', hv⟩, hwv⟩)
    refine ⟨some a, cap, l, by rw [h1], (fun h => by cases h), (by show _ ≤ Rows.uptoBulk (DataW.slice (List.map D (List.range len)) (List.map (fun j => D (len + j)) (List.range (m - len)))); omega), (by show _ ≤ Rows.uptoBulk (DataW.slice (List.map D (List.range len)) (List.map (fun j => D (len + j)) (List.range (m - len)))); rw [h1]; omega), fun i v hv => ?_⟩
    obtain ⟨ds, q1, q2, q3⟩ := h2 i v hv
    exact ⟨a, ds, rfl, q2, q1, q3⟩
end

theorem cV : Try.prog.cellsOf 35 = 8 := by kernel_rfl
theorem cM : Try.prog.cellsOf 82 = 9 := by kernel_rfl
theorem cE : Try.prog.cellsOf 39 = 13 := by kernel_rfl
theorem cO : Try.prog.cellsOf 37 = 9 := by kernel_rfl
theorem cC : Try.prog.cellsOf 25 = 4 := by kernel_rfl
theorem cK : Try.prog.cellsOf 30 = 1 := by kernel_rfl
theorem cBo : Try.prog.cellsOf 4 = 1 := by kernel_rfl
theorem cI6 : Try.prog.cellsOf 2 = 1 := by kernel_rfl
theorem cF6 : Try.prog.cellsOf 31 = 1 := by kernel_rfl
theorem cSt : Try.prog.cellsOf 9 = 1 := by kernel_rfl
theorem cVs : Try.prog.cellsOf 32 = 1 := by kernel_rfl
theorem cMs : Try.prog.cellsOf 33 = 1 := by kernel_rfl

section
variable {H : Type} {enc : TypeId × Value → H} {w : World} {base : Nat} {sp : Nat → Bool} {held : Bool}
def Low (w : World) (b : Nat) : Prop := b < w.heap.size

theorem drop1 {cs : List Value} {i n : Nat} (h : cs.length = n) (hi : i < n) : ∃ v, cs[i]? = some v ∧ (cs.drop i).take 1 = [v] := by
  have hi' : i < cs.length := by omega
  refine ⟨cs[i], List.getElem?_eq_getElem hi', ?_⟩
  rw [List.drop_eq_getElem_cons hi']
  rfl
theorem list8 {cs : List Value} {a b c d e f g h : Value} (hl : cs.length = 8) (h0 : cs[0]? = some a) (h1 : cs[1]? = some b) (h2 : cs[2]? = some c) (h3 : cs[3]? = some d) (h4 : cs[4]? = some e) (h5 : cs[5]? = some f) (h6 : cs[6]? = some g) (h7 : cs[7]? = some h) : cs = [a, b, c, d, e, f, g, h] := by
  match cs, hl with
  | [x0, x1, x2, x3, x4, x5, x6, x7], _ => simp at h0 h1 h2 h3 h4 h5 h6 h7; subst h0 h1 h2 h3 h4 h5 h6 h7; rfl

set_option maxRecDepth 100000 in
theorem value_of : ∀ (N fuel : Nat) (cs : List Value) (x : DataW H × List MemPlace), Rows.uptoBulk x.1 ≤ N → DataW.trod enc Try.prog w base sp held fuel 35 cs = some x →
    ∃ v, IsV w (Low w) v cs ∧ sz v ≤ Rows.uptoBulk x.1 := by
  intro N
  induction N with
  | zero => intro fuel cs x hN; have := bulks.one_le x.1; omega
  | succ N ih =>
    intro fuel cs x hN h
    obtain ⟨ys, n, hb, hl, hall⟩ := fields Try.underlying35 h
    rw [cV] at hl
    obtain ⟨v0, e0, t0⟩ := drop1 (i := 0) hl (by omega)
    obtain ⟨v1, e1, t1⟩ := drop1 (i := 1) hl (by omega)
    obtain ⟨v2, e2, t2⟩ := drop1 (i := 2) hl (by omega)
    obtain ⟨v3, e3, t3⟩ := drop1 (i := 3) hl (by omega)
    obtain ⟨v4, e4, t4⟩ := drop1 (i := 4) hl (by omega)
    obtain ⟨v5, e5, t5⟩ := drop1 (i := 5) hl (by omega)
    obtain ⟨v6, e6, t6⟩ := drop1 (i := 6) hl (by omega)
    obtain ⟨v7, e7, t7⟩ := drop1 (i := 7) hl (by omega)
    obtain ⟨y0, _, h0⟩ := hall 0 _ rfl
    obtain ⟨y1, _, h1⟩ := hall 1 _ rfl
    obtain ⟨y2, _, h2⟩ := hall 2 _ rfl
    obtain ⟨y3, _, h3⟩ := hall 3 _ rfl
    obtain ⟨y4, _, h4⟩ := hall 4 _ rfl
    obtain ⟨y5, _, h5⟩ := hall 5 _ rfl
    obtain ⟨y6, b6, h6⟩ := hall 6 _ rfl
    obtain ⟨y7, b7, h7⟩ := hall 7 _ rfl
    have h0 : DataW.trod enc Try.prog w base sp held n 30 [v0] = some y0 := by have hh := congrArg (fun q => (cs.drop 0).take q) cK; rw [← t0]; rw [← hh]; exact h0
    have h1 : DataW.trod enc Try.prog w base sp held n 4 [v1] = some y1 := by have hh := congrArg (fun q => (cs.drop 1).take q) cBo; rw [← t1]; rw [← hh]; exact h1
    have h2 : DataW.trod enc Try.prog w base sp held n 2 [v2] = some y2 := by have hh := congrArg (fun q => (cs.drop 2).take q) cI6; rw [← t2]; rw [← hh]; exact h2
    have h3 : DataW.trod enc Try.prog w base sp held n 31 [v3] = some y3 := by have hh := congrArg (fun q => (cs.drop 3).take q) cF6; rw [← t3]; rw [← hh]; exact h3
    have h4 : DataW.trod enc Try.prog w base sp held n 9 [v4] = some y4 := by have hh := congrArg (fun q => (cs.drop 4).take q) cSt; rw [← t4]; rw [← hh]; exact h4
    have h5 : DataW.trod enc Try.prog w base sp held n 9 [v5] = some y5 := by have hh := congrArg (fun q => (cs.drop 5).take q) cSt; rw [← t5]; rw [← hh]; exact h5
    have h6 : DataW.trod enc Try.prog w base sp held n 32 [v6] = some y6 := by have hh := congrArg (fun q => (cs.drop 6).take q) cVs; rw [← t6]; rw [← hh]; exact h6
    have h7 : DataW.trod enc Try.prog w base sp held n 33 [v7] = some y7 := by have hh := congrArg (fun q => (cs.drop 7).take q) cMs; rw [← t7]; rw [← hh]; exact h7
    obtain ⟨k, q0, _⟩ := DataW.trod_int Try.underlying30 h0
    obtain ⟨b, q1, _⟩ := DataW.trod_bool Try.underlying4 h1
    obtain ⟨i, q2, _⟩ := DataW.trod_int Try.underlying2 h2
    obtain ⟨f, q3, _⟩ := trod_flt Try.underlying31 h3
    obtain ⟨t, q4, _⟩ := DataW.trod_string Try.underlying9 h4
    obtain ⟨y, q5, _⟩ := DataW.trod_string Try.underlying9 h5
    have hsum := two_le (by omega : 6 < 7) b6 b7
    obtain ⟨A, c, is, q6, hA, hwA, _, hisA⟩ := slice_of 8 (by omega) Try.underlying32 cV (fun v ds => IsV w (Low w) v ds) szs sz (by simp [szs]) (fun l x => by rw [szs_append]; simp [szs]) h6 (fun n ds y hy ht => ih n ds y (by omega) ht)
    obtain ⟨A', c', fs, q7, hA', hwA', _, hfsA⟩ := slice_of 9 (by omega) Try.underlying33 cM (fun (p : ByteArray × V) ds => ∃ es, ds = .string p.1 :: es ∧ IsV w (Low w) p.2 es) szf (fun p => sz p.2) (by simp [szf]) (fun l x => by rw [szf_append]; simp [szf]) h7 (fun n ds y hy ht => by
      obtain ⟨zs, m, hb', hl', hall'⟩ := fields Try.underlying82 ht
      rw [cM] at hl'
      obtain ⟨z0, _, k0⟩ := hall' 0 _ rfl
      obtain ⟨z1, c1, k1⟩ := hall' 1 _ rfl
      obtain ⟨u0, g0, r0⟩ := drop1 (i := 0) hl' (by omega)
      have k0 : DataW.trod enc Try.prog w base sp held m 9 [u0] = some z0 := by have hh := congrArg (fun q => (ds.drop 0).take q) cSt; rw [← r0]; rw [← hh]; exact k0
      obtain ⟨s, q8, _⟩ := DataW.trod_string Try.underlying9 k0
      have hz := one_part c1
      obtain ⟨v, hv, hvs⟩ := ih m _ z1 (by omega) k1
      refine ⟨(s, v), ⟨_, ?_, hv⟩, by simp only; omega⟩
      obtain rfl : u0 = .string s := by simpa using q8
      show ds = .string s :: (ds.drop 1).take (Try.prog.cellsOf 35)
      have h9 : (ds.drop 1).take (Try.prog.cellsOf 35) = ds.drop 1 := (by rw [cV]; exact List.take_of_length_le (by simp; omega))
      rw [h9]
      have h10 := List.drop_eq_getElem_cons (l := ds) (i := 0) (by omega)
      simp only [List.drop_zero] at h10
      have h11 : ds[0]'(by omega) = .string s := by
        rw [List.getElem?_eq_getElem (by omega)] at g0
        injection g0
      rw [h11] at h10
      exact h10)
    refine ⟨.mk k b i f t y is fs, ?_, by simp only [sz]; omega⟩
    obtain rfl : v0 = _ := by simpa using q0
    obtain rfl : v1 = _ := by simpa using q1
    obtain rfl : v2 = _ := by simpa using q2
    obtain rfl : v3 = _ := by simpa using q3
    obtain rfl : v4 = _ := by simpa using q4
    obtain rfl : v5 = _ := by simpa using q5
    obtain rfl : v6 = _ := by simpa using q6
    obtain rfl : v7 = _ := by simpa using q7
    simp only [IsV]
    refine ⟨A, c, A', c', list8 hl e0 e1 e2 e3 e4 e5 e6 e7, hA, hA', IsVs.of fun j v hv => ?_, IsFs.of fun j p hp => ?_⟩
    · obtain ⟨ad, ds, a1, a2, a3, a4⟩ := hisA j v hv
      rw [Nat.zero_add]
      exact ⟨ad, ds, a1, a2, a3, a4⟩
    · obtain ⟨ad, ds, a1, a2, a3, es, rfl, a4⟩ := hfsA j p hp
      rw [Nat.zero_add]
      exact ⟨ad, es, a1, a2, a3, a4⟩

theorem call_of {fuel : Nat} {cs : List Value} {x : DataW H × List MemPlace} (h : DataW.trod enc Try.prog w base sp held fuel 25 cs = some x) : ∃ c : C, cs = c.cs ∧ c.ok := by
  obtain ⟨ys, n, hb, hl, hall⟩ := fields Try.underlying25 h
  rw [cC] at hl
  obtain ⟨v0, e0, t0⟩ := drop1 (i := 0) hl (by omega)
  obtain ⟨v1, e1, t1⟩ := drop1 (i := 1) hl (by omega)
  obtain ⟨v2, e2, t2⟩ := drop1 (i := 2) hl (by omega)
  obtain ⟨v3, e3, t3⟩ := drop1 (i := 3) hl (by omega)
  obtain ⟨y0, _, h0⟩ := hall 0 _ rfl
  obtain ⟨y1, _, h1⟩ := hall 1 _ rfl
  obtain ⟨y2, _, h2⟩ := hall 2 _ rfl
  obtain ⟨y3, _, h3⟩ := hall 3 _ rfl
  have h0 : DataW.trod enc Try.prog w base sp held n 9 [v0] = some y0 := by have hh := congrArg (fun q => (cs.drop 0).take q) cSt; rw [← t0]; rw [← hh]; exact h0
  have h1 : DataW.trod enc Try.prog w base sp held n 9 [v1] = some y1 := by have hh := congrArg (fun q => (cs.drop 1).take q) cSt; rw [← t1]; rw [← hh]; exact h1
  have h2 : DataW.trod enc Try.prog w base sp held n 9 [v2] = some y2 := by have hh := congrArg (fun q => (cs.drop 2).take q) cSt; rw [← t2]; rw [← hh]; exact h2
  have h3 : DataW.trod enc Try.prog w base sp held n 9 [v3] = some y3 := by have hh := congrArg (fun q => (cs.drop 3).take q) cSt; rw [← t3]; rw [← hh]; exact h3
  obtain ⟨p, q0, _, p0⟩ := DataW.trod_string Try.underlying9 h0
  obtain ⟨q, q1, _, p1⟩ := DataW.trod_string Try.underlying9 h1
  obtain ⟨f, q2, _, p2⟩ := DataW.trod_string Try.underlying9 h2
  obtain ⟨a, q3, _, p3⟩ := DataW.trod_string Try.underlying9 h3
  obtain rfl : v0 = _ := by simpa using q0
  obtain rfl : v1 = _ := by simpa using q1
  obtain rfl : v2 = _ := by simpa using q2
  obtain rfl : v3 = _ := by simpa using q3
  refine ⟨⟨p, q, f, a⟩, ?_, p0, p1, p2, p3⟩
  match cs, hl with
  | [x0, x1, x2, x3], _ => simp at e0 e1 e2 e3; subst e0 e1 e2 e3; rfl

theorem entry_of {fuel : Nat} {cs : List Value} {x : DataW H × List MemPlace} (h : DataW.trod enc Try.prog w base sp held fuel 39 cs = some x) : ∃ e : C × O, IsE w (Low w) e cs ∧ e.1.ok ∧ sz e.2.v ≤ Rows.uptoBulk x.1 := by
  obtain ⟨ys, n, hb, hl, hall⟩ := fields Try.underlying39 h
  rw [cE] at hl
  obtain ⟨y0, _, h0⟩ := hall 0 _ rfl
  obtain ⟨y1, b1, h1⟩ := hall 1 _ rfl
  have h0 : DataW.trod enc Try.prog w base sp held n 25 ((cs.drop 0).take 4) = some y0 := by have hh := congrArg (fun q => (cs.drop 0).take q) cC; rw [← (hh : (cs.drop 0).take (Try.prog.cellsOf 25) = (cs.drop 0).take 4)]; exact h0
  have h1 : DataW.trod enc Try.prog w base sp held n 37 ((cs.drop 4).take 9) = some y1 := by have hh := congrArg (fun q => (cs.drop 4).take q) cO; rw [← (hh : (cs.drop 4).take (Try.prog.cellsOf 37) = (cs.drop 4).take 9)]; exact h1
  obtain ⟨c, hc, hok⟩ := call_of h0
  obtain ⟨zs, m, hb', hl', hall'⟩ := fields Try.underlying37 h1
  rw [cO] at hl'
  obtain ⟨z0, _, k0⟩ := hall' 0 _ rfl
  obtain ⟨z1, c1, k1⟩ := hall' 1 _ rfl
  obtain ⟨u0, g0, r0⟩ := drop1 (i := 0) hl' (by omega)
  have k0 : DataW.trod enc Try.prog w base sp held m 4 [u0] = some z0 := by have hh := congrArg (fun q => ((List.take 9 (List.drop 4 cs)).drop 0).take q) cBo; rw [← r0]; rw [← hh]; exact k0
  obtain ⟨b, q8, _⟩ := DataW.trod_bool Try.underlying4 k0
  obtain rfl : u0 = .bool b := by simpa using q8
  have h12 := one_part b1
  have h13 := one_part c1
  obtain ⟨v, hv, hvs⟩ := value_of (w := w) _ m _ z1 (Nat.le_refl _) k1
  have k2 : DataW.trod enc Try.prog w base sp held m 35 (((List.take 9 (List.drop 4 cs)).drop 1).take (Try.prog.cellsOf 35)) = some z1 := k1
  rw [cV] at k2
  clear hv hvs v
  obtain ⟨v, hv, hvs⟩ := value_of (w := w) _ m _ z1 (Nat.le_refl _) k2
  refine ⟨(c, ⟨b, v⟩), ⟨_, ?_, hv⟩, hok, by simp only; omega⟩
  obtain ⟨p, q, f, a⟩ := c
  match cs, hl with
  | [x0, x1, x2, x3, x4, x5, x6, x7, x8, x9, x10, x11, x12], _ =>
    simp [C.cs] at hc g0
    obtain ⟨rfl, rfl, rfl, rfl⟩ := hc
    subst g0
    rfl
theorem entries_of {fuel : Nat} {v : Value} {x : DataW H × List MemPlace} (h : DataW.trod enc Try.prog w base sp held fuel 22 [v] = some x) :
    ∃ (A : Option Addr) (c : Nat) (es : List (C × O)), v = .slice A es.length c ∧ (A = none → es.length = 0) ∧ LAt 13 IsE w (Low w) es A ∧ (∀ e ∈ es, e.1.ok) ∧ szE es + 1 ≤ Rows.uptoBulk x.1 := by
  obtain ⟨A, c, es, hv, hA, hb, _, hel⟩ := slice_of 13 (by omega) Try.underlying22 cE (fun (e : C × O) ds => IsE w (Low w) e ds ∧ e.1.ok) szE (fun e => sz e.2.v) (by simp [szE]) (fun l x => by rw [szE_app]; simp [szE]) h (fun n ds y hy ht => by
    obtain ⟨e, h1, h2, h3⟩ := entry_of ht
    exact ⟨e, ⟨h1, h2⟩, h3⟩)
  refine ⟨A, c, es, by simpa using hv, hA, fun i e he => ?_, fun e he => ?_, hb⟩
  · obtain ⟨ad, ds, h1, h2, h3, h4, _⟩ := hel i e he
    exact ⟨ad, ds, h1, h2, h3, h4⟩
  · obtain ⟨i, hi⟩ := List.getElem?_of_mem he
    obtain ⟨ad, ds, h1, h2, h3, _, h5⟩ := hel i e hi
    exact h5
theorem calls_of {fuel : Nat} {v : Value} {x : DataW H × List MemPlace} (h : DataW.trod enc Try.prog w base sp held fuel 23 [v] = some x) :
    ∃ (A : Option Addr) (c : Nat) (l : List C), v = .slice A l.length c ∧ (A = none → l.length = 0) ∧ LAt 4 IsC w (Low w) l A ∧ (∀ c ∈ l, c.ok) ∧ l.length + 1 ≤ Rows.uptoBulk x.1 := by
  obtain ⟨A, c, l, hv, hA, _, hb, hel⟩ := slice_of 4 (by omega) Try.underlying23 cC (fun (c : C) ds => ds = c.cs ∧ c.ok) (fun _ => 0) (fun _ => 0) rfl (fun l x => rfl) h (fun n ds y hy ht => by
    obtain ⟨c, h1, h2⟩ := call_of ht
    exact ⟨c, ⟨h1, h2⟩, Nat.zero_le _⟩)
  refine ⟨A, c, l, by simpa using hv, hA, fun i e he => ?_, fun e he => ?_, hb⟩
  · obtain ⟨ad, ds, h1, h2, h3, h4, _⟩ := hel i e he
    exact ⟨ad, ds, h1, h2, h3, h4⟩
  · obtain ⟨i, hi⟩ := List.getElem?_of_mem he
    obtain ⟨ad, ds, h1, h2, h3, _, h5⟩ := hel i e hi
    exact h5
end
end Go.Proofs.Ytmicjfdibhoamaa.val
