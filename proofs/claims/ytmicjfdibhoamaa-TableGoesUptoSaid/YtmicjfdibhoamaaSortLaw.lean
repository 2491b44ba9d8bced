/- Plain laws of the reference's table: an order on calls, merging, what comes first, a binary search. -/
import Derived.Test.YtmicjfdibhoamaaUsedLaw
import Derived.Test.YtmicjfdibhoamaaOutAt
namespace Go.Proofs.Ytmicjfdibhoamaa.val

theorem bl_irrefl : ∀ x : List UInt8, Op.bytesLess x x = false
  | [] => rfl
  | a :: x => by
    have := bl_irrefl x
    simp [Op.bytesLess, this]
theorem bl_trans : ∀ x y z : List UInt8, Op.bytesLess x y = true → Op.bytesLess y z = true → Op.bytesLess x z = true
  | x, [], z, h, _ => by cases x <;> simp [Op.bytesLess] at h
  | x, _ :: _, [], _, h => by simp [Op.bytesLess] at h
  | [], _ :: _, _ :: _, _, _ => rfl
  | a :: x, b :: y, c :: z, h1, h2 => by
    simp only [Op.bytesLess, Bool.or_eq_true, Bool.and_eq_true, decide_eq_true_eq, beq_iff_eq, UInt8.lt_iff_toNat_lt] at h1 h2 ⊢
    rcases h1 with h1 | ⟨rfl, h1⟩ <;> rcases h2 with h2 | ⟨rfl, h2⟩
    · exact .inl (by omega)
    · exact .inl h1
    · exact .inl h2
    · exact .inr ⟨rfl, bl_trans x y z h1 h2⟩
theorem bl_tri : ∀ x y : List UInt8, Op.bytesLess x y = false → Op.bytesLess y x = false → x = y
  | [], [], _, _ => rfl
  | [], _ :: _, h, _ => by simp [Op.bytesLess] at h
  | _ :: _, [], _, h => by simp [Op.bytesLess] at h
  | a :: x, b :: y, h1, h2 => by
    simp only [Op.bytesLess, Bool.or_eq_false_iff, Bool.and_eq_false_iff, decide_eq_false_iff_not, beq_eq_false_iff_ne, UInt8.lt_iff_toNat_lt] at h1 h2
    have hab : a = b := UInt8.toNat_inj.1 (by omega)
    subst hab
    have h3 := h1.2.resolve_left (fun h => h rfl)
    have h4 := h2.2.resolve_left (fun h => h rfl)
    rw [bl_tri x y h3 h4]

def ltC (a b : C) : Bool := if a.p.toList = b.p.toList then (if a.q.toList = b.q.toList then (if a.f.toList = b.f.toList then Op.bytesLess a.a.toList b.a.toList else Op.bytesLess a.f.toList b.f.toList) else Op.bytesLess a.q.toList b.q.toList) else Op.bytesLess a.p.toList b.p.toList
/-- the four texts, one behind another -/
def C.l (a : C) : List (List UInt8) := [a.p.toList, a.q.toList, a.f.toList, a.a.toList]
def ltL : List (List UInt8) → List (List UInt8) → Bool
  | a :: x, b :: y => if a = b then ltL x y else Op.bytesLess a b
  | _, _ => false
theorem ltC_eq (a b : C) : ltC a b = ltL a.l b.l := by
  unfold ltC C.l
  simp only [ltL]
  split
  · split
    · split
      · split
        · rename_i h
          rw [h, bl_irrefl]
        · rfl
      · rfl
    · rfl
  · rfl
theorem ltL_irrefl : ∀ x, ltL x x = false
  | [] => rfl
  | a :: x => by simp only [ltL, if_pos]; exact ltL_irrefl x
theorem ltL_trans : ∀ x y z, x.length = y.length → y.length = z.length → ltL x y = true → ltL y z = true → ltL x z = true
  | [], [], _, _, _, h, _ => by simp [ltL] at h
  | [], _ :: _, _, h, _, _, _ => by simp at h
  | _ :: _, [], _, h, _, _, _ => by simp at h
  | _ :: _, _ :: _, [], _, h, _, _ => by simp at h
  | a :: x, b :: y, c :: z, h1, h2, h3, h4 => by
    simp only [ltL] at h3 h4 ⊢
    by_cases hab : a = b
    · subst hab
      rw [if_pos rfl] at h3
      by_cases hbc : a = c
      · subst hbc
        rw [if_pos rfl] at h4 ⊢
        exact ltL_trans x y z (by simpa using h1) (by simpa using h2) h3 h4
      · rw [if_neg hbc] at h4 ⊢
        exact h4
    · rw [if_neg hab] at h3
      by_cases hbc : b = c
      · subst hbc
        rw [if_neg hab]
        exact h3
      · rw [if_neg hbc] at h4
        have h5 := bl_trans a b c h3 h4
        have hac : a ≠ c := fun e => by rw [e, bl_irrefl] at h5; cases h5
        rw [if_neg hac]
        exact h5
theorem ltL_tri : ∀ x y, x.length = y.length → ltL x y = false → ltL y x = false → x = y
  | [], [], _, _, _ => rfl
  | [], _ :: _, h, _, _ => by simp at h
  | _ :: _, [], h, _, _ => by simp at h
  | a :: x, b :: y, h, h1, h2 => by
    simp only [ltL] at h1 h2
    by_cases hab : a = b
    · subst hab
      rw [if_pos rfl] at h1 h2
      rw [ltL_tri x y (by simpa using h) h1 h2]
    · rw [if_neg hab] at h1
      rw [if_neg (fun e => hab e.symm)] at h2
      exact absurd (bl_tri a b h1 h2) hab
theorem ltC_irrefl (a : C) : ltC a a = false := by rw [ltC_eq]; exact ltL_irrefl _
theorem ltC_trans {a b c : C} (h1 : ltC a b = true) (h2 : ltC b c = true) : ltC a c = true := by
  rw [ltC_eq] at h1 h2 ⊢
  exact ltL_trans a.l b.l c.l rfl rfl h1 h2
theorem ltC_tri {a b : C} (h1 : ltC a b = false) (h2 : ltC b a = false) : a = b := by
  rw [ltC_eq] at h1 h2
  have := ltL_tri a.l b.l rfl h1 h2
  obtain ⟨p, q, f, x⟩ := a
  obtain ⟨p', q', f', x'⟩ := b
  simp only [C.l, List.cons.injEq, and_true] at this
  rw [toList_inj this.1, toList_inj this.2.1, toList_inj this.2.2.1, toList_inj this.2.2.2]

/-- number i stands ahead of number j -/
def Bef (k : Nat → C) (i j : Nat) : Prop := ltC (k i) (k j) = true ∨ (k i = k j ∧ i < j)
theorem Bef.trans {k : Nat → C} {i j l : Nat} (h1 : Bef k i j) (h2 : Bef k j l) : Bef k i l := by
  rcases h1 with h1 | ⟨h1, h1'⟩ <;> rcases h2 with h2 | ⟨h2, h2'⟩
  · exact .inl (ltC_trans h1 h2)
  · exact .inl (by rw [← h2]; exact h1)
  · exact .inl (by rw [h1]; exact h2)
  · exact .inr ⟨h1.trans h2, by omega⟩
theorem Bef.irrefl {k : Nat → C} {i : Nat} (h : Bef k i i) : False := by
  rcases h with h | ⟨_, h⟩
  · rw [ltC_irrefl] at h
    cases h
  · omega
/-- a list of numbers in that order, of just these -/
def InOrder (k : Nat → C) (l : List Nat) (lo hi : Nat) : Prop := l.Pairwise (Bef k) ∧ (∀ i, i ∈ l ↔ lo ≤ i ∧ i < hi) ∧ l.length = hi - lo
/-- merging, so far -/
def Merged (k : Nat → C) (a b : List Nat) (i j : Nat) (out : List Nat) : Prop := out.Pairwise (Bef k) ∧ (∀ x, x ∈ out ↔ x ∈ a.take i ∨ x ∈ b.take j) ∧ out.length = i + j ∧
  (∀ x ∈ out, ∀ y ∈ a.drop i, Bef k x y) ∧ (∀ x ∈ out, ∀ y ∈ b.drop j, Bef k x y)
theorem merged_nil (k : Nat → C) (a b : List Nat) : Merged k a b 0 0 [] := ⟨List.Pairwise.nil, by simp, rfl, by simp, by simp⟩
theorem pw_drop {k : Nat → C} {a : List Nat} (h : a.Pairwise (Bef k)) {i : Nat} (hi : i < a.length) : ∀ y ∈ a.drop (i + 1), Bef k a[i] y := by
  have h1 : (a.drop i).Pairwise (Bef k) := h.sublist (List.drop_sublist _ _)
  rw [List.drop_eq_getElem_cons hi] at h1
  exact (List.pairwise_cons.1 h1).1
theorem snoc_pw {k : Nat → C} {l : List Nat} {x : Nat} (h : l.Pairwise (Bef k)) (hx : ∀ y ∈ l, Bef k y x) : (l ++ [x]).Pairwise (Bef k) := by
  rw [List.pairwise_append]
  exact ⟨h, List.pairwise_singleton _ _, fun y hy z hz => by simp at hz; subst hz; exact hx y hy⟩
theorem Merged.left {k : Nat → C} {a b : List Nat} {i j : Nat} {out : List Nat} (h : Merged k a b i j out) (ha : a.Pairwise (Bef k)) (hb : b.Pairwise (Bef k)) (hi : i < a.length)
    (hc : ∀ hj : j < b.length, ltC (k b[j]) (k a[i]) = false ∧ a[i] < b[j]) : Merged k a b (i + 1) j (out ++ [a[i]]) := by
  obtain ⟨h1, h2, h3, h4, h5⟩ := h
  have hm : a[i] ∈ a.drop i := by rw [List.drop_eq_getElem_cons hi]; exact List.mem_cons_self
  have hlt : ∀ y ∈ b.drop j, Bef k a[i] y := by
    intro y hy
    by_cases hj : j < b.length
    · obtain ⟨c1, c2⟩ := hc hj
      have hab : Bef k a[i] b[j] := by
        cases hl : ltC (k a[i]) (k b[j]) with
        | true => exact .inl hl
        | false => exact .inr ⟨ltC_tri hl c1, c2⟩
      rw [List.drop_eq_getElem_cons hj] at hy
      rcases List.mem_cons.1 hy with rfl | hy
      · exact hab
      · exact hab.trans (pw_drop hb hj y hy)
    · rw [List.drop_eq_nil_of_le (by omega)] at hy
      cases hy
  refine ⟨snoc_pw h1 (fun y hy => h4 y hy _ hm), fun x => ?_, by rw [List.length_append, h3]; simp; omega, fun x hx y hy => ?_, fun x hx y hy => ?_⟩
  · rw [List.mem_append, h2, List.take_succ_eq_append_getElem hi, List.mem_append]
    simp only [List.mem_singleton]
    constructor
    · rintro ((h | h) | h)
      · exact .inl (.inl h)
      · exact .inr h
      · exact .inl (.inr h)
    · rintro ((h | h) | h)
      · exact .inl (.inl h)
      · exact .inr h
      · exact .inl (.inr h)
  · rcases List.mem_append.1 hx with hx | hx
    · exact h4 x hx y (by rw [List.drop_eq_getElem_cons hi]; exact List.mem_cons_of_mem _ hy)
    · simp at hx
      subst hx
      exact pw_drop ha hi y hy
  · rcases List.mem_append.1 hx with hx | hx
    · exact h5 x hx y hy
    · simp at hx
      subst hx
      exact hlt y hy
theorem Merged.right {k : Nat → C} {a b : List Nat} {i j : Nat} {out : List Nat} (h : Merged k a b i j out) (ha : a.Pairwise (Bef k)) (hb : b.Pairwise (Bef k)) (hj : j < b.length)
    (hc : ∀ hi : i < a.length, ltC (k b[j]) (k a[i]) = true) : Merged k a b i (j + 1) (out ++ [b[j]]) := by
  obtain ⟨h1, h2, h3, h4, h5⟩ := h
  have hm : b[j] ∈ b.drop j := by rw [List.drop_eq_getElem_cons hj]; exact List.mem_cons_self
  have hlt : ∀ y ∈ a.drop i, Bef k b[j] y := by
    intro y hy
    by_cases hi : i < a.length
    · have hab : Bef k b[j] a[i] := .inl (hc hi)
      rw [List.drop_eq_getElem_cons hi] at hy
      rcases List.mem_cons.1 hy with rfl | hy
      · exact hab
      · exact hab.trans (pw_drop ha hi y hy)
    · rw [List.drop_eq_nil_of_le (by omega)] at hy
      cases hy
  refine ⟨snoc_pw h1 (fun y hy => h5 y hy _ hm), fun x => ?_, by rw [List.length_append, h3]; simp; omega, fun x hx y hy => ?_, fun x hx y hy => ?_⟩
  · rw [List.mem_append, h2, List.take_succ_eq_append_getElem hj, List.mem_append]
    simp only [List.mem_singleton]
    constructor
    · rintro ((h | h) | h)
      · exact .inl h
      · exact .inr (.inl h)
      · exact .inr (.inr h)
    · rintro (h | h | h)
      · exact .inl (.inl h)
      · exact .inl (.inr h)
      · exact .inr h
  · rcases List.mem_append.1 hx with hx | hx
    · exact h4 x hx y hy
    · simp at hx
      subst hx
      exact hlt y hy
  · rcases List.mem_append.1 hx with hx | hx
    · exact h5 x hx y (by rw [List.drop_eq_getElem_cons hj]; exact List.mem_cons_of_mem _ hy)
    · simp at hx
      subst hx
      exact pw_drop hb hj y hy
theorem Merged.done {k : Nat → C} {a b : List Nat} {out : List Nat} {lo mid hi : Nat} (h : Merged k a b a.length b.length out) (ha : InOrder k a lo mid) (hb : InOrder k b mid hi) (h1 : lo ≤ mid) (h2 : mid ≤ hi) : InOrder k out lo hi := by
  obtain ⟨g1, g2, g3, _, _⟩ := h
  refine ⟨g1, fun i => ?_, by rw [g3, ha.2.2, hb.2.2]; omega⟩
  rw [g2, List.take_of_length_le (Nat.le_refl _), List.take_of_length_le (Nat.le_refl _), ha.2.1, hb.2.1]
  omega
theorem inOrder_nil (k : Nat → C) {lo hi : Nat} (h : hi ≤ lo) : InOrder k [] lo hi := ⟨List.Pairwise.nil, fun i => by simp; omega, by simp; omega⟩
theorem inOrder_one (k : Nat → C) (lo : Nat) : InOrder k [lo] lo (lo + 1) := ⟨List.pairwise_singleton _ _, fun i => by simp; omega, by simp⟩
theorem pw_get {k : Nat → C} {l : List Nat} (h : l.Pairwise (Bef k)) {p q : Nat} (hp : p < q) (hq : q < l.length) : Bef k (l[p]'(by omega)) l[q] := List.pairwise_iff_getElem.1 h p q (by omega) hq hp

/-- the number at place p has no like one ahead of it: just where the one before it in the order is another -/
theorem first_iff {k : Nat → C} {l : List Nat} {n : Nat} (h : InOrder k l 0 n) {p : Nat} (hp : p < l.length) :
    (p = 0 ∨ ∃ hq : p - 1 < l.length, k l[p - 1] ≠ k l[p]) ↔ ∀ j, j < l[p] → k j ≠ k l[p] := by
  have hln : l[p] < n := ((h.2.1 _).1 (List.getElem_mem hp)).2
  constructor
  · intro hh j hj e
    have hm : j ∈ l := (h.2.1 j).2 ⟨Nat.zero_le _, by omega⟩
    obtain ⟨q, hq, rfl⟩ := List.getElem_of_mem hm
    have hqp : q < p := by
      refine Classical.byContradiction fun hc => ?_
      by_cases hqp : q = p
      · subst hqp
        omega
      · have := pw_get h.1 (show p < q by omega) hq
        rcases this with h1 | ⟨_, h1⟩
        · rw [e, ltC_irrefl] at h1
          cases h1
        · omega
    rcases hh with rfl | ⟨hq1, hne⟩
    · omega
    · by_cases h1 : q = p - 1
      · subst h1
        exact hne e
      · have b1 := pw_get h.1 (show q < p - 1 by omega) hq1
        have b2 := pw_get h.1 (show p - 1 < p by omega) hp
        rcases b1 with b1 | ⟨b1, _⟩
        · rcases b2 with b2 | ⟨b2, _⟩
          · have := ltC_trans b1 b2
            rw [e, ltC_irrefl] at this
            cases this
          · exact hne b2
        · rw [← b1] at hne
          exact hne e
  · intro hh
    by_cases h0 : p = 0
    · exact .inl h0
    · refine .inr ⟨by omega, fun e => ?_⟩
      have b2 := pw_get h.1 (show p - 1 < p by omega) hp
      rcases b2 with b2 | ⟨_, b2⟩
      · rw [e, ltC_irrefl] at b2
        cases b2
      · exact hh _ b2 e

/-- a binary search for the first that is not ahead of c -/
def LB (k : Nat → C) (l : List Nat) (c : C) (lo hi : Nat) : Prop := lo ≤ hi ∧ hi ≤ l.length ∧ (∀ p (hp : p < l.length), p < lo → ltC (k l[p]) c = true) ∧ (∀ p (hp : p < l.length), hi ≤ p → ltC (k l[p]) c = false)
theorem lb_start (k : Nat → C) (l : List Nat) (c : C) : LB k l c 0 l.length := ⟨Nat.zero_le _, Nat.le_refl _, fun p hp h => by omega, fun p hp h => by omega⟩
theorem LB.up {k : Nat → C} {l : List Nat} {c : C} {lo hi m : Nat} (h : LB k l c lo hi) (hl : l.Pairwise (Bef k)) (h1 : lo ≤ m) (h2 : m < hi) (hm : m < l.length) (ht : ltC (k l[m]) c = true) : LB k l c (m + 1) hi := by
  refine ⟨by omega, h.2.1, fun p hp hpm => ?_, h.2.2.2⟩
  by_cases hpe : p = m
  · subst hpe
    exact ht
  · rcases pw_get hl (show p < m by omega) hm with b | ⟨b, _⟩
    · exact ltC_trans b ht
    · rw [b]
      exact ht
theorem LB.down {k : Nat → C} {l : List Nat} {c : C} {lo hi m : Nat} (h : LB k l c lo hi) (hl : l.Pairwise (Bef k)) (h1 : lo ≤ m) (h2 : m < hi) (hm : m < l.length) (ht : ltC (k l[m]) c = false) : LB k l c lo m := by
  refine ⟨h1, by omega, h.2.2.1, fun p hp hpm => ?_⟩
  by_cases hpe : p = m
  · subst hpe
    exact ht
  · cases hlt : ltC (k l[p]) c with
    | false => rfl
    | true =>
      rcases pw_get hl (show m < p by omega) hp with b | ⟨b, _⟩
      · rw [ltC_trans b hlt] at ht
        cases ht
      · rw [b, hlt] at ht
        cases ht
theorem LB.hit {k : Nat → C} {l : List Nat} {c : C} {lo n : Nat} (h : LB k l c lo lo) (hl : InOrder k l 0 n) (hp : lo < l.length) (hc : k l[lo] = c) : ∀ j, j < l[lo] → k j ≠ c := by
  rw [← hc]
  refine (first_iff hl hp).1 ?_
  by_cases h0 : lo = 0
  · exact .inl h0
  · refine .inr ⟨by omega, fun e => ?_⟩
    have := h.2.2.1 (lo - 1) (by omega) (by omega)
    rw [e, hc, ltC_irrefl] at this
    cases this
theorem LB.miss {k : Nat → C} {l : List Nat} {c : C} {lo n : Nat} (h : LB k l c lo lo) (hl : InOrder k l 0 n) (hc : ∀ hp : lo < l.length, k l[lo] ≠ c) : ∀ i, i < n → k i ≠ c := by
  intro i hi e
  obtain ⟨p, hp, rfl⟩ := List.getElem_of_mem ((hl.2.1 i).2 ⟨Nat.zero_le _, hi⟩)
  have h1 : lo ≤ p := by
    refine Classical.byContradiction fun hn => ?_
    have := h.2.2.1 p hp (by omega)
    rw [e, ltC_irrefl] at this
    cases this
  by_cases h2 : p = lo
  · subst h2
    exact hc hp e
  · have h3 := h.2.2.2 lo (by omega) (Nat.le_refl _)
    rcases pw_get hl.1 (show lo < p by omega) hp with b | ⟨b, _⟩
    · rw [e, h3] at b
      cases b
    · exact hc (by omega) (b.trans e)

/-- the key of a number -/
def keyAt (l : List C) (i : Nat) : C := l.getD i ⟨⟨#[]⟩, ⟨#[]⟩, ⟨#[]⟩, ⟨#[]⟩⟩
theorem keyAt_get {l : List C} {i : Nat} {c : C} (h : l[i]? = some c) : keyAt l i = c := by simp [keyAt, h]
/-- the number of the first such call, -1 where there is none -/
def rowAt : List C → C → Int
  | [], _ => -1
  | x :: r, c => if x = c then 0 else if rowAt r c < 0 then -1 else rowAt r c + 1
theorem rowAt_hit : ∀ {l : List C} {c : C} {i : Nat}, i < l.length → keyAt l i = c → (∀ j, j < i → keyAt l j ≠ c) → rowAt l c = (i : Int)
  | x :: r, c, 0, _, h, _ => by
    have : x = c := by simpa [keyAt] using h
    simp [rowAt, this]
  | x :: r, c, i + 1, hi, h, hn => by
    have h0 : x ≠ c := by simpa [keyAt] using hn 0 (by omega)
    have ih := rowAt_hit (l := r) (c := c) (i := i) (by simpa using hi) (by simpa [keyAt] using h) (fun j hj => by simpa [keyAt] using hn (j + 1) (by omega))
    simp only [rowAt, if_neg h0, ih]
    rw [if_neg (by omega)]
    omega
theorem rowAt_miss : ∀ {l : List C} {c : C}, (∀ i, i < l.length → keyAt l i ≠ c) → rowAt l c = -1
  | [], _, _ => rfl
  | x :: r, c, h => by
    have h0 : x ≠ c := by simpa [keyAt] using h 0 (by simp)
    have ih := rowAt_miss (l := r) (c := c) (fun i hi => by simpa [keyAt] using h (i + 1) (by simpa using hi))
    simp only [rowAt, if_neg h0, ih]
    rfl
theorem rowAt_neg {l : List C} {c : C} : rowAt l c < 0 ↔ c ∉ l := by
  induction l with
  | nil => simp [rowAt]
  | cons x r ih =>
    simp only [rowAt, List.mem_cons, not_or]
    by_cases h : x = c
    · rw [if_pos h]
      simp [h]
    · rw [if_neg h]
      by_cases h2 : rowAt r c < 0
      · rw [if_pos h2]
        exact ⟨fun _ => ⟨fun e => h e.symm, ih.1 h2⟩, fun _ => by omega⟩
      · rw [if_neg h2]
        exact ⟨fun h3 => by omega, fun h3 => absurd (ih.2 h3.2) h2⟩
end Go.Proofs.Ytmicjfdibhoamaa.val
