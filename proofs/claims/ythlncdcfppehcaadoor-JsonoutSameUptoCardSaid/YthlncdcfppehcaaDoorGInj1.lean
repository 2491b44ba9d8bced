/- PLAIN LEAN: unlike numbers have unlike texts. PLAIN LEAN: unlike floats have unlike texts; unlike strings have unlike texts. PLAIN LEAN: unlike values have unlike texts. PLAIN LEAN: a text tells its value, and where it ends. -/
import Derived.Test.YthlncdcfppehcaaDoorGFtx
import Derived.Test.YthlncdcfppehcaaDoorGUn
import Derived.Test.YthlncdcfppehcaaDoorGRow
section
namespace Go.Proofs.YthlncdcfppehcaaDoor.pg
open Go.RowKit mem fl big sh uw
set_option linter.unusedVariables false

def dv (L : List Nat) : Nat := L.foldl (fun a c => 10 * a + (c - 48)) 0
theorem dv_snoc (L : List Nat) (c : Nat) : dv (L ++ [c]) = 10 * dv L + (c - 48) := by simp [dv, List.foldl_append]
theorem dv_dgs (u : Nat) : dv (dgs u) = u := by
  induction u using Nat.strongRecOn with
  | _ u ih =>
    by_cases h : u < 10
    · rw [uw.dgs_small u h]
      simp [dv]
      omega
    · rw [uw.dgs_step u h, dv_snoc, ih (u / 10) (by omega)]
      omega
theorem dgs_ne (u : Nat) : dgs u ≠ [] := by
  intro h
  have := uw.dgs_length u
  rw [h] at this
  have h2 := Lib.nDigits_pos u
  simp at this
  omega
/-- a whole number out of its text -/
def zv : List Nat → Int
  | [] => 0
  | c :: l => if c = 45 then -(dv l : Int) else (dv (c :: l) : Int)
theorem zv_wtx (i : Int) : zv (wtx i) = i := by
  unfold wtx
  by_cases h : i < 0
  · rw [if_pos h]
    simp only [zv, if_pos]
    rw [dv_dgs]
    omega
  · rw [if_neg h]
    cases hd : dgs i.natAbs with
    | nil => exact absurd hd (dgs_ne _)
    | cons c l =>
      have hc := uw.dgs_bytes i.natAbs c (by rw [hd]; simp)
      simp only [zv]
      rw [if_neg (by omega), ← hd, dv_dgs]
      omega
theorem wtx_inj {i j : Int} (h : wtx i = wtx j) : i = j := by rw [← zv_wtx i, h, zv_wtx]
theorem wtx_mem (i : Int) : ∀ c ∈ wtx i, c = 45 ∨ 48 ≤ c ∧ c ≤ 57 := by
  intro c hc
  unfold wtx at hc
  split at hc
  · rcases List.mem_cons.1 hc with rfl | hc
    · exact .inl rfl
    · exact .inr (uw.dgs_bytes _ c hc)
  · exact .inr (uw.dgs_bytes _ c hc)
/-- digits, the first and the last no nought -/
structure Dg (L : List Nat) : Prop where
  dig : ∀ c ∈ L, 48 ≤ c ∧ c ≤ 57
  ne : L ≠ []
  hd : ∀ c, L.head? = some c → c ≠ 48
  lt : ∀ c, L.getLast? = some c → c ≠ 48
theorem dg_dgs (q : Nat) (hq : q % 10 ≠ 0) : Dg (dgs q) := by
  refine ⟨uw.dgs_bytes q, dgs_ne q, fun c hc => ?_, fun c hc => ?_⟩
  · obtain ⟨c0, L2, e, h1, _⟩ := dgs_head q (by omega)
    rw [e] at hc
    simp at hc
    omega
  · by_cases h : q < 10
    · rw [uw.dgs_small q h] at hc
      simp at hc
      omega
    · rw [uw.dgs_step q h] at hc
      simp at hc
      omega
def n46 (c : Nat) : Bool := c != 46
def n101 (c : Nat) : Bool := c != 101
def e48 (c : Nat) : Bool := c == 48
/-- digits and place out of a float's text -/
def inv (T : List Nat) : List Nat × Int :=
  if 101 ∈ T then ((T.takeWhile n101).filter n46, zv ((T.dropWhile n101).drop 1) + 1)
  else if T.head? = some 48 then ((T.drop 2).dropWhile e48, -((((T.drop 2).takeWhile e48).length : Nat) : Int))
  else if (T.dropWhile n46).drop 1 = [48] then (((T.takeWhile n46).reverse.dropWhile e48).reverse, ((T.takeWhile n46).length : Int))
  else (T.takeWhile n46 ++ (T.dropWhile n46).drop 1, ((T.takeWhile n46).length : Int))
theorem tw_all {p : Nat → Bool} {L : List Nat} (h : ∀ c ∈ L, p c = true) (x : Nat) (r : List Nat) (hx : p x = false) : (L ++ x :: r).takeWhile p = L ∧ (L ++ x :: r).dropWhile p = x :: r := by
  induction L with
  | nil => simp [hx]
  | cons c L ih =>
    have hc := h c (by simp)
    obtain ⟨h1, h2⟩ := ih (fun d hd => h d (by simp [hd]))
    simp [hc, h1, h2]
theorem dw_rep (L : List Nat) (n : Nat) (h : ∀ c, L.head? = some c → c ≠ 48) : (List.replicate n 48 ++ L).dropWhile e48 = L ∧ ((List.replicate n 48 ++ L).takeWhile e48).length = n := by
  induction n with
  | zero =>
    cases L with
    | nil => simp
    | cons c r =>
      have := h c rfl
      simp [e48, this]
  | succ n ih =>
    obtain ⟨h1, h2⟩ := ih
    rw [List.replicate_succ, List.cons_append]
    simp [e48]
    exact ⟨h1, h2⟩
theorem inv_lay {L : List Nat} (hL : Dg L) (p : Int) : inv (layT L p) = (L, p) := by
  have h46 : ∀ c ∈ L, n46 c = true := fun c hc => by have := hL.dig c hc; simp [n46]; omega
  have h101 : ∀ c ∈ L, n101 c = true := fun c hc => by have := hL.dig c hc; simp [n101]; omega
  have hm46 : 46 ∉ L := fun h => by have := hL.dig _ h; omega
  have hm101 : 101 ∉ L := fun h => by have := hL.dig _ h; omega
  obtain ⟨c0, L0, e0⟩ : ∃ c0 L0, L = c0 :: L0 := by
    cases L with
    | nil => exact absurd rfl hL.ne
    | cons c l => exact ⟨c, l, rfl⟩
  have hc0 : c0 ≠ 48 := hL.hd c0 (by rw [e0]; rfl)
  unfold layT
  by_cases f1 : 1 ≤ p ∧ p ≤ 21 ∧ (L.length : Int) ≤ p
  · rw [if_pos f1]
    obtain ⟨p1, p2, p3⟩ := f1
    have hno : 101 ∉ L ++ List.replicate (p.toNat - L.length) 48 ++ [46, 48] := by
      intro h
      rcases List.mem_append.1 h with h | h
      · rcases List.mem_append.1 h with h | h
        · exact hm101 h
        · have := List.eq_of_mem_replicate h
          omega
      · simp at h
    have hI : ∀ c ∈ L ++ List.replicate (p.toNat - L.length) 48, n46 c = true := fun c hc => by
      rcases List.mem_append.1 hc with hc | hc
      · exact h46 c hc
      · have := List.eq_of_mem_replicate hc
        subst this
        decide
    obtain ⟨t1, t2⟩ := tw_all hI 46 [48] (by decide)
    unfold inv
    rw [if_neg hno, if_neg (by rw [e0]; simp; exact hc0), t1, t2, if_pos (by simp)]
    rw [List.reverse_append, List.reverse_replicate]
    have := dw_rep L.reverse (p.toNat - L.length) (fun c hc => hL.lt c (by rw [List.head?_reverse] at hc; exact hc))
    rw [this.1, List.reverse_reverse]
    refine Prod.ext rfl ?_
    simp
    omega
  rw [if_neg f1]
  by_cases f2 : 1 ≤ p ∧ p ≤ 21
  · rw [if_pos f2]
    have hlt : p.toNat < L.length := by omega
    have hT : L.take p.toNat ++ [46] ++ L.drop p.toNat = L.take p.toNat ++ 46 :: L.drop p.toNat := by simp
    rw [hT]
    have hno : 101 ∉ L.take p.toNat ++ 46 :: L.drop p.toNat := by
      intro h
      rcases List.mem_append.1 h with h | h
      · exact hm101 (List.mem_of_mem_take h)
      · rcases List.mem_cons.1 h with h | h
        · cases h
        · exact hm101 (List.mem_of_mem_drop h)
    obtain ⟨t1, t2⟩ := tw_all (p := n46) (L := L.take p.toNat) (fun c hc => h46 c (List.mem_of_mem_take hc)) 46 (L.drop p.toNat) (by decide)
    unfold inv
    rw [if_neg hno, if_neg, t1, t2, if_neg, List.drop_succ_cons, List.drop_zero, List.take_append_drop, List.length_take]
    · refine Prod.ext rfl ?_
      show ((min p.toNat L.length : Nat) : Int) = p
      omega
    · rw [List.drop_succ_cons, List.drop_zero]
      intro h
      have hl := hL.lt 48 (by rw [← List.take_append_drop p.toNat L, h]; simp)
      exact hl rfl
    · obtain ⟨k, hk⟩ : ∃ k, p.toNat = k + 1 := ⟨p.toNat - 1, by omega⟩
      rw [hk, e0]
      simp
      exact hc0
  rw [if_neg f2]
  by_cases f3 : -5 ≤ p ∧ p ≤ 0
  · rw [if_pos f3]
    have hno : 101 ∉ [48, 46] ++ List.replicate (-p).toNat 48 ++ L := by
      intro h
      rcases List.mem_append.1 h with h | h
      · rcases List.mem_append.1 h with h | h
        · simp at h
        · have := List.eq_of_mem_replicate h
          omega
      · exact hm101 h
    unfold inv
    rw [if_neg hno, if_pos (by simp)]
    have hd : ([48, 46] ++ List.replicate (-p).toNat 48 ++ L).drop 2 = List.replicate (-p).toNat 48 ++ L := by simp
    rw [hd, (dw_rep L _ hL.hd).1, (dw_rep L _ hL.hd).2]
    refine Prod.ext rfl ?_
    show -(((-p).toNat : Nat) : Int) = p
    omega
  rw [if_neg f3]
  have hfil : ∀ M : List Nat, (∀ c ∈ M, n46 c = true) → M.filter n46 = M := fun M h => List.filter_eq_self.2 h
  by_cases f4 : 1 < L.length
  · rw [if_pos f4]
    have hT : L.take 1 ++ [46] ++ L.drop 1 ++ [101] ++ wtx (p - 1) = (L.take 1 ++ 46 :: L.drop 1) ++ 101 :: wtx (p - 1) := by simp
    rw [hT]
    have hM : ∀ c ∈ L.take 1 ++ 46 :: L.drop 1, n101 c = true := fun c hc => by
      rcases List.mem_append.1 hc with h | h
      · exact h101 c (List.mem_of_mem_take h)
      · rcases List.mem_cons.1 h with h | h
        · subst h; decide
        · exact h101 c (List.mem_of_mem_drop h)
    obtain ⟨t1, t2⟩ := tw_all hM 101 (wtx (p - 1)) (by decide)
    unfold inv
    rw [if_pos (by simp), t1, t2, List.drop_succ_cons, List.drop_zero, zv_wtx, List.filter_append, List.filter_cons, if_neg (by decide), hfil _ (fun c hc => h46 c (List.mem_of_mem_take hc)), hfil _ (fun c hc => h46 c (List.mem_of_mem_drop hc)), List.take_append_drop]
    refine Prod.ext rfl ?_
    show p - 1 + 1 = p
    omega
  · rw [if_neg f4]
    have hT : L ++ [101] ++ wtx (p - 1) = L ++ 101 :: wtx (p - 1) := by simp
    rw [hT]
    obtain ⟨t1, t2⟩ := tw_all h101 101 (wtx (p - 1)) (by decide)
    unfold inv
    rw [if_pos (by simp), t1, t2, List.drop_succ_cons, List.drop_zero, zv_wtx, hfil _ h46]
    refine Prod.ext rfl ?_
    show p - 1 + 1 = p
    omega
/-- a sign, a point or an exponent -/
theorem lay_mem {L : List Nat} (hL : Dg L) (p : Int) : (46 ∈ layT L p ∨ 101 ∈ layT L p) ∧ ∀ c ∈ layT L p, c = 45 ∨ c = 46 ∨ c = 101 ∨ 48 ≤ c ∧ c ≤ 57 := by
  have hd := fun c (hc : c ∈ L) => hL.dig c hc
  have hw := wtx_mem (p - 1)
  unfold layT
  split
  · refine ⟨.inl (by simp), fun c hc => ?_⟩
    simp at hc
    rcases hc with h | h | h | h
    · have := hd c h; omega
    · omega
    · omega
    · omega
  split
  · refine ⟨.inl (by simp), fun c hc => ?_⟩
    simp at hc
    rcases hc with h | h | h
    · have := hd c (List.mem_of_mem_take h); omega
    · omega
    · have := hd c (List.mem_of_mem_drop h); omega
  split
  · refine ⟨.inl (by simp), fun c hc => ?_⟩
    simp at hc
    rcases hc with h | h | h | h
    · omega
    · omega
    · omega
    · have := hd c h; omega
  split
  · refine ⟨.inl (by simp), fun c hc => ?_⟩
    rcases List.mem_append.1 hc with h | h
    · rcases List.mem_append.1 h with h | h
      · rcases List.mem_append.1 h with h | h
        · rcases List.mem_append.1 h with h | h
          · have := hd c (List.mem_of_mem_take h); omega
          · simp at h; omega
        · have := hd c (List.mem_of_mem_drop h); omega
      · simp at h; omega
    · have := hw c h; omega
  · refine ⟨.inr (by simp), fun c hc => ?_⟩
    rcases List.mem_append.1 hc with h | h
    · rcases List.mem_append.1 h with h | h
      · have := hd c h; omega
      · simp at h; omega
    · have := hw c h; omega
end Go.Proofs.YthlncdcfppehcaaDoor.pg
end
section
namespace Go.Proofs.YthlncdcfppehcaaDoor.pg
open Go.RowKit mem fl big sh uw
set_option linter.unusedVariables false

def sg (s : Bool) : List Nat := if s then [45] else []
/-- what a finite float's text is made of -/
def FSh (f : Nat) (L : List Nat) : Prop := ∃ (s : Bool) (a : Nat), f = a + sgn s ∧ a < 9218868437227405312 ∧
  ((a = 0 ∧ L = sg s ++ [48, 46, 48]) ∨ (0 < a ∧ ∃ (q : Nat) (y : Int), Cand a q y ∧ q % 10 ≠ 0 ∧ L = sg s ++ layT (dgs q) ((dgs q).length + y)))
theorem ftx_shape (f : Nat) (hf : f < 18446744073709551616) (hi : f % 9223372036854775808 < 9218868437227405312) (w : World) (h : NumAt w) : ∃ L, ftx f = strN L ∧ FSh f L := by
  obtain ⟨s, a, rfl, ha⟩ := half_of f hf
  have hm : (a + sgn s) % 9223372036854775808 = a := by cases s <;> simp [sgn] <;> omega
  rw [hm] at hi
  obtain ⟨e, w', _, hp, _⟩ := (text_any s a w ha h.pow (by have := h.lt; omega) h.tab) []
  have he := ((ftx_spec (a + sgn s)).1 s a rfl ha w e w' hp).1
  rcases hp.2 with ⟨h1, _⟩ | ⟨h1, e1⟩ | ⟨h1, h2, q, y, hC, hq, _, e1⟩
  · omega
  · rw [e1] at he
    injection he with he; injection he with he
    exact ⟨_, he.symm, s, a, rfl, hi, .inl ⟨h1, rfl⟩⟩
  · rw [e1] at he
    injection he with he; injection he with he
    exact ⟨_, he.symm, s, a, rfl, hi, .inr ⟨h1, q, y, hC, hq, rfl⟩⟩
theorem lay_head {L : List Nat} (hL : Dg L) (p : Int) : ∃ c T, layT L p = c :: T ∧ 48 ≤ c := by
  obtain ⟨c0, L0, e0⟩ : ∃ c0 L0, L = c0 :: L0 := by
    cases L with
    | nil => exact absurd rfl hL.ne
    | cons c l => exact ⟨c, l, rfl⟩
  have hc := (hL.dig c0 (by rw [e0]; simp)).1
  unfold layT
  split
  · exact ⟨c0, _, by rw [e0]; rfl, hc⟩
  split
  · rename_i h
    obtain ⟨k, hk⟩ : ∃ k, p.toNat = k + 1 := ⟨p.toNat - 1, by omega⟩
    exact ⟨c0, _, by rw [hk, e0]; rfl, hc⟩
  split
  · exact ⟨48, _, rfl, by omega⟩
  split
  · exact ⟨c0, _, by rw [e0]; rfl, hc⟩
  · exact ⟨c0, _, by rw [e0]; rfl, hc⟩
theorem fsh_mem {f : Nat} {L : List Nat} (h : FSh f L) : (46 ∈ L ∨ 101 ∈ L) ∧ (∀ c ∈ L, c = 45 ∨ c = 46 ∨ c = 101 ∨ 48 ≤ c ∧ c ≤ 57) ∧ L ≠ [] := by
  obtain ⟨s, a, rfl, ha, (⟨h1, rfl⟩ | ⟨h1, q, y, hC, hq, rfl⟩)⟩ := h
  · refine ⟨.inl (by simp), fun c hc => ?_, by simp⟩
    unfold sg at hc
    cases s <;> simp at hc <;> omega
  · obtain ⟨m1, m2⟩ := lay_mem (dg_dgs q hq) ((dgs q).length + y)
    obtain ⟨c0, T, e0, _⟩ := lay_head (dg_dgs q hq) ((dgs q).length + y)
    refine ⟨?_, fun c hc => ?_, by rw [e0]; simp⟩
    · rcases m1 with h | h
      · exact .inl (List.mem_append_right _ h)
      · exact .inr (List.mem_append_right _ h)
    · rcases List.mem_append.1 hc with h | h
      · unfold sg at h
        cases s <;> simp at h
        omega
      · exact m2 c h
theorem sg_body {s s' : Bool} {M M' : List Nat} (h : sg s ++ M = sg s' ++ M') (hM : ∃ c T, M = c :: T ∧ 48 ≤ c) (hM' : ∃ c T, M' = c :: T ∧ 48 ≤ c) : s = s' ∧ M = M' := by
  obtain ⟨c, T, e, hc⟩ := hM
  obtain ⟨c', T', e', hc'⟩ := hM'
  subst e e'
  unfold sg at h
  cases s <;> cases s' <;> simp at h
  · exact ⟨rfl, by rw [h.1, h.2]⟩
  · omega
  · omega
  · exact ⟨rfl, by rw [h.1, h.2]⟩
theorem fsh_inj {f g : Nat} {L : List Nat} (h : FSh f L) (k : FSh g L) : f = g := by
  obtain ⟨s, a, rfl, ha, h⟩ := h
  obtain ⟨s', a', rfl, ha', k⟩ := k
  rcases h with ⟨h1, h2⟩ | ⟨h1, q, y, hC, hq, h2⟩
  · rcases k with ⟨k1, k2⟩ | ⟨k1, q', y', hC', hq', k2⟩
    · rw [h2] at k2
      obtain ⟨rfl, _⟩ := sg_body k2 ⟨48, _, rfl, by omega⟩ ⟨48, _, rfl, by omega⟩
      rw [h1, k1]
    · exfalso
      rw [h2] at k2
      obtain ⟨_, e⟩ := sg_body k2 ⟨48, _, rfl, by omega⟩ (lay_head (dg_dgs q' hq') _)
      have hi := inv_lay (dg_dgs q' hq') ((dgs q').length + y')
      rw [← e, show inv [48, 46, 48] = ([], -1) by decide] at hi
      injection hi with hi _
      exact (dg_dgs q' hq').ne hi.symm
  · rcases k with ⟨k1, k2⟩ | ⟨k1, q', y', hC', hq', k2⟩
    · exfalso
      rw [h2] at k2
      obtain ⟨_, e⟩ := sg_body k2 (lay_head (dg_dgs q hq) _) ⟨48, _, rfl, by omega⟩
      have hi := inv_lay (dg_dgs q hq) ((dgs q).length + y)
      rw [e, show inv [48, 46, 48] = ([], -1) by decide] at hi
      injection hi with hi _
      exact (dg_dgs q hq).ne hi.symm
    · rw [h2] at k2
      obtain ⟨rfl, e⟩ := sg_body k2 (lay_head (dg_dgs q hq) _) (lay_head (dg_dgs q' hq') _)
      have hi := inv_lay (dg_dgs q hq) ((dgs q).length + y)
      rw [e, inv_lay (dg_dgs q' hq')] at hi
      injection hi with i1 i2
      have hqq : q' = q := by rw [← dv_dgs q', i1, dv_dgs]
      subst hqq
      have hyy : y' = y := by omega
      subst hyy
      have := Near.unique hC.2.1 hC'.2.1 (Nat.pow_pos (by decide))
      rw [this]
end Go.Proofs.YthlncdcfppehcaaDoor.pg
namespace Go.Proofs.YthlncdcfppehcaaDoor.txt
open Go.Lib
theorem frN_inj {n m : Nat} (hn : n < 7) (hm : m < 7) (h : (frN n : Int) = frN m) : n = m := by
  unfold frN at h
  repeat' split at h
  all_goals omega
theorem frN_ne (n : Nat) : (frN n : Int) ≠ 117 := by
  unfold frN
  repeat' split
  all_goals decide
theorem hexd_inj {n m : Nat} (hn : n < 16) (hm : m < 16) (h : hexd n = hexd m) : n = m := by
  unfold hexd at h
  split at h <;> split at h <;> omega
/-- the quote that closes is found in one way -/
theorem un_cancel {z o : List Int} (h : Un z o) : ∀ {z' o' r r' : List Int}, Un z' o' → z ++ 34 :: r = z' ++ 34 :: r' → z = z' ∧ o = o' ∧ r = r' := by
  induction h with
  | nil =>
    intro z' o' r r' h' e
    cases h' with
    | nil => simp at e; exact ⟨rfl, rfl, e⟩
    | byte x z o h1 h2 h3 h4 h => simp at e; omega
    | esc n z o h1 h => simp at e
    | sm r z o h1 h2 h3 h4 h5 h6 h => simp at e
  | byte x z o h1 h2 h3 h4 h ih =>
    intro z' o' r r' h' e
    cases h' with
    | nil => simp at e; omega
    | byte x' z' o' _ _ _ _ h' =>
      simp only [List.cons_append, List.cons.injEq] at e
      obtain ⟨e1, e2, e3⟩ := ih h' e.2
      rw [e.1, e1, e2]
      exact ⟨rfl, rfl, e3⟩
    | esc n z' o' _ h' => simp only [List.cons_append, List.cons.injEq] at e; omega
    | sm r z' o' _ _ _ _ _ _ h' => simp only [List.cons_append, List.cons.injEq] at e; omega
  | esc n z o h1 h ih =>
    intro z' o' r r' h' e
    cases h' with
    | nil => simp at e
    | byte x' z' o' _ _ _ _ h' => simp only [List.cons_append, List.cons.injEq] at e; omega
    | esc m z' o' hm h' =>
      simp only [List.cons_append, List.cons.injEq] at e
      obtain ⟨e1, e2, e3⟩ := ih h' e.2.2
      have := frN_inj h1 hm e.2.1
      rw [this, e1, e2]
      exact ⟨rfl, rfl, e3⟩
    | sm r z' o' _ _ _ _ _ _ h' => simp only [List.cons_append, List.cons.injEq] at e; exact absurd e.2.1 (frN_ne n)
  | sm q z o h1 h2 h3 h4 h5 h6 h ih =>
    intro z' o' r r' h' e
    cases h' with
    | nil => simp at e
    | byte x' z' o' _ _ _ _ h' => simp only [List.cons_append, List.cons.injEq] at e; omega
    | esc m z' o' hm h' => simp only [List.cons_append, List.cons.injEq] at e; exact absurd e.2.1.symm (frN_ne m)
    | sm q' z' o' k1 _ _ _ _ _ h' =>
      simp only [List.cons_append, List.cons.injEq] at e
      obtain ⟨_, _, _, _, e5, e6, e7⟩ := e
      obtain ⟨i1, i2, i3⟩ := ih h' e7
      have a1 := hexd_inj (by omega) (by omega) e5
      have a2 := hexd_inj (by omega) (by omega) e6
      have : q = q' := by omega
      rw [this, i1, i2]
      exact ⟨rfl, rfl, i3⟩
theorem ints_inj {l m : List UInt8} (h : ints l = ints m) : l = m := by
  unfold ints at h
  induction l generalizing m with
  | nil => cases m with
    | nil => rfl
    | cons x m => simp at h
  | cons x l ih => cases m with
    | nil => simp at h
    | cons y m =>
      simp only [List.map_cons, List.cons.injEq] at h
      rw [ih h.2, UInt8.toNat_inj.1 (by omega : x.toNat = y.toNat)]
theorem quote_cancel {s s' : ByteArray} (hs : validD s.data.toList = true) (hs' : validD s'.data.toList = true) {r r' : List Int} (h : quoteZ s.data.toList ++ r = quoteZ s'.data.toList ++ r') : s = s' ∧ r = r' := by
  unfold quoteZ at h
  simp only [List.cons_append, List.append_assoc, List.cons.injEq, true_and, List.nil_append] at h
  obtain ⟨_, h2, h3⟩ := un_cancel (un_enc _ _ (Nat.le_refl _) hs) (un_enc _ _ (Nat.le_refl _) hs') h
  exact ⟨ByteArray.ext (Array.toList_inj.1 (ints_inj h2)), h3⟩
end Go.Proofs.YthlncdcfppehcaaDoor.txt
end
section
namespace Go.Proofs.YthlncdcfppehcaaDoor.val
open Go.RowKit mem txt
set_option linter.unusedVariables false

theorem bz_strN {L : List Nat} (h : ∀ c ∈ L, c < 256) : bz (big.strN L) = L.map fun n : Nat => (n : Int) := by
  unfold bz
  rw [big.strN_list, List.map_map]
  refine List.map_congr_left fun c hc => ?_
  have := h c hc
  simp only [Function.comp]
  rw [UInt8.toNat_ofNat']
  omega
theorem il_inj {L M : List Nat} (h : L.map (fun n : Nat => (n : Int)) = M.map fun n : Nat => (n : Int)) : L = M := by
  induction L generalizing M with
  | nil => cases M with
    | nil => rfl
    | cons x M => simp at h
  | cons x L ih => cases M with
    | nil => simp at h
    | cons y M =>
      simp only [List.map_cons, List.cons.injEq] at h
      rw [ih h.2, show x = y by omega]
def numc (c : Int) : Bool := decide (c = 45 ∨ c = 46 ∨ c = 101 ∨ 48 ≤ c ∧ c ≤ 57)
def clsOf (c : Int) : Int := if c = 110 then 0 else if c = 116 ∨ c = 102 then 1 else if c = 34 then 4 else if c = 91 then 5 else if c = 123 then 6 else if numc c = true then 2 else 9
def cls (k : Int) : Int := if k = 3 then 2 else k
/-- a value that is written -/
def gd (x : V) : Prop := lk x = 0 ∧ ok x
def gds (l : List V) : Prop := lks l = 0 ∧ oks l
def gdf (l : List (ByteArray × V)) : Prop := (∀ p ∈ l, Lib.validD p.1.data.toList = true) ∧ lkf l = 0 ∧ okf l
theorem gds_cons {v : V} {r : List V} (h : gds (v :: r)) : gd v ∧ gds r := by
  obtain ⟨h1, h2⟩ := h
  simp only [lks] at h1
  simp only [oks] at h2
  by_cases h0 : lk v = 0
  · rw [if_pos h0] at h1
    exact ⟨⟨h0, h2.1⟩, h1, h2.2⟩
  · rw [if_neg h0] at h1
    exact absurd h1 h0
theorem gdf_cons {s : ByteArray} {v : V} {r : List (ByteArray × V)} (h : gdf ((s, v) :: r)) : Lib.validD s.data.toList = true ∧ gd v ∧ gdf r := by
  obtain ⟨h0, h1, h2⟩ := h
  simp only [lkf] at h1
  simp only [okf] at h2
  by_cases h3 : lk v = 0
  · rw [if_pos h3] at h1
    exact ⟨h0 (s, v) (by simp), ⟨h3, h2.2.1⟩, fun p hp => h0 p (by simp [hp]), h1, h2.2.2⟩
  · rw [if_neg h3] at h1
    exact absurd h1 h3
theorem nmE_va : ∀ (l : List (ByteArray × V)) (seen : List ByteArray), nmE seen l = 0 → ∀ p ∈ l, Lib.validD p.1.data.toList = true
  | [], _, _, p, hp => by cases hp
  | (s, v) :: r, seen, h, p, hp => by
    simp only [nmE] at h
    by_cases hv : Lib.validD s.data.toList = true
    · rw [if_pos hv] at h
      split at h
      · cases h
      · rcases List.mem_cons.1 hp with rfl | hp
        · exact hv
        · exact nmE_va r _ h p hp
    · rw [if_neg hv] at h
      cases h
/-- what it is to be written, by kinds -/
theorem gd_parts {k : Int} {b : Bool} {i : Int} {f : Nat} {t y : ByteArray} {is : List V} {fs : List (ByteArray × V)} (h : gd (.mk k b i f t y is fs)) :
    0 ≤ k ∧ k ≤ 6 ∧ f < 18446744073709551616 ∧ (k = 3 → f % 9223372036854775808 < 9218868437227405312) ∧ (k = 4 → Lib.validD t.data.toList = true) ∧ (k = 5 → gds is) ∧ (k = 6 → gdf fs) := by
  obtain ⟨h1, h2⟩ := h
  simp only [ok] at h2
  simp only [lk] at h1
  by_cases c0 : k = 0 ∨ k = 1 ∨ k = 2
  · exact ⟨by omega, by omega, h2.1.2.2.1, by omega, by omega, by omega, by omega⟩
  rw [if_neg c0] at h1
  by_cases c3 : k = 3
  · rw [if_pos c3] at h1
    refine ⟨by omega, by omega, h2.1.2.2.1, fun _ => ?_, by omega, by omega, by omega⟩
    by_cases h : 9218868437227405312 ≤ f % 9223372036854775808
    · rw [if_pos h] at h1; cases h1
    · omega
  rw [if_neg c3] at h1
  by_cases c4 : k = 4
  · rw [if_pos c4] at h1
    refine ⟨by omega, by omega, h2.1.2.2.1, by omega, fun _ => ?_, by omega, by omega⟩
    by_cases h : Lib.validD t.data.toList = true
    · exact h
    · rw [if_neg h] at h1; cases h1
  rw [if_neg c4] at h1
  by_cases c5 : k = 5
  · rw [if_pos c5] at h1
    exact ⟨by omega, by omega, h2.1.2.2.1, by omega, by omega, fun _ => ⟨h1, h2.2.1⟩, by omega⟩
  rw [if_neg c5] at h1
  by_cases c6 : k = 6
  · rw [if_pos c6] at h1
    by_cases hn : nmE [] fs = 0
    · rw [if_pos hn] at h1
      exact ⟨by omega, by omega, h2.1.2.2.1, by omega, by omega, by omega, fun _ => ⟨nmE_va fs [] hn, h1, h2.2.2⟩⟩
    · rw [if_neg hn] at h1
      exact absurd h1 hn
  · rw [if_neg c6] at h1
    cases h1
/-- alike, part by part -/
def Eqv : V → V → Prop
  | .mk k b i f t _ is fs, .mk k' b' i' f' t' _ is' fs' => k = k' ∧ (k = 1 → b = b') ∧ (k = 2 → i = i') ∧ (k = 3 → f = f') ∧ (k = 4 → t = t') ∧ (k = 5 → is.map tx = is'.map tx) ∧ (k = 6 → fs.map (fun p => (p.1, tx p.2)) = fs'.map fun p => (p.1, tx p.2))
theorem txr_congr : ∀ {l l' : List V}, l.map tx = l'.map tx → txr l = txr l'
  | [], [], _ => rfl
  | x :: r, x' :: r', h => by
    simp only [List.map_cons, List.cons.injEq] at h
    simp only [txr, h.1, txr_congr h.2]
  | [], _ :: _, h => by simp at h
  | _ :: _, [], h => by simp at h
theorem txs_congr {l l' : List V} (h : l.map tx = l'.map tx) : txs l = txs l' := by
  cases l with
  | nil => cases l' with
    | nil => rfl
    | cons x r => simp at h
  | cons x r => cases l' with
    | nil => simp at h
    | cons x' r' =>
      simp only [List.map_cons, List.cons.injEq] at h
      simp only [txs, h.1, txr_congr h.2]
theorem txg_congr : ∀ {l l' : List (ByteArray × V)}, l.map (fun p => (p.1, tx p.2)) = l'.map (fun p => (p.1, tx p.2)) → txg l = txg l'
  | [], [], _ => rfl
  | (s, x) :: r, (s', x') :: r', h => by
    simp only [List.map_cons, List.cons.injEq, Prod.mk.injEq] at h
    simp only [txg, h.1.1, h.1.2, txg_congr h.2]
  | [], _ :: _, h => by simp at h
  | _ :: _, [], h => by simp at h
theorem txf_congr {l l' : List (ByteArray × V)} (h : l.map (fun p => (p.1, tx p.2)) = l'.map (fun p => (p.1, tx p.2))) : txf l = txf l' := by
  cases l with
  | nil => cases l' with
    | nil => rfl
    | cons x r => simp at h
  | cons x r => cases l' with
    | nil => simp at h
    | cons x' r' =>
      obtain ⟨s, x⟩ := x
      obtain ⟨s', x'⟩ := x'
      simp only [List.map_cons, List.cons.injEq, Prod.mk.injEq] at h
      simp only [txf, h.1.1, h.1.2, txg_congr h.2]
theorem Eqv.tx {x x' : V} (h : Eqv x x') : tx x = tx x' := by
  obtain ⟨k, b, i, f, t, y, is, fs⟩ := x
  obtain ⟨k', b', i', f', t', y', is', fs'⟩ := x'
  simp only [Eqv] at h
  obtain ⟨rfl, h1, h2, h3, h4, h5, h6⟩ := h
  simp only [val.tx]
  by_cases c1 : k = 1
  · rw [if_pos c1, if_pos c1, h1 c1]
  rw [if_neg c1, if_neg c1]
  by_cases c2 : k = 2
  · rw [if_pos c2, if_pos c2, h2 c2]
  rw [if_neg c2, if_neg c2]
  by_cases c3 : k = 3
  · rw [if_pos c3, if_pos c3, h3 c3]
  rw [if_neg c3, if_neg c3]
  by_cases c4 : k = 4
  · rw [if_pos c4, if_pos c4, h4 c4]
  rw [if_neg c4, if_neg c4]
  by_cases c5 : k = 5
  · rw [if_pos c5, if_pos c5, txs_congr (h5 c5)]
  rw [if_neg c5, if_neg c5]
  by_cases c6 : k = 6
  · rw [if_pos c6, if_pos c6, txf_congr (h6 c6)]
  rw [if_neg c6, if_neg c6]
/-- every finite float has its text -/
def Floats : Prop := ∀ f : Nat, f < 18446744073709551616 → f % 9223372036854775808 < 9218868437227405312 → ∃ L, pg.ftx f = big.strN L ∧ pg.FSh f L
theorem floats {w : World} (h : pg.NumAt w) : Floats := fun f h1 h2 => pg.ftx_shape f h1 h2 w h
section
variable (HF : Floats)
include HF
theorem fz_list {f : Nat} (h1 : f < 18446744073709551616) (h2 : f % 9223372036854775808 < 9218868437227405312) : ∃ L : List Nat, fz f = L.map (fun n : Nat => (n : Int)) ∧ pg.FSh f L := by
  obtain ⟨L, e, h⟩ := HF f h1 h2
  refine ⟨L, ?_, h⟩
  unfold fz
  rw [e, bz_strN (fun c hc => by have := (pg.fsh_mem h).2.1 c hc; omega)]
theorem fz_inj {f g : Nat} (h1 : f < 18446744073709551616) (h2 : f % 9223372036854775808 < 9218868437227405312) (k1 : g < 18446744073709551616) (k2 : g % 9223372036854775808 < 9218868437227405312) (h : fz f = fz g) : f = g := by
  obtain ⟨L, e1, s1⟩ := fz_list HF h1 h2
  obtain ⟨M, e2, s2⟩ := fz_list HF k1 k2
  rw [e1, e2] at h
  have := il_inj h
  subst this
  exact pg.fsh_inj s1 s2
omit HF in
theorem wz_list (i : Int) : wz i = (big.wtx i).map fun n : Nat => (n : Int) := by
  unfold wz
  exact bz_strN fun c hc => by have := pg.wtx_mem i c hc; omega
omit HF in
theorem wz_inj {i j : Int} (h : wz i = wz j) : i = j := by
  rw [wz_list, wz_list] at h
  exact pg.wtx_inj (il_inj h)
theorem wz_fz {i : Int} {f : Nat} (h1 : f < 18446744073709551616) (h2 : f % 9223372036854775808 < 9218868437227405312) : wz i ≠ fz f := by
  obtain ⟨L, e1, s1⟩ := fz_list HF h1 h2
  rw [wz_list, e1]
  intro h
  have := il_inj h
  subst this
  rcases (pg.fsh_mem s1).1 with h | h
  · have := pg.wtx_mem i _ h; omega
  · have := pg.wtx_mem i _ h; omega
omit HF in
theorem wtx_ne (i : Int) : big.wtx i ≠ [] := by
  unfold big.wtx
  split
  · simp
  · exact pg.dgs_ne _
/-- the text of a number is of a number's signs -/
theorem num_tx {k : Int} {b : Bool} {i : Int} {f : Nat} {t y : ByteArray} {is : List V} {fs : List (ByteArray × V)} (h : gd (.mk k b i f t y is fs)) (hk : cls k = 2) : (∀ c ∈ tx (.mk k b i f t y is fs), numc c = true) ∧ tx (.mk k b i f t y is fs) ≠ [] := by
  obtain ⟨_, _, p1, p2, _⟩ := gd_parts h
  have hk2 : k = 2 ∨ k = 3 := by unfold cls at hk; split at hk <;> omega
  simp only [tx]
  rcases hk2 with rfl | rfl
  · rw [if_neg (by decide), if_pos rfl, wz_list]
    refine ⟨fun c hc => ?_, by simpa using wtx_ne i⟩
    obtain ⟨n, hn, rfl⟩ := List.mem_map.1 hc
    have := pg.wtx_mem i n hn
    exact decide_eq_true (by omega)
  · rw [if_neg (by decide), if_neg (by decide), if_pos rfl]
    obtain ⟨L, e, s⟩ := fz_list HF p1 (p2 rfl)
    rw [e]
    refine ⟨fun c hc => ?_, by simpa using (pg.fsh_mem s).2.2⟩
    obtain ⟨n, hn, rfl⟩ := List.mem_map.1 hc
    have := (pg.fsh_mem s).2.1 n hn
    exact decide_eq_true (by omega)
/-- the first sign tells the kind -/
theorem head_tx {k : Int} {b : Bool} {i : Int} {f : Nat} {t y : ByteArray} {is : List V} {fs : List (ByteArray × V)} (h : gd (.mk k b i f t y is fs)) : ∃ c T, tx (.mk k b i f t y is fs) = c :: T ∧ clsOf c = cls k := by
  obtain ⟨k0, k6, _⟩ := gd_parts h
  by_cases hk : cls k = 2
  · obtain ⟨h1, h2⟩ := num_tx HF h hk
    cases ht : tx (.mk k b i f t y is fs) with
    | nil => exact absurd ht h2
    | cons c T =>
      refine ⟨c, T, rfl, ?_⟩
      have hc := h1 c (by rw [ht]; simp)
      have hd : c = 45 ∨ c = 46 ∨ c = 101 ∨ 48 ≤ c ∧ c ≤ 57 := of_decide_eq_true hc
      unfold clsOf
      rw [hk, if_neg (by omega), if_neg (by omega), if_neg (by omega), if_neg (by omega), if_neg (by omega), if_pos hc]
  · have hk2 : k ≠ 2 ∧ k ≠ 3 := by unfold cls at hk; split at hk <;> omega
    have hkk : cls k = k := by unfold cls; rw [if_neg hk2.2]
    rw [hkk]
    simp only [tx]
    by_cases c1 : k = 1
    · subst c1
      rw [if_pos rfl]
      unfold tfz
      cases b
      · exact ⟨102, _, rfl, by decide⟩
      · exact ⟨116, _, rfl, by decide⟩
    rw [if_neg c1, if_neg hk2.1, if_neg hk2.2]
    by_cases c4 : k = 4
    · subst c4
      rw [if_pos rfl]
      exact ⟨34, _, rfl, by decide⟩
    rw [if_neg c4]
    by_cases c5 : k = 5
    · subst c5
      rw [if_pos rfl]
      exact ⟨91, _, rfl, by decide⟩
    rw [if_neg c5]
    by_cases c6 : k = 6
    · subst c6
      rw [if_pos rfl]
      exact ⟨123, _, rfl, by decide⟩
    rw [if_neg c6]
    obtain rfl : k = 0 := by omega
    exact ⟨110, _, rfl, by decide⟩
end
end Go.Proofs.YthlncdcfppehcaaDoor.val
end
section
namespace Go.Proofs.YthlncdcfppehcaaDoor.val
open Go.RowKit mem txt
set_option linter.unusedVariables false
set_option linter.unusedSectionVars false

/-- what may follow a value's text -/
def dl (r : List Int) : Prop := ∀ c, r.head? = some c → c = 44 ∨ c = 93 ∨ c = 125
theorem dl_nil : dl [] := fun c h => by cases h
theorem dl_cons {c : Int} (r : List Int) (h : c = 44 ∨ c = 93 ∨ c = 125) : dl (c :: r) := fun d hd => by simp at hd; subst hd; exact h
theorem take_num {l r : List Int} (h : ∀ c ∈ l, numc c = true) (hr : dl r) : (l ++ r).takeWhile numc = l ∧ (l ++ r).dropWhile numc = r := by
  induction l with
  | nil =>
    cases r with
    | nil => exact ⟨rfl, rfl⟩
    | cons c r =>
      have hc := hr c rfl
      have : numc c = false := decide_eq_false (by omega)
      simp [this]
  | cons x l ih =>
    have hx := h x (by simp)
    obtain ⟨h1, h2⟩ := ih (fun c hc => h c (by simp [hc]))
    simp [hx, h1, h2]
theorem num_cancel {l l' r r' : List Int} (h : ∀ c ∈ l, numc c = true) (h' : ∀ c ∈ l', numc c = true) (hr : dl r) (hr' : dl r') (e : l ++ r = l' ++ r') : l = l' ∧ r = r' := by
  obtain ⟨a1, a2⟩ := take_num h hr
  obtain ⟨b1, b2⟩ := take_num h' hr'
  rw [e] at a1 a2
  exact ⟨a1.symm.trans b1, a2.symm.trans b2⟩
theorem cls_ne {c : Int} {k : Int} (h : clsOf c = cls k) (hk : 0 ≤ k ∧ k ≤ 6) : c ≠ 44 ∧ c ≠ 93 ∧ c ≠ 125 := by
  refine ⟨?_, ?_, ?_⟩ <;> (rintro rfl; rw [show clsOf _ = 9 by decide] at h; unfold cls at h; split at h <;> omega)
def Cn (x : V) : Prop := ∀ x', gd x → gd x' → ∀ r r', dl r → dl r' → tx x ++ r = tx x' ++ r' → Eqv x x' ∧ r = r'
section
variable (HF : Floats)
include HF
theorem head_ne {x : V} (h : gd x) : ∃ c T, tx x = c :: T ∧ c ≠ 44 ∧ c ≠ 93 ∧ c ≠ 125 := by
  obtain ⟨k, b, i, f, t, y, is, fs⟩ := x
  obtain ⟨c, T, e, hc⟩ := head_tx HF h
  obtain ⟨k0, k6, _⟩ := gd_parts h
  exact ⟨c, T, e, cls_ne hc ⟨k0, k6⟩⟩
theorem txr_cancel : ∀ (l l' : List V), (∀ x ∈ l, Cn x) → gds l → gds l' → ∀ r r', txr l ++ 93 :: r = txr l' ++ 93 :: r' → l.map tx = l'.map tx ∧ r = r'
  | [], [], _, _, _, r, r', e => by simp [txr] at e; exact ⟨rfl, e⟩
  | [], x' :: l', _, _, _, r, r', e => by simp [txr] at e
  | x :: l, [], _, _, _, r, r', e => by simp [txr] at e
  | x :: l, x' :: l', hc, hg, hg', r, r', e => by
    simp only [txr, List.cons_append, List.cons.injEq, true_and, List.append_assoc] at e
    obtain ⟨g1, g2⟩ := gds_cons hg
    obtain ⟨g1', g2'⟩ := gds_cons hg'
    have hd : ∀ (m : List V) (s : List Int), dl (txr m ++ 93 :: s) := fun m s => by
      cases m with
      | nil => exact dl_cons _ (by omega)
      | cons z m => simp only [txr, List.cons_append]; exact dl_cons _ (by omega)
    obtain ⟨e1, e2⟩ := hc x (by simp) x' g1 g1' _ _ (hd _ _) (hd _ _) e
    obtain ⟨i1, i2⟩ := txr_cancel l l' (fun z hz => hc z (by simp [hz])) g2 g2' r r' e2
    exact ⟨by rw [List.map_cons, List.map_cons, e1.tx, i1], i2⟩
theorem txs_cancel (l l' : List V) (hc : ∀ x ∈ l, Cn x) (hg : gds l) (hg' : gds l') (r r' : List Int) (e : txs l ++ 93 :: r = txs l' ++ 93 :: r') : l.map tx = l'.map tx ∧ r = r' := by
  cases l with
  | nil => cases l' with
    | nil => simp [txs] at e; exact ⟨rfl, e⟩
    | cons x' l' =>
      exfalso
      obtain ⟨c, T, e0, _, h2, _⟩ := head_ne HF (gds_cons hg').1
      simp only [txs, e0, List.nil_append, List.cons_append, List.cons.injEq] at e
      exact h2 e.1.symm
  | cons x l => cases l' with
    | nil =>
      exfalso
      obtain ⟨c, T, e0, _, h2, _⟩ := head_ne HF (gds_cons hg).1
      simp only [txs, e0, List.nil_append, List.cons_append, List.cons.injEq] at e
      exact h2 e.1
    | cons x' l' =>
      have h := txr_cancel HF (x :: l) (x' :: l') hc hg hg' r r'
      apply h
      simp only [txr, List.cons_append, txs] at e ⊢
      rw [e]
theorem txg_cancel : ∀ (l l' : List (ByteArray × V)), (∀ p ∈ l, Cn p.2) → gdf l → gdf l' → ∀ r r', txg l ++ 125 :: r = txg l' ++ 125 :: r' → l.map (fun p => (p.1, tx p.2)) = l'.map (fun p => (p.1, tx p.2)) ∧ r = r'
  | [], [], _, _, _, r, r', e => by simp [txg] at e; exact ⟨rfl, e⟩
  | [], (s', x') :: l', _, _, _, r, r', e => by simp [txg] at e
  | (s, x) :: l, [], _, _, _, r, r', e => by simp [txg] at e
  | (s, x) :: l, (s', x') :: l', hc, hg, hg', r, r', e => by
    simp only [txg, List.cons_append, List.cons.injEq, true_and, List.append_assoc] at e
    obtain ⟨v1, g1, g2⟩ := gdf_cons hg
    obtain ⟨v1', g1', g2'⟩ := gdf_cons hg'
    obtain ⟨rfl, e0⟩ := quote_cancel v1 v1' e
    simp only [List.cons.injEq, true_and] at e0
    have hd : ∀ (m : List (ByteArray × V)) (s : List Int), dl (txg m ++ 125 :: s) := fun m s => by
      cases m with
      | nil => exact dl_cons _ (by omega)
      | cons z m => obtain ⟨q, z⟩ := z; simp only [txg, List.cons_append]; exact dl_cons _ (by omega)
    obtain ⟨e1, e2⟩ := hc (s, x) (by simp) x' g1 g1' _ _ (hd _ _) (hd _ _) e0
    obtain ⟨i1, i2⟩ := txg_cancel l l' (fun z hz => hc z (by simp [hz])) g2 g2' r r' e2
    exact ⟨by rw [List.map_cons, List.map_cons, e1.tx, i1], i2⟩
theorem txf_cancel (l l' : List (ByteArray × V)) (hc : ∀ p ∈ l, Cn p.2) (hg : gdf l) (hg' : gdf l') (r r' : List Int) (e : txf l ++ 125 :: r = txf l' ++ 125 :: r') : l.map (fun p => (p.1, tx p.2)) = l'.map (fun p => (p.1, tx p.2)) ∧ r = r' := by
  cases l with
  | nil => cases l' with
    | nil => simp [txf] at e; exact ⟨rfl, e⟩
    | cons x' l' => obtain ⟨s', x'⟩ := x'; simp [txf, quoteZ] at e
  | cons x l => obtain ⟨s, x⟩ := x; cases l' with
    | nil => simp [txf, quoteZ] at e
    | cons x' l' =>
      obtain ⟨s', x'⟩ := x'
      have h := txg_cancel HF ((s, x) :: l) ((s', x') :: l') hc hg hg' r r'
      apply h
      simp only [txg, List.cons_append, txf] at e ⊢
      rw [e]
theorem cancel_any : ∀ (N : Nat) (x : V), sz x ≤ N → Cn x := by
  intro N
  induction N with
  | zero => intro x hx; have := sz_pos x; omega
  | succ N ih =>
    intro x hx x' hg hg' r r' hr hr' e
    obtain ⟨k, b, i, f, t, y, is, fs⟩ := x
    obtain ⟨k', b', i', f', t', y', is', fs'⟩ := x'
    simp only [sz] at hx
    obtain ⟨k0, k6, p1, p2, p3, p4, p5⟩ := gd_parts hg
    obtain ⟨k0', k6', p1', p2', p3', p4', p5'⟩ := gd_parts hg'
    obtain ⟨c, T, e1, h1⟩ := head_tx HF hg
    obtain ⟨c', T', e1', h1'⟩ := head_tx HF hg'
    have hcc : cls k = cls k' := by
      rw [e1, e1'] at e
      simp only [List.cons_append, List.cons.injEq] at e
      rw [← h1, ← h1', e.1]
    by_cases hk : cls k = 2
    · obtain ⟨n1, _⟩ := num_tx HF hg hk
      obtain ⟨n2, _⟩ := num_tx HF hg' (hcc ▸ hk)
      obtain ⟨q1, q2⟩ := num_cancel n1 n2 hr hr' e
      refine ⟨?_, q2⟩
      have hk2 : k = 2 ∨ k = 3 := by unfold cls at hk; split at hk <;> omega
      have hk2' : k' = 2 ∨ k' = 3 := by rw [hcc] at hk; unfold cls at hk; split at hk <;> omega
      simp only [tx] at q1
      simp only [Eqv]
      rcases hk2 with rfl | rfl
      · rcases hk2' with rfl | rfl
        · rw [if_neg (by decide), if_pos rfl, if_neg (by decide), if_pos rfl] at q1
          exact ⟨rfl, by omega, fun _ => wz_inj q1, by omega, by omega, by omega, by omega⟩
        · rw [if_neg (by decide), if_pos rfl, if_neg (by decide), if_neg (by decide), if_pos rfl] at q1
          exact absurd q1 (wz_fz HF p1' (p2' rfl))
      · rcases hk2' with rfl | rfl
        · rw [if_neg (by decide), if_neg (by decide), if_pos rfl, if_neg (by decide), if_pos rfl] at q1
          exact absurd q1.symm (wz_fz HF p1 (p2 rfl))
        · rw [if_neg (by decide), if_neg (by decide), if_pos rfl, if_neg (by decide), if_neg (by decide), if_pos rfl] at q1
          exact ⟨rfl, by omega, by omega, fun _ => fz_inj HF p1 (p2 rfl) p1' (p2' rfl) q1, by omega, by omega, by omega⟩
    · have hk3 : k ≠ 2 ∧ k ≠ 3 := by unfold cls at hk; split at hk <;> omega
      have hk3' : k' ≠ 2 ∧ k' ≠ 3 := by rw [hcc] at hk; unfold cls at hk; split at hk <;> omega
      obtain rfl : k = k' := by unfold cls at hcc; rw [if_neg hk3.2, if_neg hk3'.2] at hcc; exact hcc
      clear hcc hk3' e1 e1' h1 h1'
      simp only [tx] at e
      simp only [Eqv]
      by_cases c1 : k = 1
      · subst c1
        rw [if_pos rfl, if_pos rfl] at e
        unfold tfz at e
        cases b <;> cases b' <;> simp at e <;> exact ⟨⟨trivial, by simp, by omega, by omega, by omega, by omega, by omega⟩, e⟩
      rw [if_neg c1, if_neg c1, if_neg hk3.1, if_neg hk3.1, if_neg hk3.2, if_neg hk3.2] at e
      by_cases c4 : k = 4
      · subst c4
        rw [if_pos rfl, if_pos rfl] at e
        obtain ⟨q1, q2⟩ := quote_cancel (p3 rfl) (p3' rfl) e
        exact ⟨⟨trivial, by omega, by omega, by omega, fun _ => q1, by omega, by omega⟩, q2⟩
      rw [if_neg c4, if_neg c4] at e
      by_cases c5 : k = 5
      · subst c5
        rw [if_pos rfl, if_pos rfl] at e
        simp only [List.cons_append, List.cons.injEq, true_and, List.append_assoc, List.nil_append] at e
        obtain ⟨q1, q2⟩ := txs_cancel HF is is' (fun z hz => ih z (by have := look.sz_mem hz; omega)) (p4 rfl) (p4' rfl) r r' e
        exact ⟨⟨trivial, by omega, by omega, by omega, by omega, fun _ => q1, by omega⟩, q2⟩
      rw [if_neg c5, if_neg c5] at e
      by_cases c6 : k = 6
      · subst c6
        rw [if_pos rfl, if_pos rfl] at e
        simp only [List.cons_append, List.cons.injEq, true_and, List.append_assoc, List.nil_append] at e
        obtain ⟨q1, q2⟩ := txf_cancel HF fs fs' (fun p hp => ih p.2 (by have := look.sz_mem (l := fs.map (·.2)) (List.mem_map.2 ⟨p, hp, rfl⟩); rw [look.szf_map] at this; omega)) (p5 rfl) (p5' rfl) r r' e
        exact ⟨⟨trivial, by omega, by omega, by omega, by omega, by omega, fun _ => q1⟩, q2⟩
      rw [if_neg c6, if_neg c6] at e
      refine ⟨⟨trivial, fun h => absurd h c1, fun h => absurd h hk3.1, fun h => absurd h hk3.2, fun h => absurd h c4, fun h => absurd h c5, fun h => absurd h c6⟩, ?_⟩
      simpa using e
theorem tx_eqv {x x' : V} (h : gd x) (h' : gd x') : tx x = tx x' ↔ Eqv x x' := by
  refine ⟨fun e => (cancel_any HF (sz x) x (Nat.le_refl _) x' h h' [] [] dl_nil dl_nil (by rw [e])).1, fun e => e.tx⟩
end
end Go.Proofs.YthlncdcfppehcaaDoor.val
end
