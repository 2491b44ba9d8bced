/- PLAIN LEAN: whole numbers as words of 32 bits, the lowest first, none of them 0 at the end. -/
namespace Go.Proofs.Ytlkeemphdocpoaa.fl

def val : List Nat → Nat
  | [] => 0
  | x :: l => x + 4294967296 * val l
def wdF : Nat → Nat → List Nat
  | 0, _ => []
  | f + 1, N => if N = 0 then [] else N % 4294967296 :: wdF f (N / 4294967296)
/-- the words of a number -/
def wd (N : Nat) : List Nat := wdF N N
def Wds (l : List Nat) : Prop := ∀ x ∈ l, x < 4294967296

theorem wdF_fuel : ∀ (f g N : Nat), N ≤ f → N ≤ g → wdF f N = wdF g N
  | 0, g, N, h, _ => by
    obtain rfl : N = 0 := by omega
    cases g <;> simp [wdF]
  | f + 1, 0, N, _, h => by
    obtain rfl : N = 0 := by omega
    simp [wdF]
  | f + 1, g + 1, N, h1, h2 => by
    unfold wdF
    by_cases h : N = 0
    · simp [h]
    · rw [if_neg h, if_neg h, wdF_fuel f g _ (by omega) (by omega)]
theorem wd_zero : wd 0 = [] := rfl
theorem wd_pos {N : Nat} (h : N ≠ 0) : wd N = N % 4294967296 :: wd (N / 4294967296) := by
  unfold wd
  obtain ⟨k, hk⟩ : ∃ k, N = k + 1 := ⟨N - 1, by omega⟩
  rw [wdF_fuel N (k + 1) N (by omega) (by omega)]
  show (if N = 0 then _ else _) = _
  rw [if_neg h, wdF_fuel k (N / 4294967296) _ (by omega) (Nat.le_refl _)]
theorem val_wd (N : Nat) : val (wd N) = N := by
  induction N using Nat.strongRecOn with
  | _ N ih =>
    by_cases h : N = 0
    · subst h; rfl
    · rw [wd_pos h]
      simp only [val]
      rw [ih _ (by omega)]
      omega
theorem wds_wd (N : Nat) : Wds (wd N) := by
  induction N using Nat.strongRecOn with
  | _ N ih =>
    by_cases h : N = 0
    · subst h; intro x hx; simp [wd_zero] at hx
    · rw [wd_pos h]
      intro x hx
      rcases List.mem_cons.1 hx with rfl | hx
      · omega
      · exact ih _ (by omega) x hx
theorem val_app : ∀ (a b : List Nat), val (a ++ b) = val a + 4294967296 ^ a.length * val b
  | [], b => by simp [val]
  | x :: a, b => by
    simp only [List.cons_append, val, List.length_cons]
    rw [val_app a b, Nat.pow_succ, Nat.mul_add, Nat.add_assoc, ← Nat.mul_assoc, Nat.mul_comm (4294967296 ^ a.length)]
theorem val_lt : ∀ (a : List Nat), Wds a → val a < 4294967296 ^ a.length
  | [], _ => by simp [val]
  | x :: a, h => by
    have h1 := h x (by simp)
    have h2 := val_lt a fun y hy => h y (by simp [hy])
    simp only [val, List.length_cons, Nat.pow_succ]
    omega
theorem Wds.app {a b : List Nat} (ha : Wds a) (hb : Wds b) : Wds (a ++ b) := fun x hx => by
  rcases List.mem_append.1 hx with h | h
  · exact ha x h
  · exact hb x h
theorem Wds.take {a : List Nat} (ha : Wds a) (k : Nat) : Wds (a.take k) := fun x hx => ha x (List.mem_of_mem_take hx)
/-- words without a 0 at the end are the words of their number -/
theorem wd_val : ∀ (a : List Nat), Wds a → (∀ x, a.getLast? = some x → x ≠ 0) → wd (val a) = a
  | [], _, _ => rfl
  | x :: a, h, hl => by
    have hx := h x (by simp)
    have hz : val (x :: a) ≠ 0 := by
      intro h0
      simp only [val] at h0
      have h1 : val a = 0 := by omega
      have h2 : x = 0 := by omega
      cases a with
      | nil => exact hl x (by simp) h2
      | cons y b =>
        have ih := wd_val (y :: b) (fun z hz => h z (by simp [hz])) (fun z hz => hl z (by simpa using hz))
        rw [h1] at ih
        exact absurd ih.symm (by simp [wd_zero])
    rw [wd_pos hz]
    have e1 : val (x :: a) % 4294967296 = x := by simp only [val]; omega
    have e2 : val (x :: a) / 4294967296 = val a := by simp only [val]; omega
    rw [e1, e2]
    cases a with
    | nil => rfl
    | cons y b => rw [wd_val (y :: b) (fun z hz => h z (by simp [hz])) (fun z hz => hl z (by simpa using hz))]
theorem val_snoc_zero (a : List Nat) : val (a ++ [0]) = val a := by rw [val_app]; simp [val]
/-- a step of trim: the first n words, the last of them 0 -/
theorem val_take_zero {a : List Nat} {n : Nat} (h : a[n]? = some 0) : val (a.take (n + 1)) = val (a.take n) := by
  obtain ⟨h1, h2⟩ := List.getElem?_eq_some_iff.1 h
  rw [List.take_succ_eq_append_getElem h1, h2, val_snoc_zero]
theorem wd_take {a : List Nat} {n : Nat} (ha : Wds a) (h : n = 0 ∨ ∃ x, a[n - 1]? = some x ∧ x ≠ 0) : wd (val (a.take n)) = a.take n := by
  refine wd_val _ (ha.take n) fun x hx => ?_
  rcases h with rfl | ⟨y, hy, hy0⟩
  · simp at hx
  · obtain ⟨h1, h2⟩ := List.getElem?_eq_some_iff.1 hy
    by_cases hn : n = 0
    · subst hn; simp at hx
    · rw [List.getLast?_eq_getElem?, List.length_take, List.getElem?_take] at hx
      rw [Nat.min_eq_left (by omega), if_pos (by omega), hy] at hx
      injection hx with hx
      subst hx
      exact hy0
theorem wd_len_le {N k : Nat} (h : N < 4294967296 ^ k) : (wd N).length ≤ k := by
  induction k generalizing N with
  | zero =>
    obtain rfl : N = 0 := by simpa using h
    simp [wd_zero]
  | succ k ih =>
    by_cases h0 : N = 0
    · subst h0; simp [wd_zero]
    · rw [wd_pos h0, List.length_cons]
      have := ih (N := N / 4294967296) (by rw [Nat.pow_succ] at h; exact Nat.div_lt_of_lt_mul (by rw [Nat.mul_comm]; exact h))
      omega
theorem wd_len_pow {N : Nat} (h : N ≠ 0) : 4294967296 ^ ((wd N).length - 1) ≤ N := by
  induction N using Nat.strongRecOn with
  | _ N ih =>
    rw [wd_pos h]
    by_cases h1 : N / 4294967296 = 0
    · rw [h1]; simp [wd_zero]; omega
    · have := ih _ (by omega) h1
      have hp : 0 < (wd (N / 4294967296)).length := by rw [wd_pos h1]; simp
      obtain ⟨k, hk⟩ : ∃ k, (wd (N / 4294967296)).length = k + 1 := ⟨(wd (N / 4294967296)).length - 1, by omega⟩
      rw [hk] at this
      rw [List.length_cons, hk]
      simp only [Nat.add_sub_cancel] at this ⊢
      rw [Nat.pow_succ]
      exact Nat.le_trans (Nat.mul_le_mul_right 4294967296 this) (Nat.div_mul_le_self N 4294967296)
theorem wd_eq_nil {N : Nat} (h : (wd N).length = 0) : N = 0 := by
  by_cases h0 : N = 0
  · exact h0
  · rw [wd_pos h0] at h; simp at h
theorem lt_of_len {N M : Nat} (h : (wd N).length < (wd M).length) : N < M := by
  have hM : M ≠ 0 := fun h0 => by subst h0; simp [wd_zero] at h
  have h1 := val_lt (wd N) (wds_wd N)
  rw [val_wd] at h1
  have h2 := wd_len_pow hM
  have h3 : 4294967296 ^ (wd N).length ≤ 4294967296 ^ ((wd M).length - 1) := Nat.pow_le_pow_right (by decide) (by omega)
  omega
theorem split_at {a : List Nat} {i : Nat} (hi : i < a.length) : a.take i ++ a.getD i 0 :: a.drop (i + 1) = a := by
  have e : a.getD i 0 = a[i] := by rw [List.getD_eq_getElem?_getD, List.getElem?_eq_getElem hi]; rfl
  rw [e, ← List.drop_eq_getElem_cons hi, List.take_append_drop]
/-- comparing from the top: what is above is alike -/
theorem cmp_at {a b : List Nat} {i : Nat} (hl : a.length = b.length) (hi : i < a.length) (ha : Wds a) (hd : a.drop (i + 1) = b.drop (i + 1)) (h : a.getD i 0 < b.getD i 0) : val a < val b := by
  have hi2 : i < b.length := by omega
  have ea := split_at hi
  have eb := split_at hi2
  have va : val a = val (a.take i) + 4294967296 ^ i * (a.getD i 0 + 4294967296 * val (a.drop (i + 1))) := by
    conv => lhs; rw [← ea]
    rw [val_app, List.length_take, Nat.min_eq_left (by omega)]
    rfl
  have vb : val b = val (b.take i) + 4294967296 ^ i * (b.getD i 0 + 4294967296 * val (a.drop (i + 1))) := by
    conv => lhs; rw [← eb]
    rw [val_app, List.length_take, Nat.min_eq_left (by omega), hd]
    rfl
  have h1 := val_lt (a.take i) (ha.take i)
  rw [List.length_take, Nat.min_eq_left (by omega)] at h1
  have h2 : 4294967296 ^ i * (a.getD i 0 + 4294967296 * val (a.drop (i + 1)) + 1) ≤ 4294967296 ^ i * (b.getD i 0 + 4294967296 * val (a.drop (i + 1))) := Nat.mul_le_mul_left _ (by omega)
  rw [Nat.mul_add, Nat.mul_one] at h2
  omega

/-! ### the sums that the loops make -/
/-- times: the words so far, the carry -/
theorem times_step {r a : List Nat} {i m c carry : Nat} (hi : i < a.length) (hr : r.length = i) (h : val r + 4294967296 ^ i * carry = val (a.take i) * m + c) :
    val (r ++ [(a.getD i 0 * m + carry) % 4294967296]) + 4294967296 ^ (i + 1) * ((a.getD i 0 * m + carry) / 4294967296) = val (a.take (i + 1)) * m + c := by
  have e : a.getD i 0 = a[i] := by rw [List.getD_eq_getElem?_getD, List.getElem?_eq_getElem hi]; rfl
  rw [List.take_succ_eq_append_getElem hi, ← e, val_app, val_app, hr, List.length_take, Nat.min_eq_left (by omega)]
  simp only [val, Nat.mul_zero, Nat.add_zero]
  obtain ⟨x, hx⟩ : ∃ x, a.getD i 0 * m + carry = x := ⟨_, rfl⟩
  rw [hx, Nat.pow_succ, Nat.mul_assoc, Nat.add_assoc, ← Nat.mul_add, Nat.mod_add_div, ← hx, Nat.mul_add, Nat.add_mul]
  rw [← Nat.mul_assoc]
  omega
theorem times_end {r a : List Nat} {m c carry : Nat} (hr : r.length = a.length) (h : val r + 4294967296 ^ a.length * carry = val (a.take a.length) * m + c) : val (r ++ [carry]) = val a * m + c ∧ (carry = 0 → val r = val a * m + c) := by
  rw [List.take_length] at h
  refine ⟨?_, fun h0 => by subst h0; simpa using h⟩
  rw [val_app, hr]
  simp only [val, Nat.mul_zero, Nat.add_zero]
  exact h
/-- plus -/
theorem plus_step {r a b : List Nat} {i carry : Nat} (hr : r.length = i) (h : val r + 4294967296 ^ i * carry = val (a.take i) + val (b.take i)) :
    val (r ++ [(carry + a.getD i 0 + b.getD i 0) % 4294967296]) + 4294967296 ^ (i + 1) * ((carry + a.getD i 0 + b.getD i 0) / 4294967296) = val (a.take (i + 1)) + val (b.take (i + 1)) := by
  have tk : ∀ l : List Nat, val (l.take (i + 1)) = val (l.take i) + 4294967296 ^ i * l.getD i 0 := by
    intro l
    by_cases hi : i < l.length
    · rw [List.take_succ_eq_append_getElem hi, val_app, List.length_take, Nat.min_eq_left (by omega), List.getD_eq_getElem?_getD, List.getElem?_eq_getElem hi]
      simp [val]
    · rw [List.take_of_length_le (by omega), List.take_of_length_le (by omega), List.getD_eq_getElem?_getD, List.getElem?_eq_none (by omega)]
      simp
  rw [tk a, tk b, val_app, hr]
  simp only [val, Nat.mul_zero, Nat.add_zero]
  obtain ⟨x, hx⟩ : ∃ x, carry + a.getD i 0 + b.getD i 0 = x := ⟨_, rfl⟩
  rw [hx, Nat.pow_succ, Nat.mul_assoc, Nat.add_assoc, ← Nat.mul_add, Nat.mod_add_div, ← hx, Nat.mul_add, Nat.mul_add]
  omega
theorem plus_end {r a b : List Nat} {i : Nat} (ha : a.length ≤ i) (hb : b.length ≤ i) (h : val r + 4294967296 ^ i * 0 = val (a.take i) + val (b.take i)) : val r = val a + val b := by
  rw [List.take_of_length_le ha, List.take_of_length_le hb] at h
  simpa using h
/-- up: noughts in front -/
theorem wd_up (N k : Nat) (h : N ≠ 0) : List.replicate k 0 ++ wd N = wd (4294967296 ^ k * N) := by
  induction k with
  | zero => simp
  | succ k ih =>
    have hz : 4294967296 ^ (k + 1) * N ≠ 0 := Nat.mul_ne_zero (Nat.ne_of_gt (Nat.pow_pos (by omega))) h
    rw [wd_pos hz, List.replicate_succ, List.cons_append, ih]
    have e : 4294967296 ^ (k + 1) * N = 4294967296 * (4294967296 ^ k * N) := by rw [Nat.pow_succ, Nat.mul_comm (4294967296 ^ k), Nat.mul_assoc]
    rw [e, Nat.mul_mod_right, Nat.mul_div_cancel_left _ (by omega)]
end Go.Proofs.Ytlkeemphdocpoaa.fl
