/- PLAIN LEAN: what cut gathers; texts too small and too great. -/
import Derived.Test.YtlkeemphdocpoaaCut
import Derived.Test.YtlkeemphdocpoaaBig5
namespace Go.Proofs.Ytlkeemphdocpoaa.big
open Go.RowKit mem fl
set_option linter.unusedVariables false

def CInv (s : Cs) : Prop := (∀ c ∈ s.b, 48 ≤ c ∧ c ≤ 57) ∧ (∀ c, s.b.head? = some c → c ≠ 48) ∧ s.b.length ≤ 800 ∧ (s.more = true → s.b.length = 800)
theorem cinv_step {s : Cs} {c : Nat} (h : CInv s) (hc : Alp c) : CInv (cutStep s c) := by
  obtain ⟨h1, h2, h3, h4⟩ := h
  unfold Alp at hc
  by_cases hd : 48 ≤ c ∧ c ≤ 57
  · rw [cut_digit hd.1 hd.2]
    by_cases he : s.e = true
    · rw [if_pos he]
      split
      · exact ⟨h1, h2, h3, h4⟩
      · exact ⟨h1, h2, h3, h4⟩
    · rw [if_neg he]
      by_cases h8 : s.b.length = 800
      · rw [if_pos h8]
        exact ⟨h1, h2, h3, fun _ => h8⟩
      · rw [if_neg h8]
        by_cases h5 : c ≠ 48 ∨ 0 < s.b.length
        · rw [if_pos h5]
          refine ⟨?_, ?_, by simp; omega, fun h => absurd (h4 h) h8⟩
          · intro y hy
            rcases List.mem_append.1 hy with hy | hy
            · exact h1 y hy
            · simp at hy; omega
          · intro y hy
            cases hb : s.b with
            | nil =>
              rw [hb] at hy h5
              simp at hy h5
              omega
            | cons z r =>
              rw [hb] at hy
              simp at hy
              subst hy
              exact h2 z (by rw [hb]; rfl)
        · rw [if_neg h5]
          exact ⟨h1, h2, h3, h4⟩
  · unfold cutStep
    repeat' split
    all_goals first | exact ⟨h1, h2, h3, h4⟩ | (exfalso; omega)
theorem cinv_cut : ∀ (l : List Nat) (s : Cs), CInv s → (∀ c ∈ l, Alp c) → CInv (l.foldl cutStep s)
  | [], s, h, _ => h
  | c :: l, s, h, hl => cinv_cut l _ (cinv_step h (hl c (by simp))) fun d hd => hl d (by simp [hd])
theorem cinv_cutF {l : List Nat} (hl : ∀ c ∈ l, Alp c) : CInv (cutF l) := cinv_cut l _ ⟨by simp [Cs.start], by simp [Cs.start], by simp [Cs.start], by simp [Cs.start]⟩ hl
theorem digits_inv {s : Cs} (h : CInv s) : (∀ c ∈ s.digits, 48 ≤ c ∧ c ≤ 57) ∧ (∀ c, s.digits.head? = some c → c ≠ 48) ∧ s.digits.length ≤ 801 := by
  obtain ⟨h1, h2, h3, h4⟩ := h
  unfold Cs.digits
  by_cases hm : s.more = true
  · rw [if_pos hm]
    have h8 := h4 hm
    refine ⟨?_, ?_, by simp; omega⟩
    · intro y hy
      rcases List.mem_append.1 hy with hy | hy
      · exact h1 y hy
      · simp at hy; omega
    · intro y hy
      cases hb : s.b with
      | nil => rw [hb] at h8; simp at h8
      | cons z r =>
        rw [hb] at hy
        simp at hy
        subst hy
        exact h2 z (by rw [hb]; rfl)
  · rw [if_neg hm]
    exact ⟨h1, h2, by omega⟩

/-- the value of digits as numbers -/
def dvn (l : List Nat) : Nat := l.foldl (fun n c => n * 10 + (c - 48)) 0
theorem dvn_strN : ∀ (l : List Nat) (n : Nat), (∀ c ∈ l, c < 256) → (l.map UInt8.ofNat).foldl (fun n c => n * 10 + (c.toNat - 48)) n = l.foldl (fun n c => n * 10 + (c - 48)) n
  | [], n, _ => rfl
  | c :: l, n, h => by
    have hc := h c (by simp)
    simp only [List.map_cons, List.foldl_cons, UInt8.toNat_ofNat']
    rw [Nat.mod_eq_of_lt (by simpa using hc)]
    exact dvn_strN l _ fun d hd => h d (by simp [hd])
theorem dv_strN {l : List Nat} (h : ∀ c ∈ l, 48 ≤ c ∧ c ≤ 57) : dv (strN l).data.toList = dvn l := by
  rw [strN_list]
  exact dvn_strN l 0 fun c hc => by have := h c hc; omega
theorem digs_strN {l : List Nat} (h : ∀ c ∈ l, 48 ≤ c ∧ c ≤ 57) : Digs (strN l).data.toList := by
  rw [strN_list]
  intro c hc
  obtain ⟨d, hd, rfl⟩ := List.mem_map.1 hc
  have := h d hd
  rw [UInt8.toNat_ofNat']
  omega
theorem dvn_from (l : List Nat) : ∀ n, l.foldl (fun n c => n * 10 + (c - 48)) n = n * 10 ^ l.length + dvn l := by
  unfold dvn
  induction l with
  | nil => intro n; simp
  | cons c l ih =>
    intro n
    simp only [List.foldl_cons, List.length_cons]
    rw [ih, ih (0 * 10 + (c - 48)), Nat.pow_succ, Nat.add_mul, Nat.zero_mul, Nat.zero_add, Nat.mul_assoc, Nat.mul_comm 10]
    omega
theorem dvn_cons (c : Nat) (l : List Nat) : dvn (c :: l) = (c - 48) * 10 ^ l.length + dvn l := by
  have := dvn_from l (0 * 10 + (c - 48))
  rw [Nat.zero_mul, Nat.zero_add] at this
  unfold dvn
  rw [List.foldl_cons, Nat.zero_mul, Nat.zero_add]
  exact this
theorem dvn_app (a b : List Nat) : dvn (a ++ b) = dvn a * 10 ^ b.length + dvn b := by
  unfold dvn
  rw [List.foldl_append]
  exact dvn_from b _
theorem dvn_lt : ∀ (l : List Nat), (∀ c ∈ l, 48 ≤ c ∧ c ≤ 57) → dvn l < 10 ^ l.length
  | [], _ => by simp [dvn]
  | c :: l, h => by
    have h1 := h c (by simp)
    have h2 := dvn_lt l fun d hd => h d (by simp [hd])
    rw [dvn_cons, List.length_cons, Nat.pow_succ]
    have h3 : (c - 48) * 10 ^ l.length ≤ 9 * 10 ^ l.length := Nat.mul_le_mul_right _ (by omega)
    omega
theorem dvn_ge {l : List Nat} (h : ∀ c ∈ l, 48 ≤ c ∧ c ≤ 57) (h0 : ∀ c, l.head? = some c → c ≠ 48) (hne : l ≠ []) : 10 ^ (l.length - 1) ≤ dvn l := by
  cases l with
  | nil => exact absurd rfl hne
  | cons c l =>
    have h1 := h c (by simp)
    have h2 := h0 c rfl
    rw [dvn_cons, List.length_cons, Nat.add_sub_cancel]
    have h3 : 1 * 10 ^ l.length ≤ (c - 48) * 10 ^ l.length := Nat.mul_le_mul_right _ (by omega)
    omega

theorem p331 : 2 ^ 1075 ≤ 10 ^ 331 := by decide +kernel
theorem p330 : 2 ^ 1025 ≤ 10 ^ 330 := by decide +kernel
theorem near_zero {B : Nat} (hB : 0 < B) {X : Nat} (h : 2 * X < B) : Near X B 0 := by
  refine ⟨by omega, .inl rfl, .inr (.inl ?_)⟩
  have e : V 0 + V (0 + 1) = 1 := by rw [V_small (by omega), V_small (by omega)]
  rw [e, Nat.mul_one]
  exact h
/-- a decimal below every float -/
theorem near_tiny {D n : Nat} {x : Int} (hD : D < 10 ^ n) (hx : x + n < -330) : Near (D * 10 ^ x.toNat * 2 ^ 1074) (10 ^ (-x).toNat) 0 := by
  have e : x.toNat = 0 := by omega
  rw [e, Nat.pow_zero, Nat.mul_one]
  refine near_zero (Nat.pow_pos (by decide)) ?_
  have h1 : 10 ^ n * 10 ^ 331 ≤ 10 ^ (-x).toNat := p10le n 331 _ (by omega)
  have h2 : 2 * (D * 2 ^ 1074) = D * 2 ^ 1075 := (p2dbl D 1074 1075 rfl).symm
  rw [h2]
  have h3 : D * 2 ^ 1075 ≤ D * 10 ^ 331 := Nat.mul_le_mul_left D p331
  have h5 : ∀ k : Nat, 0 < 10 ^ k := fun k => Nat.pow_pos (by decide)
  have h4 := mlt D (10 ^ n) (10 ^ 331) hD (h5 331)
  omega
theorem V_inf : V 9218868437227405312 = 2 ^ 1024 * 2 ^ 1074 := by
  have h3 := V_at 2046 4503599627370496 (by omega) (by omega)
  have e3 : 2045 * 4503599627370496 + 4503599627370496 + 4503599627370496 = 9218868437227405312 := by decide
  have e4 : 2046 * 4503599627370496 + 4503599627370496 = 9218868437227405312 := by decide
  rw [e4] at h3
  rewrite [h3, show (4503599627370496 : Nat) = 2 ^ 52 by decide]
  exact p2mul 52 2046 1024 1074 (by omega)
/-- a decimal above every float -/
theorem near_great {D n : Nat} {x : Int} (hD : 10 ^ (n - 1) ≤ D) (hn : 0 < n) (hx : 330 < x + n) : Near (D * 10 ^ x.toNat * 2 ^ 1074) (10 ^ (-x).toNat) 9218868437227405312 := by
  refine ⟨Nat.le_refl _, .inr (.inl ?_), .inl rfl⟩
  have a1 : V (9218868437227405312 - 1) < V 9218868437227405312 := V_mono (by omega)
  have a2 : V (9218868437227405312 - 1) + V 9218868437227405312 < 2 ^ 1025 * 2 ^ 1074 := by
    rw [V_inf] at a1 ⊢
    have h7 := p2twice 1024 1025 (2 ^ 1074) rfl
    rewrite [h7]
    omega
  have a3 : 10 ^ (-x).toNat * (V (9218868437227405312 - 1) + V 9218868437227405312) < 10 ^ (-x).toNat * (2 ^ 1025 * 2 ^ 1074) := (Nat.mul_lt_mul_left (Nat.pow_pos (by decide))).2 a2
  have a4 : 10 ^ (-x).toNat * 10 ^ 330 ≤ D * 10 ^ x.toNat := by
    have h8 := p10mul (-x).toNat 330 (n - 1) x.toNat (by omega)
    exact Nat.le_trans h8 (Nat.mul_le_mul_right _ hD)
  have a5 := great_le (10 ^ (-x).toNat) (D * 10 ^ x.toNat) (2 ^ 1025) (2 ^ 1074) (10 ^ 330) p330 a4
  omega
end Go.Proofs.Ytlkeemphdocpoaa.big
