/- prescale, pack64, parseFloat64, walked. parseFloat64, walked. parseFloat64: what it computes is the nearest float (plain). -/
import Derived.Test.YtagghdehbkbemaaGreatDoorYUw
import Derived.Test.YtagghdehbkbemaaGreatDoorGPow
section
namespace Go.Proofs.YtagghdehbkbemaaGreatDoor.uw
open Go.RowKit mem fl big us
set_option linter.unusedVariables false

/-- the table's cells -/
def PowAt (w : World) : Prop := ∀ i, i < 696 → w.cell? ⟨5, i * 2, none⟩ = some (.int .u64 (tabH i : Int)) ∧ w.cell? ⟨5, i * 2 + 1, none⟩ = some (.int .u64 (tabL i : Int))
/-- the scaler's three cells laid -/
def preW (g i : Nat) (s : Int) (w : World) : World := ((w.setCell ⟨g, 0, none⟩ (.int .u64 (tabH i : Int))).setCell ⟨g, 1, none⟩ (.int .u64 (tabL i : Int))).setCell ⟨g, 2, none⟩ (.int .i64 s)
def PrPost (g i : Nat) (s : Int) (w : World) (r : Ending) (w' : World) : Prop := r = .returned (.tuple #[]) ∧ w' = preW g i s w
set_option maxRecDepth 100000 in
theorem prescale_any (g i : Nat) (e p lp : Int) (w : World) (hg : g < w.heap.size) (hp : p = (i : Int) - 348) (hi : i < 696) (h7 : PowAt w) (he : -100000 ≤ e) (he2 : e ≤ 100000) (hl : -100000 ≤ lp) (hl2 : lp ≤ 100000) (h0 : g ≠ 5)
    (k0 : w.cell? ⟨g, 0, none⟩ = some (.int .u64 0)) (k1 : w.cell? ⟨g, 1, none⟩ = some (.int .u64 0)) (k2 : w.cell? ⟨g, 2, none⟩ = some (.int .i64 0))
    (z0 : w.frozen? ⟨g, 0, none⟩ = false) (z1 : w.frozen? ⟨g, 1, none⟩ = false) (z2 : w.frozen? ⟨g, 2, none⟩ = false) :
    Calls Tryz.prog 119 #[.pointer (some ⟨g, 0, none⟩), .int .i64 e, .int .i64 p, .int .i64 lp] w (PrPost g i (-(e + lp + 3)) w) := by
  unfold PrPost
  obtain ⟨hH, hL⟩ := h7 i hi
  have hHb := (bounds i hi)
  have hpi : p - -348 = (i : Int) := by omega
  go_enter Tryz.func119, Tryz.ntmps119
  go_wp2_with fail
  refine bodyPost_end (results_none rfl _ _ _) rfl ?_
  exact ⟨rfl, rfl⟩
/-- the error of a number out of range -/
def erng : Value := .iface 105 (.int .i64 1)
def PkPost (m j : Nat) (w : World) (e : Ending) (w' : World) : Prop := e = .returned (.tuple #[.float .f64 (min (j * 4503599627370496 + m) 9218868437227405312), if j < 2046 ∨ m < 4503599627370496 then .nilIface else erng]) ∧ w = w'
theorem bit52_lo (m : Nat) (h : m < 4503599627370496) : bits .and .u64 (m : Int) 4503599627370496 = 0 := by
  have h52 : (2 : Nat) ^ 52 = 4503599627370496 := by decide
  have h1 := u64_and_nat m 4503599627370496 (by omega) (by decide)
  rw [← h52, nat_bit 52, h52] at h1
  have e : m / 4503599627370496 = 0 := by omega
  rw [e] at h1
  exact h1
theorem bit52_hi (m : Nat) (h : 4503599627370496 ≤ m) (h2 : m < 9007199254740992) : bits .and .u64 (m : Int) 4503599627370496 = 4503599627370496 := by
  have h52 : (2 : Nat) ^ 52 = 4503599627370496 := by decide
  have h1 := u64_and_nat m 4503599627370496 (by omega) (by decide)
  rw [← h52, nat_bit 52, h52] at h1
  have e : m / 4503599627370496 = 1 := by omega
  rw [e] at h1
  exact h1
theorem bit63_lo (m : Nat) (h : m < 9223372036854775808) : bits .and .u64 (m : Int) 9223372036854775808 = 0 := by
  have h52 : (2 : Nat) ^ 63 = 9223372036854775808 := by decide
  have h1 := u64_and_nat m 9223372036854775808 (by omega) (by decide)
  rw [← h52, nat_bit 63, h52] at h1
  have e : m / 9223372036854775808 = 0 := by omega
  rw [e] at h1
  exact h1
set_option maxRecDepth 100000 in
theorem not52 (m : Nat) (h : 4503599627370496 ≤ m) (h2 : m < 9007199254740992) : bits .andNot .u64 (m : Int) 4503599627370496 = ((m - 4503599627370496 : Nat) : Int) := by
  have h1 := u64_andNot_nat m 4503599627370496 (by omega) (by decide)
  have h53 : m &&& (2 ^ 53 - 1) = m := by
    rw [Nat.and_two_pow_sub_one_eq_mod]
    exact Nat.mod_eq_of_lt (by have : (2 : Nat) ^ 53 = 9007199254740992 := by decide
                               omega)
  have h3 : m &&& (18446744073709551615 - 4503599627370496) = m - 4503599627370496 := by
    conv => lhs; rw [← h53]
    rw [Nat.and_assoc, show (2 ^ 53 - 1) &&& (18446744073709551615 - 4503599627370496) = 2 ^ 52 - 1 by decide, Nat.and_two_pow_sub_one_eq_mod]
    have : (2 : Nat) ^ 52 = 4503599627370496 := by decide
    rw [this]
    omega
  rw [h3] at h1
  exact h1
set_option maxRecDepth 100000 in
theorem pack_or (m j : Nat) (h : 4503599627370496 ≤ m) (h2 : m < 9007199254740992) (hj : j < 2046) : bits .or .u64 ((m - 4503599627370496 : Nat) : Int) ((1075 + ((j : Int) - 1074)) * 4503599627370496) = ((j * 4503599627370496 + m : Nat) : Int) := by
  have h52 : (2 : Nat) ^ 52 = 4503599627370496 := by decide
  have h1 := or_join' ((j + 1) * 4503599627370496) (m - 4503599627370496) 52 (by omega) (by omega) (by rw [h52]; omega) (by rw [h52]; omega)
  have e : (1075 + ((j : Int) - 1074)) * 4503599627370496 = (((j + 1) * 4503599627370496 : Nat) : Int) := by omega
  have e3 : (m - 4503599627370496) + (j + 1) * 4503599627370496 = j * 4503599627370496 + m := by omega
  obtain ⟨q, hq⟩ : ∃ q, (1075 + ((j : Int) - 1074)) * 4503599627370496 = q := ⟨_, rfl⟩
  obtain ⟨q2, hq2⟩ : ∃ q2, (j + 1) * 4503599627370496 = q2 := ⟨_, rfl⟩
  rw [hq] at e ⊢
  rw [hq2] at e e3 h1
  rw [← e3, e]
  exact h1
end Go.Proofs.YtagghdehbkbemaaGreatDoor.uw
end
section
namespace Go.Proofs.YtagghdehbkbemaaGreatDoor.uw
open Go.RowKit mem fl big us
set_option linter.unusedVariables false

theorem bits_shape (w : World) (o : Obj) : Below w.heap.size w (w.alloc o) := (Below.refl _ _).alloc (Nat.le_refl _) _
theorem PowAt.below {w w' : World} (h : PowAt w) (hb : Below w.heap.size w w') (hz : 5 < w.heap.size) : PowAt w' := fun i hi => by
  obtain ⟨h1, h2⟩ := h i hi
  exact ⟨by rw [hb.cell hz]; exact h1, by rw [hb.cell hz]; exact h2⟩
def scl (w : World) : World := w.alloc (.cells #[.int .u64 0, .int .u64 0, .int .i64 0] 169)
theorem unmin2 (w : World) : Calls Tryz.prog 126 #[.int .u64 9007199254740992] w fun e w' => e = .returned (.int .u64 36028797018963966) ∧ w = w' := unmin_any w
theorem set_cells {w : World} {b j : Nat} {cs : Array Value} {u : Value} {t : TypeId} (h : w.heap[b]? = some (.cells cs t (0, 0))) : (w.setCell ⟨b, j, none⟩ u).heap[b]? = some (.cells (cs.setIfInBounds j u) t (0, 0)) := by
  have hlt := lt_of_block h
  have h' : w.heap[b] = .cells cs t (0, 0) := by simpa [Array.getElem?_eq_getElem hlt] using h
  show (w.heap.modify b _)[b]? = _
  rw [Array.getElem?_eq_getElem (by simpa using hlt), Array.getElem_modify_self, h']
  rfl
theorem preW_cells (g i : Nat) (s : Int) (w : World) (T : TypeId) (h : w.heap[g]? = some (.cells #[.int .u64 0, .int .u64 0, .int .i64 0] T (0, 0))) :
    (preW g i s w).heap[g]? = some (.cells #[.int .u64 (tabH i : Int), .int .u64 (tabL i : Int), .int .i64 s] T (0, 0)) := by
  unfold preW
  exact set_cells (set_cells (set_cells h))
theorem preW_below (g i : Nat) (s : Int) (w : World) (B : Nat) (hB : B ≤ g) : Below B w (preW g i s w) := (((Below.refl B w).setCell hB _).setCell hB _).setCell hB _
theorem b2i_any (b : Bool) (w : World) : Calls Tryz.prog 110 #[.bool b] w fun e w' => e = .returned (.int .i64 (if b then 1 else 0)) ∧ w = w' := by
  cases b
  all_goals
    go_enter Tryz.func110, Tryz.ntmps110
    go_wp2_with fail
    go_ret
    exact ⟨rfl, rfl⟩
theorem us_pos (x h : Nat) (hx : 9223372036854775808 ≤ x) (hh : 9223372036854775808 ≤ h) : 0 < x * h / 18446744073709551616 := by
  have := Nat.mul_le_mul hx hh
  omega
/-- one bit dropped, the sticky bit kept -/
def hlf (u : Nat) : Nat := if u % 2 = 0 then u / 2 else odd1 (u / 2)
theorem and_one (u : Nat) (h : u < 18446744073709551616) : bits .and .u64 (u : Int) 1 = ((u % 2 : Nat) : Int) := by
  have := and_low u 1 h (by decide)
  simpa using this
theorem or_hlf (u : Nat) (h : u < 18446744073709551616) : bits .or .u64 ((u : Int) / 2) ((u % 2 : Nat) : Int) = ((hlf u : Nat) : Int) := by
  have e : (u : Int) / 2 = ((u / 2 : Nat) : Int) := by simp
  rw [e]
  unfold hlf
  rcases Nat.mod_two_eq_zero_or_one u with h0 | h0
  · rw [h0, if_pos rfl]
    have := u64_or_nat (u / 2) 0 (by omega) (by omega)
    rw [Nat.or_zero] at this
    exact this
  · rw [h0, if_neg (by omega)]
    exact or_one (u / 2) (by omega)
theorem or_low (u : Nat) (h : u < 18446744073709551616) : bits .or .u64 (u : Int) ((u % 2 : Nat) : Int) = (u : Int) := by
  rcases Nat.mod_two_eq_zero_or_one u with h0 | h0
  · rw [h0]
    have := u64_or_nat u 0 (by omega) (by omega)
    rw [Nat.or_zero] at this
    exact this
  · rw [h0]
    have := or_one u h
    have e : odd1 u = u := by unfold odd1; omega
    rw [e] at this
    exact this
theorem or_zero_l (r : Nat) (h : r < 18446744073709551616) : bits .or .u64 0 (r : Int) = (r : Int) := by
  have := u64_or_nat 0 r (by omega) h
  rw [Nat.zero_or] at this
  exact this
theorem b2i_t (w : World) : Calls Tryz.prog 110 #[.bool true] w fun e w' => e = .returned (.int .i64 1) ∧ w' = w := (b2i_any true w).mono fun _ _ h => ⟨h.1, h.2.symm⟩
theorem b2i_f (w : World) : Calls Tryz.prog 110 #[.bool false] w fun e w' => e = .returned (.int .i64 0) ∧ w' = w := (b2i_any false w).mono fun _ _ h => ⟨h.1, h.2.symm⟩
end Go.Proofs.YtagghdehbkbemaaGreatDoor.uw
end
section
namespace Go.Proofs.YtagghdehbkbemaaGreatDoor.uw
open Go.RowKit mem fl big us
set_option linter.unusedVariables false

theorem bla_spec : ∀ f x : Nat, 0 < x → x < 2 ^ f → 0 < Lib.bitLenAux f x ∧ Lib.bitLenAux f x ≤ f ∧ 2 ^ (Lib.bitLenAux f x) ≤ 2 * x ∧ x < 2 ^ (Lib.bitLenAux f x)
  | 0, x, h0, h => by simp at h; omega
  | f + 1, x, h0, h => by
    have hne : x ≠ 0 := by omega
    simp only [Lib.bitLenAux, if_neg hne]
    rw [Nat.pow_succ] at h
    by_cases h1 : x / 2 = 0
    · have hx : x = 1 := by omega
      subst hx
      have e : Lib.bitLenAux f (1 / 2) = 0 := by cases f <;> simp [Lib.bitLenAux]
      rw [e]
      exact ⟨by omega, by omega, by decide, by decide⟩
    · obtain ⟨a, b, c, d⟩ := bla_spec f (x / 2) (by omega) (by omega)
      generalize Lib.bitLenAux f (x / 2) = n at *
      rw [Nat.add_comm 1 n, Nat.pow_succ]
      exact ⟨by omega, by omega, by omega, by omega⟩
theorem bl_spec (d : Nat) (h0 : 0 < d) (h : d < 18446744073709551616) : ∃ c : Nat, c < 64 ∧ (Lib.bitLen d : Int) = 64 - (c : Int) ∧ 9223372036854775808 ≤ d * 2 ^ c ∧ d * 2 ^ c < 18446744073709551616 := by
  have h64 : (2 : Nat) ^ 64 = 18446744073709551616 := by decide
  obtain ⟨a, b, c, e⟩ := bla_spec 64 d h0 (by rw [h64]; exact h)
  have hd : Lib.bitLenAux 64 d = Lib.bitLen d := rfl
  rw [hd] at a b c e
  generalize Lib.bitLen d = n at *
  have hp : 2 ^ n * 2 ^ (64 - n) = 18446744073709551616 := by rw [← Nat.pow_add, ← h64]; congr 1; omega
  have h1 := Nat.mul_le_mul_right (2 ^ (64 - n)) c
  have h2 := Nat.mul_lt_mul_of_pos_right e (Nat.two_pow_pos (64 - n))
  rw [hp] at h1 h2
  rw [Nat.mul_assoc] at h1
  exact ⟨64 - n, by omega, by omega, by omega, h2⟩
theorem alg1 (n d c t1 J K a : Nat) (h : c + t1 + J = n + K) : d * 2 ^ c * (a * 2 ^ t1) * 2 ^ J = d * a * 2 ^ n * 2 ^ K := by
  have e : 2 ^ c * 2 ^ t1 * 2 ^ J = 2 ^ n * 2 ^ K := by rw [← Nat.pow_add, ← Nat.pow_add, ← Nat.pow_add, h]
  calc d * 2 ^ c * (a * 2 ^ t1) * 2 ^ J = d * a * (2 ^ c * 2 ^ t1 * 2 ^ J) := by ac_rfl
    _ = _ := by rw [e]; ac_rfl
theorem alg2 (s t2 K b Q q : Nat) (hQ : Q = 2 ^ q) (h : 2 + s + q + t2 = K) : 4 * (2 ^ s * Q * (b * 2 ^ t2)) = b * 2 ^ K := by
  have e : 2 ^ 2 * 2 ^ s * 2 ^ q * 2 ^ t2 = 2 ^ K := by rw [← Nat.pow_add, ← Nat.pow_add, ← Nat.pow_add, h]
  rw [hQ, ← e, show (2 : Nat) ^ 2 = 4 by decide]
  ac_rfl
theorem Q128 : (340282366920938463463374607431768211456 : Nat) = 2 ^ 128 := by decide
/-- the bounds: s = 8 + z -/
theorem pf_bd (x A B z Y D : Nat) (hx1 : 9223372036854775808 ≤ x) (hx2 : x < 18446744073709551616) (hA1 : 170141183460469231731687303715884105728 * B ≤ A) (hA2 : A < 340282365653287863235145205935065006080 * B)
    (hY : x * A = Y) (hD : 256 * 2 ^ z * 340282366920938463463374607431768211456 * B = D) (hB : 0 < B) :
    0 < D ∧ Y < 72057593769492480 * D ∧ (z = 0 → 18014398509481984 * D ≤ Y) ∧ (0 < z → Y < 36028797018963968 * D) ∧ (56 ≤ z → Y < D) := by
  have h1 := Nat.mul_le_mul hx1 hA1
  have h2 := Nat.mul_lt_mul_of_lt_of_lt hx2 hA2
  rw [hY] at h1 h2
  have hT := Nat.two_pow_pos z
  have hD2 : D = 256 * (340282366920938463463374607431768211456 * (2 ^ z * B)) := by rw [← hD]; ac_rfl
  have hz0 : z = 0 → 2 ^ z * B = B := by rintro rfl; rw [Nat.pow_zero, Nat.one_mul]
  have hz1 : 0 < z → 2 * B ≤ 2 ^ z * B := fun h => Nat.mul_le_mul_right B (by
    have := Nat.pow_le_pow_right (show 0 < 2 by decide) (show 1 ≤ z from h)
    simpa using this)
  have hz2 : 56 ≤ z → 72057594037927936 * B ≤ 2 ^ z * B := fun h => Nat.mul_le_mul_right B (by
    have := Nat.pow_le_pow_right (show 0 < 2 by decide) h
    rw [show (2 : Nat) ^ 56 = 72057594037927936 by decide] at this
    exact this)
  have hz3 : B ≤ 2 ^ z * B := Nat.le_mul_of_pos_left B hT
  generalize 2 ^ z * B = t at *
  exact ⟨by omega, by omega, fun h => by have := hz0 h; omega, fun h => by have := hz1 h; omega, fun h => by have := hz2 h; omega⟩
/-- parseFloat64 answers the nearest float -/
def P64Post (d i : Nat) (w : World) (r : Ending) (w' : World) : Prop :=
  ∃ R, Near (d * 10 ^ (i - 348) * 2 ^ 1074) (10 ^ (348 - i)) R ∧ r = .returned (.tuple #[.float .f64 R, if R < 9218868437227405312 then .nilIface else erng]) ∧ Below w.heap.size w w'
theorem unr_bd (Y D m : Nat) (hD : 0 < D) (h : Y < m * D) (hm : m % 2 = 0) : unr Y D < m := by
  have h1 : Y / D < m := (Nat.div_lt_iff_lt_mul hD).2 h
  unfold unr odd1
  split <;> omega
theorem unr_ge (Y D m : Nat) (hD : 0 < D) (h : m * D ≤ Y) (hm : m % 2 = 0) : m ≤ unr Y D := by
  have h1 : m ≤ Y / D := (Nat.le_div_iff_mul_le hD).2 h
  unfold unr odd1
  split <;> omega
theorem unr_small (Y D : Nat) (hD : 0 < D) (h : Y < D) : unr Y D ≤ 1 := by
  have h1 : Y / D = 0 := Nat.div_eq_of_lt h
  unfold unr odd1
  rw [h1]
  split <;> omega
end Go.Proofs.YtagghdehbkbemaaGreatDoor.uw
end
