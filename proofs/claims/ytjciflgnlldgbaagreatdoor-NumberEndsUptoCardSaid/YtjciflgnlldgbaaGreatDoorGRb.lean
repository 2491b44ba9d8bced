/- PLAIN LEAN: what cut gathers; texts too small and too great. The reference's ReadBits, walked. PLAIN LEAN: the model's floats by sign and rung: order, whole numbers. PLAIN LEAN: the model's product and quotient of floats are the nearest. -/
import Derived.Test.YtjciflgnlldgbaaGreatDoorGDig
import Derived.Test.YtjciflgnlldgbaaGreatDoorGNear
import Derived.WalkLawsBesides
import Derived.Test.YtjciflgnlldgbaaGreatDoorGPow
section
namespace Go.Proofs.YtjciflgnlldgbaaGreatDoor.big
open Go.RowKit mem fl
set_option linter.unusedVariables false

def CInv (s : Cs) : Prop := (∀ c ∈ s.b, 48 ≤ c ∧ c ≤ 57) ∧ (∀ c, s.b.head? = some c → c ≠ 48) ∧ s.b.length ≤ 800 ∧ (s.more = true → s.b.length = 800)
theorem cinv_step {s : Cs} {c : Nat} (h : CInv s) (hc : Alp c) : CInv (cutStep s c) := by
  obtain ⟨h1, h2, h3, h4⟩ := h
  unfold Alp at hc
  by_cases hd : 48 ≤ c ∧ c ≤ 57
  · rw [cut_digit hd.1 hd.2]
    by_cases he : s.e = true
    · rw [if_pos he]
      split
      · exact ⟨h1, h2, h3, h4⟩
      · exact ⟨h1, h2, h3, h4⟩
    · rw [if_neg he]
      by_cases h8 : s.b.length = 800
      · rw [if_pos h8]
        exact ⟨h1, h2, h3, fun _ => h8⟩
      · rw [if_neg h8]
        by_cases h5 : c ≠ 48 ∨ 0 < s.b.length
        · rw [if_pos h5]
          refine ⟨?_, ?_, by simp; omega, fun h => absurd (h4 h) h8⟩
          · intro y hy
            rcases List.mem_append.1 hy with hy | hy
            · exact h1 y hy
            · simp at hy; omega
          · intro y hy
            cases hb : s.b with
            | nil =>
              rw [hb] at hy h5
              simp at hy h5
              omega
            | cons z r =>
              rw [hb] at hy
              simp at hy
              subst hy
              exact h2 z (by rw [hb]; rfl)
        · rw [if_neg h5]
          exact ⟨h1, h2, h3, h4⟩
  · unfold cutStep
    repeat' split
    all_goals first | exact ⟨h1, h2, h3, h4⟩ | (exfalso; omega)
theorem cinv_cut : ∀ (l : List Nat) (s : Cs), CInv s → (∀ c ∈ l, Alp c) → CInv (l.foldl cutStep s)
  | [], s, h, _ => h
  | c :: l, s, h, hl => cinv_cut l _ (cinv_step h (hl c (by simp))) fun d hd => hl d (by simp [hd])
theorem cinv_cutF {l : List Nat} (hl : ∀ c ∈ l, Alp c) : CInv (cutF l) := cinv_cut l _ ⟨by simp [Cs.start], by simp [Cs.start], by simp [Cs.start], by simp [Cs.start]⟩ hl
theorem digits_inv {s : Cs} (h : CInv s) : (∀ c ∈ s.digits, 48 ≤ c ∧ c ≤ 57) ∧ (∀ c, s.digits.head? = some c → c ≠ 48) ∧ s.digits.length ≤ 801 := by
  obtain ⟨h1, h2, h3, h4⟩ := h
  unfold Cs.digits
  by_cases hm : s.more = true
  · rw [if_pos hm]
    have h8 := h4 hm
    refine ⟨?_, ?_, by simp; omega⟩
    · intro y hy
      rcases List.mem_append.1 hy with hy | hy
      · exact h1 y hy
      · simp at hy; omega
    · intro y hy
      cases hb : s.b with
      | nil => rw [hb] at h8; simp at h8
      | cons z r =>
        rw [hb] at hy
        simp at hy
        subst hy
        exact h2 z (by rw [hb]; rfl)
  · rw [if_neg hm]
    exact ⟨h1, h2, by omega⟩

/-- the value of digits as numbers -/
def dvn (l : List Nat) : Nat := l.foldl (fun n c => n * 10 + (c - 48)) 0
theorem dvn_strN : ∀ (l : List Nat) (n : Nat), (∀ c ∈ l, c < 256) → (l.map UInt8.ofNat).foldl (fun n c => n * 10 + (c.toNat - 48)) n = l.foldl (fun n c => n * 10 + (c - 48)) n
  | [], n, _ => rfl
  | c :: l, n, h => by
    have hc := h c (by simp)
    simp only [List.map_cons, List.foldl_cons, UInt8.toNat_ofNat']
    rw [Nat.mod_eq_of_lt (by simpa using hc)]
    exact dvn_strN l _ fun d hd => h d (by simp [hd])
theorem dv_strN {l : List Nat} (h : ∀ c ∈ l, 48 ≤ c ∧ c ≤ 57) : dv (strN l).data.toList = dvn l := by
  rw [strN_list]
  exact dvn_strN l 0 fun c hc => by have := h c hc; omega
theorem digs_strN {l : List Nat} (h : ∀ c ∈ l, 48 ≤ c ∧ c ≤ 57) : Digs (strN l).data.toList := by
  rw [strN_list]
  intro c hc
  obtain ⟨d, hd, rfl⟩ := List.mem_map.1 hc
  have := h d hd
  rw [UInt8.toNat_ofNat']
  omega
theorem dvn_from (l : List Nat) : ∀ n, l.foldl (fun n c => n * 10 + (c - 48)) n = n * 10 ^ l.length + dvn l := by
  unfold dvn
  induction l with
  | nil => intro n; simp
  | cons c l ih =>
    intro n
    simp only [List.foldl_cons, List.length_cons]
    rw [ih, ih (0 * 10 + (c - 48)), Nat.pow_succ, Nat.add_mul, Nat.zero_mul, Nat.zero_add, Nat.mul_assoc, Nat.mul_comm 10]
    omega
theorem dvn_cons (c : Nat) (l : List Nat) : dvn (c :: l) = (c - 48) * 10 ^ l.length + dvn l := by
  have := dvn_from l (0 * 10 + (c - 48))
  rw [Nat.zero_mul, Nat.zero_add] at this
  unfold dvn
  rw [List.foldl_cons, Nat.zero_mul, Nat.zero_add]
  exact this
theorem dvn_app (a b : List Nat) : dvn (a ++ b) = dvn a * 10 ^ b.length + dvn b := by
  unfold dvn
  rw [List.foldl_append]
  exact dvn_from b _
theorem dvn_lt : ∀ (l : List Nat), (∀ c ∈ l, 48 ≤ c ∧ c ≤ 57) → dvn l < 10 ^ l.length
  | [], _ => by simp [dvn]
  | c :: l, h => by
    have h1 := h c (by simp)
    have h2 := dvn_lt l fun d hd => h d (by simp [hd])
    rw [dvn_cons, List.length_cons, Nat.pow_succ]
    have h3 : (c - 48) * 10 ^ l.length ≤ 9 * 10 ^ l.length := Nat.mul_le_mul_right _ (by omega)
    omega
theorem dvn_ge {l : List Nat} (h : ∀ c ∈ l, 48 ≤ c ∧ c ≤ 57) (h0 : ∀ c, l.head? = some c → c ≠ 48) (hne : l ≠ []) : 10 ^ (l.length - 1) ≤ dvn l := by
  cases l with
  | nil => exact absurd rfl hne
  | cons c l =>
    have h1 := h c (by simp)
    have h2 := h0 c rfl
    rw [dvn_cons, List.length_cons, Nat.add_sub_cancel]
    have h3 : 1 * 10 ^ l.length ≤ (c - 48) * 10 ^ l.length := Nat.mul_le_mul_right _ (by omega)
    omega

theorem p331 : 2 ^ 1075 ≤ 10 ^ 331 := by decide +kernel
theorem p330 : 2 ^ 1025 ≤ 10 ^ 330 := by decide +kernel
theorem near_zero {B : Nat} (hB : 0 < B) {X : Nat} (h : 2 * X < B) : Near X B 0 := by
  refine ⟨by omega, .inl rfl, .inr (.inl ?_)⟩
  have e : V 0 + V (0 + 1) = 1 := by rw [V_small (by omega), V_small (by omega)]
  rw [e, Nat.mul_one]
  exact h
/-- a decimal below every float -/
theorem near_tiny {D n : Nat} {x : Int} (hD : D < 10 ^ n) (hx : x + n < -330) : Near (D * 10 ^ x.toNat * 2 ^ 1074) (10 ^ (-x).toNat) 0 := by
  have e : x.toNat = 0 := by omega
  rw [e, Nat.pow_zero, Nat.mul_one]
  refine near_zero (Nat.pow_pos (by decide)) ?_
  have h1 : 10 ^ n * 10 ^ 331 ≤ 10 ^ (-x).toNat := p10le n 331 _ (by omega)
  have h2 : 2 * (D * 2 ^ 1074) = D * 2 ^ 1075 := (p2dbl D 1074 1075 rfl).symm
  rw [h2]
  have h3 : D * 2 ^ 1075 ≤ D * 10 ^ 331 := Nat.mul_le_mul_left D p331
  have h5 : ∀ k : Nat, 0 < 10 ^ k := fun k => Nat.pow_pos (by decide)
  have h4 := mlt D (10 ^ n) (10 ^ 331) hD (h5 331)
  omega
theorem V_inf : V 9218868437227405312 = 2 ^ 1024 * 2 ^ 1074 := by
  have h3 := V_at 2046 4503599627370496 (by omega) (by omega)
  have e3 : 2045 * 4503599627370496 + 4503599627370496 + 4503599627370496 = 9218868437227405312 := by decide
  have e4 : 2046 * 4503599627370496 + 4503599627370496 = 9218868437227405312 := by decide
  rw [e4] at h3
  rewrite [h3, show (4503599627370496 : Nat) = 2 ^ 52 by decide]
  exact p2mul 52 2046 1024 1074 (by omega)
/-- a decimal above every float -/
theorem near_great {D n : Nat} {x : Int} (hD : 10 ^ (n - 1) ≤ D) (hn : 0 < n) (hx : 330 < x + n) : Near (D * 10 ^ x.toNat * 2 ^ 1074) (10 ^ (-x).toNat) 9218868437227405312 := by
  refine ⟨Nat.le_refl _, .inr (.inl ?_), .inl rfl⟩
  have a1 : V (9218868437227405312 - 1) < V 9218868437227405312 := V_mono (by omega)
  have a2 : V (9218868437227405312 - 1) + V 9218868437227405312 < 2 ^ 1025 * 2 ^ 1074 := by
    rw [V_inf] at a1 ⊢
    have h7 := p2twice 1024 1025 (2 ^ 1074) rfl
    rewrite [h7]
    omega
  have a3 : 10 ^ (-x).toNat * (V (9218868437227405312 - 1) + V 9218868437227405312) < 10 ^ (-x).toNat * (2 ^ 1025 * 2 ^ 1074) := (Nat.mul_lt_mul_left (Nat.pow_pos (by decide))).2 a2
  have a4 : 10 ^ (-x).toNat * 10 ^ 330 ≤ D * 10 ^ x.toNat := by
    have h8 := p10mul (-x).toNat 330 (n - 1) x.toNat (by omega)
    exact Nat.le_trans h8 (Nat.mul_le_mul_right _ hD)
  have a5 := great_le (10 ^ (-x).toNat) (D * 10 ^ x.toNat) (2 ^ 1025) (2 ^ 1074) (10 ^ 330) p330 a4
  omega
end Go.Proofs.YtjciflgnlldgbaaGreatDoor.big
end
section
namespace Go.Proofs.YtjciflgnlldgbaaGreatDoor.big
open Go.RowKit mem fl
set_option linter.unusedVariables false

def sgn (neg : Bool) : Nat := if neg then 9223372036854775808 else 0
def RbPost (neg : Bool) (D : Nat) (x : Int) (w : World) (e : Ending) (w' : World) : Prop :=
  ∃ r : Nat, e = .returned (.tuple #[.int .u64 ((r + sgn neg : Nat) : Int), .bool (decide (r < 9218868437227405312))]) ∧ Near (D * 10 ^ x.toNat * 2 ^ 1074) (10 ^ (-x).toNat) r ∧ Below w.heap.size w w'

theorem sign_or {r : Nat} (hr : r ≤ 9218868437227405312) : bits .or .u64 (r : Int) 9223372036854775808 = ((r + 9223372036854775808 : Nat) : Int) := by
  have h63 : (2 : Nat) ^ 63 = 9223372036854775808 := by decide
  exact or_join' 9223372036854775808 r 63 (by decide) (by omega) (by decide) (by omega)
theorem cut_bd_step {s : Cs} {c n : Nat} (h : -(n : Int) ≤ s.x ∧ s.x ≤ n ∧ s.exp ≤ 11258999068426250) (hc : Alp c) : -((n + 1 : Nat) : Int) ≤ (cutStep s c).x ∧ (cutStep s c).x ≤ ((n + 1 : Nat) : Int) ∧ (cutStep s c).exp ≤ 11258999068426250 := by
  obtain ⟨h1, h2, h3⟩ := h
  unfold Alp at hc
  unfold cutStep
  repeat' split
  all_goals refine ⟨?_, ?_, ?_⟩ <;> (try simp only) <;> omega
theorem cut_bd : ∀ (l : List Nat) (s : Cs) (n : Nat), (-(n : Int) ≤ s.x ∧ s.x ≤ n ∧ s.exp ≤ 11258999068426250) → (∀ c ∈ l, Alp c) → -((n + l.length : Nat) : Int) ≤ (l.foldl cutStep s).x ∧ (l.foldl cutStep s).x ≤ ((n + l.length : Nat) : Int) ∧ (l.foldl cutStep s).exp ≤ 11258999068426250
  | [], s, n, h, _ => h
  | c :: l, s, n, h, hl => by
    have := cut_bd l (cutStep s c) (n + 1) (cut_bd_step h (hl c (by simp))) fun d hd => hl d (by simp [hd])
    rw [List.length_cons, show n + (l.length + 1) = n + 1 + l.length by omega]
    exact this
theorem power_bd {l : List Nat} (hl : ∀ c ∈ l, Alp c) (hn : l.length ≤ 1100000) : -11258999070000000 ≤ (cutF l).power ∧ (cutF l).power ≤ 11258999070000000 := by
  have := cut_bd l Cs.start 0 (by simp [Cs.start]) hl
  obtain ⟨h1, h2, h3⟩ := this
  unfold cutF Cs.power
  split <;> split <;> omega

set_option maxRecDepth 100000 in
set_option maxHeartbeats 8000000 in
theorem readBits_any (s : ByteArray) (w : World) (hA : ∀ k (h : k < s.size), Alp (s[k]).toNat) (hn : s.size ≤ 1100000) :
    Calls Tryz.prog 24 #[.string s] w (RbPost (cutF (nats s)).neg (dvn (cutF (nats s)).digits) (cutF (nats s)).power w) := by
  have hal : ∀ c ∈ nats s, Alp c := by
    intro c hc
    obtain ⟨k, hk, rfl⟩ := List.mem_iff_getElem.1 hc
    rw [nats_length] at hk
    rw [nats_get s k hk]
    exact hA k hk
  obtain ⟨hi1, hi2, hi3⟩ := digits_inv (cinv_cutF hal)
  obtain ⟨hp1, hp2⟩ := power_bd hal (by rw [nats_length]; exact hn)
  have HC := Lib.hid (cut_any s w hA hn)
  unfold CutPost at HC
  generalize (cutF (nats s)).neg = neg at *
  generalize (cutF (nats s)).power = x at *
  generalize (cutF (nats s)).digits = d at *
  have HI1 := Lib.hid hi1
  have HI2 := Lib.hid hi2
  have hsz : (strN d).size = d.length := strN_size d
  have hlist : (strN d).data.toList = d.map UInt8.ofNat := strN_list d
  have hlt := dvn_lt d hi1
  have hdv := dv_strN hi1
  have hdg := digs_strN hi1
  clear hA hal hi1 hi2
  go_enter Tryz.func24, Tryz.ntmps24
  have HSz := Lib.hid hsz
  have HLi := Lib.hid hlist
  have HLt := Lib.hid hlt
  have HDv := Lib.hid hdv
  have HDg := Lib.hid hdg
  clear hsz hlist hlt hdv hdg
  go_wp2_with fail
  refine (HC.out).mono ?_
  rintro e w2 ⟨rfl, hb2⟩
  have HB2 := Lib.hid hb2
  have hz2 := hb2.size
  clear hb2
  generalize hS : strN d = S at *
  have HS := Lib.hid hS
  clear hS
  by_cases hd0 : d = []
  · have hN : Near (dvn d * 10 ^ x.toNat * 2 ^ 1074) (10 ^ (-x).toNat) 0 := by
      subst hd0
      have e : dvn [] = 0 := rfl
      have hz : ∀ P Q : Nat, 0 * P * Q = 0 := fun P Q => by rw [Nat.zero_mul, Nat.zero_mul]
      rewrite [e, hz]
      exact near_zero (Nat.pow_pos (by decide)) (Nat.pow_pos (by decide))
    have HN := Lib.hid hN
    have hS0 : S = ⟨#[]⟩ := by
      rw [← HS.out, hd0]
      rfl
    subst hS0
    clear hN hd0 hi3
    cases neg
    · go_wp2_with fail
      go_ret2
      exact ⟨0, rfl, HN.out, HB2.out⟩
    · have hor : bits .or .u64 0 9223372036854775808 = 9223372036854775808 := by rfl
      go_wp2_with fail
      go_ret2
      exact ⟨0, rfl, HN.out, HB2.out⟩
  · have hlen0 : 0 < d.length := List.length_pos_iff.2 hd0
    have hge := dvn_ge HI1.out HI2.out hd0
    have HGe := Lib.hid hge
    obtain ⟨n, hn0⟩ : ∃ n, d.length = n := ⟨_, rfl⟩
    rw [hn0] at hlen0 hi3 HLt HGe HSz
    have hss : S.size = n := HSz.out
    clear hge hn0 hd0
    have hne : ¬ S.toList = [] := by
      rw [ByteArray.toList_eq]
      intro h
      have : S.data.toList.length = S.size := by simp
      rw [h] at this
      simp at this
      omega
    have hne2 : S.toList.isEmpty = false := by
      cases hq : S.toList with
      | nil => exact absurd hq hne
      | cons _ _ => rfl
    have hor : bits .or .u64 0 9223372036854775808 = 9223372036854775808 := by rfl
    have hor2 : bits .or .u64 9218868437227405312 9223372036854775808 = 18442240474082181120 := by rfl
    by_cases hlo : x + (n : Int) < -330
    · have HN := Lib.hid (near_tiny HLt.out hlo)
      cases neg
      all_goals
        go_wp2_with fail
        go_ret2
        exact ⟨0, rfl, HN.out, HB2.out⟩
    · by_cases hhi : 330 < x + (n : Int)
      · have HN := Lib.hid (near_great HGe.out hlen0 hhi)
        cases neg
        all_goals
          go_wp2_with fail
          go_ret2
          exact ⟨9218868437227405312, rfl, HN.out, HB2.out⟩
      · have hd1 := dec_any S x w2 (by have := HDg.out; exact this) (by omega) (by omega) (by omega)
        rw [HDv.out] at hd1
        have HD1 := Lib.hid hd1
        clear hd1
        have hlD : (wd (dvn d * 10 ^ x.toNat)).length ≤ 100000 := by
          refine Nat.le_trans (wd_len_mulp (b := n) (K := 400) (wd_len_ten (b := 0) HLt.out) (by omega)) (by omega)
        have hlB : (wd (10 ^ (-x).toNat)).length ≤ 100000 := Nat.le_trans (wd_len_p10 (K := 2000) (by omega)) (by omega)
        have hBp : 0 < 10 ^ (-x).toNat := Nat.pow_pos (by decide)
        obtain ⟨T, hT⟩ : ∃ T, dvn d * 10 ^ x.toNat = T := ⟨_, rfl⟩
        obtain ⟨B, hB⟩ : ∃ B, 10 ^ (-x).toNat = B := ⟨_, rfl⟩
        rw [hT] at hlD HD1
        rw [hB] at hlB hBp HD1
        have HT := Lib.hid hT
        have HB := Lib.hid hB
        clear hT hB
        go_wp2_with fail
        refine (HD1.out).mono ?_
        rintro e w3 ⟨v0, v1, rfl, b0, b1, hb3⟩
        have HB3 := Lib.hid (HB2.out.trans (hb3.mono hz2))
        have hz3 := hb3.size
        have hbt := bits_any v0 v1 T B w3 b0 b1 hlD hlB hBp
        have HBt := Lib.hid hbt
        clear b0 b1 hb3 hbt
        go_wp2_with fail
        refine (HBt.out).mono ?_
        rintro e w4 ⟨r, rfl, hr, hb4⟩
        have HR := Lib.hid hr
        have HB4 := Lib.hid (HB3.out.trans (hb4.mono (by omega)))
        have hrb : r ≤ 9218868437227405312 := hr.1
        have hsg := sign_or hrb
        clear hr hb4
        obtain ⟨bb, hbb⟩ : ∃ bb, decide (r < 9218868437227405312) = bb := ⟨_, rfl⟩
        rw [hbb]
        have HBb := Lib.hid hbb
        clear hbb
        cases neg
        all_goals
          go_wp2_with fail
          go_ret2
          refine ⟨r, ?_, by rw [HT.out, HB.out]; exact HR.out, HB4.out⟩
          rw [HBb.out]
          rfl
end Go.Proofs.YtjciflgnlldgbaaGreatDoor.big
end
section
namespace Go.Proofs.YtjciflgnlldgbaaGreatDoor.big
open Go.RowKit mem fl
set_option linter.unusedVariables false

theorem read_parts (s : Bool) (a : Nat) (ha : a < 9223372036854775808) : (a + sgn s) / 9223372036854775808 % 2 = (if s then 1 else 0) ∧ (a + sgn s) % 9223372036854775808 = a := by
  unfold sgn
  cases s
  · simp only [Bool.false_eq_true, if_false]; omega
  · simp only [if_true]; omega
theorem read_num (s : Bool) (a : Nat) (ha : a < 9218868437227405312) : Ieee.double.read (a + sgn s) = .number s (spM a) (spE a) := by
  obtain ⟨h1, h2⟩ := read_parts s a (by omega)
  have e1 : Ieee.double.signWeight = 9223372036854775808 := by decide
  have e2 : Ieee.double.binade = 4503599627370496 := by decide
  have e3 : Ieee.double.infRung = 9218868437227405312 := by decide
  have e4 : Ieee.double.leastPlace = -1074 := by decide
  unfold Ieee.Format.read
  simp only [e1, e2, e3, e4, h1, h2]
  have hs : ((if s = true then 1 else 0) == 1) = s := by cases s <;> rfl
  unfold spM spE
  have e5 : a / 4503599627370496 % 2048 = a / 4503599627370496 := by omega
  rw [e5]
  by_cases hb : a < 4503599627370496
  · have e6 : a / 4503599627370496 = 0 := by omega
    have e7 : a % 4503599627370496 = a := by omega
    rw [if_pos hb, if_pos e6, if_pos e6, e7, hs]
  · have e6 : ¬ a / 4503599627370496 = 0 := by omega
    rw [if_neg hb, if_pos ha, if_neg e6, if_neg e6, hs, Nat.add_comm 4503599627370496]
    congr 1
    omega
theorem read_inf (s : Bool) : Ieee.double.read (9218868437227405312 + sgn s) = .infinity s := by cases s <;> decide
theorem read_nan (s : Bool) (a : Nat) (ha : a < 9223372036854775808) (hn : 9218868437227405312 < a) : Ieee.double.read (a + sgn s) = .nan s (a - 9218868437227405312) := by
  obtain ⟨h1, h2⟩ := read_parts s a ha
  have e1 : Ieee.double.signWeight = 9223372036854775808 := by decide
  have e2 : Ieee.double.binade = 4503599627370496 := by decide
  have e3 : Ieee.double.infRung = 9218868437227405312 := by decide
  unfold Ieee.Format.read
  simp only [e1, e2, e3, h1, h2]
  have hs : ((if s = true then 1 else 0) == 1) = s := by cases s <;> rfl
  rw [if_neg (by omega), if_neg (by omega), if_neg (by omega), hs]
/-- a float's value, in units of the least one -/
def sV (s : Bool) (a : Nat) : Int := if s then -(V a : Int) else (V a : Int)
theorem signed_mul (s : Bool) (m u p : Nat) : Ieee.signed s m u * (2 ^ p : Nat) = if s then -((m * 2 ^ (u + p) : Nat) : Int) else ((m * 2 ^ (u + p) : Nat) : Int) := by
  unfold Ieee.signed
  rw [Nat.shiftLeft_eq]
  have e : m * 2 ^ (u + p) = m * 2 ^ u * 2 ^ p := by rw [Nat.pow_add, Nat.mul_assoc]
  rw [e]
  cases s
  · simp [Int.natCast_mul]
  · simp only [if_true, Int.natCast_mul, Int.neg_mul]
theorem compare_scale (x y : Int) (p : Nat) : compare (x * (2 ^ p : Nat)) (y * (2 ^ p : Nat)) = compare x y := by
  have hp : (0 : Int) < ((2 ^ p : Nat) : Int) := by exact_mod_cast pow_pos' p
  simp only [compare, compareOfLessAndEq]
  have h1 : (x * ((2 ^ p : Nat) : Int) < y * ((2 ^ p : Nat) : Int)) ↔ x < y := Int.mul_lt_mul_right hp
  have h2 : (x * ((2 ^ p : Nat) : Int) = y * ((2 ^ p : Nat) : Int)) ↔ x = y := ⟨fun h => Int.eq_of_mul_eq_mul_right (by omega) h, fun h => by rw [h]⟩
  simp only [h1, h2]
theorem order_num (s t : Bool) (a b : Nat) (ha : a < 9218868437227405312) (hb : b < 9218868437227405312) : Ieee.double.order (a + sgn s) (b + sgn t) = some (compare (sV s a) (sV t b)) := by
  unfold Ieee.Format.order
  rw [read_num s a ha, read_num t b hb]
  simp only [Ieee.Datum.order]
  congr 1
  have ea := spE_bd ha
  have eb := spE_bd hb
  obtain ⟨base, hbase⟩ : ∃ base, min (spE a) (spE b) = base := ⟨_, rfl⟩
  rw [hbase, ← compare_scale _ _ (base + 1074).toNat, signed_mul, signed_mul]
  have h1 : (spE a - base).toNat + (base + 1074).toNat = (spE a + 1074).toNat := by omega
  have h2 : (spE b - base).toNat + (base + 1074).toNat = (spE b + 1074).toNat := by omega
  rw [h1, h2, ← V_sp ha, ← V_sp hb]
  rfl
theorem order_inf_num (s t : Bool) (b : Nat) (hb : b < 9218868437227405312) : Ieee.double.order (9218868437227405312 + sgn s) (b + sgn t) = some (if s then .lt else .gt) := by
  unfold Ieee.Format.order
  rw [read_inf, read_num t b hb]
  rfl
theorem order_nan (s t : Bool) (a b : Nat) (ha : a < 9223372036854775808) (hn : 9218868437227405312 < a) (y : Nat) : Ieee.double.order (a + sgn s) y = none := by
  unfold Ieee.Format.order
  rw [read_nan s a ha hn]
  cases Ieee.double.read y <;> rfl
theorem order_self (s : Bool) (a : Nat) (ha : a ≤ 9218868437227405312) : Ieee.double.order (a + sgn s) (a + sgn s) = some .eq := by
  by_cases h : a = 9218868437227405312
  · subst h
    unfold Ieee.Format.order
    rw [read_inf]
    cases s <;> rfl
  · rw [order_num s s a a (by omega) (by omega)]
    congr 1
    simp [compare, compareOfLessAndEq]

/-! ### exact numbers, and numbers cut -/
theorem near_exact {X r : Nat} (h : V r = X) (hr : r ≤ 9218868437227405312) : Near X 1 r := by
  have h2 := V_succ r
  refine ⟨hr, ?_, .inr (.inl (by omega))⟩
  by_cases h0 : r = 0
  · exact .inl h0
  · have h1 := V_succ (r - 1)
    rw [show r - 1 + 1 = r by omega] at h1
    exact .inr (.inl (by omega))
theorem V_pred {a : Nat} (ha : 0 < a) : ∃ j, (∃ K, V a = K * 2 ^ j) ∧ V a ≤ V (a - 1) + 2 ^ j := by
  rcases form a with h | ⟨j, K, rfl, h1, h2⟩
  · exact ⟨0, ⟨a, by rw [V_small (by omega)]; simp⟩, by rw [V_small (r := a) (by omega), V_small (r := a - 1) (by omega)]; simp; omega⟩
  · have h3 := V_at j K h1 (by omega)
    refine ⟨j, ⟨K, h3⟩, ?_⟩
    by_cases hK : 4503599627370496 < K
    · have h4 := V_at j (K - 1) (by omega) (by omega)
      rw [show j * 4503599627370496 + K - 1 = j * 4503599627370496 + (K - 1) by omega, h3, h4]
      have : K * 2 ^ j = (K - 1) * 2 ^ j + 1 * 2 ^ j := by rw [← Nat.add_mul]; congr 1; omega
      omega
    · obtain rfl : K = 4503599627370496 := by omega
      cases j with
      | zero => rw [h3, V_small (by omega)]; simp
      | succ j =>
        have h4 := V_at j 9007199254740991 (by omega) (by omega)
        rw [show (j + 1) * 4503599627370496 + 4503599627370496 - 1 = j * 4503599627370496 + 9007199254740991 by omega, h3, h4, Nat.pow_succ]
        omega
/-- a number that is not whole is no whole number's nearest, where the whole number is cut from it -/
theorem cut_not {a T : Nat} (ha : 0 < a) (h1 : T * 2 ^ 1074 < V a) (h2 : V a < (T + 1) * 2 ^ 1074) (hN : Near (T * 2 ^ 1074) 1 a) : False := by
  obtain ⟨j, ⟨K, hK⟩, hp⟩ := V_pred ha
  obtain ⟨_, hlo, _⟩ := hN
  have hlo2 : V (a - 1) + V a ≤ 2 * (T * 2 ^ 1074) := by
    rcases hlo with h | h | ⟨h, _⟩ <;> omega
  by_cases hj : j < 1074
  · have e1 : (2 : Nat) ^ 1074 = 2 ^ (1074 - j) * 2 ^ j := by rw [← Nat.pow_add]; congr 1; omega
    have e2 : T * 2 ^ 1074 = (T * 2 ^ (1074 - j)) * 2 ^ j := by rw [e1, Nat.mul_assoc]
    rw [e2] at h1 hlo2
    rw [hK] at h1 hlo2 hp
    have h3 : T * 2 ^ (1074 - j) + 1 ≤ K := by
      have := Nat.lt_of_mul_lt_mul_right h1
      omega
    have h4 : (T * 2 ^ (1074 - j) + 1) * 2 ^ j ≤ K * 2 ^ j := Nat.mul_le_mul_right _ h3
    rw [Nat.add_mul, Nat.one_mul] at h4
    have h5 := pow_pos' j
    omega
  · have e1 : (2 : Nat) ^ j = 2 ^ (j - 1074) * 2 ^ 1074 := p2split j 1074 (by omega)
    rw [hK, e1, ← Nat.mul_assoc] at h1 h2
    have h3 := Nat.lt_of_mul_lt_mul_right h1
    have h4 := Nat.lt_of_mul_lt_mul_right h2
    omega
theorem cutZ (s : Bool) (n d : Nat) : Ieee.Toward.zero.cut s n d = n / 2 ^ d := by
  unfold Ieee.Toward.cut
  simp only [Nat.shiftLeft_eq, Nat.one_mul, Bool.toNat_false, Nat.add_zero]
  by_cases h : d ≤ n.log2 + 2
  · rw [Nat.min_eq_left h]
  · rw [Nat.min_eq_right (by omega)]
    have hl : n < 2 ^ (n.log2 + 1) := Nat.lt_log2_self
    have h1 : 2 ^ (n.log2 + 1) ≤ 2 ^ (n.log2 + 2) := Nat.pow_le_pow_right (by omega) (by omega)
    have h2 : 2 ^ (n.log2 + 2) ≤ 2 ^ d := Nat.pow_le_pow_right (by omega) (by omega)
    rw [Nat.div_eq_of_lt (by omega), Nat.div_eq_of_lt (by omega)]
/-- the whole part -/
theorem integral_eq (s : Bool) (a : Nat) (ha : a < 9218868437227405312) : (Ieee.Datum.number s (spM a) (spE a)).integral .zero = .number s (V a / 2 ^ 1074) 0 := by
  unfold Ieee.Datum.integral
  simp only [cutZ, Nat.shiftLeft_eq]
  congr 1
  have h := spE_bd ha
  rw [V_sp ha]
  by_cases hx : 0 ≤ spE a
  · have e1 : (-spE a).toNat = 0 := by omega
    have e2 : (spE a + 1074).toNat = (spE a).toNat + 1074 := by omega
    rw [e1, e2, Nat.pow_zero, Nat.div_one, Nat.pow_add, ← Nat.mul_assoc, Nat.mul_div_cancel _ (pow_pos' 1074)]
  · have e1 : (spE a).toNat = 0 := by omega
    have e2 : (2 : Nat) ^ 1074 = 2 ^ (-spE a).toNat * 2 ^ (spE a + 1074).toNat := by rw [← Nat.pow_add]; congr 1; omega
    rw [e1, e2, Nat.pow_zero, Nat.mul_one, Nat.mul_div_mul_right _ _ (pow_pos' _)]
theorem word_sgn (s : Bool) (r : Nat) : Ieee.double.word s r = r + sgn s := by
  unfold Ieee.Format.word sgn
  have e1 : Ieee.double.signWeight = 9223372036854775808 := by decide
  rw [e1]
  cases s
  · rfl
  · simp only [if_true]; omega
/-- a whole number's float -/
theorem encode_whole (s : Bool) (T : Nat) : ∃ r, Ieee.double.write (.number s T 0) = r + sgn s ∧ Near (T * 2 ^ 1074) 1 r := by
  unfold Ieee.Format.write
  simp only
  by_cases h0 : T = 0
  · subst h0
    refine ⟨0, ?_, near_exact (by rw [V_small (by omega)]; omega) (by omega)⟩
    unfold Ieee.Format.nearest
    rw [if_pos rfl, word_sgn]
  · obtain ⟨r, h1, h2⟩ := nearest_near s T 0 h0
    refine ⟨r, by rw [h1, word_sgn], ?_⟩
    have e1 : ((0 : Int) + 1074).toNat = 1074 := by decide
    have e2 : (-((0 : Int) + 1074)).toNat = 0 := by decide
    rw [e1, e2, Nat.pow_zero] at h2
    exact h2
end Go.Proofs.YtjciflgnlldgbaaGreatDoor.big
end
section
namespace Go.Proofs.YtjciflgnlldgbaaGreatDoor.big
open Go.RowKit mem fl
set_option linter.unusedVariables false

theorem read_pos (a : Nat) (ha : a < 9218868437227405312) : Ieee.double.read a = .number false (spM a) (spE a) := by
  have h := read_num false a ha
  have e : a + sgn false = a := rfl
  rw [e] at h
  exact h
theorem write_near (mag : Nat) (place : Int) (hm : mag ≠ 0) : ∃ r, Ieee.double.write (.number false mag place) = r ∧ Near (mag * 2 ^ (place + 1074).toNat) (2 ^ (-(place + 1074)).toNat) r := by
  obtain ⟨r, h1, h2⟩ := nearest_near false mag place hm
  have e : Ieee.double.word false r = r := by rw [word_sgn]; rfl
  rw [e] at h1
  exact ⟨r, h1, h2⟩
theorem spM_pos {a : Nat} (h0 : 0 < a) (ha : a < 9218868437227405312) : spM a ≠ 0 := by
  intro h
  have hv := V_sp ha
  rw [h, Nat.zero_mul] at hv
  have := V_mono h0
  omega
theorem mul_alg (m1 m2 : Nat) (x1 x2 : Int) (h1 : -1074 ≤ x1) (h2 : -1074 ≤ x2) :
    ∃ c, 0 < c ∧ m1 * m2 * 2 ^ (x1 + x2 + 1074).toNat * c = m1 * 2 ^ (x1 + 1074).toNat * (m2 * 2 ^ (x2 + 1074).toNat) ∧ 2 ^ (-(x1 + x2 + 1074)).toNat * c = 2 ^ 1074 := by
  have key : ∀ n : Nat, n = 1074 → ∃ c, 0 < c ∧ m1 * m2 * 2 ^ (x1 + x2 + n).toNat * c = m1 * 2 ^ (x1 + n).toNat * (m2 * 2 ^ (x2 + n).toNat) ∧ 2 ^ (-(x1 + x2 + n)).toNat * c = 2 ^ n := by
    intro n hn
    refine ⟨2 ^ (n - (-(x1 + x2 + n)).toNat), Nat.two_pow_pos _, ?_, ?_⟩
    · rw [Nat.mul_assoc, ← Nat.pow_add, show (x1 + x2 + n).toNat + (n - (-(x1 + x2 + n)).toNat) = (x1 + n).toNat + (x2 + n).toNat by omega, Nat.pow_add]
      ac_rfl
    · rw [← Nat.pow_add]
      congr 1
      omega
  exact key 1074 rfl
theorem mul_near (a b : Nat) (ha0 : 0 < a) (hb0 : 0 < b) (ha : a < 9218868437227405312) (hb : b < 9218868437227405312) :
    ∃ r, Ieee.double.mul a b = some r ∧ Near (V a * V b) (2 ^ 1074) r := by
  obtain ⟨r, h1, h2⟩ := write_near (spM a * spM b) (spE a + spE b) (Nat.mul_ne_zero (spM_pos ha0 ha) (spM_pos hb0 hb))
  refine ⟨r, ?_, ?_⟩
  · unfold Ieee.Format.mul
    rw [read_pos a ha, read_pos b hb]
    simp only [Ieee.Datum.product, Option.map_some]
    exact congrArg some h1
  · obtain ⟨c, hc, e1, e2⟩ := mul_alg (spM a) (spM b) (spE a) (spE b) (spE_bd ha).1 (spE_bd hb).1
    have h3 := h2.scale c hc
    rw [e1, e2] at h3
    rw [V_sp ha, V_sp hb]
    exact h3
open us in
theorem unr_two (u : Nat) : unr u 2 = if u % 2 = 0 then u / 2 else odd1 (u / 2) := rfl
open us in
theorem unr_unr (Y D : Nat) (hD : 0 < D) : ∀ k, unr (unr Y D) (2 ^ k) = unr Y (D * 2 ^ k)
  | 0 => by
    rw [Nat.pow_zero, Nat.mul_one]
    unfold unr
    simp [Nat.mod_one]
  | k + 1 => by
    have ih := unr_unr Y D hD k
    have h1 := unr_shift (unr Y D) (2 ^ k) (Nat.two_pow_pos k)
    have h2 := unr_shift Y (D * 2 ^ k) (Nat.mul_pos hD (Nat.two_pow_pos k))
    rw [ih] at h1
    rw [Nat.pow_succ, ← h1, h2, Nat.mul_assoc]
open us in
/-- a sticky bit below the rounding's places does no harm -/
theorem near_sticky (Y D k j r : Nat) (p : Int) (hD : 0 < D) (h1 : 18014398509481984 * 2 ^ k ≤ unr Y D) (h2 : unr Y D < 36028797018963968 * 2 ^ k) (hp : (j : Int) - k - 2 = p)
    (h : Near (unr Y D * 2 ^ p.toNat) (2 ^ (-p).toNat) r) : Near (Y * 2 ^ p.toNat) (D * 2 ^ (-p).toNat) r := by
  have hk := Nat.two_pow_pos k
  have hu := unr_unr Y D hD k
  obtain ⟨T, hT⟩ : ∃ T, 2 ^ k = T := ⟨_, rfl⟩
  have hq : 18014398509481984 * T ≤ Y / D ∧ Y / D < 36028797018963968 * T := by
    rw [hT] at h1 h2
    unfold unr odd1 at h1 h2
    split at h1 <;> rename_i hh <;> simp only [hh, if_true, if_false] at h2 <;> omega
  have hY1 : 18014398509481984 * T * D ≤ Y := (Nat.le_div_iff_mul_le hD).1 hq.1
  have hY2 : Y < 36028797018963968 * T * D := (Nat.div_lt_iff_lt_mul hD).1 hq.2
  have n1 := pf_near (unr Y D) (2 ^ k) j hk (by rw [hT] at h1 h2 ⊢; exact .inl (by omega)) (by rw [hT] at h1 h2 ⊢; omega)
  have e0 : ∀ a b : Nat, a * T * D = a * (D * T) := fun a _ => by rw [Nat.mul_assoc, Nat.mul_comm T D]
  rw [e0 _ 0] at hY1 hY2
  have n2 := pf_near Y (D * 2 ^ k) j (Nat.mul_pos hD hk) (by rw [hT]; exact .inl (by omega)) (by rw [hT]; omega)
  rw [hu] at n1
  have hj1 : p.toNat + min j (k + 2) = j := by omega
  have hj2 : (-p).toNat + min j (k + 2) = k + 2 := by omega
  have e1 : ∀ y, y * 2 ^ j = y * 2 ^ p.toNat * 2 ^ min j (k + 2) := fun y => by rw [Nat.mul_assoc, ← Nat.pow_add, hj1]
  have e2 : 4 * 2 ^ k = 2 ^ (-p).toNat * 2 ^ min j (k + 2) := by rw [← Nat.pow_add, hj2, Nat.pow_add]; exact Nat.mul_comm _ _
  have e3 : 4 * (D * 2 ^ k) = D * 2 ^ (-p).toNat * 2 ^ min j (k + 2) := by rw [Nat.mul_assoc, ← e2]; ac_rfl
  rw [e1, e2] at n1
  rw [e1, e3] at n2
  have n3 := n1.unscale (Nat.two_pow_pos _)
  have n4 := n2.unscale (Nat.two_pow_pos _)
  have hr := Near.unique h n3 (Nat.two_pow_pos _)
  rw [hr]
  exact n4
theorem near_move {m n s t u v r : Nat} (h : Near (m * 2 ^ s) (n * 2 ^ t) r) (e : u + t = s + v) : Near (m * 2 ^ u) (n * 2 ^ v) r := by
  have h1 := h.scale (2 ^ u) (Nat.two_pow_pos u)
  have e1 : m * 2 ^ s * 2 ^ u = m * 2 ^ u * 2 ^ s := by ac_rfl
  have e2 : n * 2 ^ t * 2 ^ u = n * 2 ^ v * 2 ^ s := by rw [Nat.mul_assoc, Nat.mul_assoc, ← Nat.pow_add, ← Nat.pow_add]; congr 2; omega
  rw [e1, e2] at h1
  exact h1.unscale (Nat.two_pow_pos s)
open us in
theorem sticky_unr (N n : Nat) (hn : 0 < n) : 2 * (N / n) + (N % n != 0).toNat = unr (2 * N) n := by
  have hd := Nat.div_add_mod N n
  have hm := Nat.mod_lt N hn
  obtain ⟨q, hq⟩ : ∃ q, N / n = q := ⟨_, rfl⟩
  obtain ⟨r, hr⟩ : ∃ r, N % n = r := ⟨_, rfl⟩
  rw [hq, hr] at hd ⊢
  rw [hr] at hm
  obtain ⟨g, hg⟩ : ∃ g, n * q = g := ⟨_, rfl⟩
  rw [hg] at hd
  have hg2 : 2 * q * n = 2 * g := by rw [← hg]; ac_rfl
  have hg3 : (2 * q + 1) * n = 2 * g + n := by rw [Nat.add_mul, hg2, Nat.one_mul]
  have hg4 : (2 * q + 1 + 1) * n = 2 * g + n + n := by rw [Nat.add_mul, hg3, Nat.one_mul]
  by_cases h0 : r = 0
  · have e : 2 * N = 2 * q * n := by omega
    rw [e, unr_exact n (2 * q) hn, h0]
    rfl
  · have e1 : (r != 0).toNat = 1 := by simp [h0]
    rw [e1]
    by_cases h1 : 2 * r = n
    · have e : 2 * N = (2 * q + 1) * n := by omega
      rw [e, unr_exact n _ hn]
    · by_cases h2 : 2 * r < n
      · rw [unr_of (2 * N) n (2 * q) hn (by omega) (by omega)]
        unfold odd1
        omega
      · rw [unr_of (2 * N) n (2 * q + 1) hn (by omega) (by omega)]
        unfold odd1
        omega
/-- the quotient's bounds -/
theorem quo_bd (m n : Nat) (hm : m ≠ 0) (hn : n ≠ 0) (hml : m < 9007199254740992) : ∃ more, 54 + n.log2 - m.log2 = more ∧ more ≤ 54 + n.log2 ∧ 9007199254740992 ≤ m * 2 ^ more / n ∧ m * 2 ^ more / n < 36028797018963968 := by
  have a1 := Nat.log2_self_le hm
  have a2 : m < 2 ^ (m.log2 + 1) := Nat.lt_log2_self
  have b1 := Nat.log2_self_le hn
  have b2 : n < 2 ^ (n.log2 + 1) := Nat.lt_log2_self
  have hL : m.log2 < 53 := by
    rcases Nat.lt_or_ge m.log2 53 with h | h
    · exact h
    · have := Nat.pow_le_pow_right (show 0 < 2 by decide) h
      rw [show (2 : Nat) ^ 53 = 9007199254740992 by decide] at this
      omega
  obtain ⟨lm, hlm⟩ : ∃ lm, m.log2 = lm := ⟨_, rfl⟩
  obtain ⟨ln, hln⟩ : ∃ ln, n.log2 = ln := ⟨_, rfl⟩
  rw [hlm] at a1 a2 hL ⊢
  rw [hln] at b1 b2 ⊢
  refine ⟨54 + ln - lm, rfl, by omega, ?_, ?_⟩
  · refine (Nat.le_div_iff_mul_le (by omega)).2 ?_
    have h1 := Nat.mul_le_mul_right (2 ^ (54 + ln - lm)) a1
    rw [← Nat.pow_add, show lm + (54 + ln - lm) = 53 + (ln + 1) by omega, Nat.pow_add, show (2 : Nat) ^ 53 = 9007199254740992 by decide] at h1
    have h2 := Nat.mul_le_mul_left 9007199254740992 (Nat.le_of_lt b2)
    omega
  · refine (Nat.div_lt_iff_lt_mul (by omega)).2 ?_
    have h1 := Nat.mul_lt_mul_of_pos_right a2 (Nat.two_pow_pos (54 + ln - lm))
    rw [← Nat.pow_add, show lm + 1 + (54 + ln - lm) = 55 + ln by omega, Nat.pow_add, show (2 : Nat) ^ 55 = 36028797018963968 by decide] at h1
    have h2 := Nat.mul_le_mul_left 36028797018963968 b1
    omega
theorem near_mulpow (m a b D r : Nat) (h : Near (m * 2 ^ (a + b)) D r) : Near (m * 2 ^ a * 2 ^ b) D r := by
  rw [Nat.mul_assoc, ← Nat.pow_add]
  exact h
theorem div_near (a b : Nat) (ha0 : 0 < a) (hb0 : 0 < b) (ha : a < 9218868437227405312) (hb : b < 9218868437227405312) (hx : -400 ≤ spE a) (hy : spE b ≤ 400) :
    ∃ r, Ieee.double.div a b = some r ∧ Near (V a * 2 ^ 1074) (V b) r := by
  have hm0 := spM_pos ha0 ha
  have hn0 := spM_pos hb0 hb
  have hml := spM_lt a
  have hnl := spM_lt b
  have hbi := spE_bd ha
  have hbj := spE_bd hb
  have hva := V_sp ha
  have hvb := V_sp hb
  have hmul : Ieee.double.div a b = ((Ieee.Datum.number false (spM a) (spE a)).quotient 54 (.number false (spM b) (spE b))).map Ieee.double.write := by
    unfold Ieee.Format.div
    rw [read_pos a ha, read_pos b hb]
    rfl
  obtain ⟨m, hm⟩ : ∃ m, spM a = m := ⟨_, rfl⟩
  obtain ⟨n, hn⟩ : ∃ n, spM b = n := ⟨_, rfl⟩
  obtain ⟨i, hi⟩ : ∃ i, spE a = i := ⟨_, rfl⟩
  obtain ⟨j, hj⟩ : ∃ j, spE b = j := ⟨_, rfl⟩
  rw [hm, hn, hi, hj] at hmul
  rw [hm, hi] at hva
  rw [hn, hj] at hvb
  rw [hm] at hm0 hml
  rw [hn] at hn0 hnl
  rw [hi] at hx hbi
  rw [hj] at hy hbj
  obtain ⟨more, e1, e2, e3, e4⟩ := quo_bd m n hm0 hn0 hml
  have hln : n.log2 ≤ 53 := by
    rcases Nat.lt_or_ge n.log2 54 with h | h
    · omega
    · have h1 := Nat.pow_le_pow_right (show 0 < 2 by decide) h
      rw [show (2 : Nat) ^ 54 = 18014398509481984 by decide] at h1
      have := Nat.log2_self_le hn0
      omega
  have hst := sticky_unr (m * 2 ^ more) n (by omega)
  obtain ⟨q, hq⟩ : ∃ q, m * 2 ^ more / n = q := ⟨_, rfl⟩
  obtain ⟨z, hz⟩ : ∃ z, (m * 2 ^ more % n != 0).toNat = z := ⟨_, rfl⟩
  have hz1 : z ≤ 1 := by rw [← hz]; cases (m * 2 ^ more % n != 0) <;> decide
  have hquo : ((Ieee.Datum.number false m i).quotient 54 (.number false n j)) = some (.number false (2 * q + z) (i - j - more - 1)) := by
    unfold Ieee.Datum.quotient
    simp only [if_neg hn0, e1, Nat.shiftLeft_eq, hq, hz]
    rfl
  rw [hquo, Option.map_some] at hmul
  rw [hq] at e3 e4 hst
  rw [hz] at hst
  obtain ⟨r, h1, h2⟩ := write_near (2 * q + z) (i - j - more - 1) (by omega)
  refine ⟨r, by rw [hmul, h1], ?_⟩
  rw [hva, hvb]
  have hfin : Near (2 * (m * 2 ^ more) * 2 ^ (i - j - more - 1 + 1074).toNat) (n * 2 ^ (-(i - j - more - 1 + 1074)).toNat) r := by
    rw [hst] at h2
    by_cases hk : 2 * q + z < 36028797018963968
    · refine near_sticky (2 * (m * 2 ^ more)) n 0 (i - j - more - 1 + 1074 + 2).toNat r _ (by omega) ?_ ?_ (by omega) h2
      · rw [← hst, Nat.pow_zero]; omega
      · rw [← hst, Nat.pow_zero]; omega
    · refine near_sticky (2 * (m * 2 ^ more)) n 1 (i - j - more - 1 + 1074 + 3).toNat r _ (by omega) ?_ ?_ (by omega) h2
      · rw [← hst, Nat.pow_one]; omega
      · rw [← hst, Nat.pow_one]; omega
  have e5 : ∀ p : Nat, 2 * (m * 2 ^ more) * 2 ^ p = m * 2 ^ (more + 1 + p) := fun p => by
    rw [Nat.pow_add, Nat.pow_succ]; ac_rfl
  rw [e5] at hfin
  generalize hK : (1074 : Nat) = K
  rw [Nat.mul_assoc, ← Nat.pow_add]
  exact near_move hfin (by omega)
end Go.Proofs.YtjciflgnlldgbaaGreatDoor.big
end
