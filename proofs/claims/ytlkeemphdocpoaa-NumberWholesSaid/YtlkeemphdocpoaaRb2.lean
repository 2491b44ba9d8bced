/- The reference's ReadBits, walked. -/
import Derived.Test.YtlkeemphdocpoaaRb
namespace Go.Proofs.Ytlkeemphdocpoaa.big
open Go.RowKit mem fl
set_option linter.unusedVariables false

def sgn (neg : Bool) : Nat := if neg then 9223372036854775808 else 0
def RbPost (neg : Bool) (D : Nat) (x : Int) (w : World) (e : Ending) (w' : World) : Prop :=
  ∃ r : Nat, e = .returned (.tuple #[.int .u64 ((r + sgn neg : Nat) : Int), .bool (decide (r < 9218868437227405312))]) ∧ Near (D * 10 ^ x.toNat * 2 ^ 1074) (10 ^ (-x).toNat) r ∧ Below w.heap.size w w'

theorem sign_or {r : Nat} (hr : r ≤ 9218868437227405312) : bits .or .u64 (r : Int) 9223372036854775808 = ((r + 9223372036854775808 : Nat) : Int) := by
  have h63 : (2 : Nat) ^ 63 = 9223372036854775808 := by decide
  exact or_join' 9223372036854775808 r 63 (by decide) (by omega) (by decide) (by omega)
theorem cut_bd_step {s : Cs} {c n : Nat} (h : -(n : Int) ≤ s.x ∧ s.x ≤ n ∧ s.exp ≤ 11258999068426250) (hc : Alp c) : -((n + 1 : Nat) : Int) ≤ (cutStep s c).x ∧ (cutStep s c).x ≤ ((n + 1 : Nat) : Int) ∧ (cutStep s c).exp ≤ 11258999068426250 := by
  obtain ⟨h1, h2, h3⟩ := h
  unfold Alp at hc
  unfold cutStep
  repeat' split
  all_goals refine ⟨?_, ?_, ?_⟩ <;> (try simp only) <;> omega
theorem cut_bd : ∀ (l : List Nat) (s : Cs) (n : Nat), (-(n : Int) ≤ s.x ∧ s.x ≤ n ∧ s.exp ≤ 11258999068426250) → (∀ c ∈ l, Alp c) → -((n + l.length : Nat) : Int) ≤ (l.foldl cutStep s).x ∧ (l.foldl cutStep s).x ≤ ((n + l.length : Nat) : Int) ∧ (l.foldl cutStep s).exp ≤ 11258999068426250
  | [], s, n, h, _ => h
  | c :: l, s, n, h, hl => by
    have := cut_bd l (cutStep s c) (n + 1) (cut_bd_step h (hl c (by simp))) fun d hd => hl d (by simp [hd])
    rw [List.length_cons, show n + (l.length + 1) = n + 1 + l.length by omega]
    exact this
theorem power_bd {l : List Nat} (hl : ∀ c ∈ l, Alp c) (hn : l.length ≤ 1000000) : -11258999070000000 ≤ (cutF l).power ∧ (cutF l).power ≤ 11258999070000000 := by
  have := cut_bd l Cs.start 0 (by simp [Cs.start]) hl
  obtain ⟨h1, h2, h3⟩ := this
  unfold cutF Cs.power
  split <;> split <;> omega

set_option maxRecDepth 100000 in
set_option maxHeartbeats 8000000 in
theorem readBits_any (s : ByteArray) (w : World) (hA : ∀ k (h : k < s.size), Alp (s[k]).toNat) (hn : s.size ≤ 1000000) :
    Calls Try.prog 18 #[.string s] w (RbPost (cutF (nats s)).neg (dvn (cutF (nats s)).digits) (cutF (nats s)).power w) := by
  have hal : ∀ c ∈ nats s, Alp c := by
    intro c hc
    obtain ⟨k, hk, rfl⟩ := List.mem_iff_getElem.1 hc
    rw [nats_length] at hk
    rw [nats_get s k hk]
    exact hA k hk
  obtain ⟨hi1, hi2, hi3⟩ := digits_inv (cinv_cutF hal)
  obtain ⟨hp1, hp2⟩ := power_bd hal (by rw [nats_length]; exact hn)
  have HC := Lib.hid (cut_any s w hA hn)
  unfold CutPost at HC
  generalize (cutF (nats s)).neg = neg at *
  generalize (cutF (nats s)).power = x at *
  generalize (cutF (nats s)).digits = d at *
  have HI1 := Lib.hid hi1
  have HI2 := Lib.hid hi2
  have hsz : (strN d).size = d.length := strN_size d
  have hlist : (strN d).data.toList = d.map UInt8.ofNat := strN_list d
  have hlt := dvn_lt d hi1
  have hdv := dv_strN hi1
  have hdg := digs_strN hi1
  clear hA hal hi1 hi2
  go_enter Try.func18, Try.ntmps18
  have HSz := Lib.hid hsz
  have HLi := Lib.hid hlist
  have HLt := Lib.hid hlt
  have HDv := Lib.hid hdv
  have HDg := Lib.hid hdg
  clear hsz hlist hlt hdv hdg
  go_wp2_with fail
  refine (HC.out).mono ?_
  rintro e w2 ⟨rfl, hb2⟩
  have HB2 := Lib.hid hb2
  have hz2 := hb2.size
  clear hb2
  generalize hS : strN d = S at *
  have HS := Lib.hid hS
  clear hS
  by_cases hd0 : d = []
  · have hN : Near (dvn d * 10 ^ x.toNat * 2 ^ 1074) (10 ^ (-x).toNat) 0 := by
      subst hd0
      have e : dvn [] = 0 := rfl
      have hz : ∀ P Q : Nat, 0 * P * Q = 0 := fun P Q => by rw [Nat.zero_mul, Nat.zero_mul]
      rewrite [e, hz]
      exact near_zero (Nat.pow_pos (by decide)) (Nat.pow_pos (by decide))
    have HN := Lib.hid hN
    have hS0 : S = ⟨#[]⟩ := by
      rw [← HS.out, hd0]
      rfl
    subst hS0
    clear hN hd0 hi3
    cases neg
    · go_wp2_with fail
      go_ret2
      exact ⟨0, rfl, HN.out, HB2.out⟩
    · have hor : bits .or .u64 0 9223372036854775808 = 9223372036854775808 := by rfl
      go_wp2_with fail
      go_ret2
      exact ⟨0, rfl, HN.out, HB2.out⟩
  · have hlen0 : 0 < d.length := List.length_pos_iff.2 hd0
    have hge := dvn_ge HI1.out HI2.out hd0
    have HGe := Lib.hid hge
    obtain ⟨n, hn0⟩ : ∃ n, d.length = n := ⟨_, rfl⟩
    rw [hn0] at hlen0 hi3 HLt HGe HSz
    have hss : S.size = n := HSz.out
    clear hge hn0 hd0
    have hne : ¬ S.toList = [] := by
      rw [ByteArray.toList_eq]
      intro h
      have : S.data.toList.length = S.size := by simp
      rw [h] at this
      simp at this
      omega
    have hne2 : S.toList.isEmpty = false := by
      cases hq : S.toList with
      | nil => exact absurd hq hne
      | cons _ _ => rfl
    have hor : bits .or .u64 0 9223372036854775808 = 9223372036854775808 := by rfl
    have hor2 : bits .or .u64 9218868437227405312 9223372036854775808 = 18442240474082181120 := by rfl
    by_cases hlo : x + (n : Int) < -330
    · have HN := Lib.hid (near_tiny HLt.out hlo)
      cases neg
      all_goals
        go_wp2_with fail
        go_ret2
        exact ⟨0, rfl, HN.out, HB2.out⟩
    · by_cases hhi : 330 < x + (n : Int)
      · have HN := Lib.hid (near_great HGe.out hlen0 hhi)
        cases neg
        all_goals
          go_wp2_with fail
          go_ret2
          exact ⟨9218868437227405312, rfl, HN.out, HB2.out⟩
      · have hd1 := dec_any S x w2 (by have := HDg.out; exact this) (by omega) (by omega) (by omega)
        rw [HDv.out] at hd1
        have HD1 := Lib.hid hd1
        clear hd1
        have hlD : (wd (dvn d * 10 ^ x.toNat)).length ≤ 100000 := by
          refine Nat.le_trans (wd_len_mulp (b := n) (K := 400) (wd_len_ten (b := 0) HLt.out) (by omega)) (by omega)
        have hlB : (wd (10 ^ (-x).toNat)).length ≤ 100000 := Nat.le_trans (wd_len_p10 (K := 2000) (by omega)) (by omega)
        have hBp : 0 < 10 ^ (-x).toNat := Nat.pow_pos (by decide)
        obtain ⟨T, hT⟩ : ∃ T, dvn d * 10 ^ x.toNat = T := ⟨_, rfl⟩
        obtain ⟨B, hB⟩ : ∃ B, 10 ^ (-x).toNat = B := ⟨_, rfl⟩
        rw [hT] at hlD HD1
        rw [hB] at hlB hBp HD1
        have HT := Lib.hid hT
        have HB := Lib.hid hB
        clear hT hB
        go_wp2_with fail
        refine (HD1.out).mono ?_
        rintro e w3 ⟨v0, v1, rfl, b0, b1, hb3⟩
        have HB3 := Lib.hid (HB2.out.trans (hb3.mono hz2))
        have hz3 := hb3.size
        have hbt := bits_any v0 v1 T B w3 b0 b1 hlD hlB hBp
        have HBt := Lib.hid hbt
        clear b0 b1 hb3 hbt
        go_wp2_with fail
        refine (HBt.out).mono ?_
        rintro e w4 ⟨r, rfl, hr, hb4⟩
        have HR := Lib.hid hr
        have HB4 := Lib.hid (HB3.out.trans (hb4.mono (by omega)))
        have hrb : r ≤ 9218868437227405312 := hr.1
        have hsg := sign_or hrb
        clear hr hb4
        obtain ⟨bb, hbb⟩ : ∃ bb, decide (r < 9218868437227405312) = bb := ⟨_, rfl⟩
        rw [hbb]
        have HBb := Lib.hid hbb
        clear hbb
        cases neg
        all_goals
          go_wp2_with fail
          go_ret2
          refine ⟨r, ?_, by rw [HT.out, HB.out]; exact HR.out, HB4.out⟩
          rw [HBb.out]
          rfl
end Go.Proofs.Ytlkeemphdocpoaa.big
