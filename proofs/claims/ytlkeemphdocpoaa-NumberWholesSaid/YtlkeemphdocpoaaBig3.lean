/- The reference's whole numbers: wide, order, ofDigits, ten. -/
import Derived.Test.YtlkeemphdocpoaaBig2
namespace Go.Proofs.Ytlkeemphdocpoaa.big
open Go.RowKit mem fl
set_option linter.unusedVariables false

theorem wd_len_mul {N m k : Nat} (h : (wd N).length ≤ k) (hm : m ≤ 4294967296) : (wd (N * m)).length ≤ k + 1 := by
  have h1 := val_lt (wd N) (wds_wd N)
  rw [val_wd] at h1
  refine wd_len_le ?_
  have h2 : N < 4294967296 ^ k := Nat.lt_of_lt_of_le h1 (Nat.pow_le_pow_right (by decide) h)
  rw [Nat.pow_succ]
  by_cases h0 : m = 0
  · subst h0; rw [Nat.mul_zero]; exact Nat.mul_pos (Nat.pow_pos (by decide)) (by decide)
  · exact Nat.lt_of_lt_of_le ((Nat.mul_lt_mul_right (by omega)).2 h2) (Nat.mul_le_mul_left _ hm)
theorem wide_sum (N m : Nat) : N * (m % 4294967296) + 0 + (N * (m / 4294967296) + 0) * 2 ^ 32 = N * m := by
  have e : (2 : Nat) ^ 32 = 4294967296 := rfl
  rw [e, Nat.add_zero, Nat.add_zero, Nat.mul_assoc, ← Nat.mul_add]
  congr 1
  omega

set_option maxHeartbeats 1000000 in
theorem wide_any (v0 : Value) (N m : Nat) (w : World) (hv : Bn w w.heap.size v0 N) (hm : m < 18446744073709551616) (hn : (wd N).length ≤ 300000) :
    Calls Try.prog 33 #[v0, .int .u64 (m : Int)] w (BnPost (N * m) w) := by
  have HV := Lib.hid hv
  clear hv
  have e1 : (m : Int) % 4294967296 = ((m % 4294967296 : Nat) : Int) := by simp
  have e2 : (m : Int) / 4294967296 = ((m / 4294967296 : Nat) : Int) := by simp
  have H1 := Lib.hid e1
  have H2 := Lib.hid e2
  have HW := Lib.hid (wide_sum N m)
  have hq1 : m % 4294967296 < 4294967296 := by omega
  have hq2 : m / 4294967296 < 4294967296 := by omega
  have hm' : (m : Int) / 4294967296 % 4294967296 = (m : Int) / 4294967296 := by omega
  clear e1 e2
  go_enter Try.func33, Try.ntmps33
  go_wp2_with fail
  rw [H1.out]
  refine (times_any v0 N (m % 4294967296) 0 w HV.out hq1 (by omega) (by omega)).mono ?_
  rintro e w1 ⟨v1, rfl, hbn1, hb1⟩
  have HB1 := Lib.hid hbn1
  have HBl1 := Lib.hid hb1
  have hs1 := hb1.size
  clear hbn1 hb1
  go_wp2_with fail
  rw [H2.out]
  refine (times_any v0 N (m / 4294967296) 0 w1 ((HV.out.below HBl1.out).more hs1) hq2 (by omega) (by omega)).mono ?_
  rintro e w2 ⟨v2, rfl, hbn2, hb2⟩
  have HB2 := Lib.hid hbn2
  have HBl2 := Lib.hid hb2
  have hs2 := hb2.size
  clear hbn2 hb2
  have hl1 : (wd (N * (m % 4294967296) + 0)).length ≤ 300001 := wd_len_mul hn (by omega)
  have hl2 : (wd (N * (m / 4294967296) + 0)).length ≤ 300001 := wd_len_mul hn (by omega)
  have hl3 : (wd ((N * (m / 4294967296) + 0) * 2 ^ 32)).length ≤ 300002 := wd_len_mul hl2 (by decide)
  clear hq1 hq2
  obtain ⟨P, hP⟩ : ∃ P, N * (m % 4294967296) + 0 = P := ⟨_, rfl⟩
  obtain ⟨Q, hQ⟩ : ∃ Q, N * (m / 4294967296) + 0 = Q := ⟨_, rfl⟩
  rw [hP, hQ] at HW
  rw [hP] at HB1 hl1
  rw [hQ] at HB2 hl2 hl3
  clear hP hQ
  go_wp2_with fail
  refine (up_any v2 Q 32 w2 HB2.out (by omega) (by omega)).mono ?_
  rintro e w3 ⟨v3, rfl, hbn3, hb3⟩
  have HB3 := Lib.hid hbn3
  have HBl3 := Lib.hid hb3
  have hs3 := hb3.size
  clear hbn3 hb3
  go_wp2_with fail
  refine (plus_any v1 v3 P (Q * 2 ^ 32) w3 ((((HB1.out.below HBl2.out).more hs2).below HBl3.out).more hs3) HB3.out (by omega) (by omega)).mono ?_
  rintro e w4 ⟨v4, rfl, hbn4, hb4⟩
  have HB4 := Lib.hid hbn4
  have HBl4 := Lib.hid hb4
  clear hbn4 hb4
  go_wp2_with fail
  go_ret
  refine ⟨_, rfl, by rw [← HW.out]; exact HB4.out, ?_⟩
  exact HBl1.out.trans ((HBl2.out.mono hs1).trans ((HBl3.out.mono (by omega)).trans (HBl4.out.mono (by omega))))

def ordN (N M : Nat) : Int := if N < M then -1 else if M < N then 1 else 0
def OrdPost (N M : Nat) (w : World) (e : Ending) (w' : World) : Prop := e = .returned (.int .i64 (ordN N M)) ∧ ∃ n, w' = w.drewN n
theorem drop_one {l : List Nat} {k : Nat} (h : k < l.length) : l.drop k = l.getD k 0 :: l.drop (k + 1) := by
  rw [List.getD_eq_getElem?_getD, List.getElem?_eq_getElem h]
  exact List.drop_eq_getElem_cons h
theorem drewN_add (w : World) (a b : Nat) : (w.drewN a).drewN b = w.drewN (a + b) := by
  induction b with
  | zero => rfl
  | succ b ih => show ((w.drewN a).drewN b).drew = _; rw [ih]; rfl
theorem drewN_add3 (w : World) (a b c : Nat) : ((w.drewN a).drewN b).drewN c = w.drewN (a + b + c) := by rw [drewN_add w a b, drewN_add]
theorem Below.drewN {B : Nat} {a w : World} (h : Below B a w) (n : Nat) : Below B a (w.drewN n) := ⟨h.os, h.tape, h.output, h.size, h.block⟩
set_option maxHeartbeats 2000000 in
theorem order_any (v0 v1 : Value) (N M : Nat) (w : World) (hv0 : Bn w w.heap.size v0 N) (hv1 : Bn w w.heap.size v1 M) (hn : (wd N).length ≤ 900000) (hm : (wd M).length ≤ 900000) :
    Calls Try.prog 35 #[v0, v1] w (OrdPost N M w) := by
  obtain ⟨A, cap, rfl, hr, hcap⟩ := hv0
  obtain ⟨A', cap', rfl, hr', hcap'⟩ := hv1
  by_cases hlen : (wd N).length = (wd M).length
  · rw [← hlen]
    have HWa := Lib.hid (wds_wd N)
    have HWb := Lib.hid (wds_wd M)
    have HVa := Lib.hid (val_wd N)
    have HVb := Lib.hid (val_wd M)
    have HR := Lib.hid hr
    have HR' := Lib.hid hr'
    clear hr hr' hm hcap hcap'
    generalize wd N = a at *
    generalize wd M = b at *
    obtain ⟨L, hL⟩ : ∃ L, a.length = L := ⟨_, rfl⟩
    rw [hL] at hn hlen ⊢
    have HL := Lib.hid hL
    have HLe := Lib.hid hlen
    clear hL hlen
    go_enter Try.func35, Try.ntmps35
    go_wp2_with fail
    go_loopw [5] (fun v5 wr => ∃ (j n : Nat), j ≤ L ∧ v5 = .int .i64 ((j : Int) - 1) ∧ wr = w.drewN n ∧ Hid (a.drop j = b.drop j)) (fun v5 _ => (intOf v5 + 1).toNat)
    case atStart => exact ⟨L, 0, Nat.le_refl _, rfl, rfl, Lib.hid (by rw [← HL.out, List.drop_length, HL.out, HLe.out, List.drop_length])⟩
    case round =>
      obtain ⟨j, n, hj, rfl, rfl, hd⟩ := hrel
      cases j with
      | zero =>
        have HD := Lib.hid hd.out
        clear hd
        go_wp2_with fail
        go_ret
        refine ⟨?_, n, rfl⟩
        have h1 : a = b := by have := HD.out; simpa using this
        have h2 : N = M := by rw [← HVa.out, ← HVb.out, h1]
        subst h2
        unfold ordN
        rw [if_neg (Nat.lt_irrefl _), if_neg (Nat.lt_irrefl _)]
        rfl
      | succ j =>
        have hgx := us_get (l := a) (k := j) (by rw [HL.out]; omega)
        have hgy := us_get (l := b) (k := j) (by rw [← HLe.out]; omega)
        obtain ⟨ad, rfl, hab, hcell⟩ := HR.out j _ hgx
        obtain ⟨ad', rfl, hab', hcell'⟩ := HR'.out j _ hgy
        obtain ⟨x, hx⟩ : ∃ x, a.getD j 0 = x := ⟨_, rfl⟩
        obtain ⟨y, hy⟩ : ∃ y, b.getD j 0 = y := ⟨_, rfl⟩
        have hlt1 : x < y → ordN N M = -1 := fun h => by
          have := cmp_at (a := a) (b := b) (i := j) (by rw [HL.out, HLe.out]) (by rw [HL.out]; omega) HWa.out hd.out (by rw [hx, hy]; exact h)
          rw [HVa.out, HVb.out] at this
          unfold ordN
          rw [if_pos this]
        have hlt2 : y < x → ordN N M = 1 := fun h => by
          have := cmp_at (a := b) (b := a) (i := j) (by rw [HL.out, HLe.out]) (by rw [← HLe.out]; omega) HWb.out hd.out.symm (by rw [hx, hy]; exact h)
          rw [HVa.out, HVb.out] at this
          unfold ordN
          rw [if_neg (by omega), if_pos this]
        have heq : x = y → a.drop j = b.drop j := fun h => by
          rw [drop_one (l := a) (by rw [HL.out]; omega), drop_one (l := b) (by rw [← HLe.out]; omega), hx, hy, h, hd.out]
        rw [hx] at hcell
        rw [hy] at hcell'
        have HE1 := Lib.hid hlt1
        have HE2 := Lib.hid hlt2
        have HE3 := Lib.hid heq
        clear hgx hgy hd hlt1 hlt2 heq hx hy
        have hji : ((j + 1 : Nat) : Int) - 1 = (j : Int) := by omega
        rw [hji]
        have hj2 : (j : Int) < (L : Int) := by omega
        clear hji
        by_cases h1 : x < y
        · have d1 : decide ((x : Int) < (y : Int)) = true := decide_eq_true (by omega)
          go_wp2_with fail
          go_quiet (fail)
          go_wp2_with fail
          go_ret
          refine ⟨by rw [HE1.out h1]; rfl, _, drewN_add _ _ _⟩
        · have d1 : decide ((x : Int) < (y : Int)) = false := decide_eq_false (by omega)
          by_cases h2 : y < x
          · have d2 : decide ((y : Int) < (x : Int)) = true := decide_eq_true (by omega)
            go_wp2_with fail
            go_quiet (fail)
            go_wp2_with fail
            go_quiet (fail)
            go_wp2_with fail
            go_ret
            refine ⟨by rw [HE2.out h2]; rfl, _, drewN_add3 _ _ _ _⟩
          · have d2 : decide ((y : Int) < (x : Int)) = false := decide_eq_false (by omega)
            have hxy : x = y := by omega
            go_wp2_with fail
            go_quiet (fail)
            go_wp2_with fail
            go_quiet (fail)
            go_wp2_with fail
            exact ⟨⟨j, n + _ + _, by omega, rfl, rfl, Lib.hid (HE3.out hxy)⟩, by simp [intOf]⟩
  · by_cases hlt : (wd N).length < (wd M).length
    · have HL := Lib.hid (lt_of_len hlt)
      clear hr hr'
      generalize (wd N).length = L at *
      generalize (wd M).length = L' at *
      have d1 : decide (L < L') = true := decide_eq_true (by omega)
      have d0 : ((L : Int) != (L' : Int)) = true := by simp; omega
      go_enter Try.func35, Try.ntmps35
      go_wp2_with fail
      go_ret
      refine ⟨?_, 0, rfl⟩
      unfold ordN
      rw [if_pos HL.out]
      rfl
    · have HL := Lib.hid (lt_of_len (N := M) (M := N) (by omega))
      clear hr hr'
      generalize (wd N).length = L at *
      generalize (wd M).length = L' at *
      have d1 : decide (L < L') = false := decide_eq_false (by omega)
      have d0 : ((L : Int) != (L' : Int)) = true := by simp; omega
      go_enter Try.func35, Try.ntmps35
      go_wp2_with fail
      go_ret
      refine ⟨?_, 0, rfl⟩
      unfold ordN
      rw [if_neg (by have := HL.out; omega), if_pos HL.out]
      rfl

/-! ### digits -/
/-- the value of decimal digits, as bytes -/
def dv (l : List UInt8) : Nat := l.foldl (fun n c => n * 10 + (c.toNat - 48)) 0
def Digs (l : List UInt8) : Prop := ∀ c ∈ l, 48 ≤ c.toNat ∧ c.toNat ≤ 57
theorem dv_snoc (l : List UInt8) (c : UInt8) : dv (l ++ [c]) = dv l * 10 + (c.toNat - 48) := by unfold dv; rw [List.foldl_append]; rfl
theorem dv_from (l : List UInt8) : ∀ n, l.foldl (fun n c => n * 10 + (c.toNat - 48)) n = n * 10 ^ l.length + dv l := by
  unfold dv
  induction l with
  | nil => intro n; simp
  | cons c l ih =>
    intro n
    simp only [List.foldl_cons, List.length_cons]
    rw [ih, ih (0 * 10 + (c.toNat - 48)), Nat.pow_succ, Nat.add_mul, Nat.zero_mul, Nat.zero_add, Nat.mul_assoc, Nat.mul_comm 10]
    omega
theorem dv_app (l r : List UInt8) : dv (l ++ r) = dv l * 10 ^ r.length + dv r := by
  unfold dv
  rw [List.foldl_append]
  exact dv_from r _
theorem dv_lt : ∀ (l : List UInt8), Digs l → dv l < 10 ^ l.length := by
  intro l
  induction l with
  | nil => intro _; simp [dv]
  | cons c l ih =>
    intro h
    have h1 := h c (by simp)
    have h2 := ih fun d hd => h d (by simp [hd])
    have : dv (c :: l) = (0 * 10 + (c.toNat - 48)) * 10 ^ l.length + dv l := dv_from l _
    rw [this, List.length_cons, Nat.pow_succ]
    have h3 : (0 * 10 + (c.toNat - 48)) * 10 ^ l.length ≤ 9 * 10 ^ l.length := Nat.mul_le_mul_right _ (by omega)
    omega
theorem Digs.take {l : List UInt8} (h : Digs l) (k : Nat) : Digs (l.take k) := fun c hc => h c (List.mem_of_mem_take hc)
theorem Digs.drop {l : List UInt8} (h : Digs l) (k : Nat) : Digs (l.drop k) := fun c hc => h c (List.mem_of_mem_drop hc)
/-- the value of c digits from place i on -/
def dvAt (l : List UInt8) (i c : Nat) : Nat := dv ((l.drop i).take c)
theorem dvAt_zero (l : List UInt8) (i : Nat) : dvAt l i 0 = 0 := by simp [dvAt, dv]
theorem dvAt_succ {l : List UInt8} {i c : Nat} (h : i + c < l.length) : dvAt l i (c + 1) = dvAt l i c * 10 + ((l[i + c]).toNat - 48) := by
  unfold dvAt
  rw [List.take_succ_eq_append_getElem (by rw [List.length_drop]; omega), dv_snoc, List.getElem_drop]
theorem dvAt_lt {l : List UInt8} (hd : Digs l) {i c : Nat} (h : i + c ≤ l.length) : dvAt l i c < 10 ^ c := by
  have := dv_lt _ ((hd.drop i).take c)
  rw [List.length_take, List.length_drop, Nat.min_eq_left (by omega)] at this
  exact this
theorem dv_take_add {l : List UInt8} {i c : Nat} (h : i + c ≤ l.length) : dv (l.take (i + c)) = dv (l.take i) * 10 ^ c + dvAt l i c := by
  rw [List.take_add, dv_app]
  unfold dvAt
  rw [List.length_take, List.length_drop, Nat.min_eq_left (by omega)]
theorem bts_get (s : ByteArray) (k : Nat) (h : k < s.size) : s.data.toList[k]'(by simpa using h) = s[k] := by simp; rfl

def OdSt (l : List UInt8) (w : World) (v : Value) (p : Nat) (wr : World) : Prop := Bn wr wr.heap.size v (dv (l.take p)) ∧ Below w.heap.size w wr
theorem pow9 {c : Nat} (h : c ≤ 9) : 10 ^ c ≤ 1000000000 := Nat.pow_le_pow_right (n := 10) (j := 9) (by decide) h
theorem pow8 {c : Nat} (h : c ≤ 8) : 10 ^ c ≤ 100000000 := Nat.pow_le_pow_right (n := 10) (j := 8) (by decide) h
theorem wd_len_dv {l : List UInt8} (h : Digs l) : (wd (dv l)).length ≤ l.length := by
  have := dv_lt l h
  exact wd_len_le (Nat.lt_of_lt_of_le this (Nat.pow_le_pow_left (by decide) _))

set_option maxHeartbeats 2000000 in
theorem ofDigits_any (s : ByteArray) (w : World) (hd : Digs s.data.toList) (hn : s.size ≤ 100000) :
    Calls Try.prog 28 #[.string s] w (BnPost (dv s.data.toList) w) := by
  have HD := Lib.hid hd
  obtain ⟨l, hl⟩ : ∃ l, s.data.toList = l := ⟨_, rfl⟩
  have hls : l.length = s.size := by rw [← hl]; simp
  have HLs := Lib.hid hls
  have HLl := Lib.hid hl
  rw [hl] at HD ⊢
  have hdig : ∀ k (h : k < s.size), 48 ≤ (s[k]).toNat ∧ (s[k]).toNat ≤ 57 := fun k h => by
    have h1 := bts_get s k h
    have h2 : s.data.toList[k]'(by simpa using h) ∈ l := by rw [← hl]; exact List.getElem_mem _
    rw [h1] at h2
    exact HD.out _ h2
  have HG := Lib.hid hdig
  clear hd hl hls hdig
  go_enter Try.func28, Try.ntmps28
  go_wp2_with fail
  go_loopw [3, 4] (fun v3 v4 wr => ∃ (i : Nat) (vv : Value), i ≤ s.size + 8 ∧ v4 = .int .i64 (i : Int) ∧ vv = v3 ∧ Hid (OdSt l w vv (min i s.size) wr)) (fun _ v4 _ => s.size + 9 - (intOf v4).toNat)
  case atStart => exact ⟨0, _, by omega, rfl, rfl, Lib.hid ⟨by rw [Nat.zero_min]; exact Bn.zero _ _, Below.refl _ _⟩⟩
  case round =>
    obtain ⟨i, vv, hi, rfl, rfl, hst⟩ := hrel
    obtain ⟨wo, rfl⟩ : ∃ wo : World, wo = wr := ⟨_, rfl⟩
    by_cases hlt : i < s.size
    · have hst2 := hst.out
      rw [Nat.min_eq_left (by omega)] at hst2
      have HS := Lib.hid hst2
      have hbz := hst2.2.size
      clear hst hst2
      go_wp2_with fail
      go_loop [5, 6, 7] (fun v5 v6 v7 => ∃ (j x y : Nat), i ≤ j ∧ j ≤ s.size ∧ j ≤ i + 9 ∧ x < 1000000000 ∧ y ≤ 1000000000 ∧ v7 = .int .i64 (j : Int) ∧ v5 = .int .u32 (x : Int) ∧ v6 = .int .u32 (y : Int) ∧ Hid (x = dvAt l i (j - i) ∧ y = 10 ^ (j - i))) (fun _ _ v7 => s.size - (intOf v7).toNat)
      case atStart => exact ⟨i, 0, 1, by omega, by omega, by omega, by omega, by omega, rfl, rfl, rfl, Lib.hid (by rw [Nat.sub_self]; exact ⟨(dvAt_zero _ _).symm, rfl⟩)⟩
      case round =>
        obtain ⟨j, x, y, hij, hjs, hj9, hx, hy, rfl, rfl, rfl, hxy⟩ := hrel
        by_cases hgo : j < s.size ∧ j < i + 9
        · obtain ⟨h1, h2⟩ := hgo
          obtain ⟨g1, g2⟩ := HG.out j h1
          have hx8 : x < 100000000 := by
            rw [hxy.out.1]
            exact Nat.lt_of_lt_of_le (dvAt_lt HD.out (by rw [HLs.out]; omega)) (pow8 (by omega))
          have hy8 : y ≤ 100000000 := by rw [hxy.out.2]; exact pow8 (by omega)
          have h2' : (j : Int) < (i : Int) + 9 := by omega
          have hnx : dvAt l i (j + 1 - i) = x * 10 + ((s[j]).toNat - 48) ∧ 10 ^ (j + 1 - i) = y * 10 := by
            have e : j + 1 - i = (j - i) + 1 := by omega
            rw [e, hxy.out.1, hxy.out.2, Nat.pow_succ, dvAt_succ (by rw [HLs.out]; omega)]
            refine ⟨?_, rfl⟩
            congr 2
            have e2 : i + (j - i) = j := by omega
            rw [← bts_get s j h1]
            simp only [e2, HLl.out]
          have HNx := Lib.hid hnx
          clear hnx
          have hb1 : 48 ≤ ((s[j]).toNat : Int) := by omega
          have hb2 : ((s[j]).toNat : Int) ≤ 57 := by omega
          go_wp2_with fail
          go_round
          case rel => exact ⟨j + 1, x * 10 + ((s[j]).toNat - 48), y * 10, by omega, by omega, by omega, by omega, by omega, by simp, by congr 1; omega, by congr 1 <;> omega, Lib.hid ⟨HNx.out.1.symm, HNx.out.2.symm⟩⟩
          case measure => simp [intOf]; omega
        · have hjm : min (i + 9) s.size = j := by omega
          have hnext : dv (l.take i) * y + x = dv (l.take j) := by
            have h1 := dv_take_add (l := l) (i := i) (c := j - i) (by rw [HLs.out]; omega)
            rw [show i + (j - i) = j by omega] at h1
            rw [h1, hxy.out.1, hxy.out.2]
          have hlen : (wd (dv (l.take i))).length ≤ 100000 := Nat.le_trans (wd_len_dv (HD.out.take i)) (by rw [List.length_take, HLs.out]; omega)
          have HN := Lib.hid hnext
          have HJ := Lib.hid hjm
          clear hnext hjm hxy
          go_wp2_with fail
          all_goals
            refine (times_any vv (dv (l.take i)) y x wo HS.out.1 (by omega) (by omega) (by omega)).mono ?_
            rintro e w2 ⟨v2, rfl, hbn2, hb2⟩
            rw [HN.out] at hbn2
            have HB2 := Lib.hid hbn2
            have HBl2 := Lib.hid (HS.out.2.trans (hb2.mono hbz))
            clear hbn2 hb2
            go_wp2_with fail
            exact ⟨⟨i + 9, v2, by omega, by simp, rfl, Lib.hid (by rw [HJ.out]; exact ⟨HB2.out, HBl2.out⟩)⟩, by simp [intOf]; omega⟩
    · have hst2 := hst.out
      unfold OdSt at hst2
      rw [Nat.min_eq_right (by omega), ← HLs.out, List.take_length] at hst2
      have HS := Lib.hid hst2
      clear hst hst2
      go_wp2_with fail
      go_ret
      exact ⟨_, rfl, HS.out.1, HS.out.2⟩
end Go.Proofs.Ytlkeemphdocpoaa.big
