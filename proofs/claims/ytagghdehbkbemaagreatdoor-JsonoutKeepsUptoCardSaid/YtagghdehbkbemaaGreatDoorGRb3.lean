/- The reference's bare and noughts, walked. The reference's Shortest, walked. -/
import Derived.Test.YtagghdehbkbemaaGreatDoorGRp
import Derived.Test.YtagghdehbkbemaaGreatDoorYLa
import Derived.Test.YtagghdehbkbemaaGreatDoorGFlt
import Derived.Test.YtagghdehbkbemaaGreatDoorYRc
section
namespace Go.Proofs.YtagghdehbkbemaaGreatDoor.rt
open Go.RowKit mem fl big sh uw pg
set_option linter.unusedVariables false

theorem last_take (r : Nat) (h : ¬ r < 10) : (dgs r).take ((dgs r).length - 1) = dgs (r / 10) := by
  rw [dgs_step r h, List.length_append]
  simp
theorem last_get (r : Nat) (m : Nat) (hm : (dgs r).length = m + 1) : (dgs r).getD m 0 = 48 + r % 10 := by
  by_cases h : r < 10
  · rw [dgs_small r h] at hm ⊢
    simp at hm
    subst hm
    rfl
  · rw [dgs_step r h] at hm ⊢
    rw [List.length_append] at hm
    have hm2 : (dgs (r / 10)).length = m := by simpa using hm
    rw [List.getD_eq_getElem?_getD, List.getElem?_append_right (by omega), hm2]
    simp
def BrPost (q : Nat) (x : Int) (w : World) (e : Ending) (w' : World) : Prop := ∃ (r k : Nat), q = r * 10 ^ k ∧ r % 10 ≠ 0 ∧ e = .returned (.tuple #[.string (strN (dgs r)), .int .i64 ((dgs r).length + (x + k))]) ∧ w' = w
set_option maxRecDepth 100000 in
theorem bare_any (q : Nat) (x : Int) (w : World) (hq0 : 0 < q) (hq : q < 18446744073709551616) (hx1 : -5000 ≤ x) (hx2 : x ≤ 5000) :
    Calls Tryz.prog 77 #[.string (strN (dgs q)), .int .i64 x] w (BrPost q x w) := by
  have hlen : (strN (dgs q)).size = (dgs q).length := strN_size _
  have h20 : (dgs q).length ≤ 20 := by rw [dgs_length]; exact nd20 q hq
  obtain ⟨n, hn⟩ : ∃ n, (dgs q).length = n := ⟨_, rfl⟩
  rw [hn] at hlen h20
  have HN := Lib.hid hn
  go_enter Tryz.func77, Tryz.ntmps77
  go_wp2_with fail
  go_loopw [0] (fun v0 wr => ∃ (r k m : Nat), v0 = .string (strN (dgs r)) ∧ wr = w ∧ (strN (dgs r)).size = m + 1 ∧ m ≤ 20 ∧ Hid (q = r * 10 ^ k ∧ 0 < r ∧ (dgs r).length = m + 1 ∧ n = m + 1 + k)) (fun v0 _ => match v0 with | .string s => s.size | _ => 0)
  case atStart =>
    have h1 := Lib.nDigits_pos q
    have h2 := dgs_length q
    exact ⟨q, 0, n - 1, rfl, rfl, by omega, by omega, Lib.hid ⟨by simp, hq0, by omega, by omega⟩⟩
  case round =>
    obtain ⟨r, k, m, rfl, rfl, hsz, hm20, hst⟩ := hrel
    obtain ⟨S, hS⟩ : ∃ S, strN (dgs r) = S := ⟨_, rfl⟩
    have hge : m < S.size := by rw [← hS]; omega
    have hlast : (S[m]).toNat = 48 + r % 10 := by
      subst hS
      have h1 := nats_get (strN (dgs r)) m hge
      have h3 := nats_strN (dgs r) (fun c hc => by have := dgs_bytes r c hc; omega)
      have h2 := last_get r m hst.out.2.2.1
      rw [← h1]
      rw [List.getD_eq_getElem?_getD, List.getElem?_eq_getElem (by have := hst.out.2.2.1; omega)] at h2
      simp only [h3]
      exact h2
    have HS := Lib.hid hS
    rw [hS] at hsz ⊢
    obtain ⟨ch, hch⟩ : ∃ ch, (S[m]).toNat = ch := ⟨_, rfl⟩
    have HL := Lib.hid (hch.symm.trans hlast)
    clear hS hlast
    by_cases hm0 : m = 0
    · subst hm0
      have hr10 : r < 10 := by
        rcases Nat.lt_or_ge r 10 with h | h
        · exact h
        · have h1 := hst.out.2.2.1
          rw [dgs_step r (by omega)] at h1
          have h2 := Lib.nDigits_pos (r / 10)
          rw [← dgs_length] at h2
          simp only [List.length_append, List.length_cons, List.length_nil] at h1
          omega
      have HR := Lib.hid hr10
      clear hr10
      go_wp2_with fail
      go_ret2
      refine ⟨r, k, hst.out.1, by have := HR.out; have := hst.out.2.1; omega, ?_, rfl⟩
      rw [HS.out, hst.out.2.2.1]
      have h9 := hst.out.2.2.2
      have e : (n : Int) + x = ((0 + 1 : Nat) : Int) + (x + k) := by omega
      exact congrArg (fun z => Ending.returned (.tuple #[.string S, .int .i64 z])) e
    · by_cases h48 : ch = 48
      · subst h48
        have hnr : ¬ r < 10 := by
          intro h
          have h1 := hst.out.2.2.1
          rw [dgs_small r h] at h1
          simp at h1
          omega
        have hext : S.extract 0 m = strN (dgs (r / 10)) := by
          rw [← HS.out, strN_take, ← last_take r hnr, hst.out.2.2.1]
          rfl
        have HE := Lib.hid hext
        have hrm := HL.out
        have HNx : Hid (q = r / 10 * 10 ^ (k + 1) ∧ 0 < r / 10 ∧ (dgs (r / 10)).length = m - 1 + 1 ∧ n = m - 1 + 1 + (k + 1)) := Lib.hid (by
          obtain ⟨a1, a2, a3, a4⟩ := hst.out
          refine ⟨?_, by omega, ?_, by omega⟩
          · rw [Nat.pow_succ, Nat.mul_comm (10 ^ k) 10, ← Nat.mul_assoc, Nat.div_mul_cancel (Nat.dvd_of_mod_eq_zero (by omega))]
            exact a1
          · rw [dgs_step r hnr, List.length_append] at a3
            simp at a3
            omega)
        have hsz2 : (strN (dgs (r / 10))).size = m - 1 + 1 := by rw [strN_size]; exact HNx.out.2.2.1
        clear hext hnr hrm
        go_wp2_with fail
        exact ⟨⟨r / 10, k + 1, m - 1, by rw [HE.out], trivial, hsz2, by omega, HNx⟩, by simp; omega⟩
      · have q1 : ((ch : Int) == 48) = false := beq_false_of_ne (by omega)
        go_wp2_with fail
        go_ret2
        refine ⟨r, k, hst.out.1, by have := HL.out; omega, ?_, rfl⟩
        rw [HS.out, hst.out.2.2.1]
        have h9 := hst.out.2.2.2
        have e : (n : Int) + x = ((m + 1 : Nat) : Int) + (x + k) := by omega
        exact congrArg (fun z => Ending.returned (.tuple #[.string S, .int .i64 z])) e
end Go.Proofs.YtagghdehbkbemaaGreatDoor.rt
end
section
namespace Go.Proofs.YtagghdehbkbemaaGreatDoor.rt
open Go.RowKit mem fl big sh uw pg
set_option linter.unusedVariables false

def ShoPost (a : Nat) (w : World) (e : Ending) (w' : World) : Prop := ∃ (r : Nat) (y : Int), Cand a r y ∧ r % 10 ≠ 0 ∧ Bd r y ∧ e = .returned (.tuple #[.string (strN (dgs r)), .int .i64 ((dgs r).length + y)]) ∧ Below w.heap.size w w'
theorem sho_fin {a q r k : Nat} {x : Int} (hC : Cand a q x) (hq : q = r * 10 ^ k) (hr : r % 10 ≠ 0) (hq2 : q < 18446744073709551616) (hx1 : -400 ≤ x) (hx2 : x ≤ 400) : Cand a r (x + k) ∧ Bd r (x + k) := by
  have hr0 : 0 < r := by omega
  refine ⟨Cand.stripk k (by rw [← hq]; exact hC), hr0, ?_, ?_, ?_⟩
  all_goals
    have h1 := nd_mul r hr0 k
    have h2 := nd20 q hq2
    rw [hq, h1] at h2
    rw [dgs_length]
    have := Lib.nDigits_pos r
    omega
theorem floor_n {all cut g c : Nat} (hc : 0 < cut) (l1 : all * g ≤ c) (l2 : c < (all + 1) * g) : all / cut * (cut * g) ≤ c ∧ c < (all / cut + 1) * (cut * g) := by
  have hd := Nat.div_add_mod all cut
  have hm := Nat.mod_lt all hc
  constructor
  · refine Nat.le_trans ?_ l1
    rw [← Nat.mul_assoc]
    refine Nat.mul_le_mul_right g ?_
    rw [Nat.mul_comm]
    omega
  · refine Nat.lt_of_lt_of_le l2 ?_
    rw [← Nat.mul_assoc]
    refine Nat.mul_le_mul_right g ?_
    rw [Nat.add_mul, Nat.one_mul, Nat.mul_comm]
    omega
set_option maxRecDepth 100000 in
set_option maxHeartbeats 4000000 in
theorem shortest_any (a : Nat) (w : World) (h0 : 0 < a) (h1 : a < 9218868437227405312) :
    Calls Tryz.prog 61 #[.int .u64 (a : Int)] w (ShoPost a w) := by
  have HP := Lib.hid (power_any a w h0 h1)
  have HV := Lib.hid (fun p w hp => seventeen_any a p w h0 h1 hp)
  have HS := Lib.hid (fun w => split_any a w (by omega))
  unfold big.SpPost at HS
  have HRd := Lib.hid (fun q x w hq hx hx0 => reads_any q a x w hq hx hx0 h1)
  have HAg := Lib.hid (fun D x hx => ag_G2 D x a h1 hx)
  have hE := spE_bd h1
  have hM := spM_lt a
  obtain ⟨m, hm⟩ : ∃ m, spM a = m := ⟨_, rfl⟩
  obtain ⟨ex, hex⟩ : ∃ ex, spE a = ex := ⟨_, rfl⟩
  rw [hm, hex] at HS HAg
  rw [hm] at hM
  rw [hex] at hE
  clear hm hex
  go_enter Tryz.func61, Tryz.ntmps61
  go_wp2_with fail
  refine (HP.out).mono ?_
  rintro e w2 ⟨p, rfl, hp, hb2⟩
  have HB2 := Lib.hid hb2
  have HPw := Lib.hid hp
  have hp1 := hp.1
  have hp2 := hp.2.1
  clear hb2 hp
  go_wp2_with fail
  refine (HV.out p w2 HPw.out).mono ?_
  rintro e w3 ⟨all, rfl, l1, l2, l3, l4, hb3⟩
  have HB3 := Lib.hid (HB2.out.trans (hb3.mono HB2.out.size))
  have HL := Lib.hid (And.intro l1 l2)
  clear hb3 l1 l2
  go_wp2_with fail
  refine (HS.out w3).mono ?_
  rintro e w4 ⟨rfl, rfl⟩
  go_wp2_with fail
  go_loopw [8, 9] (fun v8 v9 wr => ∃ (cut n : Nat), 1 ≤ n ∧ n ≤ 17 ∧ v8 = .int .u64 (cut : Int) ∧ v9 = .int .i64 (n : Int) ∧ cut ≤ 10000000000000000 ∧ 0 < cut ∧ Hid (cut = 10 ^ (17 - n) ∧ (1 < n → ∀ q', ¬ In a q' (p - n + 1)) ∧ Below w.heap.size w wr)) (fun v8 v9 _ => 17 - (intOf v9).toNat)
  case atStart => exact ⟨10000000000000000, 1, by omega, by omega, rfl, rfl, by omega, by omega, Lib.hid ⟨by decide, fun h => by omega, HB3.out⟩⟩
  case round =>
    obtain ⟨cut, n, hn1, hn2, rfl, rfl, hcb, hc0, hst⟩ := hrel
    obtain ⟨x, hx⟩ : ∃ x : Int, p - n = x := ⟨_, rfl⟩
    obtain ⟨q, hq⟩ : ∃ q, all / cut = q := ⟨_, rfl⟩
    have hqa : q ≤ all := by rw [← hq]; exact Nat.div_le_self _ _
    have hqi : (all : Int) / (cut : Int) = (q : Int) := by rw [← hq]; simp
    have hxb : -400 ≤ x ∧ x ≤ 400 := by omega
    have hGx : G x = cut * G (p - 17) := by
      have h9 := G_up (p - 17) (by omega) (17 - n)
      rw [show p - 17 + ((17 - n : Nat) : Int) = x by omega, ← hst.out.1] at h9
      exact h9
    have hfl := floor_n hc0 HL.out.1 HL.out.2
    rw [hq, ← hGx] at hfl
    have HF := Lib.hid hfl
    have HX := Lib.hid hx
    have HCh := Lib.hid (fun r => ref_choice (a := a) (q := q) (r := r) (p := p) (x := x) h0 h1 HPw.out (by omega) (by omega) hfl.1 hfl.2 (fun hlt => by have := hst.out.2.1 (by omega); rw [hx] at this; exact this))
    have hcz : ((cut : Int) == 0) = false := beq_false_of_ne (by omega)
    have hb9 := hst.out.2.2
    have HB9 := Lib.hid hb9
    have hx1 := hxb.1
    have hx2 := hxb.2
    clear hq hGx hfl hxb hb9
    go_wp2_with fail
    refine (HRd.out q x _ (by omega) (by omega) (by omega)).mono ?_
    rintro e w5 ⟨b1, rfl, hi1, hb5⟩
    have HI1 := Lib.hid hi1
    have HB5 := Lib.hid (HB9.out.trans (hb5.mono HB9.out.size))
    clear hi1 hb5
    have hq1 : (q : Int) + 1 = ((q + 1 : Nat) : Int) := by omega
    obtain ⟨q2, hq2⟩ : ∃ q2, q + 1 = q2 := ⟨_, rfl⟩
    rw [hq2] at hq1
    have HQ2 := Lib.hid hq2
    have hq2b : q2 ≤ 100000000000000001 := by omega
    clear hq2
    go_wp2_with fail
    refine (HRd.out q2 x _ (by omega) (by omega) (by omega)).mono ?_
    rintro e w6 ⟨b2, rfl, hi2, hb6⟩
    have HI2 : Hid (b2 = true ↔ In a (q + 1) x) := Lib.hid (by rw [HQ2.out]; exact hi2)
    have HB6 := Lib.hid (HB5.out.trans (hb6.mono HB5.out.size))
    clear hi2 hb6
    cases b1
    · have N1 : Hid (¬ In a q x) := Lib.hid (fun h => by have := HI1.out.2 h; cases this)
      cases b2
      · have N2 : Hid (¬ In a (q + 1) x) := Lib.hid (fun h => by have := HI2.out.2 h; cases this)
        have hnone := in_none (by omega) h0 h1 HF.out.1 HF.out.2 N1.out N2.out
        have hn17 : n ≠ 17 := by
          intro h17
          obtain ⟨q', hq'⟩ := in_17 h0 h1 HPw.out
          exact hnone q' (by rw [← HX.out, h17]; exact hq')
        have HNn := Lib.hid hnone
        clear hnone
        have hcd : (cut : Int) / 10 = ((cut / 10 : Nat) : Int) := by omega
        have hpw : cut = 10 ^ (17 - (n + 1)) * 10 := by
          rw [hst.out.1, ← Nat.pow_succ]
          congr 1
          omega
        have hce : cut / 10 = 10 ^ (17 - (n + 1)) := by rw [hpw, Nat.mul_div_cancel _ (by decide)]
        have hcp : 0 < cut / 10 := by rw [hce]; exact tenpos _
        obtain ⟨c2, hc2⟩ : ∃ c2, cut / 10 = c2 := ⟨_, rfl⟩
        rw [hc2] at hce hcp hcd
        have hc2b : c2 ≤ 10000000000000000 := by omega
        have HCe := Lib.hid hce
        clear hpw hce hc2
        go_wp2_with fail
        exact ⟨⟨c2, n + 1, by omega, by omega, rfl, rfl, hc2b, hcp, Lib.hid ⟨HCe.out, fun _ => by rw [show p - ((n + 1 : Nat) : Int) + 1 = x by have := HX.out; omega]; exact HNn.out, HB6.out⟩⟩, by simp [intOf]; omega⟩
      · have hC := HCh.out (q + 1) (.inr ⟨rfl, HI2.out.1 (by trivial), .inl N1.out⟩)
        rw [HQ2.out] at hC
        have HC := Lib.hid hC
        clear hC
        go_wp2_with fail
        refine ((digits_any q2 _ (by omega))).mono ?_
        rintro e wd ⟨rfl, hbd⟩
        have HBd := Lib.hid (HB6.out.trans (hbd.mono HB6.out.size))
        clear hbd
        have hq0 : 0 < q2 := in_pos (by omega) h0 h1 HC.out.2.1
        have HBr := Lib.hid (bare_any q2 x wd hq0 (by omega) (by omega) (by omega))
        obtain ⟨Sd, hSd⟩ : ∃ Sd, strN (dgs q2) = Sd := ⟨_, rfl⟩
        rw [hSd] at HBr ⊢
        clear hSd
        go_wp2_with fail
        refine (HBr.out).mono ?_
        rintro e we ⟨r, k, hqr, hr10, rfl, rfl⟩
        have hfin := sho_fin HC.out hqr hr10 (by omega) (by omega) (by omega)
        have HFin := Lib.hid (And.intro hfin (And.intro hr10 HBd.out))
        clear hqr hr10 hfin
        go_wp2_with fail
        go_ret2
        exact ⟨r, x + k, HFin.out.1.1, HFin.out.2.1, HFin.out.1.2, rfl, HFin.out.2.2⟩
    · cases b2
      · have N2 : Hid (¬ In a (q + 1) x) := Lib.hid (fun h => by have := HI2.out.2 h; cases this)
        have HC := Lib.hid (HCh.out q (.inl ⟨rfl, HI1.out.1 (by trivial), .inl N2.out⟩))
        go_wp2_with fail
        refine ((digits_any q _ (by omega))).mono ?_
        rintro e wd ⟨rfl, hbd⟩
        have HBd := Lib.hid (HB6.out.trans (hbd.mono HB6.out.size))
        clear hbd
        have hq0 : 0 < q := in_pos (by omega) h0 h1 HC.out.2.1
        have HBr := Lib.hid (bare_any q x wd hq0 (by omega) (by omega) (by omega))
        obtain ⟨Sd, hSd⟩ : ∃ Sd, strN (dgs q) = Sd := ⟨_, rfl⟩
        rw [hSd] at HBr ⊢
        clear hSd
        go_wp2_with fail
        refine (HBr.out).mono ?_
        rintro e we ⟨r, k, hqr, hr10, rfl, rfl⟩
        have hfin := sho_fin HC.out hqr hr10 (by omega) (by omega) (by omega)
        have HFin := Lib.hid (And.intro hfin (And.intro hr10 HBd.out))
        clear hqr hr10 hfin
        go_wp2_with fail
        go_ret2
        exact ⟨r, x + k, HFin.out.1.1, HFin.out.2.1, HFin.out.1.2, rfl, HFin.out.2.2⟩
      · obtain ⟨D, hD⟩ : ∃ D, 2 * q + 1 = D := ⟨_, rfl⟩
        have hDi : 2 * (q : Int) + 1 = (D : Int) := by omega
        have hDb : D ≤ 200000000000000001 := by omega
        have HDg := Lib.hid (fun w => digits_any D w (by omega))
        unfold DgPost at HDg
        have HDc := Lib.hid (fun w => dec_dgs D x w (by omega) (by omega) (by omega))
        have HDe := Lib.hid hD
        have hlT := Nat.le_trans (len_T x (by omega) D 20 (wd_q D (by omega))) (show 20 + 5001 ≤ 100000 by decide)
        have hlB := Nat.le_trans (len_B x (by omega)) (show 5001 ≤ 100000 by decide)
        have hag := HAg.out D x (by omega)
        obtain ⟨T, hT⟩ : ∃ T, D * 10 ^ x.toNat = T := ⟨_, rfl⟩
        obtain ⟨B, hB⟩ : ∃ B, 10 ^ (-x).toNat = B := ⟨_, rfl⟩
        obtain ⟨S, hS⟩ : ∃ S, strN (dgs D) = S := ⟨_, rfl⟩
        rw [hT, hB] at HDc hag
        rw [hT] at hlT
        rw [hB] at hlB
        rw [hS] at HDg HDc
        obtain ⟨o1, o2⟩ := ord_pos (D * G x) (2 * ce a)
        obtain ⟨c, hc⟩ : ∃ c, ordN (D * G x) (2 * ce a) = c := ⟨_, rfl⟩
        rw [hc] at hag o1 o2
        have HAgc := Lib.hid hag
        have HO := Lib.hid (And.intro o1 o2)
        clear hD hT hB hS hag o1 o2 hc
        go_wp2_with fail
        refine (HDg.out _).mono ?_
        rintro e w7 ⟨rfl, hb7⟩
        have HB7 := Lib.hid (HB6.out.trans (hb7.mono HB6.out.size))
        clear hb7
        go_wp2_with fail
        refine (HDc.out _).mono ?_
        rintro e w8 ⟨v0, v1, rfl, b0, b1, hb8⟩
        have HB8 := Lib.hid (HB7.out.trans (hb8.mono HB7.out.size))
        have hAt := against_any v0 v1 T B m (ex + 1) w8 b0 b1 hlT hlB (by omega) (by omega) (by omega)
        unfold AgPost at hAt
        rw [HAgc.out] at hAt
        have HAt := Lib.hid hAt
        clear hAt b0 b1 hb8
        go_wp2_with fail
        refine (HAt.out).mono ?_
        rintro e w9 ⟨rfl, hb10⟩
        have HB6 := Lib.hid (HB8.out.trans (hb10.mono HB8.out.size))
        clear hb10
        by_cases hlow : 0 < c ∨ (c = 0 ∧ q % 2 = 0)
        · have HC := Lib.hid (HCh.out q (.inl ⟨rfl, HI1.out.1 (by trivial), .inr (by
            have := HO.out
            rw [← HDe.out] at this
            rcases hlow with h | ⟨h, h2⟩
            · exact .inl (this.1.1 h)
            · exact .inr ⟨(this.2.1 h).symm, h2⟩)⟩))
          rcases hlow with hlow | ⟨hlow, hev⟩
          · skip
            go_wp2_with fail
            refine ((digits_any q _ (by omega))).mono ?_
            rintro e wd ⟨rfl, hbd⟩
            have HBd := Lib.hid (HB6.out.trans (hbd.mono HB6.out.size))
            clear hbd
            have hq0 : 0 < q := in_pos (by omega) h0 h1 HC.out.2.1
            have HBr := Lib.hid (bare_any q x wd hq0 (by omega) (by omega) (by omega))
            obtain ⟨Sd, hSd⟩ : ∃ Sd, strN (dgs q) = Sd := ⟨_, rfl⟩
            rw [hSd] at HBr ⊢
            clear hSd
            go_wp2_with fail
            refine (HBr.out).mono ?_
            rintro e we ⟨r, k, hqr, hr10, rfl, rfl⟩
            have hfin := sho_fin HC.out hqr hr10 (by omega) (by omega) (by omega)
            have HFin := Lib.hid (And.intro hfin (And.intro hr10 HBd.out))
            clear hqr hr10 hfin
            go_wp2_with fail
            go_ret2
            exact ⟨r, x + k, HFin.out.1.1, HFin.out.2.1, HFin.out.1.2, rfl, HFin.out.2.2⟩
          · subst hlow
            have q9 : ((q : Int) % 2 == 0) = true := by rw [show (q : Int) % 2 = 0 by omega]; decide
            go_wp2_with fail
            refine ((digits_any q _ (by omega))).mono ?_
            rintro e wd ⟨rfl, hbd⟩
            have HBd := Lib.hid (HB6.out.trans (hbd.mono HB6.out.size))
            clear hbd
            have hq0 : 0 < q := in_pos (by omega) h0 h1 HC.out.2.1
            have HBr := Lib.hid (bare_any q x wd hq0 (by omega) (by omega) (by omega))
            obtain ⟨Sd, hSd⟩ : ∃ Sd, strN (dgs q) = Sd := ⟨_, rfl⟩
            rw [hSd] at HBr ⊢
            clear hSd
            go_wp2_with fail
            refine (HBr.out).mono ?_
            rintro e we ⟨r, k, hqr, hr10, rfl, rfl⟩
            have hfin := sho_fin HC.out hqr hr10 (by omega) (by omega) (by omega)
            have HFin := Lib.hid (And.intro hfin (And.intro hr10 HBd.out))
            clear hqr hr10 hfin
            go_wp2_with fail
            go_ret2
            exact ⟨r, x + k, HFin.out.1.1, HFin.out.2.1, HFin.out.1.2, rfl, HFin.out.2.2⟩
        · have hC := HCh.out (q + 1) (.inr ⟨rfl, HI2.out.1 (by trivial), .inr (by
            have := HO.out
            rw [← HDe.out] at this
            by_cases h : c = 0
            · exact .inr ⟨(this.2.1 h).symm, by omega⟩
            · left
              rcases Nat.lt_or_ge ((2 * q + 1) * G x) (2 * ce a) with h9 | h9
              · exact h9
              · exfalso
                rcases Nat.lt_or_ge (2 * ce a) ((2 * q + 1) * G x) with h8 | h8
                · exact hlow (.inl (this.1.2 h8))
                · exact h (this.2.2 (by omega)))⟩)
          rw [HQ2.out] at hC
          have HC := Lib.hid hC
          have hc1 : c ≤ 0 := by omega
          clear hC
          by_cases hcz2 : c = 0
          · subst hcz2
            have q9 : ((q : Int) % 2 == 0) = false := beq_false_of_ne (by omega)
            clear hlow
            go_wp2_with fail
            refine ((digits_any q2 _ (by omega))).mono ?_
            rintro e wd ⟨rfl, hbd⟩
            have HBd := Lib.hid (HB6.out.trans (hbd.mono HB6.out.size))
            clear hbd
            have hq0 : 0 < q2 := in_pos (by omega) h0 h1 HC.out.2.1
            have HBr := Lib.hid (bare_any q2 x wd hq0 (by omega) (by omega) (by omega))
            obtain ⟨Sd, hSd⟩ : ∃ Sd, strN (dgs q2) = Sd := ⟨_, rfl⟩
            rw [hSd] at HBr ⊢
            clear hSd
            go_wp2_with fail
            refine (HBr.out).mono ?_
            rintro e we ⟨r, k, hqr, hr10, rfl, rfl⟩
            have hfin := sho_fin HC.out hqr hr10 (by omega) (by omega) (by omega)
            have HFin := Lib.hid (And.intro hfin (And.intro hr10 HBd.out))
            clear hqr hr10 hfin
            go_wp2_with fail
            go_ret2
            exact ⟨r, x + k, HFin.out.1.1, HFin.out.2.1, HFin.out.1.2, rfl, HFin.out.2.2⟩
          · have hc3 : (c == 0) = false := beq_false_of_ne (by omega)
            have hc4 : decide (c > 0) = false := decide_eq_false (by omega)
            clear hlow hcz2
            go_wp2_with fail
            refine ((digits_any q2 _ (by omega))).mono ?_
            rintro e wd ⟨rfl, hbd⟩
            have HBd := Lib.hid (HB6.out.trans (hbd.mono HB6.out.size))
            clear hbd
            have hq0 : 0 < q2 := in_pos (by omega) h0 h1 HC.out.2.1
            have HBr := Lib.hid (bare_any q2 x wd hq0 (by omega) (by omega) (by omega))
            obtain ⟨Sd, hSd⟩ : ∃ Sd, strN (dgs q2) = Sd := ⟨_, rfl⟩
            rw [hSd] at HBr ⊢
            clear hSd
            go_wp2_with fail
            refine (HBr.out).mono ?_
            rintro e we ⟨r, k, hqr, hr10, rfl, rfl⟩
            have hfin := sho_fin HC.out hqr hr10 (by omega) (by omega) (by omega)
            have HFin := Lib.hid (And.intro hfin (And.intro hr10 HBd.out))
            clear hqr hr10 hfin
            go_wp2_with fail
            go_ret2
            exact ⟨r, x + k, HFin.out.1.1, HFin.out.2.1, HFin.out.1.2, rfl, HFin.out.2.2⟩
end Go.Proofs.YtagghdehbkbemaaGreatDoor.rt
end
