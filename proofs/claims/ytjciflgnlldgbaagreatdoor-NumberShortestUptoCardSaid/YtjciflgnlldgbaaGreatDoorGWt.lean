/- weight, walked; plain: no shorter text reads as a float than its own. NumberShortest, walked. -/
import Derived.Test.YtjciflgnlldgbaaGreatDoorYNr
import Derived.Deep.QuietTactic
import Derived.BigQuiet
section
namespace Go.Proofs.YtjciflgnlldgbaaGreatDoor.dcm
open Go.RowKit mem fl big us uw pg
set_option linter.unusedVariables false
set_option linter.unusedSimpArgs false

def wtStep (p : Nat × Nat) (c : Nat) : Nat × Nat := if c < 48 ∨ 57 < c ∨ (c = 48 ∧ p.1 = 0) then p else (p.1 + 1, if c = 48 then p.2 else p.1 + 1)
def wt (l : List Nat) : Nat := ((l.takeWhile fun c => !isE c).foldl wtStep (0, 0)).2
/-- the length without the noughts behind -/
def tl1 (p : Nat × Nat) (c : Nat) : Nat × Nat := (p.1 + 1, if c = 48 then p.2 else p.1 + 1)
def tlen (b : List Nat) : Nat := (b.foldl tl1 (0, 0)).2
theorem tl_fst : ∀ (b : List Nat) (p : Nat × Nat), (b.foldl tl1 p).1 = p.1 + b.length
  | [], p => rfl
  | c :: b, p => by rw [List.foldl_cons, tl_fst b, List.length_cons]; simp only [tl1]; omega
theorem tlen_snoc (b : List Nat) (c : Nat) : tlen (b ++ [c]) = if c = 48 then tlen b else b.length + 1 := by
  unfold tlen
  rw [List.foldl_append]
  show (tl1 (b.foldl tl1 (0, 0)) c).2 = _
  unfold tl1
  have := tl_fst b (0, 0)
  unfold tl1 at this
  simp only at this ⊢
  split
  · rfl
  · omega
theorem tlen_noughts (b : List Nat) : ∀ k, tlen (b ++ List.replicate k 48) = tlen b
  | 0 => by simp
  | k + 1 => by
    rw [List.replicate_succ', ← List.append_assoc, tlen_snoc, if_pos rfl, tlen_noughts b k]
theorem tlen_take (b : List Nat) : ∀ n, n ≤ b.length → tlen (b.take n) ≤ n ∧ dvn (b.take n) = dvn (b.take (tlen (b.take n))) * 10 ^ (n - tlen (b.take n))
  | 0, _ => by simp [tlen, dvn]
  | n + 1, h => by
    have ih := tlen_take b n (by omega)
    have e : b.take (n + 1) = b.take n ++ [b.getD n 0] := by
      rw [List.take_succ_eq_append_getElem (by omega), List.getD_eq_getElem?_getD, List.getElem?_eq_getElem (by omega)]
      rfl
    have hl : (b.take n).length = n := by rw [List.length_take]; omega
    have hts : tlen (b.take (n + 1)) = if b.getD n 0 = 48 then tlen (b.take n) else n + 1 := by rw [e, tlen_snoc, hl]
    by_cases h48 : b.getD n 0 = 48
    · rw [if_pos h48] at hts
      rw [hts]
      refine ⟨by omega, ?_⟩
      rw [dvn_take b n (by omega), h48, ih.2, show n + 1 - tlen (b.take n) = (n - tlen (b.take n)) + 1 by omega, Nat.pow_succ]
      rw [Nat.sub_self, Nat.add_zero, Nat.mul_assoc]
    · rw [if_neg h48] at hts
      rw [hts]
      exact ⟨Nat.le_refl _, by rw [Nat.sub_self, Nat.pow_zero, Nat.mul_one]⟩
theorem wt_joint : ∀ (M : List Nat), Mch M → ∀ (d : pg.Ds) (p : Nat × Nat), p = (d.b.length, tlen d.b) → M.foldl wtStep p = ((M.foldl spStep d).b.length, tlen (M.foldl spStep d).b)
  | [], _, d, p, h => h
  | c :: M, hM, d, p, h => by
    rw [List.foldl_cons, List.foldl_cons]
    refine wt_joint M (fun x hx => hM x (by simp [hx])) (spStep d c) (wtStep p c) ?_
    subst h
    have hc := hM c (by simp)
    unfold wtStep spStep
    rcases hc with rfl | hc
    · simp
    · unfold Dig at hc
      rw [if_neg (show ¬ c = 46 by omega)]
      by_cases h48 : c = 48 ∧ d.b.length = 0
      · rw [if_pos (.inr (.inr h48)), if_pos h48]
        split <;> rfl
      · rw [if_neg (by rintro (h | h | h); omega; omega; exact h48 h), if_neg h48]
        simp only [tlen_snoc, List.length_append, List.length_cons, List.length_nil, Nat.zero_add]
theorem wt_split {l : List Nat} (h : form l ≠ 0) : wt l = tlen (spB l) := by
  obtain ⟨neg, M, Rr, hle, hM, hRs, hng, hdrop⟩ := nt_shape h
  obtain ⟨htw, hdw⟩ := tw_split hM hRs
  have hspM : pg.spM l = M := by unfold pg.spM; rw [hdrop]; exact htw
  have hspB : spB l = (M.foldl spStep ⟨[], 0, false⟩).b := by unfold spB spF; rw [hspM]
  have hj := wt_joint M hM ⟨[], 0, false⟩ (0, 0) rfl
  unfold wt
  rw [hspB]
  cases neg
  · have hl : l = M ++ Rr := by simpa using hle
    rw [hl, htw, hj]
  · have hl : l = 45 :: (M ++ Rr) := by simpa using hle
    rw [hl, List.takeWhile_cons, show (!isE 45) = true by decide, if_pos rfl, htw, List.foldl_cons]
    rw [show wtStep (0, 0) 45 = (0, 0) by decide, hj]
theorem dec_ten_inv {P m R j : Nat} {e : Int} (hR : Dec P (m * 10 ^ j) e R) : Dec P m (e + j) R := by
  obtain ⟨S, hS⟩ : ∃ S : Nat, S = e.natAbs := ⟨_, rfl⟩
  have h1 := (dec_scale (S := S) (by omega)).1 hR
  refine (dec_scale (S := S) (by omega)).2 ?_
  rw [show ((S : Int) + (e + j)).toNat = j + ((S : Int) + e).toNat by omega, Nat.pow_add, ← Nat.mul_assoc]
  exact h1
/-- no shorter text reads as a float than its own -/
theorem short_law {P a q n : Nat} {x y : Int} {B : List Nat} (hB : ∀ c ∈ B, 48 ≤ c ∧ c ≤ 57) (hS : Dec P (dvn B) y a) (ha : 0 < a) (hq : q % 10 ≠ 0) (hn : 10 ^ n ≤ q) (hC : Dec P q x a) (h4 : ∀ q', Dec P q' (x + 1) a → 10 * q' = q) : n + 1 ≤ tlen B := by
  rcases Nat.lt_or_ge (tlen B) (n + 1) with hlt | hge
  · exfalso
    obtain ⟨ht1, ht2⟩ := tlen_take B B.length (Nat.le_refl _)
    rw [List.take_length] at ht1 ht2
    obtain ⟨m, hm⟩ : ∃ m, tlen B = m := ⟨_, rfl⟩
    rw [hm] at ht1 ht2 hlt
    rw [ht2] at hS
    have h1 := dec_ten_inv hS
    obtain ⟨r, hr⟩ : ∃ r, dvn (B.take m) = r := ⟨_, rfl⟩
    have hrl : r < 10 ^ m := by
      rw [← hr]
      have h2 := dvn_lt (B.take m) (fun c hc => hB c (List.mem_of_mem_take hc))
      rwa [List.length_take, Nat.min_eq_left ht1] at h2
    rw [hr] at h1
    obtain ⟨y', hy'⟩ : ∃ y', y + ((B.length - m : Nat) : Int) = y' := ⟨_, rfl⟩
    rw [hy'] at h1
    rcases Nat.eq_zero_or_pos m with hm0 | hm0
    · subst hm0
      have hr0 : r = 0 := by omega
      have := (dec_none hr0 h1).1
      omega
    · by_cases hyx : x + 1 ≤ y'
      · obtain ⟨i, hi⟩ : ∃ i : Nat, y' = (x + 1) + (i : Int) := ⟨(y' - (x + 1)).toNat, by omega⟩
        rw [hi] at h1
        have := h4 _ (dec_ten h1)
        omega
      · -- between the two numbers lies 10^n * 10^x
        obtain ⟨S, hSS⟩ : ∃ S : Nat, S = x.natAbs + y'.natAbs := ⟨_, rfl⟩
        have g1 := (dec_scale (S := S) (by omega)).1 h1
        have g2 := (dec_scale (S := S) (by omega)).1 hC
        have hp : 0 < 10 ^ ((S : Int) + x).toNat := Nat.pow_pos (by omega)
        have l1 : r * 10 ^ ((S : Int) + y').toNat ≤ 10 ^ n * 10 ^ ((S : Int) + x).toNat := by
          have l3 : r * 10 ^ ((S : Int) + y').toNat ≤ 10 ^ m * 10 ^ ((S : Int) + y').toNat := Nat.mul_le_mul_right _ (Nat.le_of_lt hrl)
          have l4 : 10 ^ m * 10 ^ ((S : Int) + y').toNat ≤ 10 ^ n * 10 ^ ((S : Int) + x).toNat := Nat.mul_le_mul (Nat.pow_le_pow_right (by omega) (by omega)) (Nat.pow_le_pow_right (by omega) (by omega))
          omega
        have l2 : 10 ^ n * 10 ^ ((S : Int) + x).toNat ≤ q * 10 ^ ((S : Int) + x).toNat := Nat.mul_le_mul_right _ hn
        have g3 := near_mid g1 g2 (Nat.mul_le_mul_right P l1) (Nat.mul_le_mul_right P l2)
        have g4 : Dec P (10 ^ n) x a := (dec_scale (S := S) (by omega)).2 g3
        obtain ⟨n', rfl⟩ : ∃ n', n = n' + 1 := ⟨n - 1, by omega⟩
        have g5 : Dec P (10 ^ n' * 10 ^ 1) x a := by rw [← Nat.pow_succ]; exact g4
        have := h4 _ (dec_ten_inv g5)
        omega
  · exact hge
set_option maxRecDepth 100000 in
set_option maxHeartbeats 400000 in
theorem weight_any (s : ByteArray) (w : World) (hn : s.size ≤ 1100000) : Calls Tryz.prog 13 #[.string s] w fun e w' => e = .returned (.int .i64 (wt (nats s) : Int)) ∧ w' = w := by
  have HL := Lib.hid (nats_length s)
  have HG := Lib.hid (fun i (h : i < s.size) => (show (nats s).getD i 0 = (s[i]).toNat by
    have := nats_get s i h
    rw [List.getD_eq_getElem?_getD, List.getElem?_eq_getElem (by rw [nats_length]; exact h)]
    exact this))
  generalize nats s = l at *
  go_enter Tryz.func13, Tryz.ntmps13
  go_wp2_with fail
  go_loop [3, 4, 5, 6] (fun v3 v4 v5 v6 => ∃ (i n la : Nat), i ≤ s.size ∧ n ≤ i ∧ la ≤ i ∧ v3 = .int .i64 (n : Int) ∧ v4 = .int .i64 (la : Int) ∧ v5 = .int .i64 (i : Int) ∧ Hid ((∀ k, k < i → isE (l.getD k 0) = false) ∧ (l.take i).foldl wtStep (0, 0) = (n, la))) (fun _ _ v5 _ => s.size - (intOf v5).toNat)
  case atStart => exact ⟨0, 0, 0, by omega, by omega, by omega, rfl, rfl, rfl, Lib.hid ⟨fun k hk => absurd hk (by omega), rfl⟩⟩
  case round =>
    obtain ⟨i, n, la, hi, hni, hla, rfl, rfl, rfl, hst⟩ := hrel
    by_cases hlt : i < s.size
    · have hli : (i : Int) < (s.size : Int) := by omega
      obtain ⟨c, hc⟩ : ∃ c, (s[i]).toNat = c := ⟨_, rfl⟩
      have hgc := HG.out i hlt
      rw [hc] at hgc
      have hll := HL.out
      by_cases he : isE c = true
      · have hce : c = 101 ∨ c = 69 := by unfold isE at he; simpa using he
        have hfin : Hid (wt l = la) := Lib.hid (by
          have h1 := tw (fun c => !isE c) l i (by omega) (fun k hk => by show (!isE (l.getD k 0)) = true; rw [hst.out.1 k hk]; rfl) (fun _ => by show (!isE (l.getD i 0)) = false; rw [hgc, he]; rfl)
          unfold wt
          rw [h1.1, hst.out.2])
        clear hst hgc hll he
        rcases hce with rfl | rfl
        · go_wp2_with fail
          go_ret
          exact ⟨by rw [hfin.out]; rfl, rfl⟩
        · go_wp2_with fail
          go_ret
          exact ⟨by rw [hfin.out]; rfl, rfl⟩
      · have hef : isE c = false := by simpa using he
        have hne1 : c ≠ 101 := by rintro rfl; exact he (by decide)
        have hne2 : c ≠ 69 := by rintro rfl; exact he (by decide)
        have e1 : ((c : Int) == 101) = false := beq_false_of_ne (by omega)
        have e2 : ((c : Int) == 69) = false := beq_false_of_ne (by omega)
        have hstep : (l.take (i + 1)).foldl wtStep (0, 0) = wtStep (n, la) c := by
          rw [List.take_succ_eq_append_getElem (by omega), List.foldl_append, hst.out.2]
          have : l[i]'(by omega) = c := by
            rw [List.getD_eq_getElem?_getD, List.getElem?_eq_getElem (by omega)] at hgc
            exact hgc
          rw [this]
          rfl
        have hE' : ∀ k, k < i + 1 → isE (l.getD k 0) = false := fun k hk => by
          rcases Nat.lt_or_ge k i with h1 | h1
          · exact hst.out.1 k h1
          · rw [show k = i by omega, hgc]; exact hef
        have HS := Lib.hid (And.intro hE' hstep)
        clear hst hgc hll he hef hstep hE' hne1 hne2
        by_cases hlo : c < 48
        · have p1 : decide ((c : Int) < 48) = true := decide_eq_true (by omega)
          have hw : Hid (wtStep (n, la) c = (n, la)) := Lib.hid (by unfold wtStep; rw [if_pos (.inl hlo)])
          go_wp2_with fail
          exact ⟨⟨i + 1, n, la, by omega, by omega, by omega, rfl, rfl, by simp, Lib.hid ⟨HS.out.1, HS.out.2.trans hw.out⟩⟩, by simp [intOf]; omega⟩
        · have p1 : decide ((c : Int) < 48) = false := decide_eq_false (by omega)
          have p1' : ¬ (c < 48) := hlo
          by_cases hhi : 57 < c
          · have p2 : decide ((c : Int) > 57) = true := decide_eq_true (by omega)
            have p2' : decide ((57 : Int) < (c : Int)) = true := decide_eq_true (by omega)
            have hw : Hid (wtStep (n, la) c = (n, la)) := Lib.hid (by unfold wtStep; rw [if_pos (.inr (.inl hhi))])
            go_wp2_with fail
            exact ⟨⟨i + 1, n, la, by omega, by omega, by omega, rfl, rfl, by simp, Lib.hid ⟨HS.out.1, HS.out.2.trans hw.out⟩⟩, by simp [intOf]; omega⟩
          · have p2 : decide ((c : Int) > 57) = false := decide_eq_false (by omega)
            have p2' : decide ((57 : Int) < (c : Int)) = false := decide_eq_false (by omega)
            by_cases h48 : c = 48
            · have p3 : ((c : Int) == 48) = true := by simp [h48]
              have p3' : ((c : Int) != 48) = false := by simp [h48]
              by_cases hn0 : n = 0
              · have p4 : ((n : Int) == 0) = true := by simp [hn0]
                have hw : Hid (wtStep (n, la) c = (n, la)) := Lib.hid (by unfold wtStep; rw [if_pos (.inr (.inr ⟨h48, hn0⟩))])
                clear h48 hlo hhi
                go_wp2_with fail
                exact ⟨⟨i + 1, n, la, by omega, by omega, by omega, rfl, rfl, by simp, Lib.hid ⟨HS.out.1, HS.out.2.trans hw.out⟩⟩, by simp [intOf]; omega⟩
              · have p4 : ((n : Int) == 0) = false := beq_false_of_ne (by omega)
                have hw : Hid (wtStep (n, la) c = (n + 1, la)) := Lib.hid (by
                  unfold wtStep
                  rw [if_neg (by rintro (h | h | h); omega; omega; exact hn0 h.2), if_pos h48])
                clear h48 hlo hhi
                go_wp2_with fail
                exact ⟨⟨i + 1, n + 1, la, by omega, by omega, by omega, by simp, rfl, by simp, Lib.hid ⟨HS.out.1, HS.out.2.trans hw.out⟩⟩, by simp [intOf]; omega⟩
            · have p3 : ((c : Int) == 48) = false := beq_false_of_ne (by omega)
              have p3' : ((c : Int) != 48) = true := bne_iff_ne.2 (by omega)
              have hw : Hid (wtStep (n, la) c = (n + 1, n + 1)) := Lib.hid (by
                unfold wtStep
                rw [if_neg (by rintro (h | h | h); omega; omega; exact h48 h.1), if_neg h48])
              clear h48 hlo hhi
              go_wp2_with fail
              exact ⟨⟨i + 1, n + 1, n + 1, by omega, by omega, by omega, by simp, by simp, by simp, Lib.hid ⟨HS.out.1, HS.out.2.trans hw.out⟩⟩, by simp [intOf]; omega⟩
    · have hie : i = s.size := by omega
      have hfin : Hid (wt l = la) := Lib.hid (by
        have hll := HL.out
        have h1 := tw (fun c => !isE c) l i (by omega) (fun k hk => by show (!isE (l.getD k 0)) = true; rw [hst.out.1 k hk]; rfl) (fun h => by omega)
        unfold wt
        rw [h1.1, hst.out.2])
      have hli : ¬ ((i : Int) < (s.size : Int)) := by omega
      clear hst
      go_wp2_with fail
      go_ret
      exact ⟨by rw [hfin.out]; rfl, rfl⟩
end Go.Proofs.YtjciflgnlldgbaaGreatDoor.dcm
end
section
namespace Go.Proofs.YtjciflgnlldgbaaGreatDoor.dcm
open Go.RowKit mem fl big us uw pg sh
set_option linter.unusedVariables false
attribute [local go_sem] run_store_float

theorem tlen_dgs {q : Nat} (hq : q % 10 ≠ 0) : tlen (dgs q) = (dgs q).length := by
  by_cases h : q < 10
  · rw [dgs_small q h]
    have := tlen_snoc [] (48 + q % 10)
    rw [if_neg (by omega)] at this
    exact this
  · rw [dgs_step q h, tlen_snoc, if_neg (by omega), List.length_append]
    rfl
theorem short_text {P z a : Nat} {l : List Nat} {neg : Bool} {S : ByteArray} {w0 w0' : World} {e0 : Ending} (hz : z = 1074) (hP : P = 2 ^ z) (hf : form l ≠ 0) (hS : Sd P l a) (ha : a < 9218868437227405312) (ht : TtPost neg a w0 e0 w0') (he : e0 = .returned (.string S)) : wt (nats S) ≤ wt l := by
  obtain ⟨_, h | h | h⟩ := ht
  · omega
  · obtain ⟨rfl, h⟩ := h
    rw [h] at he
    injection he with he
    injection he with he
    rw [← he]
    cases neg
    · have : wt (nats (strN ((if false = true then [45] else []) ++ [48, 46, 48]))) = 0 := by decide
      omega
    · have : wt (nats (strN ((if true = true then [45] else []) ++ [48, 46, 48]))) = 0 := by decide
      omega
  · obtain ⟨h0, _, q, y, hC, hq, hbd, h⟩ := h
    rw [h] at he
    injection he with he
    injection he with he
    obtain ⟨c0, L2, hd, e1, e2⟩ := dgs_head q (by omega)
    have hL : ∀ c ∈ L2, 48 ≤ c ∧ c ≤ 57 := fun c hc => dgs_bytes q c (by rw [hd]; simp [hc])
    have hlt := layT_lt (dgs q) ((dgs q).length + y) (fun c hc => by have := dgs_bytes q c hc; omega)
    obtain ⟨k, hsp, hk⟩ := lay_split c0 L2 ((dgs q).length + y) e1 e2 hL (by have := hbd.2.2.1; omega) (by have := hbd.2.2.2; omega)
    have hf0 := pfx.adv_lay 0 (.inl rfl) c0 L2 ((dgs q).length + y) e1 e2 hL
    have hf1 := pfx.adv_lay 1 (.inr rfl) c0 L2 ((dgs q).length + y) e1 e2 hL
    rw [← hd] at hsp hf0 hf1
    have hPz : P = 2 ^ 1074 := by rw [hP, hz]
    have hCd : Dec P q y a := by unfold Dec; rw [hPz]; exact hC.2.1
    have h4 : ∀ q', Dec P q' (y + 1) a → 10 * q' = q := fun q' hq' => hC.2.2.2 q' (by unfold Dec at hq'; rw [hPz] at hq'; exact hq')
    obtain ⟨n, hn1, hn2, _⟩ := dgs_lo q (by omega)
    have hgood := sp_good hf
    have hlaw := short_law hgood.1 hS h0 hq hn2 hCd h4
    rw [wt_split hf]
    generalize layT (dgs q) ((dgs q).length + y) = T at *
    have hT : ∃ T', nats S = T' ∧ form T' ≠ 0 ∧ spB T' = dgs q ++ List.replicate k 48 := by
      cases neg with
      | false =>
        refine ⟨T, by rw [← he]; exact pg.nats_strN _ (by simpa using hlt), by unfold form; rw [hf0]; decide, hsp.1⟩
      | true =>
        refine ⟨45 :: T, ?_, by unfold form; rw [pfx.adv_sign, hf1]; decide, (spOf_neg hsp).1⟩
        rw [← he]
        exact pg.nats_strN _ (by
          intro c hc
          simp only [if_true, List.cons_append, List.nil_append, List.mem_cons] at hc
          rcases hc with rfl | hc
          · omega
          · exact hlt c hc)
    obtain ⟨T', hT1, hT2, hT3⟩ := hT
    rw [hT1, wt_split hT2, hT3, tlen_noughts, tlen_dgs hq, hn1]
    exact hlaw
theorem tt_string {s : Bool} {a : Nat} {w w' : World} {e : Ending} (h : TtPost s a w e w') : ∃ S, e = .returned (.string S) ∧ Below w.heap.size w w' := by
  obtain ⟨hb, ⟨_, h⟩ | ⟨_, h⟩ | ⟨_, _, q, y, _, _, _, h⟩⟩ := h
  · exact ⟨_, h, hb⟩
  · exact ⟨_, h, hb⟩
  · exact ⟨_, h, hb⟩
theorem tt_size {a : Nat} {neg : Bool} {S : ByteArray} {w0 w0' : World} {e0 : Ending} (ht : TtPost neg a w0 e0 w0') (he : e0 = .returned (.string S)) : S.size ≤ 1100000 := by
  obtain ⟨_, h | h | h⟩ := ht
  · rw [h.2] at he
    injection he with he
    injection he with he
    rw [← he]
    decide
  · rw [h.2] at he
    injection he with he
    injection he with he
    rw [← he, strN_size]
    cases neg <;> simp
  · obtain ⟨_, _, q, y, _, _, hbd, h⟩ := h
    rw [h] at he
    injection he with he
    injection he with he
    have := layT_len q y hbd
    rw [← he, strN_size, List.length_append]
    cases neg <;> simp <;> omega
/-- an answer that is a float -/
theorem nm_float {P : Nat} {l : List Nat} {v : Int} {b : Nat} (h : Nm P l 3 v b 0) : ∃ a, Sd P l a ∧ a < 9218868437227405312 ∧ b = a + sgn (decide (l.head? = some 45)) ∧ form l ≠ 0 := by
  obtain ⟨R, hR, ha⟩ := h
  unfold ans at ha
  by_cases h0 : form l = 0
  · rw [if_pos h0] at ha
    have := (numV_inj ha).1
    exact absurd this (by decide)
  · rw [if_neg h0] at ha
    by_cases h1 : form l = 1 ∧ fits l
    · rw [if_pos h1] at ha
      have := (numV_inj ha).1
      exact absurd this (by decide)
    · rw [if_neg h1] at ha
      have hk : asks l := by
        unfold asks
        rcases fm_range (pfx.adv 0 l) with hfm | hfm | hfm
        · exact absurd hfm h0
        · exact .inr ⟨hfm, fun hf => h1 ⟨hfm, hf⟩⟩
        · exact .inl hfm
      unfold fltV at ha
      by_cases hi : R = 9218868437227405312
      · rw [if_pos hi] at ha
        have := (numV_inj ha).1
        exact absurd this (by decide)
      · rw [if_neg hi] at ha
        exact ⟨R, (hR hk).1, by have := (hR hk).2; omega, (numV_inj ha).2.2.1.symm, h0⟩
set_option maxRecDepth 100000 in
set_option maxHeartbeats 400000 in
theorem numberShortest_any {P z : Nat} (hz : z = 1074) (hP : P = 2 ^ z) (s : ByteArray) (hn : s.size ≤ 1100000) (w : World) (hE : REnv w) :
    Calls Tryz.prog 4 #[.string s] w fun e w' => e = .returned (.bool true) ∧ Below w.heap.size w w' := by
  have hbits := run_f64bits
  have HE := Lib.hid hE
  have HFx := Lib.hid (fixed_any w hE.ne.lt hE.ne.hi hE.ne.ho hE.ne.pow hE.ne.tab)
  have HRd := Lib.hid (fun w (hE : REnv w) => read_parts' hz hP s hn w hE)
  have HW := Lib.hid (fun (x : ByteArray) (hx : x.size ≤ 1100000) w => weight_any x w hx)
  have HN := Lib.hid hn
  have HZ := Lib.hid hz
  have HP := Lib.hid hP
  clear hn hE hz hP
  go_enter Tryz.func4, Tryz.ntmps4
  go_wp2_with fail
  refine HFx.out.mono ?_
  rintro e w1 ⟨rfl, hb1⟩
  have HB1 := Lib.hid hb1
  clear hb1 HFx
  go_wp2_with fail
  refine (HRd.out w1 (HE.out.below HB1.out)).mono ?_
  rintro e w2 ⟨k, v, b, er, HNm, rfl, hb2⟩
  have HB2 := Lib.hid (HB1.out.trans (hb2.mono HB1.out.size))
  have hg3 := heap_alloc_new w2 (.cells #[.int .i64 k, .int .i64 v, .float .f64 b] 27)
  have m0 := blk_cell hg3 (i := 0) (by simp)
  have m2 := blk_cell hg3 (i := 2) (by simp)
  simp only [List.getElem_toArray, List.getElem_cons_zero, List.getElem_cons_succ] at m0 m2
  have HB3 := Lib.hid (HB2.out.alloc HB2.out.size (.cells #[.int .i64 k, .int .i64 v, .float .f64 b] 27))
  have HG3 := Lib.hid hg3
  have HS3 := Lib.hid (show w2.heap.size < (w2.alloc (.cells #[.int .i64 k, .int .i64 v, .float .f64 b] 27)).heap.size by simp)
  clear hb2 hg3 HB1 HRd
  by_cases her : er = 0
  · subst her
    by_cases hk : k = 3
    · subst hk
      obtain ⟨a, hSa, ha, hba, hf⟩ := nm_float HNm.out
      have HTx := Lib.hid (fun w (hE : NEnv w) => text_any (decide ((nats s).head? = some 45)) a w (by omega) hE.pow (by have := hE.lt; omega) hE.tab)
      rw [← hba] at HTx
      have HRf := Lib.hid (fun S w0 e0 w0' ht he w hE => read_float (decide ((nats s).head? = some 45)) a ha S w0 e0 w0' ht he w hE)
      rw [← hba] at HRf
      have HSh := Lib.hid (fun S w0 e0 w0' ht he => short_text (neg := decide ((nats s).head? = some 45)) (S := S) (w0 := w0) (e0 := e0) (w0' := w0') HZ.out HP.out hf hSa ha ht he)
      have HTs := Lib.hid (fun S w0 e0 w0' ht he => tt_size (neg := decide ((nats s).head? = some 45)) (a := a) (S := S) (w0 := w0) (e0 := e0) (w0' := w0') ht he)
      clear hSa ha hba hf HNm
      go_wp2_with fail
      refine (HTx.out _ (HE.out.ne.below HB3.out)).mono ?_
      intro e w4 htt
      obtain ⟨S, rfl, hb4⟩ := tt_string htt
      have hwt := HSh.out S _ _ _ htt rfl
      have HRS := Lib.hid (HRf.out S _ _ _ htt rfl)
      have HB4 := Lib.hid (HB3.out.trans (hb4.mono HB3.out.size))
      have HG4 := Lib.hid ((hb4.block _ HS3.out).trans HG3.out)
      have HS4 := Lib.hid (Nat.lt_of_lt_of_le HS3.out hb4.size)
      have HSz := Lib.hid (show S.size ≤ 1100000 from HTs.out S _ _ _ htt rfl)
      clear hb4 htt HSh HRf HTx HTs HG3 HS3 m0 m2
      go_wp2_with fail
      refine (HRS.out w4 (HE.out.ne.below HB4.out)).mono ?_
      rintro e w5 ⟨rfl, hb5⟩
      have hlt5 : w2.heap.size < w5.heap.size := Nat.lt_of_lt_of_le HS4.out hb5.size
      have hg6 := heap_alloc_new w5 (.cells #[.int .i64 3, .int .i64 0, .float .f64 b] 27)
      have hg6' : (w5.alloc (.cells #[.int .i64 3, .int .i64 0, .float .f64 b] 27)).heap[w2.heap.size]? = some (.cells #[.int .i64 3, .int .i64 v, .float .f64 b] 27) := (heap_alloc_old w5 _ hlt5).trans ((hb5.block _ HS4.out).trans HG4.out)
      have n2 := blk_cell hg6' (i := 2) (by simp)
      have m0 := blk_cell hg6 (i := 0) (by simp)
      have m2 := blk_cell hg6 (i := 2) (by simp)
      simp only [List.getElem_toArray, List.getElem_cons_zero, List.getElem_cons_succ] at n2 m0 m2
      have HB6 := Lib.hid ((HB4.out.trans (hb5.mono HB4.out.size)).alloc (HB4.out.trans (hb5.mono HB4.out.size)).size (.cells #[.int .i64 3, .int .i64 0, .float .f64 b] 27))
      have hle : decide ((wt (nats S) : Int) ≤ (wt (nats s) : Int)) = true := decide_eq_true (by omega)
      have hsz1 : S.size ≤ 1100000 := HSz.out
      have hsz2 : s.size ≤ 1100000 := HN.out
      have hbb : ((b : Int) == (b : Int)) = true := by simp
      clear hb5 hlt5 hg6 hg6' HG4 HS4 HRS
      go_wp2_with fail
      go_quiet ((go_at_call 13; exact Calls.quiet_of_same (HW.out _ (by assumption) _)))
      go_wp2_with fail
      go_ret
      exact ⟨rfl, below_dr HB6.out _⟩
    · have hk3 : (k != 3) = true := bne_iff_ne.2 hk
      have hk4 : (k == 3) = false := beq_false_of_ne hk
      clear hk
      go_wp2_with fail
      go_ret
      exact ⟨rfl, HB3.out⟩
  · have he1 : (er != 0) = true := bne_iff_ne.2 her
    have he2 : (er == 0) = false := beq_false_of_ne her
    clear her
    go_wp2_with fail
    go_ret
    exact ⟨rfl, HB3.out⟩
end Go.Proofs.YtjciflgnlldgbaaGreatDoor.dcm
end
