/- NumberRises, plain: the greater decimal never reads as the smaller float. weight, walked; plain: no shorter text reads as a float than its own. NumberShortest, walked. NumberRises: digitsOf, float, walked. NumberRises, walked. -/
import Derived.Test.YtjciflgnlldgbaaGreatDoorYNr
import Derived.Deep.QuietTactic
import Derived.BigQuiet
section
namespace Go.Proofs.YtjciflgnlldgbaaGreatDoor.dcm
open Go.RowKit mem fl big us uw pg
set_option linter.unusedVariables false
set_option linter.unusedSimpArgs false

theorem near_mono {X1 X2 B r s : Nat} (h1 : Near X1 B r) (h2 : Near X2 B s) (hB : 0 < B) (h : X1 ≤ X2) : r ≤ s := by
  rcases Nat.lt_or_ge s r with hlt | hge
  · exfalso
    obtain ⟨r1, r2, _⟩ := h1
    obtain ⟨s1, _, s3⟩ := h2
    have a1 : V s ≤ V (r - 1) := V_le (by omega)
    have a2 : V (s + 1) ≤ V r := V_le (by omega)
    have a3 : B * (V s + V (s + 1)) ≤ B * (V (r - 1) + V r) := Nat.mul_le_mul_left B (by omega)
    by_cases e : r = s + 1
    · subst e
      rcases r2 with r2 | r2 | ⟨r2, r4⟩ <;> rcases s3 with s3 | s3 | ⟨s3, s4⟩ <;> omega
    · have a4 : V s < V (r - 1) := V_mono (by omega)
      have a5 : B * (V s + V (s + 1)) < B * (V (r - 1) + V r) := (Nat.mul_lt_mul_left hB).2 (by omega)
      rcases r2 with r2 | r2 | ⟨r2, r4⟩ <;> rcases s3 with s3 | s3 | ⟨s3, s4⟩ <;> omega
  · exact hge
theorem dec_mono {P m m' r s : Nat} {e : Int} (h1 : Dec P m e r) (h2 : Dec P m' e s) (h : m ≤ m') : r ≤ s :=
  near_mono h1 h2 (Nat.pow_pos (by decide)) (Nat.mul_le_mul_right _ (Nat.mul_le_mul_right _ h))
def dOf (b : List Nat) (size : Nat) : List Nat := (List.range size).map fun i => 48 + b.getD i 0 % 10
theorem dOf_len (b : List Nat) (n : Nat) : (dOf b n).length = n := by simp [dOf]
theorem dOf_snoc (b : List Nat) (n : Nat) : dOf b (n + 1) = dOf b n ++ [48 + b.getD n 0 % 10] := by simp [dOf, List.range_succ]
theorem dOf_dig (b : List Nat) (n : Nat) : ∀ c ∈ dOf b n, Dig c := by
  intro c hc
  simp only [dOf, List.mem_map] at hc
  obtain ⟨i, _, rfl⟩ := hc
  unfold Dig
  omega
/-- the text '0.DIGITSePOWER' -/
def rtx (D : List Nat) (p : Int) : List Nat := 48 :: 46 :: (D ++ 101 :: wtx p)
theorem adv5 : ∀ (D : List Nat), (∀ c ∈ D, Dig c) → ∀ st : Int, st = 4 ∨ st = 5 → D ≠ [] → pfx.adv st D = 5
  | [], _, _, _, h => absurd rfl h
  | c :: D, hd, st, hs, _ => by
    have hc := hd c (by simp)
    rw [pfx.adv_cons, (pfx.nx_dig hc.1 hc.2).2.1 hs]
    cases D with
    | nil => rfl
    | cons x D => exact adv5 (x :: D) (fun y hy => hd y (by simp [hy])) 5 (.inr rfl) (by simp)
theorem rtx_form {D : List Nat} (hd : ∀ c ∈ D, Dig c) (hne : D ≠ []) (p : Int) : form (rtx D p) = 2 := by
  unfold form rtx
  rw [pfx.adv_cons, pfx.adv_cons, show pfx.nx 0 ((48 : Nat) : Int) = 2 by decide, show pfx.nx 2 ((46 : Nat) : Int) = 4 by decide, pfx.adv_app, adv5 D hd 4 (.inl rfl) hne, pfx.adv_cons, show pfx.nx 5 ((101 : Nat) : Int) = 6 by decide, pfx.adv_wtx]
  decide
theorem sp_frac : ∀ (D : List Nat), (∀ c ∈ D, Dig c) → ∀ d : pg.Ds, d.bh = true → (∀ c ∈ d.b, Dig c) → dvn (D.foldl spStep d).b = dvn d.b * 10 ^ D.length + dvn D ∧ (D.foldl spStep d).x - (D.foldl spStep d).b.length = d.x - d.b.length - D.length
  | [], _, d, _, _ => by simp [dvn]
  | c :: D, hd, d, hb, hdb => by
    have hc := hd c (by simp)
    unfold Dig at hc
    rw [List.foldl_cons, dvn_cons, List.length_cons]
    by_cases h48 : c = 48 ∧ d.b.length = 0
    · have e : spStep d c = { d with x := d.x - 1 } := by unfold spStep; rw [if_neg (by omega), if_pos h48, if_pos hb]
      obtain ⟨a1, a2⟩ := sp_frac D (fun y hy => hd y (by simp [hy])) { d with x := d.x - 1 } hb hdb
      rw [e]
      refine ⟨?_, ?_⟩
      · rw [a1, List.length_eq_zero_iff.1 h48.2, h48.1]
        simp [dvn]
      · rw [a2]
        simp only
        omega
    · have e : spStep d c = { d with b := d.b ++ [c] } := by unfold spStep; rw [if_neg (by omega), if_neg h48, hb]; simp
      obtain ⟨a1, a2⟩ := sp_frac D (fun y hy => hd y (by simp [hy])) { d with b := d.b ++ [c] } hb (fun y hy => by
        rcases List.mem_append.1 hy with hy | hy
        · exact hdb y hy
        · simp at hy; rw [hy]; exact hc)
      rw [e]
      refine ⟨?_, ?_⟩
      · rw [a1]
        simp only
        rw [dvn_app, Nat.pow_succ]
        have : dvn [c] = c - 48 := by simp [dvn]
        rw [this, List.length_cons, List.length_nil, Nat.add_mul]
        simp only [Nat.zero_add, Nat.pow_one]
        rw [Nat.mul_assoc, Nat.mul_comm 10]
        omega
      · rw [a2]
        simp only [List.length_append, List.length_cons, List.length_nil]
        omega
theorem pw_small : ∀ (ds : List Nat), (∀ c ∈ ds, Dig c) → ∀ n : Nat, n * 10 ^ ds.length + dvn ds < 1099511627776 → ds.foldl pwStep n = n * 10 ^ ds.length + dvn ds
  | [], _, n, _ => by simp [dvn]
  | c :: ds, hd, n, h => by
    have hc := hd c (by simp)
    unfold Dig at hc
    have e : n * 10 ^ (c :: ds).length + dvn (c :: ds) = (n * 10 + (c - 48)) * 10 ^ ds.length + dvn ds := by
      rw [dvn_cons, List.length_cons, Nat.pow_succ, Nat.add_mul, Nat.mul_assoc n, Nat.mul_comm 10]
      omega
    rw [e] at h ⊢
    have hp : 0 < 10 ^ ds.length := Nat.pow_pos (by omega)
    have hn : n < 1099511627776 := by
      have : (n * 10 + (c - 48)) * 1 ≤ (n * 10 + (c - 48)) * 10 ^ ds.length := Nat.mul_le_mul_left _ hp
      omega
    rw [List.foldl_cons, show pwStep n c = n * 10 + (c - 48) by unfold pwStep; rw [if_pos ⟨hc, hn⟩]]
    exact pw_small ds (fun y hy => hd y (by simp [hy])) _ h
theorem pw_wtx' (p : Int) (h1 : -1099511627776 < p) (h2 : p < 1099511627776) : pwV (wtx p) = p := by
  have hd : ∀ c ∈ dgs p.natAbs, Dig c := fun c hc => dgs_bytes _ c hc
  have hs := pw_small (dgs p.natAbs) hd 0 (by rw [dvn_dgs']; omega)
  rw [dvn_dgs', Nat.zero_mul, Nat.zero_add] at hs
  by_cases hp : p < 0
  · have e : wtx p = [45] ++ dgs p.natAbs := by unfold wtx; rw [if_pos hp]; rfl
    rw [pw_exp e (.inr (.inr rfl)) hd (pfx.dgs_ne _), if_pos rfl, hs]
    omega
  · have e : wtx p = [] ++ dgs p.natAbs := by unfold wtx; rw [if_neg hp]; rfl
    rw [pw_exp e (.inl rfl) hd (pfx.dgs_ne _), if_neg (by simp), hs]
    omega
theorem rtx_sd {P R : Nat} {D : List Nat} (hd : ∀ c ∈ D, Dig c) (p : Int) (h1 : -1099511627776 < p) (h2 : p < 1099511627776) (hS : Sd P (rtx D p) R) : Dec P (dvn D) (p - D.length) R := by
  have hM : Mch (48 :: 46 :: D) := by
    intro c hc
    rcases List.mem_cons.1 hc with rfl | hc
    · exact .inr ⟨by omega, by omega⟩
    · rcases List.mem_cons.1 hc with rfl | hc
      · exact .inl rfl
      · exact .inr (hd c hc)
  have hR : Rsh (101 :: wtx p) := by
    refine .inr ⟨101, wtx p, rfl, .inl rfl, exp6 _ ?_⟩
    rw [pfx.adv_wtx]
    decide
  have hdrop : (rtx D p).drop (st0 (rtx D p)) = (48 :: 46 :: D) ++ (101 :: wtx p) := by
    unfold st0 rtx
    rw [if_neg (by simp)]
    simp
  obtain ⟨htw, hdw⟩ := tw_split hM hR
  have hspM : pg.spM (rtx D p) = 48 :: 46 :: D := by unfold pg.spM; rw [hdrop]; exact htw
  have hspR : spR (rtx D p) = 101 :: wtx p := by unfold spR; rw [hdrop]; exact hdw
  have hf : spF (48 :: 46 :: D) = D.foldl spStep ⟨[], 0, true⟩ := by
    unfold spF
    rw [List.foldl_cons, List.foldl_cons]
    rfl
  obtain ⟨a1, a2⟩ := sp_frac D hd ⟨[], 0, true⟩ rfl (fun c hc => absurd hc (by simp))
  unfold Sd at hS
  have hb : dvn (spB (rtx D p)) = dvn D := by
    unfold spB
    rw [hspM, hf, a1]
    simp [dvn]
  have hx : spX (rtx D p) - (spB (rtx D p)).length = p - D.length := by
    unfold spX spB
    rw [hspM, hspR, hf, if_neg (by simp), List.drop_succ_cons, List.drop_zero, pw_wtx' p h1 h2]
    simp only [List.length_nil] at a2
    omega
  rw [hb, hx] at hS
  exact hS
/-- texts of equally many digits stand as their numbers do -/
theorem less_dvn : ∀ (x y : List Nat), x.length = y.length → (∀ c ∈ x, Dig c) → (∀ c ∈ y, Dig c) → (Op.bytesLess (x.map UInt8.ofNat) (y.map UInt8.ofNat) = true ↔ dvn x < dvn y)
  | [], [], _, _, _ => by simp [Op.bytesLess, dvn]
  | [], _ :: _, h, _, _ => absurd h (by simp)
  | _ :: _, [], h, _, _ => absurd h (by simp)
  | a :: x, b :: y, h, hx, hy => by
    have ih := less_dvn x y (by simpa using h) (fun c hc => hx c (by simp [hc])) (fun c hc => hy c (by simp [hc]))
    have ha := hx a (by simp)
    have hb := hy b (by simp)
    have l1 := dvn_lt x (fun c hc => hx c (by simp [hc]))
    have l2 := dvn_lt y (fun c hc => hy c (by simp [hc]))
    have hl : x.length = y.length := by simpa using h
    unfold Dig at ha hb
    rw [hl] at l1
    rw [dvn_cons, dvn_cons, hl]
    have ea : (UInt8.ofNat a).toNat = a := by rw [UInt8.toNat_ofNat']; omega
    have eb : (UInt8.ofNat b).toNat = b := by rw [UInt8.toNat_ofNat']; omega
    simp only [List.map_cons, Op.bytesLess, Bool.or_eq_true, Bool.and_eq_true, decide_eq_true_eq, UInt8.lt_iff_toNat_lt, ea, eb, ih]
    have hbeq : (UInt8.ofNat a == UInt8.ofNat b) = true ↔ a = b := by
      rw [beq_iff_eq]
      constructor
      · intro hh
        have := congrArg UInt8.toNat hh
        rwa [ea, eb] at this
      · intro hh
        rw [hh]
    rw [hbeq]
    obtain ⟨K, hK⟩ : ∃ K, 10 ^ y.length = K := ⟨_, rfl⟩
    rw [hK] at l1 l2 ⊢
    rcases Nat.lt_trichotomy a b with hab | hab | hab
    · have h3 : (a - 48 + 1) * K ≤ (b - 48) * K := Nat.mul_le_mul_right _ (by omega)
      rw [Nat.add_mul, Nat.one_mul] at h3
      exact ⟨fun _ => by omega, fun _ => .inl hab⟩
    · subst hab
      exact ⟨fun hh => by rcases hh with hh | ⟨_, hh⟩ <;> omega, fun hh => .inr ⟨rfl, by omega⟩⟩
    · have h3 : (b - 48 + 1) * K ≤ (a - 48) * K := Nat.mul_le_mul_right _ (by omega)
      rw [Nat.add_mul, Nat.one_mul] at h3
      exact ⟨fun hh => by rcases hh with hh | ⟨hh, _⟩ <;> omega, fun hh => by omega⟩
end Go.Proofs.YtjciflgnlldgbaaGreatDoor.dcm
end
section
namespace Go.Proofs.YtjciflgnlldgbaaGreatDoor.dcm
open Go.RowKit mem fl big us uw pg
set_option linter.unusedVariables false
set_option linter.unusedSimpArgs false

def wtStep (p : Nat × Nat) (c : Nat) : Nat × Nat := if c < 48 ∨ 57 < c ∨ (c = 48 ∧ p.1 = 0) then p else (p.1 + 1, if c = 48 then p.2 else p.1 + 1)
def wt (l : List Nat) : Nat := ((l.takeWhile fun c => !isE c).foldl wtStep (0, 0)).2
/-- the length without the noughts behind -/
def tl1 (p : Nat × Nat) (c : Nat) : Nat × Nat := (p.1 + 1, if c = 48 then p.2 else p.1 + 1)
def tlen (b : List Nat) : Nat := (b.foldl tl1 (0, 0)).2
theorem tl_fst : ∀ (b : List Nat) (p : Nat × Nat), (b.foldl tl1 p).1 = p.1 + b.length
  | [], p => rfl
  | c :: b, p => by rw [List.foldl_cons, tl_fst b, List.length_cons]; simp only [tl1]; omega
theorem tlen_snoc (b : List Nat) (c : Nat) : tlen (b ++ [c]) = if c = 48 then tlen b else b.length + 1 := by
  unfold tlen
  rw [List.foldl_append]
  show (tl1 (b.foldl tl1 (0, 0)) c).2 = _
  unfold tl1
  have := tl_fst b (0, 0)
  unfold tl1 at this
  simp only at this ⊢
  split
  · rfl
  · omega
theorem tlen_noughts (b : List Nat) : ∀ k, tlen (b ++ List.replicate k 48) = tlen b
  | 0 => by simp
  | k + 1 => by
    rw [List.replicate_succ', ← List.append_assoc, tlen_snoc, if_pos rfl, tlen_noughts b k]
theorem tlen_take (b : List Nat) : ∀ n, n ≤ b.length → tlen (b.take n) ≤ n ∧ dvn (b.take n) = dvn (b.take (tlen (b.take n))) * 10 ^ (n - tlen (b.take n))
  | 0, _ => by simp [tlen, dvn]
  | n + 1, h => by
    have ih := tlen_take b n (by omega)
    have e : b.take (n + 1) = b.take n ++ [b.getD n 0] := by
      rw [List.take_succ_eq_append_getElem (by omega), List.getD_eq_getElem?_getD, List.getElem?_eq_getElem (by omega)]
      rfl
    have hl : (b.take n).length = n := by rw [List.length_take]; omega
    have hts : tlen (b.take (n + 1)) = if b.getD n 0 = 48 then tlen (b.take n) else n + 1 := by rw [e, tlen_snoc, hl]
    by_cases h48 : b.getD n 0 = 48
    · rw [if_pos h48] at hts
      rw [hts]
      refine ⟨by omega, ?_⟩
      rw [dvn_take b n (by omega), h48, ih.2, show n + 1 - tlen (b.take n) = (n - tlen (b.take n)) + 1 by omega, Nat.pow_succ]
      rw [Nat.sub_self, Nat.add_zero, Nat.mul_assoc]
    · rw [if_neg h48] at hts
      rw [hts]
      exact ⟨Nat.le_refl _, by rw [Nat.sub_self, Nat.pow_zero, Nat.mul_one]⟩
theorem wt_joint : ∀ (M : List Nat), Mch M → ∀ (d : pg.Ds) (p : Nat × Nat), p = (d.b.length, tlen d.b) → M.foldl wtStep p = ((M.foldl spStep d).b.length, tlen (M.foldl spStep d).b)
  | [], _, d, p, h => h
  | c :: M, hM, d, p, h => by
    rw [List.foldl_cons, List.foldl_cons]
    refine wt_joint M (fun x hx => hM x (by simp [hx])) (spStep d c) (wtStep p c) ?_
    subst h
    have hc := hM c (by simp)
    unfold wtStep spStep
    rcases hc with rfl | hc
    · simp
    · unfold Dig at hc
      rw [if_neg (show ¬ c = 46 by omega)]
      by_cases h48 : c = 48 ∧ d.b.length = 0
      · rw [if_pos (.inr (.inr h48)), if_pos h48]
        split <;> rfl
      · rw [if_neg (by rintro (h | h | h); omega; omega; exact h48 h), if_neg h48]
        simp only [tlen_snoc, List.length_append, List.length_cons, List.length_nil, Nat.zero_add]
theorem wt_split {l : List Nat} (h : form l ≠ 0) : wt l = tlen (spB l) := by
  obtain ⟨neg, M, Rr, hle, hM, hRs, hng, hdrop⟩ := nt_shape h
  obtain ⟨htw, hdw⟩ := tw_split hM hRs
  have hspM : pg.spM l = M := by unfold pg.spM; rw [hdrop]; exact htw
  have hspB : spB l = (M.foldl spStep ⟨[], 0, false⟩).b := by unfold spB spF; rw [hspM]
  have hj := wt_joint M hM ⟨[], 0, false⟩ (0, 0) rfl
  unfold wt
  rw [hspB]
  cases neg
  · have hl : l = M ++ Rr := by simpa using hle
    rw [hl, htw, hj]
  · have hl : l = 45 :: (M ++ Rr) := by simpa using hle
    rw [hl, List.takeWhile_cons, show (!isE 45) = true by decide, if_pos rfl, htw, List.foldl_cons]
    rw [show wtStep (0, 0) 45 = (0, 0) by decide, hj]
theorem dec_ten_inv {P m R j : Nat} {e : Int} (hR : Dec P (m * 10 ^ j) e R) : Dec P m (e + j) R := by
  obtain ⟨S, hS⟩ : ∃ S : Nat, S = e.natAbs := ⟨_, rfl⟩
  have h1 := (dec_scale (S := S) (by omega)).1 hR
  refine (dec_scale (S := S) (by omega)).2 ?_
  rw [show ((S : Int) + (e + j)).toNat = j + ((S : Int) + e).toNat by omega, Nat.pow_add, ← Nat.mul_assoc]
  exact h1
/-- no shorter text reads as a float than its own -/
theorem short_law {P a q n : Nat} {x y : Int} {B : List Nat} (hB : ∀ c ∈ B, 48 ≤ c ∧ c ≤ 57) (hS : Dec P (dvn B) y a) (ha : 0 < a) (hq : q % 10 ≠ 0) (hn : 10 ^ n ≤ q) (hC : Dec P q x a) (h4 : ∀ q', Dec P q' (x + 1) a → 10 * q' = q) : n + 1 ≤ tlen B := by
  rcases Nat.lt_or_ge (tlen B) (n + 1) with hlt | hge
  · exfalso
    obtain ⟨ht1, ht2⟩ := tlen_take B B.length (Nat.le_refl _)
    rw [List.take_length] at ht1 ht2
    obtain ⟨m, hm⟩ : ∃ m, tlen B = m := ⟨_, rfl⟩
    rw [hm] at ht1 ht2 hlt
    rw [ht2] at hS
    have h1 := dec_ten_inv hS
    obtain ⟨r, hr⟩ : ∃ r, dvn (B.take m) = r := ⟨_, rfl⟩
    have hrl : r < 10 ^ m := by
      rw [← hr]
      have h2 := dvn_lt (B.take m) (fun c hc => hB c (List.mem_of_mem_take hc))
      rwa [List.length_take, Nat.min_eq_left ht1] at h2
    rw [hr] at h1
    obtain ⟨y', hy'⟩ : ∃ y', y + ((B.length - m : Nat) : Int) = y' := ⟨_, rfl⟩
    rw [hy'] at h1
    rcases Nat.eq_zero_or_pos m with hm0 | hm0
    · subst hm0
      have hr0 : r = 0 := by omega
      have := (dec_none hr0 h1).1
      omega
    · by_cases hyx : x + 1 ≤ y'
      · obtain ⟨i, hi⟩ : ∃ i : Nat, y' = (x + 1) + (i : Int) := ⟨(y' - (x + 1)).toNat, by omega⟩
        rw [hi] at h1
        have := h4 _ (dec_ten h1)
        omega
      · -- between the two numbers lies 10^n * 10^x
        obtain ⟨S, hSS⟩ : ∃ S : Nat, S = x.natAbs + y'.natAbs := ⟨_, rfl⟩
        have g1 := (dec_scale (S := S) (by omega)).1 h1
        have g2 := (dec_scale (S := S) (by omega)).1 hC
        have hp : 0 < 10 ^ ((S : Int) + x).toNat := Nat.pow_pos (by omega)
        have l1 : r * 10 ^ ((S : Int) + y').toNat ≤ 10 ^ n * 10 ^ ((S : Int) + x).toNat := by
          have l3 : r * 10 ^ ((S : Int) + y').toNat ≤ 10 ^ m * 10 ^ ((S : Int) + y').toNat := Nat.mul_le_mul_right _ (Nat.le_of_lt hrl)
          have l4 : 10 ^ m * 10 ^ ((S : Int) + y').toNat ≤ 10 ^ n * 10 ^ ((S : Int) + x).toNat := Nat.mul_le_mul (Nat.pow_le_pow_right (by omega) (by omega)) (Nat.pow_le_pow_right (by omega) (by omega))
          omega
        have l2 : 10 ^ n * 10 ^ ((S : Int) + x).toNat ≤ q * 10 ^ ((S : Int) + x).toNat := Nat.mul_le_mul_right _ hn
        have g3 := near_mid g1 g2 (Nat.mul_le_mul_right P l1) (Nat.mul_le_mul_right P l2)
        have g4 : Dec P (10 ^ n) x a := (dec_scale (S := S) (by omega)).2 g3
        obtain ⟨n', rfl⟩ : ∃ n', n = n' + 1 := ⟨n - 1, by omega⟩
        have g5 : Dec P (10 ^ n' * 10 ^ 1) x a := by rw [← Nat.pow_succ]; exact g4
        have := h4 _ (dec_ten_inv g5)
        omega
  · exact hge
set_option maxRecDepth 100000 in
set_option maxHeartbeats 400000 in
theorem weight_any (s : ByteArray) (w : World) (hn : s.size ≤ 1100000) : Calls Tryz.prog 13 #[.string s] w fun e w' => e = .returned (.int .i64 (wt (nats s) : Int)) ∧ w' = w := by
  have HL := Lib.hid (nats_length s)
  have HG := Lib.hid (fun i (h : i < s.size) => (show (nats s).getD i 0 = (s[i]).toNat by
    have := nats_get s i h
    rw [List.getD_eq_getElem?_getD, List.getElem?_eq_getElem (by rw [nats_length]; exact h)]
    exact this))
  generalize nats s = l at *
  go_enter Tryz.func13, Tryz.ntmps13
  go_wp2_with fail
  go_loop [3, 4, 5, 6] (fun v3 v4 v5 v6 => ∃ (i n la : Nat), i ≤ s.size ∧ n ≤ i ∧ la ≤ i ∧ v3 = .int .i64 (n : Int) ∧ v4 = .int .i64 (la : Int) ∧ v5 = .int .i64 (i : Int) ∧ Hid ((∀ k, k < i → isE (l.getD k 0) = false) ∧ (l.take i).foldl wtStep (0, 0) = (n, la))) (fun _ _ v5 _ => s.size - (intOf v5).toNat)
  case atStart => exact ⟨0, 0, 0, by omega, by omega, by omega, rfl, rfl, rfl, Lib.hid ⟨fun k hk => absurd hk (by omega), rfl⟩⟩
  case round =>
    obtain ⟨i, n, la, hi, hni, hla, rfl, rfl, rfl, hst⟩ := hrel
    by_cases hlt : i < s.size
    · have hli : (i : Int) < (s.size : Int) := by omega
      obtain ⟨c, hc⟩ : ∃ c, (s[i]).toNat = c := ⟨_, rfl⟩
      have hgc := HG.out i hlt
      rw [hc] at hgc
      have hll := HL.out
      by_cases he : isE c = true
      · have hce : c = 101 ∨ c = 69 := by unfold isE at he; simpa using he
        have hfin : Hid (wt l = la) := Lib.hid (by
          have h1 := tw (fun c => !isE c) l i (by omega) (fun k hk => by show (!isE (l.getD k 0)) = true; rw [hst.out.1 k hk]; rfl) (fun _ => by show (!isE (l.getD i 0)) = false; rw [hgc, he]; rfl)
          unfold wt
          rw [h1.1, hst.out.2])
        clear hst hgc hll he
        rcases hce with rfl | rfl
        · go_wp2_with fail
          go_ret
          exact ⟨by rw [hfin.out]; rfl, rfl⟩
        · go_wp2_with fail
          go_ret
          exact ⟨by rw [hfin.out]; rfl, rfl⟩
      · have hef : isE c = false := by simpa using he
        have hne1 : c ≠ 101 := by rintro rfl; exact he (by decide)
        have hne2 : c ≠ 69 := by rintro rfl; exact he (by decide)
        have e1 : ((c : Int) == 101) = false := beq_false_of_ne (by omega)
        have e2 : ((c : Int) == 69) = false := beq_false_of_ne (by omega)
        have hstep : (l.take (i + 1)).foldl wtStep (0, 0) = wtStep (n, la) c := by
          rw [List.take_succ_eq_append_getElem (by omega), List.foldl_append, hst.out.2]
          have : l[i]'(by omega) = c := by
            rw [List.getD_eq_getElem?_getD, List.getElem?_eq_getElem (by omega)] at hgc
            exact hgc
          rw [this]
          rfl
        have hE' : ∀ k, k < i + 1 → isE (l.getD k 0) = false := fun k hk => by
          rcases Nat.lt_or_ge k i with h1 | h1
          · exact hst.out.1 k h1
          · rw [show k = i by omega, hgc]; exact hef
        have HS := Lib.hid (And.intro hE' hstep)
        clear hst hgc hll he hef hstep hE' hne1 hne2
        by_cases hlo : c < 48
        · have p1 : decide ((c : Int) < 48) = true := decide_eq_true (by omega)
          have hw : Hid (wtStep (n, la) c = (n, la)) := Lib.hid (by unfold wtStep; rw [if_pos (.inl hlo)])
          go_wp2_with fail
          exact ⟨⟨i + 1, n, la, by omega, by omega, by omega, rfl, rfl, by simp, Lib.hid ⟨HS.out.1, HS.out.2.trans hw.out⟩⟩, by simp [intOf]; omega⟩
        · have p1 : decide ((c : Int) < 48) = false := decide_eq_false (by omega)
          have p1' : ¬ (c < 48) := hlo
          by_cases hhi : 57 < c
          · have p2 : decide ((c : Int) > 57) = true := decide_eq_true (by omega)
            have p2' : decide ((57 : Int) < (c : Int)) = true := decide_eq_true (by omega)
            have hw : Hid (wtStep (n, la) c = (n, la)) := Lib.hid (by unfold wtStep; rw [if_pos (.inr (.inl hhi))])
            go_wp2_with fail
            exact ⟨⟨i + 1, n, la, by omega, by omega, by omega, rfl, rfl, by simp, Lib.hid ⟨HS.out.1, HS.out.2.trans hw.out⟩⟩, by simp [intOf]; omega⟩
          · have p2 : decide ((c : Int) > 57) = false := decide_eq_false (by omega)
            have p2' : decide ((57 : Int) < (c : Int)) = false := decide_eq_false (by omega)
            by_cases h48 : c = 48
            · have p3 : ((c : Int) == 48) = true := by simp [h48]
              have p3' : ((c : Int) != 48) = false := by simp [h48]
              by_cases hn0 : n = 0
              · have p4 : ((n : Int) == 0) = true := by simp [hn0]
                have hw : Hid (wtStep (n, la) c = (n, la)) := Lib.hid (by unfold wtStep; rw [if_pos (.inr (.inr ⟨h48, hn0⟩))])
                clear h48 hlo hhi
                go_wp2_with fail
                exact ⟨⟨i + 1, n, la, by omega, by omega, by omega, rfl, rfl, by simp, Lib.hid ⟨HS.out.1, HS.out.2.trans hw.out⟩⟩, by simp [intOf]; omega⟩
              · have p4 : ((n : Int) == 0) = false := beq_false_of_ne (by omega)
                have hw : Hid (wtStep (n, la) c = (n + 1, la)) := Lib.hid (by
                  unfold wtStep
                  rw [if_neg (by rintro (h | h | h); omega; omega; exact hn0 h.2), if_pos h48])
                clear h48 hlo hhi
                go_wp2_with fail
                exact ⟨⟨i + 1, n + 1, la, by omega, by omega, by omega, by simp, rfl, by simp, Lib.hid ⟨HS.out.1, HS.out.2.trans hw.out⟩⟩, by simp [intOf]; omega⟩
            · have p3 : ((c : Int) == 48) = false := beq_false_of_ne (by omega)
              have p3' : ((c : Int) != 48) = true := bne_iff_ne.2 (by omega)
              have hw : Hid (wtStep (n, la) c = (n + 1, n + 1)) := Lib.hid (by
                unfold wtStep
                rw [if_neg (by rintro (h | h | h); omega; omega; exact h48 h.1), if_neg h48])
              clear h48 hlo hhi
              go_wp2_with fail
              exact ⟨⟨i + 1, n + 1, n + 1, by omega, by omega, by omega, by simp, by simp, by simp, Lib.hid ⟨HS.out.1, HS.out.2.trans hw.out⟩⟩, by simp [intOf]; omega⟩
    · have hie : i = s.size := by omega
      have hfin : Hid (wt l = la) := Lib.hid (by
        have hll := HL.out
        have h1 := tw (fun c => !isE c) l i (by omega) (fun k hk => by show (!isE (l.getD k 0)) = true; rw [hst.out.1 k hk]; rfl) (fun h => by omega)
        unfold wt
        rw [h1.1, hst.out.2])
      have hli : ¬ ((i : Int) < (s.size : Int)) := by omega
      clear hst
      go_wp2_with fail
      go_ret
      exact ⟨by rw [hfin.out]; rfl, rfl⟩
end Go.Proofs.YtjciflgnlldgbaaGreatDoor.dcm
end
section
namespace Go.Proofs.YtjciflgnlldgbaaGreatDoor.dcm
open Go.RowKit mem fl big us uw pg sh
set_option linter.unusedVariables false
attribute [local go_sem] run_store_float

theorem tlen_dgs {q : Nat} (hq : q % 10 ≠ 0) : tlen (dgs q) = (dgs q).length := by
  by_cases h : q < 10
  · rw [dgs_small q h]
    have := tlen_snoc [] (48 + q % 10)
    rw [if_neg (by omega)] at this
    exact this
  · rw [dgs_step q h, tlen_snoc, if_neg (by omega), List.length_append]
    rfl
theorem short_text {P z a : Nat} {l : List Nat} {neg : Bool} {S : ByteArray} {w0 w0' : World} {e0 : Ending} (hz : z = 1074) (hP : P = 2 ^ z) (hf : form l ≠ 0) (hS : Sd P l a) (ha : a < 9218868437227405312) (ht : TtPost neg a w0 e0 w0') (he : e0 = .returned (.string S)) : wt (nats S) ≤ wt l := by
  obtain ⟨_, h | h | h⟩ := ht
  · omega
  · obtain ⟨rfl, h⟩ := h
    rw [h] at he
    injection he with he
    injection he with he
    rw [← he]
    cases neg
    · have : wt (nats (strN ((if false = true then [45] else []) ++ [48, 46, 48]))) = 0 := by decide
      omega
    · have : wt (nats (strN ((if true = true then [45] else []) ++ [48, 46, 48]))) = 0 := by decide
      omega
  · obtain ⟨h0, _, q, y, hC, hq, hbd, h⟩ := h
    rw [h] at he
    injection he with he
    injection he with he
    obtain ⟨c0, L2, hd, e1, e2⟩ := dgs_head q (by omega)
    have hL : ∀ c ∈ L2, 48 ≤ c ∧ c ≤ 57 := fun c hc => dgs_bytes q c (by rw [hd]; simp [hc])
    have hlt := layT_lt (dgs q) ((dgs q).length + y) (fun c hc => by have := dgs_bytes q c hc; omega)
    obtain ⟨k, hsp, hk⟩ := lay_split c0 L2 ((dgs q).length + y) e1 e2 hL (by have := hbd.2.2.1; omega) (by have := hbd.2.2.2; omega)
    have hf0 := pfx.adv_lay 0 (.inl rfl) c0 L2 ((dgs q).length + y) e1 e2 hL
    have hf1 := pfx.adv_lay 1 (.inr rfl) c0 L2 ((dgs q).length + y) e1 e2 hL
    rw [← hd] at hsp hf0 hf1
    have hPz : P = 2 ^ 1074 := by rw [hP, hz]
    have hCd : Dec P q y a := by unfold Dec; rw [hPz]; exact hC.2.1
    have h4 : ∀ q', Dec P q' (y + 1) a → 10 * q' = q := fun q' hq' => hC.2.2.2 q' (by unfold Dec at hq'; rw [hPz] at hq'; exact hq')
    obtain ⟨n, hn1, hn2, _⟩ := dgs_lo q (by omega)
    have hgood := sp_good hf
    have hlaw := short_law hgood.1 hS h0 hq hn2 hCd h4
    rw [wt_split hf]
    generalize layT (dgs q) ((dgs q).length + y) = T at *
    have hT : ∃ T', nats S = T' ∧ form T' ≠ 0 ∧ spB T' = dgs q ++ List.replicate k 48 := by
      cases neg with
      | false =>
        refine ⟨T, by rw [← he]; exact pg.nats_strN _ (by simpa using hlt), by unfold form; rw [hf0]; decide, hsp.1⟩
      | true =>
        refine ⟨45 :: T, ?_, by unfold form; rw [pfx.adv_sign, hf1]; decide, (spOf_neg hsp).1⟩
        rw [← he]
        exact pg.nats_strN _ (by
          intro c hc
          simp only [if_true, List.cons_append, List.nil_append, List.mem_cons] at hc
          rcases hc with rfl | hc
          · omega
          · exact hlt c hc)
    obtain ⟨T', hT1, hT2, hT3⟩ := hT
    rw [hT1, wt_split hT2, hT3, tlen_noughts, tlen_dgs hq, hn1]
    exact hlaw
theorem tt_string {s : Bool} {a : Nat} {w w' : World} {e : Ending} (h : TtPost s a w e w') : ∃ S, e = .returned (.string S) ∧ Below w.heap.size w w' := by
  obtain ⟨hb, ⟨_, h⟩ | ⟨_, h⟩ | ⟨_, _, q, y, _, _, _, h⟩⟩ := h
  · exact ⟨_, h, hb⟩
  · exact ⟨_, h, hb⟩
  · exact ⟨_, h, hb⟩
theorem tt_size {a : Nat} {neg : Bool} {S : ByteArray} {w0 w0' : World} {e0 : Ending} (ht : TtPost neg a w0 e0 w0') (he : e0 = .returned (.string S)) : S.size ≤ 1100000 := by
  obtain ⟨_, h | h | h⟩ := ht
  · rw [h.2] at he
    injection he with he
    injection he with he
    rw [← he]
    decide
  · rw [h.2] at he
    injection he with he
    injection he with he
    rw [← he, strN_size]
    cases neg <;> simp
  · obtain ⟨_, _, q, y, _, _, hbd, h⟩ := h
    rw [h] at he
    injection he with he
    injection he with he
    have := layT_len q y hbd
    rw [← he, strN_size, List.length_append]
    cases neg <;> simp <;> omega
/-- an answer that is a float -/
theorem nm_float {P : Nat} {l : List Nat} {v : Int} {b : Nat} (h : Nm P l 3 v b 0) : ∃ a, Sd P l a ∧ a < 9218868437227405312 ∧ b = a + sgn (decide (l.head? = some 45)) ∧ form l ≠ 0 := by
  obtain ⟨R, hR, ha⟩ := h
  unfold ans at ha
  by_cases h0 : form l = 0
  · rw [if_pos h0] at ha
    have := (numV_inj ha).1
    exact absurd this (by decide)
  · rw [if_neg h0] at ha
    by_cases h1 : form l = 1 ∧ fits l
    · rw [if_pos h1] at ha
      have := (numV_inj ha).1
      exact absurd this (by decide)
    · rw [if_neg h1] at ha
      have hk : asks l := by
        unfold asks
        rcases fm_range (pfx.adv 0 l) with hfm | hfm | hfm
        · exact absurd hfm h0
        · exact .inr ⟨hfm, fun hf => h1 ⟨hfm, hf⟩⟩
        · exact .inl hfm
      unfold fltV at ha
      by_cases hi : R = 9218868437227405312
      · rw [if_pos hi] at ha
        have := (numV_inj ha).1
        exact absurd this (by decide)
      · rw [if_neg hi] at ha
        exact ⟨R, (hR hk).1, by have := (hR hk).2; omega, (numV_inj ha).2.2.1.symm, h0⟩
set_option maxRecDepth 100000 in
set_option maxHeartbeats 400000 in
theorem numberShortest_any {P z : Nat} (hz : z = 1074) (hP : P = 2 ^ z) (s : ByteArray) (hn : s.size ≤ 1100000) (w : World) (hE : REnv w) :
    Calls Tryz.prog 4 #[.string s] w fun e w' => e = .returned (.bool true) ∧ Below w.heap.size w w' := by
  have hbits := run_f64bits
  have HE := Lib.hid hE
  have HFx := Lib.hid (fixed_any w hE.ne.lt hE.ne.hi hE.ne.ho hE.ne.pow hE.ne.tab)
  have HRd := Lib.hid (fun w (hE : REnv w) => read_parts' hz hP s hn w hE)
  have HW := Lib.hid (fun (x : ByteArray) (hx : x.size ≤ 1100000) w => weight_any x w hx)
  have HN := Lib.hid hn
  have HZ := Lib.hid hz
  have HP := Lib.hid hP
  clear hn hE hz hP
  go_enter Tryz.func4, Tryz.ntmps4
  go_wp2_with fail
  refine HFx.out.mono ?_
  rintro e w1 ⟨rfl, hb1⟩
  have HB1 := Lib.hid hb1
  clear hb1 HFx
  go_wp2_with fail
  refine (HRd.out w1 (HE.out.below HB1.out)).mono ?_
  rintro e w2 ⟨k, v, b, er, HNm, rfl, hb2⟩
  have HB2 := Lib.hid (HB1.out.trans (hb2.mono HB1.out.size))
  have hg3 := heap_alloc_new w2 (.cells #[.int .i64 k, .int .i64 v, .float .f64 b] 27)
  have m0 := blk_cell hg3 (i := 0) (by simp)
  have m2 := blk_cell hg3 (i := 2) (by simp)
  simp only [List.getElem_toArray, List.getElem_cons_zero, List.getElem_cons_succ] at m0 m2
  have HB3 := Lib.hid (HB2.out.alloc HB2.out.size (.cells #[.int .i64 k, .int .i64 v, .float .f64 b] 27))
  have HG3 := Lib.hid hg3
  have HS3 := Lib.hid (show w2.heap.size < (w2.alloc (.cells #[.int .i64 k, .int .i64 v, .float .f64 b] 27)).heap.size by simp)
  clear hb2 hg3 HB1 HRd
  by_cases her : er = 0
  · subst her
    by_cases hk : k = 3
    · subst hk
      obtain ⟨a, hSa, ha, hba, hf⟩ := nm_float HNm.out
      have HTx := Lib.hid (fun w (hE : NEnv w) => text_any (decide ((nats s).head? = some 45)) a w (by omega) hE.pow (by have := hE.lt; omega) hE.tab)
      rw [← hba] at HTx
      have HRf := Lib.hid (fun S w0 e0 w0' ht he w hE => read_float (decide ((nats s).head? = some 45)) a ha S w0 e0 w0' ht he w hE)
      rw [← hba] at HRf
      have HSh := Lib.hid (fun S w0 e0 w0' ht he => short_text (neg := decide ((nats s).head? = some 45)) (S := S) (w0 := w0) (e0 := e0) (w0' := w0') HZ.out HP.out hf hSa ha ht he)
      have HTs := Lib.hid (fun S w0 e0 w0' ht he => tt_size (neg := decide ((nats s).head? = some 45)) (a := a) (S := S) (w0 := w0) (e0 := e0) (w0' := w0') ht he)
      clear hSa ha hba hf HNm
      go_wp2_with fail
      refine (HTx.out _ (HE.out.ne.below HB3.out)).mono ?_
      intro e w4 htt
      obtain ⟨S, rfl, hb4⟩ := tt_string htt
      have hwt := HSh.out S _ _ _ htt rfl
      have HRS := Lib.hid (HRf.out S _ _ _ htt rfl)
      have HB4 := Lib.hid (HB3.out.trans (hb4.mono HB3.out.size))
      have HG4 := Lib.hid ((hb4.block _ HS3.out).trans HG3.out)
      have HS4 := Lib.hid (Nat.lt_of_lt_of_le HS3.out hb4.size)
      have HSz := Lib.hid (show S.size ≤ 1100000 from HTs.out S _ _ _ htt rfl)
      clear hb4 htt HSh HRf HTx HTs HG3 HS3 m0 m2
      go_wp2_with fail
      refine (HRS.out w4 (HE.out.ne.below HB4.out)).mono ?_
      rintro e w5 ⟨rfl, hb5⟩
      have hlt5 : w2.heap.size < w5.heap.size := Nat.lt_of_lt_of_le HS4.out hb5.size
      have hg6 := heap_alloc_new w5 (.cells #[.int .i64 3, .int .i64 0, .float .f64 b] 27)
      have hg6' : (w5.alloc (.cells #[.int .i64 3, .int .i64 0, .float .f64 b] 27)).heap[w2.heap.size]? = some (.cells #[.int .i64 3, .int .i64 v, .float .f64 b] 27) := (heap_alloc_old w5 _ hlt5).trans ((hb5.block _ HS4.out).trans HG4.out)
      have n2 := blk_cell hg6' (i := 2) (by simp)
      have m0 := blk_cell hg6 (i := 0) (by simp)
      have m2 := blk_cell hg6 (i := 2) (by simp)
      simp only [List.getElem_toArray, List.getElem_cons_zero, List.getElem_cons_succ] at n2 m0 m2
      have HB6 := Lib.hid ((HB4.out.trans (hb5.mono HB4.out.size)).alloc (HB4.out.trans (hb5.mono HB4.out.size)).size (.cells #[.int .i64 3, .int .i64 0, .float .f64 b] 27))
      have hle : decide ((wt (nats S) : Int) ≤ (wt (nats s) : Int)) = true := decide_eq_true (by omega)
      have hsz1 : S.size ≤ 1100000 := HSz.out
      have hsz2 : s.size ≤ 1100000 := HN.out
      have hbb : ((b : Int) == (b : Int)) = true := by simp
      clear hb5 hlt5 hg6 hg6' HG4 HS4 HRS
      go_wp2_with fail
      go_quiet ((go_at_call 13; exact Calls.quiet_of_same (HW.out _ (by assumption) _)))
      go_wp2_with fail
      go_ret
      exact ⟨rfl, below_dr HB6.out _⟩
    · have hk3 : (k != 3) = true := bne_iff_ne.2 hk
      have hk4 : (k == 3) = false := beq_false_of_ne hk
      clear hk
      go_wp2_with fail
      go_ret
      exact ⟨rfl, HB3.out⟩
  · have he1 : (er != 0) = true := bne_iff_ne.2 her
    have he2 : (er == 0) = false := beq_false_of_ne her
    clear her
    go_wp2_with fail
    go_ret
    exact ⟨rfl, HB3.out⟩
end Go.Proofs.YtjciflgnlldgbaaGreatDoor.dcm
end
section
namespace Go.Proofs.YtjciflgnlldgbaaGreatDoor.dcm
open Go.RowKit mem fl big us uw pg sh
set_option linter.unusedVariables false
attribute [local go_sem] run_store_float

/-- the row that is gathered -/
def DoSt (b : List Nat) (i : Nat) (w : World) (v : Value) (wr : World) : Prop := wr.ownsRow w.heap.size 5 1 v i (ns (dOf b i)) ∧ Below w.heap.size w wr

set_option maxRecDepth 100000 in
set_option maxHeartbeats 800000 in
theorem digitsOf_any (A : Option Addr) (c n size : Nat) (b : List Nat) (w : World) (hr : Rd w w.heap.size A (ns b)) (hl : b.length = n) (hb : ∀ k, k < n → b.getD k 0 < 256) (hn : n ≤ 1100000) (hs : size ≤ 1100000) :
    Calls Tryz.prog 16 #[.slice A n c, .int .i64 (size : Int)] w fun e w' => e = .returned (.string (strN (dOf b size))) ∧ Below w.heap.size w w' := by
  obtain ⟨iv, hiv, hv0, hv1, hv2⟩ := info_parts infoB
  have HR := Lib.hid hr
  have HL := Lib.hid hl
  have HB := Lib.hid hb
  clear hr hl hb
  go_enter Tryz.func16, Tryz.ntmps16
  go_wp2_with fail
  go_loopw [5, 6, 7] (fun v5 v6 v7 wr => ∃ (i : Nat) (A' : Option Addr) (c' : Nat), i ≤ size ∧ v5 = .slice A' i c' ∧ v6 = .int .i64 (i : Int) ∧ Hid (DoSt b i w (.slice A' i c') wr)) (fun _ v6 _ _ => size - (intOf v6).toNat)
  case atStart => exact ⟨0, none, 0, by omega, rfl, rfl, Lib.hid ⟨World.ownsRow_nil _ _ _ _, Below.refl _ _⟩⟩
  case round =>
    obtain ⟨i, A', c', hi, rfl, rfl, hst⟩ := hrel
    by_cases hlt : i < size
    · have hli : (i : Int) < (size : Int) := by omega
      have HO := Lib.hid hst.out.1
      have HBl := Lib.hid hst.out.2
      have hbz := hst.out.2.size
      obtain ⟨d, hd⟩ : ∃ d, b.getD i 0 % 10 = d := ⟨_, rfl⟩
      have hd9 : d ≤ 9 := by omega
      have hnext : ∀ w5 v', World.ownsRow w5 w.heap.size 5 1 v' (i + 1) (ns (dOf b i) ++ [.int .u8 ((48 : Int) + (d : Int))]) → Below w.heap.size w w5 → ∃ A'' c'', v' = .slice A'' (i + 1) c'' ∧ Hid (DoSt b (i + 1) w (.slice A'' (i + 1) c'') w5) := by
        intro w5 v' ho hb5
        obtain ⟨A'', c'', rfl, _⟩ := own_form ho
        refine ⟨A'', c'', rfl, Lib.hid ⟨?_, hb5⟩⟩
        rw [dOf_snoc, hd, ns_app]
        have : ns [48 + d] = [.int .u8 ((48 : Int) + (d : Int))] := by simp [ns]
        rw [this]
        exact ho
      have HNx := Lib.hid hnext
      have HHd := Lib.hid hd
      clear hst hnext hd
      by_cases hin : i < n
      · obtain ⟨ad, rfl, hab, hc1⟩ := HR.out i (.int .u8 (b.getD i 0 : Int)) (by
          unfold ns
          rw [List.getElem?_map, List.getElem?_eq_getElem (by rw [HL.out]; exact hin), List.getD_eq_getElem?_getD, List.getElem?_eq_getElem (by rw [HL.out]; exact hin)]
          rfl)
        have hcr := (HBl.out.cell (p := ad.add i) (by rw [add_block]; exact hab)).trans hc1
        have hx := HB.out i hin
        obtain ⟨x, hxx⟩ : ∃ x, b.getD i 0 = x := ⟨_, rfl⟩
        have hdx : x % 10 = d := by rw [← hxx]; exact HHd.out
        rw [hxx] at hcr hx
        have hdi : (x : Int) % 10 = (d : Int) := by omega
        have hini : (i : Int) < (n : Int) := by omega
        clear hc1 hxx hdx
        go_wp2_with (at_builtin; go_must (refine wpList_app _ rfl (.tmp 22) (.tmp 25) _ rfl w.heap.size 5 iv (.int .u8 0) 1 1 Tryz.underlying45 hiv hv0 hv1 hv2 rfl (by omega) (.slice A' i c') i (ns (dOf b i)) rfl (HO.out.alloc _) (wr.heap.size + 1) (some ⟨wr.heap.size, 0, none⟩) 1 1 [.int .u8 ((48 : Int) + (d : Int))] rfl rfl (Rd.new wr [.int .u8 ((48 : Int) + (d : Int))] 5) (by simp) (by intro u hu; simp at hu; subst hu; rfl) (by unfold maxLen; omega) (by omega) (by simp; omega) ?_; intro v' w5 hown' hgrow' hat'; have HO' := Lib.hid hown'; have HG' := Lib.hid hgrow'; clear hown' hgrow' hat'))
        obtain ⟨A'', c'', rfl, hN⟩ := HNx.out _ _ HO'.out (below_app1 HBl.out HO.out (Nat.le_refl _) hbz HG'.out)
        exact ⟨⟨i + 1, A'', c'', by omega, rfl, by simp, Lib.hid hN.out⟩, by simp [intOf]; omega⟩
      · have hd0 : d = 0 := by
          rw [← HHd.out, List.getD_eq_getElem?_getD, List.getElem?_eq_none (by rw [HL.out]; omega)]
          rfl
        have hini : ¬ ((i : Int) < (n : Int)) := by omega
        subst hd0
        go_wp2_with (at_builtin; go_must (refine wpList_app _ rfl (.tmp 22) (.tmp 25) _ rfl w.heap.size 5 iv (.int .u8 0) 1 1 Tryz.underlying45 hiv hv0 hv1 hv2 rfl (by omega) (.slice A' i c') i (ns (dOf b i)) rfl (HO.out.alloc _) (wr.heap.size + 1) (some ⟨wr.heap.size, 0, none⟩) 1 1 [.int .u8 48] rfl rfl (Rd.new wr [.int .u8 48] 5) (by simp) (by intro u hu; simp at hu; subst hu; rfl) (by unfold maxLen; omega) (by omega) (by simp; omega) ?_; intro v' w5 hown' hgrow' hat'; have HO' := Lib.hid hown'; have HG' := Lib.hid hgrow'; clear hown' hgrow' hat'))
        obtain ⟨A'', c'', rfl, hN⟩ := HNx.out _ _ HO'.out (below_app1 HBl.out HO.out (Nat.le_refl _) hbz HG'.out)
        exact ⟨⟨i + 1, A'', c'', by omega, rfl, by simp, Lib.hid hN.out⟩, by simp [intOf]; omega⟩
    · have hie : i = size := by omega
      have hli : ¬ ((i : Int) < (size : Int)) := by omega
      subst hie
      have hcv := conv_bytes (w := wr) A' (dOf b i) c' (Rd.of_own hst.out.1)
      rw [dOf_len] at hcv
      have HBl := Lib.hid hst.out.2
      clear hst hlt
      go_wp2_with fail
      go_ret
      exact ⟨rfl, HBl.out⟩
/-- what float answers: the nearest, an infinity where it is too great -/
theorem float_any {P z : Nat} (hz : z = 1074) (hP : P = 2 ^ z) (s : ByteArray) (hn : s.size ≤ 1100000) (hf : form (nats s) = 2) (hng : (nats s).head? ≠ some 45) (w : World) (hE : REnv w) :
    Calls Tryz.prog 18 #[.string s] w fun e w' => ∃ R, Hid (Sd P (nats s) R ∧ R ≤ 9218868437227405312) ∧ e = .returned (.tuple #[.float .f64 R, .bool true]) ∧ Below w.heap.size w w' := by
  have hinf := inf_any
  have HI := Lib.hid hinf
  have HRd := Lib.hid (read_parts' hz hP s hn w hE)
  have HSh := Lib.hid (fun (k v : Int) (b : Nat) (er : Int) (h : Nm P (nats s) k v b er) => (show ∃ R, (Sd P (nats s) R ∧ R ≤ 9218868437227405312) ∧ ((er = 7 ∧ R = 9218868437227405312) ∨ (er = 0 ∧ k = 3 ∧ b = R)) from by
    obtain ⟨R, hR, ha⟩ := h
    have hk : asks (nats s) := .inl hf
    refine ⟨R, hR hk, ?_⟩
    unfold ans at ha
    rw [if_neg (by rw [hf]; decide), if_neg (fun hh => by rw [hf] at hh; exact absurd hh.1 (by decide)), decide_eq_false hng] at ha
    unfold fltV at ha
    by_cases hi : R = 9218868437227405312
    · rw [if_pos hi] at ha
      exact .inl ⟨(numV_inj ha).2.2.2.symm, hi⟩
    · rw [if_neg hi] at ha
      obtain ⟨q1, q2, q3, q4⟩ := numV_inj ha
      exact .inr ⟨q4.symm, q1.symm, q3.symm⟩))
  clear hn hf hng hE hz hP hinf
  go_enter Tryz.func18, Tryz.ntmps18
  go_wp2_with fail
  refine HRd.out.mono ?_
  rintro e w2 ⟨k, v, b, er, HNm, rfl, hb2⟩
  obtain ⟨R, hR, hsh⟩ := HSh.out k v b er HNm.out
  have HR := Lib.hid hR
  have hg3 := heap_alloc_new w2 (.cells #[.int .i64 k, .int .i64 v, .float .f64 b] 27)
  have m0 := blk_cell hg3 (i := 0) (by simp)
  have m2 := blk_cell hg3 (i := 2) (by simp)
  simp only [List.getElem_toArray, List.getElem_cons_zero, List.getElem_cons_succ] at m0 m2
  have HB3 := Lib.hid (hb2.alloc hb2.size (.cells #[.int .i64 k, .int .i64 v, .float .f64 b] 27))
  clear hb2 hg3 HSh HNm hR HRd
  rcases hsh with ⟨rfl, rfl⟩ | ⟨rfl, rfl, rfl⟩
  · go_wp2_with fail
    refine (HI.out _).mono ?_
    rintro e w4 ⟨rfl, rfl⟩
    go_wp2_with fail
    go_ret2
    exact ⟨_, HR, rfl, HB3.out⟩
  · go_wp2_with fail
    go_quiet (fail)
    go_wp2_with fail
    go_ret2
    exact ⟨_, HR, rfl, below_dr HB3.out _⟩
end Go.Proofs.YtjciflgnlldgbaaGreatDoor.dcm
end
section
namespace Go.Proofs.YtjciflgnlldgbaaGreatDoor.dcm
open Go.RowKit mem fl big us uw pg sh
set_option linter.unusedVariables false

theorem leq_of {a b : Nat} (h : a ≤ b) (hb : b ≤ 9218868437227405312) : (FloatKind.f64.format.order a b == some .lt || FloatKind.f64.format.order a b == some .eq) = true := by
  show (Ieee.double.order a b == some .lt || Ieee.double.order a b == some .eq) = true
  rcases Nat.lt_or_ge a b with hlt | hge
  · by_cases hi : b = 9218868437227405312
    · rw [hi, order_fin_inf a (by omega)]
      rfl
    · have h3 := order_num false false a b (by omega) (by omega)
      simp only [sgn, Bool.false_eq_true, if_false, Nat.add_zero] at h3
      have h4 : V a < V b := V_mono hlt
      have h5 : compare (sV false a) (sV false b) = .lt := by
        have e1 : sV false a = (V a : Int) := rfl
        have e2 : sV false b = (V b : Int) := rfl
        rw [e1, e2]
        exact Std.compare_eq_lt.2 (by omega)
      rw [h3, h5]
      rfl
  · have e : a = b := by omega
    subst e
    have h3 := order_self false a hb
    simp only [sgn, Bool.false_eq_true, if_false, Nat.add_zero] at h3
    rw [h3]
    rfl
theorem eq_of {a : Nat} (hb : a ≤ 9218868437227405312) : (FloatKind.f64.format.order a a == some .eq) = true := by
  show (Ieee.double.order a a == some .eq) = true
  have h3 := order_self false a hb
  simp only [sgn, Bool.false_eq_true, if_false, Nat.add_zero] at h3
  rw [h3]
  rfl
theorem rtx_str (D : List Nat) (p : Int) : (⟨#[48, 46]⟩ ++ strN D ++ (⟨#[101]⟩ ++ strN (wtx p)) : ByteArray) = strN (rtx D p) := by
  rw [strN_lit48, strN_lit101, strN_app, strN_app, strN_app]
  unfold rtx
  simp
theorem toList_strN (D : List Nat) : (strN D).toList = D.map UInt8.ofNat := by
  rw [ByteArray.toList_eq]
  exact strN_list D
set_option maxRecDepth 100000 in
set_option maxHeartbeats 800000 in
theorem numberRises_any {P z : Nat} (hz : z = 1074) (hP : P = 2 ^ z) (A A' : Option Addr) (c c' n n' : Nat) (l l' : List Nat) (p : Int) (w : World) (hr : Rd w w.heap.size A (ns l)) (hr' : Rd w w.heap.size A' (ns l')) (hl : l.length = n) (hl' : l'.length = n') (hb : ∀ k, k < n → l.getD k 0 < 256) (hb' : ∀ k, k < n' → l'.getD k 0 < 256) (hn : n ≤ 1048576) (hn' : n' ≤ 1048576) (hp1 : -2147483648 ≤ p) (hp2 : p ≤ 2147483647) (hE : REnv w) :
    Calls Tryz.prog 6 #[.slice A n c, .slice A' n' c', .int .i32 p] w fun e w' => e = .returned (.bool true) ∧ Below w.heap.size w w' := by
  have HE := Lib.hid hE
  have HFx := Lib.hid (fixed_any w hE.ne.lt hE.ne.hi hE.ne.ho hE.ne.pow hE.ne.tab)
  obtain ⟨M, hM⟩ : ∃ M : Nat, M = max (max n n') 1 := ⟨_, rfl⟩
  have hM1 : M ≤ 1048576 := by omega
  have hM0 : 0 < M := by omega
  have HD1 := Lib.hid (fun W (hb0 : Below w.heap.size w W) => digitsOf_any A c n M l W ((hr.below hb0).more hb0.size) hl hb (by omega) (by omega))
  have HD2 := Lib.hid (fun W (hb0 : Below w.heap.size w W) => digitsOf_any A' c' n' M l' W ((hr'.below hb0).more hb0.size) hl' hb' (by omega) (by omega))
  have HWt := Lib.hid (fun W (hb0 : Below w.heap.size w W) => wholeT_any p W (by omega) (by omega) (hE.ne.below hb0).tab)
  obtain ⟨X, hX⟩ : ∃ X, dOf l M = X := ⟨_, rfl⟩
  obtain ⟨Y, hY⟩ : ∃ Y, dOf l' M = Y := ⟨_, rfl⟩
  rw [hX] at HD1
  rw [hY] at HD2
  have hXd : ∀ c ∈ X, Dig c := by rw [← hX]; exact dOf_dig l M
  have hYd : ∀ c ∈ Y, Dig c := by rw [← hY]; exact dOf_dig l' M
  have hXl : X.length = M := by rw [← hX]; exact dOf_len l M
  have hYl : Y.length = M := by rw [← hY]; exact dOf_len l' M
  have hwl : (wtx p).length ≤ 20 := wtx_len p (by omega) (by omega)
  have key : ∀ (D : List Nat), (∀ c ∈ D, Dig c) → D.length = M → (strN (rtx D p)).size ≤ 1100000 ∧ form (nats (strN (rtx D p))) = 2 ∧ (nats (strN (rtx D p))).head? ≠ some 45 ∧ ∀ R, Sd P (nats (strN (rtx D p))) R → Dec P (dvn D) (p - M) R := by
    intro D hd hlD
    have hne : D ≠ [] := fun h => by rw [h] at hlD; simp at hlD; omega
    have hnt : nats (strN (rtx D p)) = rtx D p := pg.nats_strN _ (by
      intro c hc
      unfold rtx at hc
      simp only [List.mem_cons, List.mem_append] at hc
      rcases hc with rfl | rfl | hc | rfl | hc
      · omega
      · omega
      · have := hd c hc; unfold Dig at this; omega
      · omega
      · have := wtx_chars p c hc; omega)
    rw [hnt]
    refine ⟨?_, rtx_form hd hne p, by unfold rtx; simp, fun R hS => by rw [← hlD]; exact rtx_sd hd p (by omega) (by omega) hS⟩
    rw [strN_size]
    unfold rtx
    simp only [List.length_cons, List.length_append]
    omega
  have KX := key X hXd hXl
  have KY := key Y hYd hYl
  have HF1 := Lib.hid (fun W (hW : REnv W) => float_any hz hP (strN (rtx X p)) KX.1 KX.2.1 KX.2.2.1 W hW)
  have HF2 := Lib.hid (fun W (hW : REnv W) => float_any hz hP (strN (rtx Y p)) KY.1 KY.2.1 KY.2.2.1 W hW)
  have HKX := Lib.hid KX.2.2.2
  have HKY := Lib.hid KY.2.2.2
  have hless := less_dvn X Y (by omega) hXd hYd
  have hneq : X ≠ Y ∨ X = Y := by by_cases h : X = Y; exact .inr h; exact .inl h
  have hls : (strN X).toList = X.map UInt8.ofNat := toList_strN X
  have hlt : (strN Y).toList = Y.map UInt8.ofNat := toList_strN Y
  have hcx : ∀ W : World, (Op.stringOp .add ⟨#[48, 46]⟩ (strN X)).run Tryz.prog W = .ok (.string (⟨#[48, 46]⟩ ++ strN X)) W := fun W => run_string_add_sum W _ _ (by show 2 + (strN X).size ≤ _; rw [strN_size]; omega)
  have hcy : ∀ W : World, (Op.stringOp .add ⟨#[48, 46]⟩ (strN Y)).run Tryz.prog W = .ok (.string (⟨#[48, 46]⟩ ++ strN Y)) W := fun W => run_string_add_sum W _ _ (by show 2 + (strN Y).size ≤ _; rw [strN_size]; omega)
  have hce : ∀ W : World, (Op.stringOp .add ⟨#[101]⟩ (strN (wtx p))).run Tryz.prog W = .ok (.string (⟨#[101]⟩ ++ strN (wtx p))) W := fun W => run_string_add_sum W _ _ (by show 1 + (strN (wtx p)).size ≤ _; rw [strN_size]; omega)
  have hcx2 : ∀ W : World, (Op.stringOp .add (⟨#[48, 46]⟩ ++ strN X) (⟨#[101]⟩ ++ strN (wtx p))).run Tryz.prog W = .ok (.string (strN (rtx X p))) W := fun W => by
    rw [run_string_add_sum W _ _ (by rw [ByteArray.size_append, ByteArray.size_append, strN_size, strN_size]; show 2 + X.length + (1 + (wtx p).length) ≤ _; omega), rtx_str]
  have hcy2 : ∀ W : World, (Op.stringOp .add (⟨#[48, 46]⟩ ++ strN Y) (⟨#[101]⟩ ++ strN (wtx p))).run Tryz.prog W = .ok (.string (strN (rtx Y p))) W := fun W => by
    rw [run_string_add_sum W _ _ (by rw [ByteArray.size_append, ByteArray.size_append, strN_size, strN_size]; show 2 + Y.length + (1 + (wtx p).length) ≤ _; omega), rtx_str]
  obtain ⟨SX, hSX⟩ : ∃ SX, strN X = SX := ⟨_, rfl⟩
  obtain ⟨SY, hSY⟩ : ∃ SY, strN Y = SY := ⟨_, rfl⟩
  have hSeq : SX = SY → X = Y := fun h => by
    rw [← hSX, ← hSY] at h
    have h1 := congrArg nats h
    rw [pg.nats_strN X (fun c hc => by have := hXd c hc; unfold Dig at this; omega), pg.nats_strN Y (fun c hc => by have := hYd c hc; unfold Dig at this; omega)] at h1
    exact h1
  rw [hSX] at HD1 hls hcx hcx2
  rw [hSY] at HD2 hlt hcy hcy2
  rw [← hls, ← hlt] at hless
  have HMx := Lib.hid hM
  have HLess := Lib.hid hless
  have HSeq := Lib.hid hSeq
  clear hr hr' hl hl' hb hb' hE hz hP hX hY hXd hYd hXl hYl hwl key KX KY hneq hls hlt hSX hSY hless hSeq hM
  go_enter Tryz.func6, Tryz.ntmps6
  go_wp2_with fail
  refine HFx.out.mono ?_
  rintro e w1 ⟨rfl, hb1⟩
  have HB1 := Lib.hid hb1
  clear hb1 HFx
  go_wp2_with fail
  all_goals
    first
    | (have hMm : (↑n' : Int) = ↑M := by
        have h1 := HMx.out
        have h2 : n < n' := h
        omega
       rw [hMm])
    | (have hMm : (↑n : Int) = ↑M := by
        have h1 := HMx.out
        have h2 : ¬ n < n' := h
        omega
       rw [hMm])
    | (have hMm : (1 : Int) = ↑M := by
        have h1 := HMx.out
        by_cases h2 : n < n'
        · rw [if_pos h2] at h
          omega
        · rw [if_neg h2] at h
          omega
       rw [hMm])
  all_goals
    refine (HD1.out w1 HB1.out).mono ?_
    rintro e w2 ⟨rfl, hb2⟩
    have HB2 := Lib.hid (HB1.out.trans (hb2.mono HB1.out.size))
    clear hb2
  all_goals go_wp2_with fail
  all_goals
    refine (HD2.out w2 HB2.out).mono ?_
    rintro e w3 ⟨rfl, hb3⟩
    have HB3 := Lib.hid (HB2.out.trans (hb3.mono HB2.out.size))
    clear hb3
  all_goals go_wp2_with fail
  all_goals
    refine (HWt.out w3 HB3.out).mono ?_
    rintro e w4 ⟨rfl, hb4⟩
    have HB4 := Lib.hid (HB3.out.trans (hb4.mono HB3.out.size))
    clear hb4
  all_goals go_wp2_with fail
  all_goals
    refine (HF1.out w4 (HE.out.below HB4.out)).mono ?_
    rintro e w5 ⟨R1, HR1, rfl, hb5⟩
    have HB5 := Lib.hid (HB4.out.trans (hb5.mono HB4.out.size))
    clear hb5
  all_goals go_wp2_with fail
  all_goals
    refine (HF2.out w5 (HE.out.below HB5.out)).mono ?_
    rintro e w6 ⟨R2, HR2, rfl, hb6⟩
    have HB6 := Lib.hid (HB5.out.trans (hb6.mono HB5.out.size))
    clear hb6
  all_goals go_wp2_with fail
  all_goals
    first
    | (rename_i q1
       have q : (FloatKind.f64.format.order R1 R2 == some .lt || FloatKind.f64.format.order R1 R2 == some .eq) = true := leq_of (dec_mono (HKX.out R1 HR1.out.1) (HKY.out R2 HR2.out.1) (Nat.le_of_lt (HLess.out.1 q1))) HR2.out.2
       rw [q]
       go_ret
       exact ⟨rfl, HB6.out⟩)
    | (rename_i q1 q2
       exfalso
       have q3 : ¬ dvn X < dvn Y := fun hh => by rw [HLess.out.2 hh] at q1; cases q1
       have q := leq_of (dec_mono (HKY.out R2 HR2.out.1) (HKX.out R1 HR1.out.1) (by omega)) HR1.out.2
       rw [Bool.or_eq_true, beq_iff_eq, beq_iff_eq] at q
       exact q2 q)
    | (rename_i q1 q2 q3
       have qe : SX = SY := ByteArray.ext (Array.toList_inj.1 (by rw [← ByteArray.toList_eq, ← ByteArray.toList_eq]; exact q3))
       have qx : X = Y := HSeq.out qe
       have q4 := HKY.out R2 HR2.out.1
       rw [← qx] at q4
       have qr : R1 = R2 := Nat.le_antisymm (dec_mono (HKX.out R1 HR1.out.1) q4 (Nat.le_refl _)) (dec_mono q4 (HKX.out R1 HR1.out.1) (Nat.le_refl _))
       have q5 := eq_of HR1.out.2
       rw [← qr] at q2 ⊢
       have q6 : (FloatKind.f64.format.order R1 R1 == some .lt || FloatKind.f64.format.order R1 R1 == some .eq) = true := leq_of (Nat.le_refl R1) HR1.out.2
       rw [q6, q5]
       go_ret
       exact ⟨rfl, HB6.out⟩)
    | (rename_i q1 q2 q3
       have q6 : (FloatKind.f64.format.order R2 R1 == some .lt || FloatKind.f64.format.order R2 R1 == some .eq) = true := by
         rw [Bool.or_eq_true, beq_iff_eq, beq_iff_eq]
         exact q2
       try rw [q6]
       go_ret
       exact ⟨rfl, HB6.out⟩)
end Go.Proofs.YtjciflgnlldgbaaGreatDoor.dcm
end
