/- PLAIN LEAN: what split makes of a text that 'lay' lays. PLAIN LEAN: a whole number's text is parsed as that number; its length. PLAIN LEAN: the texts that 'lay' lays are number texts of the form with a point or an exponent; whole numbers' texts are of the other. No condition but the digits. -/
import Derived.Test.YtjciflgnlldgbaaGreatDoorGEt
import Derived.Test.YtjciflgnlldgbaaGreatDoorYLa
import Derived.Lib.ParseIntBTie
import Derived.Test.YtjciflgnlldgbaaGreatDoorGPfp
section
namespace Go.Proofs.YtjciflgnlldgbaaGreatDoor.pg
open Go.RowKit mem fl big uw
set_option linter.unusedVariables false

theorem pw_dgs (q : Nat) (h : q < 1100000) : pwF (dgs q) = q := by
  induction q using Nat.strongRecOn with
  | _ q ih =>
    by_cases h10 : q < 10
    · rw [dgs_small q h10]
      show pwStep 0 (48 + q % 10) = q
      unfold pwStep
      rw [if_pos ⟨by omega, by omega⟩]
      omega
    · rw [dgs_step q h10, pwF_snoc, ih (q / 10) (by omega) (by omega)]
      unfold pwStep
      rw [if_pos ⟨by omega, by omega⟩]
      omega
theorem pw_wtx (x : Int) (h1 : -1000 < x) (h2 : x < 1000) : pwV (wtx x) = x := by
  unfold wtx pwV
  by_cases h : x < 0
  · rw [if_pos h, List.head?_cons, if_pos rfl]
    have e : pwF (45 :: dgs x.natAbs) = pwF (dgs x.natAbs) := by
      unfold pwF
      rw [List.foldl_cons]
      rfl
    rw [e, pw_dgs _ (by omega)]
    omega
  · rw [if_neg h]
    have hn : (dgs x.natAbs).head? ≠ some 45 := by
      intro hh
      have := dgs_bytes x.natAbs 45 (List.mem_of_mem_head? hh)
      omega
    rw [if_neg hn, pw_dgs _ (by omega)]
    omega
/-- digits behind digits, ahead of the point -/
theorem sp_lead : ∀ (L : List Nat) (s : Ds), (∀ c ∈ L, 48 ≤ c) → 0 < s.b.length → s.bh = false → L.foldl spStep s = ⟨s.b ++ L, s.x + L.length, false⟩
  | [], s, _, _, ht => by cases s; simp at ht; simp [ht]
  | c :: L, s, hL, hb, ht => by
    have hc := hL c (by simp)
    have e : spStep s c = ⟨s.b ++ [c], s.x + 1, false⟩ := by
      unfold spStep
      rw [if_neg (by omega), if_neg (by omega)]
      simp [ht]
    have h := sp_lead L ⟨s.b ++ [c], s.x + 1, false⟩ (fun d hd => hL d (by simp [hd])) (by simp) rfl
    rw [List.foldl_cons, e, h]
    simp only [List.append_assoc, List.singleton_append, List.length_cons]
    congr 1
    omega
/-- noughts behind the point, ahead of all digits -/
theorem sp_noughts : ∀ (k : Nat) (x : Int), (List.replicate k 48).foldl spStep ⟨[], x, true⟩ = ⟨[], x - k, true⟩
  | 0, x => by simp
  | k + 1, x => by
    have e : spStep ⟨[], x, true⟩ 48 = ⟨[], x - 1, true⟩ := rfl
    rw [List.replicate_succ, List.foldl_cons, e, sp_noughts k (x - 1)]
    congr 1
    omega
theorem sp_first (c : Nat) (x : Int) (bh : Bool) (hc : 49 ≤ c) : spStep ⟨[], x, bh⟩ c = ⟨[c], if bh = true then x else x + 1, bh⟩ := by
  unfold spStep
  rw [if_neg (by omega), if_neg (by omega)]
  rfl
/-- a text is split into the digits D and the power p -/
def SpOf (T D : List Nat) (p : Int) : Prop := spB T = D ∧ spX T = p ∧ T.head? ≠ some 45
theorem noE {M : List Nat} (h : ∀ c ∈ M, c ≤ 57) (hn : M.head? ≠ some 45) : spM M = M ∧ spR M = [] := by
  have hs : st0 M = 0 := by unfold st0; rw [if_neg hn]
  unfold spM spR
  rw [hs, List.drop_zero]
  constructor
  · have := List.takeWhile_append_of_pos (p := fun c => !isE c) (l₁ := M) (l₂ := []) (fun c hc => isE_lo (h c hc))
    simpa using this
  · have := List.dropWhile_append_of_pos (p := fun c => !isE c) (l₁ := M) (l₂ := []) (fun c hc => isE_lo (h c hc))
    simpa using this
theorem withE {M R : List Nat} (h : ∀ c ∈ M, c ≤ 57) (hn : (M ++ 101 :: R).head? ≠ some 45) : spM (M ++ 101 :: R) = M ∧ spR (M ++ 101 :: R) = 101 :: R := by
  have hs : st0 (M ++ 101 :: R) = 0 := by unfold st0; rw [if_neg hn]
  unfold spM spR
  rw [hs, List.drop_zero, List.takeWhile_append_of_pos (fun c hc => isE_lo (h c hc)), List.dropWhile_append_of_pos (fun c hc => isE_lo (h c hc))]
  constructor <;> simp [isE]
theorem spOf_plain {M D : List Nat} {p : Int} {bh : Bool} (h : ∀ c ∈ M, c ≤ 57) (hn : M.head? ≠ some 45) (hs : spF M = ⟨D, p, bh⟩) : SpOf M D p := by
  obtain ⟨h1, h2⟩ := noE h hn
  refine ⟨by unfold spB; rw [h1, hs], ?_, hn⟩
  unfold spX
  rw [h1, h2, hs]
  simp
theorem spOf_e {M R D : List Nat} {p x : Int} {bh : Bool} (h : ∀ c ∈ M, c ≤ 57) (hn : (M ++ 101 :: R).head? ≠ some 45) (hs : spF M = ⟨D, p, bh⟩) (hx : pwV R = x) : SpOf (M ++ 101 :: R) D (p + x) := by
  obtain ⟨h1, h2⟩ := withE h hn
  refine ⟨by unfold spB; rw [h1, hs], ?_, hn⟩
  unfold spX
  rw [h1, h2, hs, if_neg (by simp)]
  simp [hx]
/-- the digits that split takes out of a laid text: noughts may follow -/
theorem lay_split (c0 : Nat) (L2 : List Nat) (p : Int) (h1 : 49 ≤ c0) (h2 : c0 ≤ 57) (hL : ∀ c ∈ L2, 48 ≤ c ∧ c ≤ 57) (hp1 : -900 ≤ p) (hp2 : p ≤ 900) :
    ∃ k, SpOf (layT (c0 :: L2) p) (c0 :: L2 ++ List.replicate k 48) p ∧ k ≤ 30 := by
  have hall : ∀ c ∈ c0 :: L2, 48 ≤ c ∧ c ≤ 57 := fun c hc => by
    rcases List.mem_cons.1 hc with rfl | hc
    · omega
    · exact hL c hc
  have s1 := sp_first c0 0 false h1
  simp only [Bool.false_eq_true, if_false, Int.zero_add] at s1
  have sL : (c0 :: L2).foldl spStep ⟨[], 0, false⟩ = ⟨c0 :: L2, (c0 :: L2).length, false⟩ := by
    rw [List.foldl_cons, s1, sp_lead L2 _ (fun c hc => (hL c hc).1) (by simp) rfl]
    simp only [List.singleton_append, List.length_cons]
    congr 1
    omega
  unfold layT
  by_cases a1 : 1 ≤ p ∧ p ≤ 21 ∧ ((c0 :: L2).length : Int) ≤ p
  · rw [if_pos a1]
    obtain ⟨k, hk⟩ : ∃ k, p.toNat - (c0 :: L2).length = k := ⟨_, rfl⟩
    rw [hk]
    refine ⟨k + 1, spOf_plain (bh := true) ?_ (by simp; omega) ?_, by omega⟩
    · intro c hc
      simp only [List.mem_append, List.mem_replicate, List.mem_cons, List.mem_nil_iff, or_false] at hc
      rcases hc with (hc | hc) | hc
      · have := hall c (by simpa using hc); omega
      · omega
      · omega
    · unfold spF
      rw [List.foldl_append, List.foldl_append, sL, sp_lead (List.replicate k 48) _ (fun c hc => by rw [List.mem_replicate] at hc; omega) (by simp) rfl]
      have e1 : ∀ (s : Ds), 0 < s.b.length → s.bh = false → [46, 48].foldl spStep s = ⟨s.b ++ [48], s.x, true⟩ := fun s hb ht => by
        have e2 : spStep s 46 = ⟨s.b, s.x, true⟩ := rfl
        have e3 : spStep ⟨s.b, s.x, true⟩ 48 = ⟨s.b ++ [48], s.x, true⟩ := by
          unfold spStep
          rw [if_neg (by decide), if_neg (by intro h; have := h.2; simp only at this; omega)]
          rfl
        rw [List.foldl_cons, List.foldl_cons, List.foldl_nil, e2, e3]
      rw [e1 _ (by simp) rfl]
      simp only [List.append_assoc, List.length_replicate]
      rw [show ([48] : List Nat) = List.replicate 1 48 from rfl, List.replicate_append_replicate]
      congr 1
      simp only [List.length_cons] at a1 hk ⊢
      omega
  rw [if_neg a1]
  by_cases a2 : 1 ≤ p ∧ p ≤ 21
  · rw [if_pos a2]
    obtain ⟨n, hn⟩ : ∃ n, p.toNat = n + 1 := ⟨p.toNat - 1, by omega⟩
    rw [hn, List.take_succ_cons, List.drop_succ_cons]
    have hnl : n < L2.length := by simp only [List.length_cons] at a1; omega
    refine ⟨0, spOf_plain (bh := true) ?_ (by simp; omega) ?_, by omega⟩
    · intro c hc
      simp only [List.mem_append, List.mem_cons, List.mem_nil_iff, or_false] at hc
      rcases hc with ((hc | hc) | hc) | hc
      · omega
      · have := hL c (List.mem_of_mem_take hc); omega
      · omega
      · have := hL c (List.mem_of_mem_drop hc); omega
    · unfold spF
      have sT : (c0 :: L2.take n).foldl spStep ⟨[], 0, false⟩ = ⟨c0 :: L2.take n, (c0 :: L2.take n).length, false⟩ := by
        rw [List.foldl_cons, s1, sp_lead (L2.take n) _ (fun c hc => (hL c (List.mem_of_mem_take hc)).1) (by simp) rfl]
        simp only [List.singleton_append, List.length_cons]
        congr 1
        omega
      rw [List.foldl_append, List.foldl_append, sT]
      have e2 : ∀ s : Ds, [46].foldl spStep s = ⟨s.b, s.x, true⟩ := fun s => rfl
      rw [e2, sp_tail (L2.drop n) _ (fun c hc => (hL c (List.mem_of_mem_drop hc)).1) (by simp) rfl]
      simp only [List.cons_append, List.take_append_drop, List.replicate_zero, List.append_nil]
      congr 1
      rw [List.length_cons, List.length_take]
      omega
  rw [if_neg a2]
  by_cases a3 : -5 ≤ p ∧ p ≤ 0
  · rw [if_pos a3]
    obtain ⟨k, hk⟩ : ∃ k : Nat, (-p).toNat = k := ⟨_, rfl⟩
    rw [hk]
    refine ⟨0, spOf_plain (bh := true) ?_ (by simp) ?_, by omega⟩
    · intro c hc
      simp only [List.mem_append, List.mem_cons, List.mem_nil_iff, or_false, List.mem_replicate] at hc
      rcases hc with ((hc | hc) | hc) | hc
      · omega
      · omega
      · omega
      · have := hall c (by simpa using hc); omega
    · unfold spF
      have e0 : [48, 46].foldl spStep ⟨[], 0, false⟩ = ⟨[], 0, true⟩ := rfl
      have s2 := sp_first c0 (0 - (k : Int)) true h1
      simp only [if_true] at s2
      rw [List.foldl_append, List.foldl_append, e0, sp_noughts, List.foldl_cons, s2, sp_tail L2 _ (fun c hc => (hL c hc).1) (by simp) rfl]
      simp only [List.singleton_append, List.replicate_zero, List.append_nil]
      congr 1
      omega
  rw [if_neg a3]
  have hw : pwV (wtx (p - 1)) = p - 1 := pw_wtx _ (by omega) (by omega)
  by_cases a4 : 1 < (c0 :: L2).length
  · rw [if_pos a4]
    obtain ⟨bh, hs⟩ := eM_sp (c0 := c0) (L2 := L2) h1 (fun c hc => (hL c hc).1)
    have hM : eM (c0 :: L2) = (c0 :: L2).take 1 ++ [46] ++ (c0 :: L2).drop 1 := by
      unfold eM
      rw [if_pos a4]
      simp
    have := spOf_e (M := eM (c0 :: L2)) (R := wtx (p - 1)) (fun c hc => (eM_chars hall c hc).2) (by rw [hM]; simp; omega) hs hw
    refine ⟨0, ?_, by omega⟩
    rw [hM] at this
    rw [show 1 + (p - 1) = p by omega] at this
    simpa using this
  · rw [if_neg a4]
    have hL0 : L2 = [] := by cases L2 with | nil => rfl | cons a b => simp at a4
    subst hL0
    have hs : spF [c0] = ⟨[c0], 1, false⟩ := by unfold spF; rw [List.foldl_cons, s1, List.foldl_nil]
    have := spOf_e (M := [c0]) (R := wtx (p - 1)) (fun c hc => by simp at hc; omega) (by simp; omega) hs hw
    refine ⟨0, ?_, by omega⟩
    rw [show 1 + (p - 1) = p by omega] at this
    simpa using this
/-- a sign ahead -/
theorem spOf_neg {T D : List Nat} {p : Int} (h : SpOf T D p) : spB (45 :: T) = D ∧ spX (45 :: T) = p ∧ (45 :: T).head? = some 45 := by
  obtain ⟨h1, h2, h3⟩ := h
  have hs : st0 T = 0 := by unfold st0; rw [if_neg h3]
  have e1 : spM (45 :: T) = spM T := by unfold spM; rw [hs]; rfl
  have e2 : spR (45 :: T) = spR T := by unfold spR; rw [hs]; rfl
  refine ⟨?_, ?_, rfl⟩
  · rw [← h1]; unfold spB; rw [e1]
  · rw [← h2]; unfold spX; rw [e1, e2]
end Go.Proofs.YtjciflgnlldgbaaGreatDoor.pg
end
section
namespace Go.Proofs.YtjciflgnlldgbaaGreatDoor.pg
open Go.RowKit mem fl big uw
set_option linter.unusedVariables false

theorem dgs_len10 : ∀ (k u : Nat), u < 10 ^ (k + 1) → (dgs u).length ≤ k + 1
  | 0, u, h => by rw [dgs_small u (by omega)]; simp
  | k + 1, u, h => by
    by_cases hu : u < 10
    · rw [dgs_small u hu]; simp
    · have h1 : 10 ^ (k + 1 + 1) = 10 ^ (k + 1) * 10 := Nat.pow_succ 10 (k + 1)
      have := dgs_len10 k (u / 10) (by omega)
      rw [dgs_step u hu, List.length_append]
      simp
      omega
theorem wtx_len (x : Int) (h1 : -9223372036854775808 ≤ x) (h2 : x ≤ 9223372036854775807) : (wtx x).length ≤ 20 := by
  have h := dgs_len10 18 x.natAbs (by have : (10 : Nat) ^ (18 + 1) = 10000000000000000000 := by decide
                                      omega)
  unfold wtx
  split
  · simp only [List.length_cons]; omega
  · omega
def by8 (l : List Nat) : List UInt8 := l.map UInt8.ofNat
theorem pu_app : ∀ (a b : List UInt8) (acc v : Nat), Lib.parseUint10 acc a = .ok v → Lib.parseUint10 acc (a ++ b) = Lib.parseUint10 v b
  | [], b, acc, v, h => by
    simp only [Lib.parseUint10] at h
    injection h with h
    rw [h]
    rfl
  | c :: a, b, acc, v, h => by
    simp only [Lib.parseUint10, List.cons_append] at h ⊢
    split at h
    · rename_i h1
      rw [if_pos h1]
      split at h
      · cases h
      · rename_i h2
        rw [if_neg h2]
        split at h
        · cases h
        · rename_i h3
          rw [if_neg h3]
          exact pu_app a b _ v h
    · cases h
theorem u8_dig (d : Nat) (h : d < 10) : (UInt8.ofNat (48 + d)).toNat = 48 + d := by
  rw [UInt8.toNat_ofNat']
  omega
theorem pu_one (acc d : Nat) (h : d < 10) (h1 : acc < 1844674407370955162) (h2 : acc * 10 + d < 18446744073709551616) : Lib.parseUint10 acc [UInt8.ofNat (48 + d)] = .ok (acc * 10 + d) := by
  simp only [Lib.parseUint10, u8_dig d h]
  rw [if_pos (by omega), if_neg (by omega), if_neg (by omega)]
  congr 1
  omega
theorem pu_dgs (u : Nat) (h : u < 18446744073709551616) : Lib.parseUint10 0 (by8 (dgs u)) = .ok u := by
  induction u using Nat.strongRecOn with
  | _ u ih =>
    by_cases h10 : u < 10
    · rw [dgs_small u h10]
      have := pu_one 0 (u % 10) (by omega) (by omega) (by omega)
      rw [show 0 * 10 + u % 10 = u by omega] at this
      exact this
    · have e : by8 (dgs u) = by8 (dgs (u / 10)) ++ [UInt8.ofNat (48 + u % 10)] := by rw [dgs_step u h10]; simp [by8]
      rw [e, pu_app _ _ 0 (u / 10) (ih (u / 10) (by omega) (by omega)), pu_one _ _ (by omega) (by omega) (by omega)]
      congr 1
      omega
theorem by8_ne (u : Nat) : by8 (dgs u) ≠ [] := by
  intro h
  have h1 := congrArg List.length h
  have h2 := Lib.nDigits_pos u
  rw [by8, List.length_map, dgs_length] at h1
  simp at h1
  omega
theorem parse_wtx (x : Int) (h1 : -9223372036854775808 ≤ x) (h2 : x ≤ 9223372036854775807) : Lib.parseIntB 64 (strN (wtx x)).data.toList = .ok x := by
  have hs : (strN (wtx x)).data.toList = by8 (wtx x) := by simp [strN, by8]
  rw [hs, Lib.parseIntB_64]
  unfold wtx
  by_cases hx : x < 0
  · rw [if_pos hx, show by8 (45 :: dgs x.natAbs) = UInt8.ofNat 45 :: by8 (dgs x.natAbs) from rfl]
    have e45 : (UInt8.ofNat 45).toNat = 45 := rfl
    simp only [Lib.atoiAll, e45]
    simp only [or_true, if_true, Lib.parseMag, if_neg (by8_ne x.natAbs), pu_dgs x.natAbs (by omega)]
    rw [if_neg (by simp), if_neg (by simp; omega)]
    congr 1
    omega
  · rw [if_neg hx]
    obtain ⟨c, r, hc⟩ : ∃ c r, dgs x.natAbs = c :: r := by
      cases h : dgs x.natAbs with
      | nil => exact absurd (by rw [by8, h]; rfl) (by8_ne x.natAbs)
      | cons c r => exact ⟨c, r, rfl⟩
    have hcb := dgs_bytes x.natAbs c (by rw [hc]; simp)
    have h8 : by8 (dgs x.natAbs) = UInt8.ofNat c :: by8 r := by rw [hc]; rfl
    have ec : (UInt8.ofNat c).toNat = c := by rw [UInt8.toNat_ofNat']; omega
    have hp := pu_dgs x.natAbs (by omega)
    have hn := by8_ne x.natAbs
    rw [h8] at hp hn ⊢
    simp only [Lib.atoiAll, ec]
    rw [if_neg (show ¬ (c = 43 ∨ c = 45) by omega)]
    simp only [Lib.parseMag, if_neg hn, hp]
    rw [if_neg (by omega), if_neg (by omega), if_neg (by omega)]
    congr 1
    omega
end Go.Proofs.YtjciflgnlldgbaaGreatDoor.pg
end
section
namespace Go.Proofs.YtjciflgnlldgbaaGreatDoor.pfx
open Go.RowKit mem fl big uw pg
set_option linter.unusedVariables false

def adv (st : Int) (cs : List Nat) : Int := cs.foldl (fun (s : Int) (c : Nat) => nx s (c : Int)) st
theorem adv_app (st : Int) (a b : List Nat) : adv st (a ++ b) = adv (adv st a) b := by unfold adv; rw [List.foldl_append]
theorem adv_cons (st : Int) (c : Nat) (b : List Nat) : adv st (c :: b) = adv (nx st (c : Int)) b := rfl
theorem adv_nil (st : Int) : adv st [] = st := rfl
theorem adv9 (cs : List Nat) : adv 9 cs = 9 := by
  induction cs with
  | nil => rfl
  | cons c r ih => rw [adv_cons, show nx 9 (c : Int) = 9 by simp [nx], ih]
theorem run_all : ∀ (L : List Nat) (st e f : Int) (i : Nat), L ≠ [] → fm (adv st L) ≠ 0 → run st e f i (L.map fun n : Nat => (n : Int)) = (((i + L.length : Nat) : Int), ((i + L.length : Nat) : Int), fm (adv st L))
  | [], _, _, _, _, h, _ => absurd rfl h
  | c :: r, st, e, f, i, _, hf => by
    rw [adv_cons] at hf
    have h9 : nx st (c : Int) ≠ 9 := fun h => by rw [h, adv9] at hf; exact hf rfl
    rw [List.map_cons, run, if_neg h9, adv_cons]
    cases r with
    | nil =>
      rw [adv_nil] at hf ⊢
      rw [if_neg hf]
      simp [run]
    | cons d r =>
      have ih := fun e f => run_all (d :: r) (nx st (c : Int)) e f (i + 1) (by simp) hf
      rw [ih, ih]
      simp only [List.length_cons, ite_self]
      rw [show i + 1 + (r.length + 1) = i + (r.length + 1 + 1) by omega]
theorem pf_all (L : List Nat) (hL : L ≠ []) (hf : fm (adv 0 L) ≠ 0) : pf (L.map fun n : Nat => (n : Int)) 0 = ((L.length : Int), (L.length : Int), fm (adv 0 L)) := by
  unfold pf
  rw [if_neg (by simp)]
  have := run_all L 0 0 0 0 hL hf
  simpa using this
theorem nx_dig {st : Int} {c : Nat} (h1 : 48 ≤ c) (h2 : c ≤ 57) : (st = 3 → nx st (c : Int) = 3) ∧ (st = 4 ∨ st = 5 → nx st (c : Int) = 5) ∧ (st = 6 ∨ st = 7 ∨ st = 8 → nx st (c : Int) = 8) := by
  have hd : dig (c : Int) = true := by simp [dig]; omega
  refine ⟨fun h => by subst h; simp [nx, hd], fun h => by rcases h with rfl | rfl <;> simp [nx, hd], fun h => by rcases h with rfl | rfl | rfl <;> simp [nx, hd]⟩
theorem adv_d3 : ∀ (L : List Nat), (∀ c ∈ L, 48 ≤ c ∧ c ≤ 57) → adv 3 L = 3
  | [], _ => rfl
  | c :: r, h => by rw [adv_cons, (nx_dig (h c (by simp)).1 (h c (by simp)).2).1 rfl]; exact adv_d3 r fun d hd => h d (by simp [hd])
theorem adv_d5 : ∀ (L : List Nat), (∀ c ∈ L, 48 ≤ c ∧ c ≤ 57) → adv 5 L = 5
  | [], _ => rfl
  | c :: r, h => by rw [adv_cons, (nx_dig (h c (by simp)).1 (h c (by simp)).2).2.1 (.inr rfl)]; exact adv_d5 r fun d hd => h d (by simp [hd])
theorem adv_d4 (L : List Nat) (hL : L ≠ []) (h : ∀ c ∈ L, 48 ≤ c ∧ c ≤ 57) : adv 4 L = 5 := by
  cases L with
  | nil => exact absurd rfl hL
  | cons c r => rw [adv_cons, (nx_dig (h c (by simp)).1 (h c (by simp)).2).2.1 (.inl rfl)]; exact adv_d5 r fun d hd => h d (by simp [hd])
theorem adv_d8 : ∀ (L : List Nat), (∀ c ∈ L, 48 ≤ c ∧ c ≤ 57) → adv 8 L = 8
  | [], _ => rfl
  | c :: r, h => by rw [adv_cons, (nx_dig (h c (by simp)).1 (h c (by simp)).2).2.2 (.inr (.inr rfl))]; exact adv_d8 r fun d hd => h d (by simp [hd])
theorem adv_d6 (st : Int) (hst : st = 6 ∨ st = 7) (L : List Nat) (hL : L ≠ []) (h : ∀ c ∈ L, 48 ≤ c ∧ c ≤ 57) : adv st L = 8 := by
  cases L with
  | nil => exact absurd rfl hL
  | cons c r =>
    rw [adv_cons, (nx_dig (h c (by simp)).1 (h c (by simp)).2).2.2 (by omega)]
    exact adv_d8 r fun d hd => h d (by simp [hd])
/-- the first digits, with or without a sign ahead -/
theorem adv_first (st : Int) (hst : st = 0 ∨ st = 1) (c : Nat) (r : List Nat) (h1 : 49 ≤ c) (h2 : c ≤ 57) (h : ∀ d ∈ r, 48 ≤ d ∧ d ≤ 57) : adv st (c :: r) = 3 := by
  have hd : dig (c : Int) = true := by simp [dig]; omega
  have : nx st (c : Int) = 3 := by
    rcases hst with rfl | rfl
    · simp [nx, hd]; omega
    · simp [nx, hd]; omega
  rw [adv_cons, this]
  exact adv_d3 r h
theorem dgs_ne (n : Nat) : dgs n ≠ [] := by
  intro h
  have h1 := congrArg List.length h
  have h2 := Lib.nDigits_pos n
  rw [dgs_length] at h1
  simp at h1
  omega
theorem adv_wtx (x : Int) : adv 6 (wtx x) = 8 := by
  unfold wtx
  split
  · rw [adv_cons, show nx 6 ((45 : Nat) : Int) = 7 by simp [nx, dig]]
    exact adv_d6 7 (.inr rfl) _ (dgs_ne _) (fun c hc => dgs_bytes _ c hc)
  · exact adv_d6 6 (.inl rfl) _ (dgs_ne _) (fun c hc => dgs_bytes _ c hc)
/-- a laid text -/
theorem adv_lay (st : Int) (hst : st = 0 ∨ st = 1) (c0 : Nat) (L2 : List Nat) (p : Int) (h1 : 49 ≤ c0) (h2 : c0 ≤ 57) (hL : ∀ c ∈ L2, 48 ≤ c ∧ c ≤ 57) : fm (adv st (layT (c0 :: L2) p)) = 2 := by
  have hall : ∀ c ∈ c0 :: L2, 48 ≤ c ∧ c ≤ 57 := fun c hc => by
    rcases List.mem_cons.1 hc with rfl | hc
    · omega
    · exact hL c hc
  have hz : ∀ k, ∀ c ∈ List.replicate k 48, 48 ≤ c ∧ c ≤ 57 := fun k c hc => by rw [List.mem_replicate] at hc; omega
  have a46 : adv 3 [46] = 4 := by simp [adv, nx, dig]
  have a4648 : adv 3 [46, 48] = 5 := by simp [adv, nx, dig]
  have a35 : adv 3 [101] = 6 := by simp [adv, nx, dig]
  have a56 : adv 5 [101] = 6 := by simp [adv, nx, dig]
  have a04 : adv st [48, 46] = 4 := by rcases hst with rfl | rfl <;> simp [adv, nx, dig]
  unfold layT
  by_cases a1 : 1 ≤ p ∧ p ≤ 21 ∧ ((c0 :: L2).length : Int) ≤ p
  · rw [if_pos a1, adv_app, adv_app, adv_first st hst c0 L2 h1 h2 hL, adv_d3 _ (hz _), a4648]
    rfl
  rw [if_neg a1]
  by_cases a2 : 1 ≤ p ∧ p ≤ 21
  · rw [if_pos a2]
    obtain ⟨n, hn⟩ : ∃ n, p.toNat = n + 1 := ⟨p.toNat - 1, by omega⟩
    have hnl : n < L2.length := by simp only [List.length_cons] at a1; omega
    rw [hn, List.take_succ_cons, List.drop_succ_cons, adv_app, adv_app, adv_first st hst c0 _ h1 h2 (fun c hc => hL c (List.mem_of_mem_take hc)), a46, adv_d4 _ (by intro h; have := congrArg List.length h; simp at this; omega) (fun c hc => hL c (List.mem_of_mem_drop hc))]
    rfl
  rw [if_neg a2]
  by_cases a3 : -5 ≤ p ∧ p ≤ 0
  · rw [if_pos a3, adv_app, adv_app, a04, ← adv_app, adv_d4 _ (by simp) (fun c hc => by
      rcases List.mem_append.1 hc with hc | hc
      · exact hz _ c hc
      · exact hall c hc)]
    rfl
  rw [if_neg a3]
  by_cases a4 : 1 < (c0 :: L2).length
  · rw [if_pos a4]
    have hne : L2 ≠ [] := by intro h; subst h; simp at a4
    rw [List.take_succ_cons, List.take_zero, List.drop_succ_cons, List.drop_zero, adv_app, adv_app, adv_app, adv_app, adv_first st hst c0 [] h1 h2 (by simp), a46, adv_d4 L2 hne hL, a56, adv_wtx]
    rfl
  · rw [if_neg a4]
    have hL0 : L2 = [] := by cases L2 with | nil => rfl | cons a b => simp at a4
    subst hL0
    rw [adv_app, adv_app, adv_first st hst c0 [] h1 h2 (by simp), a35, adv_wtx]
    rfl
theorem adv_sign (T : List Nat) : adv 0 (45 :: T) = adv 1 T := by rw [adv_cons, show nx 0 ((45 : Nat) : Int) = 1 by simp [nx]]
/-- a whole number's text -/
theorem adv_whole (x : Int) : fm (adv 0 (wtx x)) = 1 := by
  have key : ∀ (st : Int), st = 0 ∨ st = 1 → ∀ n, fm (adv st (dgs n)) = 1 := by
    intro st hst n
    by_cases h0 : n = 0
    · subst h0
      rw [show dgs 0 = [48] from by decide, adv_cons, adv_nil]
      rcases hst with rfl | rfl <;> simp [nx, fm]
    · obtain ⟨c0, L2, he, h1, h2⟩ := dgs_head n (by omega)
      rw [he, adv_first st hst c0 L2 h1 h2 (fun c hc => dgs_bytes n c (by rw [he]; simp [hc]))]
      rfl
  unfold wtx
  split
  · rw [adv_sign]
    exact key 1 (.inr rfl) _
  · exact key 0 (.inl rfl) _
/-- .. with '.0' behind it -/
theorem adv_point (x : Int) : fm (adv 0 (wtx x ++ [46, 48])) = 2 := by
  have a4648 : adv 3 [46, 48] = 5 := by simp [adv, nx, dig]
  have a2 : adv 2 [46, 48] = 5 := by simp [adv, nx, dig]
  have key : ∀ (st : Int), st = 0 ∨ st = 1 → ∀ n, fm (adv st (dgs n ++ [46, 48])) = 2 := by
    intro st hst n
    rw [adv_app]
    by_cases h0 : n = 0
    · subst h0
      have e : adv st (dgs 0) = 2 := by
        rw [show dgs 0 = [48] from by decide]
        rcases hst with rfl | rfl <;> simp [adv, nx]
      rw [e, a2]
      rfl
    · obtain ⟨c0, L2, he, h1, h2⟩ := dgs_head n (by omega)
      rw [he, adv_first st hst c0 L2 h1 h2 (fun c hc => dgs_bytes n c (by rw [he]; simp [hc])), a4648]
      rfl
  unfold wtx
  split
  · rw [List.cons_append, adv_sign]
    exact key 1 (.inr rfl) _
  · exact key 0 (.inl rfl) _
end Go.Proofs.YtjciflgnlldgbaaGreatDoor.pfx
end
