/- Number texts, plain: the program's split and the reference's cut mean one number. Number texts, plain: the program's split and the reference's cut mean one number. -/
import Derived.Test.YtjciflgnlldgbaaGreatDoorGDgp
import Derived.Test.YtjciflgnlldgbaaGreatDoorGLs
section
namespace Go.Proofs.YtjciflgnlldgbaaGreatDoor.dcm
open Go.RowKit mem fl big us uw pg
set_option linter.unusedVariables false
set_option linter.unusedSimpArgs false

def Dig (c : Nat) : Prop := 48 ≤ c ∧ c ≤ 57
def Mch (M : List Nat) : Prop := ∀ c ∈ M, c = 46 ∨ Dig c
def Esh (X : List Nat) : Prop := ∃ sg ds, X = sg ++ ds ∧ (sg = [] ∨ sg = [43] ∨ sg = [45]) ∧ (∀ c ∈ ds, Dig c) ∧ ds ≠ []
def Rsh (R : List Nat) : Prop := R = [] ∨ ∃ e X, R = e :: X ∧ (e = 101 ∨ e = 69) ∧ Esh X
theorem fm9 (T : List Nat) : pfx.fm (pfx.adv 9 T) = 0 := by rw [pfx.adv9]; decide
theorem dig_iff (c : Nat) : pfx.dig (c : Int) = true ↔ Dig c := by
  unfold pfx.dig Dig
  simp only [Bool.and_eq_true, decide_eq_true_eq]
  omega
theorem dig8 (st : Int) (hs : st = 7 ∨ st = 8) : ∀ (T : List Nat), pfx.fm (pfx.adv st T) ≠ 0 → (∀ c ∈ T, Dig c) ∧ (st = 7 → T ≠ []) := by
  intro T
  induction T generalizing st with
  | nil =>
    intro h
    refine ⟨fun c hc => absurd hc (by simp), fun h7 => ?_⟩
    subst h7
    exact absurd rfl h
  | cons c T ih =>
    intro h
    rw [pfx.adv_cons] at h
    have h1 : pfx.nx st (c : Int) = if pfx.dig (c : Int) = true then 8 else 9 := by
      rcases hs with rfl | rfl <;> simp [pfx.nx]
    rw [h1] at h
    split at h
    · rename_i hd
      have := (ih 8 (.inr rfl) h).1
      exact ⟨fun d hd2 => by rcases List.mem_cons.1 hd2 with rfl | hd2; exact (dig_iff _).1 hd; exact this d hd2, fun _ => by simp⟩
    · exact absurd (fm9 T) h
theorem exp6 (T : List Nat) (h : pfx.fm (pfx.adv 6 T) ≠ 0) : Esh T := by
  cases T with
  | nil => exact absurd rfl h
  | cons c T =>
    rw [pfx.adv_cons] at h
    have h1 : pfx.nx 6 (c : Int) = if pfx.dig (c : Int) = true then 8 else if (c : Int) = 43 ∨ (c : Int) = 45 then 7 else 9 := by simp [pfx.nx]
    rw [h1] at h
    split at h
    · rename_i hd
      have := (dig8 8 (.inr rfl) T h).1
      exact ⟨[], c :: T, rfl, .inl rfl, fun d hd2 => by rcases List.mem_cons.1 hd2 with rfl | hd2; exact (dig_iff _).1 hd; exact this d hd2, by simp⟩
    · split at h
      · rename_i hc
        have := dig8 7 (.inl rfl) T h
        refine ⟨[c], T, rfl, ?_, this.1, this.2 rfl⟩
        rcases hc with hc | hc
        · right; left; rw [show c = 43 by omega]
        · right; right; rw [show c = 45 by omega]
      · exact absurd (fm9 T) h
theorem shape : ∀ (T : List Nat) (st : Int), 0 ≤ st → st ≤ 5 → pfx.fm (pfx.adv st T) ≠ 0 → (st = 0 → T.head? ≠ some 45) → ∃ M R, T = M ++ R ∧ Mch M ∧ Rsh R := by
  intro T
  induction T with
  | nil => exact fun st _ _ _ _ => ⟨[], [], rfl, fun c hc => absurd hc (by simp), .inl rfl⟩
  | cons c T ih =>
    intro st hs0 hs5 h hh
    rw [pfx.adv_cons] at h
    have key : ∀ s' : Int, pfx.nx st (c : Int) = s' → 1 ≤ s' → s' ≤ 5 → (c = 46 ∨ Dig c) → ∃ M R, c :: T = M ++ R ∧ Mch M ∧ Rsh R := by
      intro s' h1 h2 h3 h4
      rw [h1] at h
      obtain ⟨M, R, e1, e2, e3⟩ := ih s' (by omega) h3 h (fun h0 => by omega)
      exact ⟨c :: M, R, by rw [e1]; rfl, fun d hd => by rcases List.mem_cons.1 hd with rfl | hd; exact h4; exact e2 d hd, e3⟩
    have keyE : pfx.nx st (c : Int) = 6 → (c = 101 ∨ c = 69) → ∃ M R, c :: T = M ++ R ∧ Mch M ∧ Rsh R := by
      intro h1 h2
      rw [h1] at h
      exact ⟨[], c :: T, rfl, fun d hd => absurd hd (by simp), .inr ⟨c, T, rfl, h2, exp6 T h⟩⟩
    have key9 : pfx.nx st (c : Int) = 9 → False := fun h1 => by rw [h1] at h; exact h (fm9 T)
    obtain ⟨nv, hnv⟩ : ∃ nv, pfx.nx st (c : Int) = nv := ⟨_, rfl⟩
    have hn := hnv
    unfold pfx.nx at hn
    by_cases s01 : st = 0 ∨ st = 1
    · rw [if_pos s01] at hn
      split at hn
      · rename_i hc
        exact absurd (by simp; omega) (hh hc.2)
      · split at hn
        · exact key 2 (hnv.trans hn.symm) (by omega) (by omega) (.inr ⟨by omega, by omega⟩)
        · split at hn
          · rename_i hd
            exact key 3 (hnv.trans hn.symm) (by omega) (by omega) (.inr ((dig_iff c).1 hd))
          · exact (key9 (hnv.trans hn.symm)).elim
    · rw [if_neg s01] at hn
      by_cases s23 : st = 2 ∨ st = 3
      · rw [if_pos s23] at hn
        split at hn
        · rename_i hd
          exact key 3 (hnv.trans hn.symm) (by omega) (by omega) (.inr ((dig_iff c).1 hd.1))
        · split at hn
          · exact key 4 (hnv.trans hn.symm) (by omega) (by omega) (.inl (by omega))
          · split at hn
            · exact keyE (hnv.trans hn.symm) (by omega)
            · exact (key9 (hnv.trans hn.symm)).elim
      · rw [if_neg s23, if_pos (by omega)] at hn
        split at hn
        · rename_i hd
          exact key 5 (hnv.trans hn.symm) (by omega) (by omega) (.inr ((dig_iff c).1 hd))
        · split at hn
          · exact keyE (hnv.trans hn.symm) (by omega)
          · exact (key9 (hnv.trans hn.symm)).elim
/-- a number text in its pieces -/
theorem nt_shape {l : List Nat} (h : pfx.fm (pfx.adv 0 l) ≠ 0) : ∃ neg M R, l = (if neg = true then [45] else []) ++ (M ++ R) ∧ Mch M ∧ Rsh R ∧ decide (l.head? = some 45) = neg ∧ l.drop (st0 l) = M ++ R := by
  by_cases hd : l.head? = some 45
  · obtain ⟨T, rfl⟩ : ∃ T, l = 45 :: T := by
      cases l with
      | nil => simp at hd
      | cons c T => simp at hd; exact ⟨T, by rw [hd]⟩
    rw [pfx.adv_sign] at h
    obtain ⟨M, R, e1, e2, e3⟩ := shape T 1 (by omega) (by omega) h (fun h0 => by omega)
    exact ⟨true, M, R, by rw [e1]; rfl, e2, e3, by simp, by unfold st0; rw [if_pos hd, e1]; rfl⟩
  · obtain ⟨M, R, e1, e2, e3⟩ := shape l 0 (by omega) (by omega) h (fun _ => hd)
    exact ⟨false, M, R, by simpa using e1, e2, e3, by simp [hd], by unfold st0; rw [if_neg hd]; simpa using e1⟩
theorem isE_dig {c : Nat} (h : c = 46 ∨ Dig c) : isE c = false := by
  unfold isE
  unfold Dig at h
  rw [Bool.or_eq_false_iff]
  exact ⟨beq_false_of_ne (by omega), beq_false_of_ne (by omega)⟩
theorem tw_split {M R : List Nat} (hM : Mch M) (hR : Rsh R) : (M ++ R).takeWhile (fun c => !isE c) = M ∧ (M ++ R).dropWhile (fun c => !isE c) = R := by
  induction M with
  | nil =>
    rcases hR with rfl | ⟨e, X, rfl, he, _⟩
    · exact ⟨rfl, rfl⟩
    · have h1 : isE e = true := by rcases he with rfl | rfl <;> rfl
      simp [h1]
  | cons c M ih =>
    have h1 := isE_dig (hM c (by simp))
    have ih := ih (fun d hd => hM d (by simp [hd]))
    simp only [List.cons_append, List.takeWhile_cons, List.dropWhile_cons, h1]
    simp only [Bool.not_false, if_true, ih.1, ih.2]
    exact ⟨trivial, trivial⟩
/-- what the two folds have in common -/
structure Rel (s : Cs) (d : pg.Ds) : Prop where
  b : s.b = d.b.take 800
  more : s.more = ((d.b.drop 800).any fun c => c != 48)
  dot : s.dot = d.bh
  x : s.x = d.x - s.b.length
theorem rel_step {s : Cs} {d : pg.Ds} {c : Nat} (h : Rel s d) (he : s.e = false) (hc : c = 46 ∨ Dig c) : Rel (cutStep s c) (spStep d c) ∧ (cutStep s c).e = false ∧ (cutStep s c).neg = s.neg ∧ (cutStep s c).exp = s.exp ∧ (cutStep s c).down = s.down := by
  obtain ⟨h1, h2, h3, h4⟩ := h
  rcases hc with rfl | hc
  · have e1 : cutStep s 46 = { s with dot := true } := by unfold cutStep; rw [if_pos rfl]
    have e2 : spStep d 46 = { d with bh := true } := by unfold spStep; rw [if_pos rfl]
    rw [e1, e2]
    exact ⟨⟨h1, h2, rfl, h4⟩, he, rfl, rfl, rfl⟩
  · have e1 := cut_digit (s := s) hc.1 hc.2
    rw [he] at e1
    rw [if_neg (by simp)] at e1
    have hlen : s.b.length = min d.b.length 800 := by rw [h1, List.length_take]; omega
    have e2 : spStep d c = if c = 48 ∧ d.b.length = 0 then (if d.bh then { d with x := d.x - 1 } else d) else { d with b := d.b ++ [c], x := if d.bh then d.x else d.x + 1 } := by
      unfold spStep
      rw [if_neg (by have := hc.1; omega)]
    by_cases h48 : c = 48 ∧ d.b.length = 0
    · rw [if_pos h48] at e2
      rw [if_neg (by omega), if_neg (by omega)] at e1
      rw [e1, e2]
      cases hbh : d.bh
      · rw [hbh] at h3
        rw [h3]
        exact ⟨⟨by simpa using h1, by simpa using h2, by simp [hbh, h3], by simpa using h4⟩, rfl, rfl, rfl, rfl⟩
      · rw [hbh] at h3
        rw [h3]
        refine ⟨⟨by simpa using h1, by simpa using h2, by simp [hbh, h3], ?_⟩, rfl, rfl, rfl, rfl⟩
        simp only [if_true]
        omega
    · rw [if_neg h48] at e2
      rcases Nat.lt_or_ge d.b.length 800 with hn | hn
      · rw [if_neg (by omega), if_pos (by omega)] at e1
        rw [e1, e2]
        have t1 : d.b.take 800 = d.b := List.take_of_length_le (by omega)
        have t2 : (d.b ++ [c]).take 800 = d.b ++ [c] := List.take_of_length_le (by rw [List.length_append]; simp; omega)
        have t3 : (d.b ++ [c]).drop 800 = [] := List.drop_of_length_le (by rw [List.length_append]; simp; omega)
        have t4 : d.b.drop 800 = [] := List.drop_of_length_le (by omega)
        refine ⟨⟨by simp only; rw [t2, h1, t1], by simp only; rw [t3, h2, t4], h3, ?_⟩, rfl, rfl, rfl, rfl⟩
        simp only [List.length_append, List.length_cons, List.length_nil, h3]
        split <;> omega
      · rw [if_pos (by omega)] at e1
        rw [e1, e2]
        have t2 : (d.b ++ [c]).take 800 = d.b.take 800 := List.take_append_of_le_length hn
        have t3 : (d.b ++ [c]).drop 800 = d.b.drop 800 ++ [c] := List.drop_append_of_le_length hn
        refine ⟨⟨by simp only; rw [t2, h1], by simp only; rw [t3, List.any_append, h2]; simp, h3, ?_⟩, rfl, rfl, rfl, rfl⟩
        simp only [h3]
        split <;> omega
theorem rel_fold : ∀ (M : List Nat), Mch M → ∀ (s : Cs) (d : pg.Ds), Rel s d → s.e = false → Rel (M.foldl cutStep s) (M.foldl spStep d) ∧ (M.foldl cutStep s).e = false ∧ (M.foldl cutStep s).neg = s.neg ∧ (M.foldl cutStep s).exp = s.exp ∧ (M.foldl cutStep s).down = s.down
  | [], _, s, d, h, he => ⟨h, he, rfl, rfl, rfl⟩
  | c :: M, hM, s, d, h, he => by
    obtain ⟨a1, a2, a3, a4, a5⟩ := rel_step h he (hM c (by simp))
    obtain ⟨b1, b2, b3, b4, b5⟩ := rel_fold M (fun d hd => hM d (by simp [hd])) _ _ a1 a2
    exact ⟨b1, b2, b3.trans a3, b4.trans a4, b5.trans a5⟩
def exStep (n c : Nat) : Nat := if n < 1125899906842624 then 10 * n + (c - 48) else n
theorem cut_exp : ∀ (ds : List Nat), (∀ c ∈ ds, Dig c) → ∀ s : Cs, s.e = true → ds.foldl cutStep s = { s with exp := ds.foldl exStep s.exp }
  | [], _, s, _ => rfl
  | c :: ds, h, s, he => by
    have hc := h c (by simp)
    have e1 := cut_digit (s := s) hc.1 hc.2
    rw [if_pos he] at e1
    have e2 : cutStep s c = { s with exp := exStep s.exp c } := by
      rw [e1]
      unfold exStep
      split <;> rfl
    rw [List.foldl_cons, e2, cut_exp ds (fun d hd => h d (by simp [hd])) { s with exp := exStep s.exp c } he]
    rfl
theorem exp_join : ∀ (ds : List Nat), (∀ c ∈ ds, Dig c) → ∀ p q : Nat, (p = q ∨ (1099511627776 ≤ p ∧ 1099511627776 ≤ q)) → (ds.foldl pwStep p = ds.foldl exStep q ∨ (1099511627776 ≤ ds.foldl pwStep p ∧ 1099511627776 ≤ ds.foldl exStep q))
  | [], _, p, q, h => h
  | c :: ds, hd, p, q, h => by
    have hc := hd c (by simp)
    unfold Dig at hc
    rw [List.foldl_cons, List.foldl_cons]
    refine exp_join ds (fun d hd2 => hd d (by simp [hd2])) _ _ ?_
    unfold pwStep exStep
    rcases h with rfl | ⟨h1, h2⟩
    · by_cases hp : p < 1099511627776
      · rw [if_pos ⟨hc, hp⟩, if_pos (by omega)]
        left; omega
      · right
        rw [if_neg (fun hh => hp hh.2)]
        refine ⟨by omega, ?_⟩
        split <;> omega
    · right
      refine ⟨?_, ?_⟩
      · rw [if_neg (fun hh => by omega)]; exact h1
      · split <;> omega
theorem pw_exp {X sg ds : List Nat} (hX : X = sg ++ ds) (hs : sg = [] ∨ sg = [43] ∨ sg = [45]) (hd : ∀ c ∈ ds, Dig c) (hne : ds ≠ []) : pwV X = (if sg = [45] then -((min (ds.foldl pwStep 0) 1099511627776 : Nat) : Int) else ((min (ds.foldl pwStep 0) 1099511627776 : Nat) : Int)) := by
  subst hX
  have hF : pwF (sg ++ ds) = ds.foldl pwStep 0 := by
    unfold pwF
    rw [List.foldl_append]
    congr 1
    rcases hs with rfl | rfl | rfl <;> rfl
  unfold pwV
  rw [hF]
  rcases hs with rfl | rfl | rfl
  · have h1 : ([] ++ ds).head? ≠ some 45 := by
      cases ds with
      | nil => exact absurd rfl hne
      | cons c ds =>
        have := hd c (by simp)
        unfold Dig at this
        simp
        omega
    rw [if_neg h1, if_neg (by simp)]
  · rw [if_neg (by simp), if_neg (by simp)]
  · rw [if_pos (by simp), if_pos rfl]
theorem cut_tail {s : Cs} {e : Nat} {X sg ds : List Nat} (he : s.e = false) (hx0 : s.exp = 0) (hdn : s.down = false) (h : e = 101 ∨ e = 69) (hX : X = sg ++ ds) (hs : sg = [] ∨ sg = [43] ∨ sg = [45]) (hd : ∀ c ∈ ds, Dig c) : (e :: X).foldl cutStep s = { s with e := true, down := decide (sg = [45]), exp := ds.foldl exStep 0 } := by
  subst hX
  have e1 : cutStep s e = { s with e := true } := by
    unfold cutStep
    rw [if_neg (by omega), if_pos h]
  rw [List.foldl_cons, e1, List.foldl_append]
  rcases hs with rfl | rfl | rfl
  · rw [List.foldl_nil, cut_exp ds hd _ rfl]
    simp [hx0, hdn]
  · rw [List.foldl_cons, List.foldl_nil, show cutStep { s with e := true } 43 = { s with e := true } by unfold cutStep; simp, cut_exp ds hd _ rfl]
    simp [hx0, hdn]
  · rw [List.foldl_cons, List.foldl_nil, show cutStep { s with e := true } 45 = { s with e := true, down := true } by unfold cutStep; simp, cut_exp ds hd _ rfl]
    simp [hx0]
/-- split's digits -/
theorem sp_digs : ∀ (M : List Nat), Mch M → ∀ d : pg.Ds, ((∀ c ∈ d.b, Dig c) ∧ (d.b ≠ [] → d.b.getD 0 0 ≠ 48)) → ((∀ c ∈ (M.foldl spStep d).b, Dig c) ∧ ((M.foldl spStep d).b ≠ [] → (M.foldl spStep d).b.getD 0 0 ≠ 48)) ∧ (M.foldl spStep d).b.length ≤ d.b.length + M.length ∧ ((M.foldl spStep d).x - d.x ≤ M.length ∧ -(M.length : Int) ≤ (M.foldl spStep d).x - d.x)
  | [], _, d, h => ⟨h, by simp, by simp⟩
  | c :: M, hM, d, h => by
    have hc := hM c (by simp)
    have hstep : ((∀ y ∈ (spStep d c).b, Dig y) ∧ ((spStep d c).b ≠ [] → (spStep d c).b.getD 0 0 ≠ 48)) ∧ (spStep d c).b.length ≤ d.b.length + 1 ∧ ((spStep d c).x - d.x ≤ 1 ∧ -1 ≤ (spStep d c).x - d.x) := by
      by_cases h46 : c = 46
      · have e : spStep d c = { d with bh := true } := by unfold spStep; rw [if_pos h46]
        rw [e]
        exact ⟨h, by simp, by simp⟩
      · by_cases h48 : c = 48 ∧ d.b.length = 0
        · have e : spStep d c = (if d.bh then { d with x := d.x - 1 } else d) := by unfold spStep; rw [if_neg h46, if_pos h48]
          rw [e]
          cases d.bh
          · exact ⟨h, by simp, by simp⟩
          · exact ⟨h, by simp, by simp only [if_true]; omega⟩
        · have e : spStep d c = { d with b := d.b ++ [c], x := if d.bh then d.x else d.x + 1 } := by unfold spStep; rw [if_neg h46, if_neg h48]
          rw [e]
          have hD : Dig c := by rcases hc with hc | hc; exact absurd hc h46; exact hc
          refine ⟨⟨fun x hx => ?_, fun _ => ?_⟩, by simp, ?_⟩
          · rcases List.mem_append.1 hx with hx | hx
            · exact h.1 x hx
            · simp at hx; rw [hx]; exact hD
          · cases hb : d.b with
            | nil =>
              simp only [List.nil_append]
              rw [hb] at h48
              simp at h48 ⊢
              exact h48
            | cons y ys =>
              have := h.2 (by rw [hb]; simp)
              rw [hb] at this
              simpa using this
          · simp only
            split <;> omega
    obtain ⟨a1, a2, a3⟩ := hstep
    obtain ⟨b1, b2, b3⟩ := sp_digs M (fun d hd => hM d (by simp [hd])) (spStep d c) a1
    refine ⟨b1, ?_, ?_⟩
    · rw [List.foldl_cons, List.length_cons]; omega
    · rw [List.foldl_cons, List.length_cons]; omega
end Go.Proofs.YtjciflgnlldgbaaGreatDoor.dcm
end
section
namespace Go.Proofs.YtjciflgnlldgbaaGreatDoor.dcm
open Go.RowKit mem fl big us uw pg
set_option linter.unusedVariables false

/-- only the halves between two floats count -/
theorem near_same {X1 X2 T R : Nat} (h : Near X1 T R) (h12 : ∀ c p : Nat, c < 2 ^ 55 → (c * 2 ^ p * T < 2 * X1 ↔ c * 2 ^ p * T < 2 * X2)) (h1 : ∀ c p : Nat, c < 2 ^ 55 → c * 2 ^ p * T ≤ 2 * X1 → c * 2 ^ p * T < 2 * X1) (h2 : ∀ c p : Nat, c < 2 ^ 55 → c * 2 ^ p * T ≤ 2 * X2 → c * 2 ^ p * T < 2 * X2) : Near X2 T R := by
  have hform : ∀ r, r < 9218868437227405312 → ∃ c p, c < 2 ^ 55 ∧ T * (V r + V (r + 1)) = c * 2 ^ p * T := by
    intro r hr
    refine ⟨2 * spM r + 1, (spE r + 1074).toNat, ?_, ?_⟩
    · have := spM_lt r
      have : (2 : Nat) ^ 55 = 36028797018963968 := by decide
      omega
    · rw [V_next hr, Nat.mul_comm T]
  obtain ⟨a1, a2, a3⟩ := h
  refine ⟨a1, ?_, ?_⟩
  · rcases Nat.eq_zero_or_pos R with h0 | h0
    · exact .inl h0
    · obtain ⟨c, p, hc, e⟩ := hform (R - 1) (by omega)
      rw [show R - 1 + 1 = R by omega] at e
      rw [e] at a2 ⊢
      rcases a2 with a2 | a2 | ⟨a2, _⟩
      · exact .inl a2
      · exact .inr (.inl ((h12 c p hc).1 a2))
      · have := h1 c p hc (by omega)
        omega
  · rcases Nat.lt_or_ge R 9218868437227405312 with h0 | h0
    · obtain ⟨c, p, hc, e⟩ := hform R h0
      rw [e] at a3 ⊢
      right; left
      rcases a3 with a3 | a3 | ⟨a3, _⟩
      · omega
      · rcases Nat.lt_or_ge (2 * X2) (c * 2 ^ p * T) with h3 | h3
        · exact h3
        · have := (h12 c p hc).2 (h2 c p hc h3)
          omega
      · have := h1 c p hc (by omega)
        omega
    · exact .inl (by omega)
theorem dec_sticky {P z k k2 R : Nat} {D D2 : List Nat} {E : Int} (hz : z = 1074) (hP : P = 2 ^ z) (h : Ds D k) (h2 : Ds D2 k2) (hk : 800 < k) (hk2 : 800 < k2) (heq : D2.take 800 = D.take 800) (hn : ((D.drop 800).any fun c => c != 48) = true) (hn2 : ((D2.drop 800).any fun c => c != 48) = true) (hR : Dec P (dvn D2) (E - k2) R) : Dec P (dvn D) (E - k) R := by
  by_cases hE : 400 < E
  · have h3 : Dec P (dvn D2) (E - k2) 9218868437227405312 := dec_great hz hP h2.lo h2.pos (by omega)
    rw [dec_unique hR h3]
    exact dec_great hz hP h.lo h.pos (by omega)
  · obtain ⟨S, hS⟩ : ∃ S : Nat, S = k + k2 + E.natAbs := ⟨_, rfl⟩
    obtain ⟨B, hB⟩ : ∃ B : Nat, B = z + 1 := ⟨_, rfl⟩
    have hl : (D.take 800).length = 800 := by rw [List.length_take, h.len]; omega
    have hg : ∀ (A : List Nat) (u : Nat), u < 800 → (A.take 800).getD u 0 = A.getD u 0 := fun A u hu => by
      rw [List.getD_eq_getElem?_getD, List.getD_eq_getElem?_getD, List.getElem?_take, if_pos hu]
    obtain ⟨_, a1⟩ := set_start (S := S) (B := B) (E := E) h hl (fun u hu => hg D u (by omega)) (by omega) (by omega) (by omega)
    obtain ⟨_, a2⟩ := set_start (S := S) (B := B) (E := E) h2 hl (fun u hu => by rw [← heq]; exact hg D2 u (by omega)) (by omega) (by omega) (by omega)
    rw [show min k 800 = 800 by omega, hn] at a1
    rw [show min k2 800 = 800 by omega, hn2] at a2
    have h3 := (dec_scale (S := S) (by omega)).1 hR
    refine (dec_scale (S := S) (by omega)).2 ?_
    rw [show (S : Int) + (E - k) = (S : Int) + E - k by omega]
    rw [show (S : Int) + (E - k2) = (S : Int) + E - k2 by omega] at h3
    have g1 := a1.gt rfl
    have c1 := a1.cl
    have g2 := a2.gt rfl
    have c2 := a2.cl
    simp only [Nat.pow_zero, Nat.mul_one, Nat.add_zero] at g1 c1 g2 c2
    clear a1 a2
    generalize dvn D * 10 ^ ((S : Int) + E - k).toNat = X at g1 c1 ⊢
    generalize dvn D2 * 10 ^ ((S : Int) + E - k2).toNat = X2 at g2 c2 h3
    generalize vl S (D.take 800) 800 E = v at *
    have e : ∀ Y : Nat, 2 * (Y * P) = Y * 2 ^ B := fun Y => by rw [hP, hB, Nat.pow_succ]; ac_rfl
    have hBp : 0 < 2 ^ B := Nat.two_pow_pos B
    have f1 : v * 2 ^ B < X * 2 ^ B := (Nat.mul_lt_mul_right hBp).2 g1
    have f2 : v * 2 ^ B < X2 * 2 ^ B := (Nat.mul_lt_mul_right hBp).2 g2
    refine near_same h3 (fun c p hc => ?_) (fun c p hc hh => ?_) (fun c p hc hh => ?_)
    · rw [e, e]
      constructor
      · intro hh
        have := c2 c p hc (Nat.le_of_lt hh)
        omega
      · intro hh
        have := c1 c p hc (Nat.le_of_lt hh)
        omega
    · rw [e] at hh ⊢
      have := c2 c p hc hh
      omega
    · rw [e] at hh ⊢
      have := c1 c p hc hh
      omega
theorem dec_none {P x R : Nat} {e : Int} (h : x = 0) (hR : Dec P x e R) : R = 0 ∧ ∀ e', Dec P 0 e' 0 := by
  have h0 : ∀ e', Dec P 0 e' 0 := fun e' => by
    unfold Dec
    rw [Nat.zero_mul, Nat.zero_mul]
    exact big.near_zero (Nat.pow_pos (by decide)) (Nat.pow_pos (by decide))
  subst h
  exact ⟨dec_unique hR (h0 e), h0⟩
theorem dec_ten {P m R j : Nat} {e : Int} (hR : Dec P m (e + j) R) : Dec P (m * 10 ^ j) e R := by
  obtain ⟨S, hS⟩ : ∃ S : Nat, S = e.natAbs := ⟨_, rfl⟩
  have h1 := (dec_scale (S := S) (by omega)).1 hR
  refine (dec_scale (S := S) (by omega)).2 ?_
  rw [show ((S : Int) + (e + j)).toNat = j + ((S : Int) + e).toNat by omega, Nat.pow_add, ← Nat.mul_assoc] at h1
  exact h1
/-- where the exponent is read as a number beyond all -/
theorem dec_beyond {P z k n R m : Nat} {D : List Nat} {x E : Int} (hz : z = 1074) (hP : P = 2 ^ z) (h : Ds D k) (hm1 : 10 ^ (n - 1) ≤ m) (hm2 : m < 10 ^ n) (hn : 0 < n) (hx : (310 < x + n ∧ 310 < E) ∨ (x + n ≤ -325 ∧ E ≤ -325)) (hR : Dec P m x R) : Dec P (dvn D) (E - k) R := by
  rcases hx with ⟨h1, h2⟩ | ⟨h1, h2⟩
  · rw [dec_unique hR (dec_great hz hP hm1 hn h1)]
    exact dec_great hz hP h.lo h.pos (by omega)
  · rw [dec_unique hR (dec_tiny hz hP hm2 h1)]
    exact dec_tiny hz hP h.hi (by omega)
/-- what is common to split and cut, of a number text -/
structure Sc (l : List Nat) (P R : Nat) : Prop where
  neg : (cutF l).neg = decide (l.head? = some 45)
  dig : ∀ c ∈ spB l, 48 ≤ c ∧ c ≤ 57
  head : spB l ≠ [] → (spB l).getD 0 0 ≠ 48
  len : (spB l).length ≤ l.length
  dec : Dec P (dvn (spB l)) (spX l - (spB l).length) R
theorem cut_split {l : List Nat} {P z R : Nat} (hz : z = 1074) (hP : P = 2 ^ z) (h : pfx.fm (pfx.adv 0 l) ≠ 0) (hl : l.length ≤ 1100000) (hR : Dec P (dvn (cutF l).digits) (cutF l).power R) : Sc l P R := by
  obtain ⟨neg, M, Rr, hle, hM, hRs, hng, hdrop⟩ := nt_shape h
  obtain ⟨htw, hdw⟩ := tw_split hM hRs
  have hspM : pg.spM l = M := by unfold pg.spM; rw [hdrop]; exact htw
  have hspR : spR l = Rr := by unfold spR; rw [hdrop]; exact hdw
  -- behind the sign
  obtain ⟨s0, hs0, hs0n, hrel0, hs0e, hs0x, hs0d⟩ : ∃ s0 : Cs, cutF l = (M ++ Rr).foldl cutStep s0 ∧ s0.neg = neg ∧ Rel s0 ⟨[], 0, false⟩ ∧ s0.e = false ∧ s0.exp = 0 ∧ s0.down = false := by
    unfold cutF
    rw [hle, List.foldl_append]
    cases neg
    · exact ⟨Cs.start, rfl, rfl, ⟨rfl, rfl, rfl, rfl⟩, rfl, rfl, rfl⟩
    · exact ⟨{ Cs.start with neg := true }, rfl, rfl, ⟨rfl, rfl, rfl, rfl⟩, rfl, rfl, rfl⟩
  obtain ⟨r1, r2, r3, r4, r5⟩ := rel_fold M hM s0 ⟨[], 0, false⟩ hrel0 hs0e
  obtain ⟨d1, d2, d3⟩ := sp_digs M hM ⟨[], 0, false⟩ ⟨fun c hc => absurd hc (by simp), fun hh => absurd rfl hh⟩
  rw [List.foldl_append] at hs0
  have hMl : M.length ≤ l.length := by rw [hle]; simp; omega
  have hspB : spB l = (M.foldl spStep ⟨[], 0, false⟩).b := by unfold spB spF; rw [hspM]
  have hspX : spX l = (M.foldl spStep ⟨[], 0, false⟩).x + (if Rr.length = 0 then 0 else pwV (Rr.drop 1)) := by unfold spX spF; rw [hspM, hspR]
  generalize M.foldl cutStep s0 = s1 at *
  generalize M.foldl spStep ⟨[], 0, false⟩ = dd at *
  -- the exponents
  obtain ⟨ex, hex⟩ : ∃ ex, (if Rr.length = 0 then 0 else pwV (Rr.drop 1)) = ex := ⟨_, rfl⟩
  rw [hex] at hspX
  obtain ⟨s2, ey, hs2, hb2, hm2, hx2, hn2, hpw, hxy⟩ : ∃ (s2 : Cs) (ey : Int), cutF l = s2 ∧ s2.b = s1.b ∧ s2.more = s1.more ∧ s2.x = s1.x ∧ s2.neg = s1.neg ∧ (if s2.down then -(s2.exp : Int) else (s2.exp : Int)) = ey ∧ (ex = ey ∨ (1099511627776 ≤ ex ∧ 1099511627776 ≤ ey) ∨ (ex ≤ -1099511627776 ∧ ey ≤ -1099511627776)) := by
    rcases hRs with rfl | ⟨e, X, rfl, he, sg, ds, hX, hsg, hds, hne⟩
    · refine ⟨s1, 0, hs0, rfl, rfl, rfl, rfl, by rw [r4, r5, hs0x, hs0d]; rfl, .inl ?_⟩
      rw [← hex]; rfl
    · have ht := cut_tail r2 (r4.trans hs0x) (r5.trans hs0d) he hX hsg hds
      rw [ht] at hs0
      refine ⟨_, _, hs0, rfl, rfl, rfl, rfl, rfl, ?_⟩
      have hp := pw_exp hX hsg hds hne
      rw [if_neg (by simp)] at hex
      simp only [List.drop_succ_cons, List.drop_zero] at hex
      rw [hp] at hex
      have hj := exp_join ds hds 0 0 (.inl rfl)
      by_cases h45 : sg = [45]
      · rw [if_pos h45] at hex
        simp only [h45, decide_true, if_true]
        omega
      · rw [if_neg h45] at hex
        simp only [h45, decide_false, Bool.false_eq_true, if_false]
        omega
  rw [hs2] at hR
  have hdig : (s2.digits) = if s1.more = true then s1.b ++ [49] else s1.b := by unfold Cs.digits; rw [hm2, hb2]
  have hpow : s2.power = (if s1.more = true then s1.x - 1 else s1.x) + ey := by unfold Cs.power; rw [hm2, hx2, hpw]
  rw [hdig, hpow] at hR
  refine ⟨by rw [hs2, hn2, r3, hs0n, hng], by rw [hspB]; exact d1.1, by rw [hspB]; exact d1.2, by rw [hspB]; simp only [List.length_nil] at d2; omega, ?_⟩
  rw [hspB, hspX]
  obtain ⟨Q1, Q2, Q3, Q4⟩ := r1
  obtain ⟨k, hk⟩ : ∃ k, dd.b.length = k := ⟨_, rfl⟩
  have hb1l : s1.b.length = min k 800 := by rw [Q1, List.length_take, hk]; omega
  rw [hb1l] at Q4
  simp only [List.length_nil, Int.sub_zero] at d2 d3
  rw [hk]
  rcases Nat.eq_zero_or_pos k with hk0 | hk0
  · -- nought
    have hnil : dd.b = [] := List.length_eq_zero_iff.1 (by omega)
    have hm0 : s1.more = false := by rw [Q2, hnil]; rfl
    have hb0 : s1.b = [] := by rw [Q1, hnil]; rfl
    rw [hm0, hb0] at hR
    obtain ⟨e1, e2⟩ := dec_none (x := dvn []) rfl hR
    rw [e1, hnil]
    exact e2 _
  · have hD : Ds dd.b k := ⟨hk, hk0, by omega, d1.1, d1.2 (fun hh => by rw [hh] at hk; simp at hk; omega)⟩
    have hcut := dvn_cut dd.b hD.dig 800
    rw [hk] at hcut
    -- the digits that the reference keeps
    obtain ⟨n, m, x, hm1, hm2, hn0, hnx, hR2, hsame⟩ : ∃ (n m : Nat) (x : Int), 10 ^ (n - 1) ≤ m ∧ m < 10 ^ n ∧ 0 < n ∧ (x + n = dd.x ∧ True) ∧ Dec P m (x + ey) R ∧ (ex = ey → Dec P (dvn dd.b) (dd.x + ex - k) R) := by
      cases hmo : s1.more
      · rw [hmo] at hR
        simp only [Bool.false_eq_true, if_false] at hR
        have hz0 : dvn (dd.b.drop 800) = 0 := by
          have h1 := dvn_zero (dd.b.drop 800) (fun c hc => hD.dig c (List.mem_of_mem_drop hc))
          rw [← Q2, hmo] at h1
          simpa using h1.symm
        rw [hz0, Nat.add_zero] at hcut
        have hD1 : Ds s1.b (min k 800) := ⟨hb1l, by omega, by omega, fun c hc => hD.dig c (by rw [Q1] at hc; exact List.mem_of_mem_take hc), by
          have := hD.head
          rw [Q1, List.getD_eq_getElem?_getD, List.getElem?_take, if_pos (by omega)]
          rwa [List.getD_eq_getElem?_getD] at this⟩
        refine ⟨min k 800, dvn s1.b, s1.x, hD1.lo, hD1.hi, hD1.pos, ⟨by omega, trivial⟩, hR, fun hee => ?_⟩
        rw [hcut.1, ← Q1]
        refine dec_ten ?_
        rw [show dd.x + ex - (k : Int) + ((k - 800 : Nat) : Int) = s1.x + ey by omega]
        exact hR
      · rw [hmo] at hR
        simp only [if_true] at hR
        have h19 : 800 < k := by
          rcases Nat.lt_or_ge 800 k with h1 | h1
          · exact h1
          · rw [Q2, List.drop_of_length_le (by omega)] at hmo
            exact absurd hmo (by simp)
        have hb8 : s1.b.length = 800 := by omega
        have hD2 : Ds (s1.b ++ [49]) 801 := ⟨by rw [List.length_append, hb8]; rfl, by omega, by omega, fun c hc => by
          rcases List.mem_append.1 hc with hc | hc
          · exact hD.dig c (by rw [Q1] at hc; exact List.mem_of_mem_take hc)
          · simp at hc; omega, by
          have := hD.head
          rw [List.getD_eq_getElem?_getD, List.getElem?_append_left (by omega), Q1, List.getElem?_take, if_pos (by omega)]
          rwa [List.getD_eq_getElem?_getD] at this⟩
        refine ⟨801, dvn (s1.b ++ [49]), s1.x - 1, hD2.lo, hD2.hi, hD2.pos, ⟨by omega, trivial⟩, hR, fun hee => ?_⟩
        refine dec_sticky (D2 := s1.b ++ [49]) (k2 := 801) hz hP hD hD2 h19 (by omega) ?_ (by rw [← Q2, hmo]) ?_ ?_
        · rw [List.take_append_of_le_length (by omega), List.take_of_length_le (by omega), Q1]
        · rw [List.drop_append_of_le_length (by omega), List.drop_of_length_le (by omega)]
          rfl
        · rw [show dd.x + ex - ((801 : Nat) : Int) = s1.x - 1 + ey by omega]
          exact hR
    rcases hxy with hxy | hxy
    · exact hsame hxy
    · refine dec_beyond hz hP hD hm1 hm2 hn0 ?_ hR2
      rcases hxy with ⟨y1, y2⟩ | ⟨y1, y2⟩
      · left; omega
      · right; omega
end Go.Proofs.YtjciflgnlldgbaaGreatDoor.dcm
end
