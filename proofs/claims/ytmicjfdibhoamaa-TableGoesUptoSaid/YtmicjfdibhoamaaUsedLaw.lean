/- Plain laws of TableUsed. -/
import Derived.Test.YtmicjfdibhoamaaIdle
import Derived.Test.YtmicjfdibhoamaaLaw
namespace Go.Proofs.Ytmicjfdibhoamaa.val

def keys (es : List (C × O)) (q : Nat) : List C := (es.take q).map (·.1)
theorem keys_succ {es : List (C × O)} {q : Nat} {e : C × O} (h : es[q]? = some e) : keys es (q + 1) = keys es q ++ [e.1] := by
  unfold keys
  rw [List.take_add_one, h, List.map_append]
  rfl
theorem idleAt_eq {es : List (C × O)} {tr : List C} {q : Nat} {e : C × O} (h : es[q]? = some e) : idleAt es tr q = (decide (e.1 ∈ keys es q) || !decide (e.1 ∈ tr)) := by
  unfold idleAt
  rw [h]
  rfl
def cntU (es : List (C × O)) (tr : List C) (c : C) : Nat → Nat
  | 0 => 0
  | k + 1 => cntU es tr c k + match es[k]? with
    | some e => if e.1 = c ∧ idleAt es tr k = false then 1 else 0
    | none => 0
theorem cntU_le (es : List (C × O)) (tr : List C) (c : C) : ∀ k, cntU es tr c k ≤ k
  | 0 => Nat.le_refl _
  | k + 1 => by
    have := cntU_le es tr c k
    simp only [cntU]
    split
    · split <;> omega
    · omega
theorem cntU_eq {es : List (C × O)} {tr : List C} {c : C} (hc : c ∈ tr) : ∀ k, k ≤ es.length → cntU es tr c k = if c ∈ keys es k then 1 else 0
  | 0, _ => by simp [cntU, keys]
  | k + 1, hk => by
    have ih := cntU_eq (es := es) hc k (by omega)
    have hx : es[k]? = some es[k] := List.getElem?_eq_getElem (by omega)
    simp only [cntU]
    rw [hx, keys_succ hx, ih]
    simp only [List.mem_append, List.mem_singleton]
    have hi := idleAt_eq (tr := tr) hx
    by_cases he : es[k].1 = c
    · rw [he] at hi ⊢
      rw [decide_eq_true hc] at hi
      by_cases hm : c ∈ keys es k
      · rw [decide_eq_true hm] at hi
        rw [if_pos hm, if_neg (show ¬ (c = c ∧ idleAt es tr k = false) by rw [hi]; simp), if_pos (Or.inl hm)]
      · rw [decide_eq_false hm] at hi
        rw [if_neg hm, if_pos (show c = c ∧ idleAt es tr k = false from ⟨rfl, by rw [hi]; rfl⟩), if_pos (Or.inr rfl)]
    · rw [if_neg (show ¬ (es[k].1 = c ∧ idleAt es tr k = false) from fun h => he h.1)]
      by_cases hm : c ∈ keys es k
      · rw [if_pos hm, if_pos (.inl hm)]
      · rw [if_neg hm, if_neg (by rintro (h | h); exact hm h; exact he h.symm)]

theorem mem_idl {es : List (C × O)} {tr : List C} {j : Nat} : ∀ q, j ∈ idl es tr q ↔ j < q ∧ idleAt es tr j = true
  | 0 => by simp [idl]
  | q + 1 => by
    simp only [idl, List.mem_append, mem_idl q]
    by_cases hi : idleAt es tr q = true
    · rw [if_pos hi]
      simp only [List.mem_singleton]
      constructor
      · rintro (h | h)
        · exact ⟨by omega, h.2⟩
        · exact ⟨by omega, by rw [h]; exact hi⟩
      · intro h
        by_cases hj : j = q
        · exact .inr hj
        · exact .inl ⟨by omega, h.2⟩
    · rw [if_neg hi]
      simp only [List.not_mem_nil, or_false]
      constructor
      · exact fun h => ⟨by omega, h.2⟩
      · intro h
        refine ⟨?_, h.2⟩
        by_cases hj : j = q
        · rw [hj] at h
          exact absurd h.2 hi
        · omega
theorem idl_sorted (es : List (C × O)) (tr : List C) : ∀ q, (idl es tr q).Pairwise (· < ·)
  | 0 => by simp [idl]
  | q + 1 => by
    simp only [idl]
    rw [List.pairwise_append]
    refine ⟨idl_sorted es tr q, by split <;> simp, fun a ha b hb => ?_⟩
    have h1 := ((mem_idl q).1 ha).1
    split at hb
    · simp at hb
      omega
    · cases hb
/-- the element ahead of number k, -1 ahead of the first -/
def lastOf (l : List Nat) : Nat → Int
  | 0 => -1
  | k + 1 => ((l.getD k 0 : Nat) : Int)
theorem last_lt {l : List Nat} (hs : l.Pairwise (· < ·)) {k : Nat} (hk : k < l.length) : lastOf l k < (l[k] : Int) := by
  cases k with
  | zero => simp only [lastOf]; omega
  | succ k =>
    simp only [lastOf]
    have h1 := List.pairwise_iff_getElem.1 hs k (k + 1) (by omega) hk (by omega)
    have h2 : l.getD k 0 = l[k] := by simp [show k < l.length by omega]
    rw [h2]
    omega

def awk (es : List (C × O)) (tr : List C) : Nat → List C
  | 0 => []
  | q + 1 => awk es tr q ++ match es[q]? with
    | some e => if idleAt es tr q then [] else [e.1]
    | none => []
theorem awk_len (es : List (C × O)) (tr : List C) : ∀ q, q ≤ es.length → (awk es tr q).length + (idl es tr q).length = q
  | 0, _ => rfl
  | q + 1, h => by
    have ih := awk_len es tr q (by omega)
    have hx : es[q]? = some es[q] := List.getElem?_eq_getElem (by omega)
    simp only [awk, idl, hx, List.length_append]
    by_cases hi : idleAt es tr q = true
    · rw [if_pos hi, if_pos hi]
      simp
      omega
    · rw [if_neg hi, if_neg hi]
      simp
      omega
theorem mem_awk {es : List (C × O)} {tr : List C} {c : C} : ∀ q, q ≤ es.length → (c ∈ awk es tr q ↔ c ∈ keys es q ∧ c ∈ tr)
  | 0, _ => by simp [awk, keys]
  | q + 1, h => by
    have ih := mem_awk (es := es) (tr := tr) (c := c) q (by omega)
    have hx : es[q]? = some es[q] := List.getElem?_eq_getElem (by omega)
    have hi := idleAt_eq (tr := tr) hx
    rw [keys_succ hx]
    simp only [awk, hx, List.mem_append, List.mem_singleton, ih]
    by_cases hid : idleAt es tr q = true
    · rw [if_pos hid]
      simp only [List.not_mem_nil, or_false]
      constructor
      · exact fun k => ⟨.inl k.1, k.2⟩
      · rintro ⟨k1 | k1, k2⟩
        · exact ⟨k1, k2⟩
        · rw [hi, ← k1, decide_eq_true k2] at hid
          simp at hid
          exact ⟨hid, k2⟩
    · rw [if_neg hid]
      simp only [List.mem_singleton]
      constructor
      · rintro (k | k)
        · exact ⟨.inl k.1, k.2⟩
        · rw [hi] at hid
          simp at hid
          exact ⟨.inr k, by rw [k]; exact hid.2⟩
      · rintro ⟨k1 | k1, k2⟩
        · exact .inl ⟨k1, k2⟩
        · exact .inr k1
theorem nodup_awk (es : List (C × O)) (tr : List C) : ∀ q, q ≤ es.length → (awk es tr q).Nodup
  | 0, _ => by simp [awk]
  | q + 1, h => by
    have ih := nodup_awk es tr q (by omega)
    have hx : es[q]? = some es[q] := List.getElem?_eq_getElem (by omega)
    have hi := idleAt_eq (tr := tr) hx
    simp only [awk, hx]
    by_cases hid : idleAt es tr q = true
    · rw [if_pos hid, List.append_nil]
      exact ih
    · rw [if_neg hid, List.nodup_append]
      refine ⟨ih, by simp, fun a ha b hb => ?_⟩
      simp at hb
      subst hb
      rintro rfl
      rw [hi] at hid
      simp at hid
      exact hid.1 ((mem_awk q (by omega)).1 ha).1

def O0 : O := ⟨false, V0⟩
def rowsOf (tr : List C) : List (C × O) := tr.map fun c => (c, O0)
/-- as many rows are awake as the trace has keys -/
theorem awake_len {es : List (C × O)} {tr : List C} (h : ∀ c ∈ tr, c ∈ es.map (·.1)) : (tabR (rowsOf tr)).length + (idl es tr es.length).length = es.length := by
  have h1 := awk_len es tr es.length (Nat.le_refl _)
  have hk : keys es es.length = es.map (·.1) := by unfold keys; rw [List.take_of_length_le (Nat.le_refl _)]
  have hr : (rowsOf tr).map (·.1) = tr := by unfold rowsOf; rw [List.map_map]; exact List.map_id tr
  have n1 := nodup_awk es tr es.length (Nat.le_refl _)
  have n2 := nodup_tabR (rowsOf tr)
  have m1 : ∀ c, c ∈ awk es tr es.length ↔ c ∈ tr := fun c => by
    rw [mem_awk es.length (Nat.le_refl _), hk]
    exact ⟨fun k => k.2, fun k => ⟨h c k, k⟩⟩
  have m2 : ∀ c, c ∈ (tabR (rowsOf tr)).map (·.1) ↔ c ∈ tr := fun c => by rw [mem_tabR, hr]
  have l1 := nodup_len _ _ n1 (fun c hc => (m2 c).2 ((m1 c).1 hc))
  have l2 := nodup_len _ _ n2 (fun c hc => (m1 c).2 ((m2 c).1 hc))
  rw [List.length_map] at l1 l2
  omega

/-- the trace that the picks make -/
def pickOf (es : List (C × O)) (i : Int) : List C := if 0 ≤ i then match es[i.toNat]? with
  | some e => [e.1]
  | none => [] else []
def trOf (es : List (C × O)) : List Int → List C
  | [] => []
  | i :: r => pickOf es i ++ trOf es r
theorem trOf_snoc (es : List (C × O)) (l : List Int) (i : Int) : trOf es (l ++ [i]) = trOf es l ++ pickOf es i := by
  induction l with
  | nil => simp [trOf]
  | cons x r ih => simp only [List.cons_append, trOf, ih, List.append_assoc]
theorem mem_trOf {es : List (C × O)} {c : C} : ∀ {l : List Int}, c ∈ trOf es l → c ∈ es.map (·.1)
  | i :: r, h => by
    simp only [trOf, List.mem_append] at h
    rcases h with h | h
    · unfold pickOf at h
      split at h
      · split at h
        · rename_i e he
          simp at h
          subst h
          exact List.mem_map.2 ⟨e, List.mem_of_getElem? he, rfl⟩
        · cases h
      · cases h
    · exact mem_trOf h
theorem trOf_len (es : List (C × O)) : ∀ l : List Int, (trOf es l).length ≤ l.length
  | [] => Nat.le_refl _
  | i :: r => by
    have := trOf_len es r
    have h1 : (pickOf es i).length ≤ 1 := by
      unfold pickOf
      split
      · split <;> simp
      · simp
    simp only [trOf, List.length_append, List.length_cons]
    omega
end Go.Proofs.Ytmicjfdibhoamaa.val
