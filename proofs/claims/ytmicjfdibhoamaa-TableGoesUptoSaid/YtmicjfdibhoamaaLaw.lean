/- Plain laws of tables: which row counts, how many. -/
import Derived.Test.YtmicjfdibhoamaaTab
namespace Go.Proofs.Ytmicjfdibhoamaa.val

theorem nrm_nrm (o : O) : o.nrm.nrm = o.nrm := by
  obtain ⟨f, v⟩ := o
  cases f <;> rfl
theorem get_append (l r : List (C × O)) (c : C) : get (l ++ r) c = match get l c with | some o => some o | none => get r c := by
  induction l with
  | nil => rfl
  | cons e l ih =>
    simp only [List.cons_append, get]
    split
    · rfl
    · exact ih
theorem get_put1 (rows : List (C × O)) (e : C × O) (c : C) : get (put1 rows e) c = match get rows c with | some o => some o | none => if e.1 = c then some e.2.nrm else none := by
  unfold put1
  split
  · rename_i h
    rw [get_append]
    cases get rows c with
    | some o => rfl
    | none => simp only [get]
  · rename_i h
    cases hg : get rows c with
    | some o => rfl
    | none =>
      rw [if_neg]
      rintro rfl
      exact h (get_none_iff.1 hg)
theorem get_fold (es rows : List (C × O)) (c : C) : get (es.foldl put1 rows) c = match get rows c with | some o => some o | none => (get es c).map O.nrm := by
  induction es generalizing rows with
  | nil => (rw [List.foldl_nil]; cases get rows c <;> rfl)
  | cons e r ih =>
    rw [List.foldl_cons, ih, get_put1]
    cases hg : get rows c with
    | some o => rfl
    | none =>
      simp only [get]
      by_cases he : e.1 = c
      · rw [if_pos he, if_pos he]
        rfl
      · rw [if_neg he, if_neg he]
/-- what the table answers: the first row of that key -/
theorem get_tabR (es : List (C × O)) (c : C) : get (tabR es) c = (get es c).map O.nrm := by
  unfold tabR
  rw [get_fold]
  rfl

theorem get_some_mem {l : List (C × O)} {c : C} {o : O} (h : get l c = some o) : (c, o) ∈ l := by
  induction l with
  | nil => cases h
  | cons e r ih =>
    simp only [get] at h
    split at h
    · rename_i he
      injection h with h
      subst h
      subst he
      exact List.mem_cons_self
    · exact List.mem_cons_of_mem _ (ih h)
theorem get_none_of {l : List (C × O)} {c : C} : get l c = none ↔ c ∉ l.map (·.1) := by
  induction l with
  | nil => simp [get]
  | cons e r ih =>
    simp only [get, List.map_cons, List.mem_cons, not_or]
    split
    · rename_i he
      simp [he]
    · rename_i he
      rw [ih]
      exact ⟨fun h => ⟨fun e => he e.symm, h⟩, fun h => h.2⟩

/-- the keys of a table: each once -/
theorem nodup_put1 {rows : List (C × O)} (h : (rows.map (·.1)).Nodup) (e : C × O) : ((put1 rows e).map (·.1)).Nodup := by
  unfold put1
  split
  · rename_i hi
    have := get_none_of.1 (idx_none hi)
    rw [List.map_append, List.nodup_append]
    refine ⟨h, by simp, ?_⟩
    intro a ha b hb
    simp at hb
    subst hb
    rintro rfl
    exact this ha
  · exact h
theorem nodup_fold (es : List (C × O)) : ∀ rows : List (C × O), (rows.map (·.1)).Nodup → ((es.foldl put1 rows).map (·.1)).Nodup := by
  induction es with
  | nil => exact fun rows h => h
  | cons e r ih => exact fun rows h => ih _ (nodup_put1 h e)
theorem nodup_tabR (es : List (C × O)) : ((tabR es).map (·.1)).Nodup := nodup_fold es [] (by simp)
theorem mem_tabR (es : List (C × O)) (c : C) : c ∈ (tabR es).map (·.1) ↔ c ∈ es.map (·.1) := by
  have h1 := get_none_of (l := tabR es) (c := c)
  have h2 := get_none_of (l := es) (c := c)
  rw [get_tabR] at h1
  constructor
  · intro h
    refine Classical.byContradiction fun hn => ?_
    have := h2.2 hn
    rw [this] at h1
    exact h1.1 rfl h
  · intro h
    refine Classical.byContradiction fun hn => ?_
    have := h1.2 hn
    have h3 : get es c = none := by
      cases hg : get es c with
      | none => rfl
      | some o => rw [hg] at this; cases this
    exact h2.1 h3 h
theorem nodup_len {α : Type} [DecidableEq α] : ∀ (l r : List α), l.Nodup → (∀ x ∈ l, x ∈ r) → l.length ≤ r.length
  | [], r, _, _ => Nat.zero_le _
  | a :: l, r, hn, hs => by
    have ha : a ∈ r := hs a List.mem_cons_self
    have hn' := List.nodup_cons.1 hn
    have := nodup_len l (r.erase a) hn'.2 (fun x hx => by
      rw [List.mem_erase_of_ne]
      · exact hs x (List.mem_cons_of_mem _ hx)
      · rintro rfl
        exact hn'.1 hx)
    rw [List.length_erase_of_mem ha] at this
    have hp : 0 < r.length := List.length_pos_of_mem ha
    simp only [List.length_cons]
    omega
/-- two lists of rows with the same keys make tables of one length -/
theorem tabR_len_eq {l r : List (C × O)} (h : ∀ c, c ∈ l.map (·.1) ↔ c ∈ r.map (·.1)) : (tabR l).length = (tabR r).length := by
  have h1 := nodup_len _ _ (nodup_tabR l) (fun x hx => (mem_tabR r x).2 ((h x).1 ((mem_tabR l x).1 hx)))
  have h2 := nodup_len _ _ (nodup_tabR r) (fun x hx => (mem_tabR l x).2 ((h x).2 ((mem_tabR r x).1 hx)))
  simp only [List.length_map] at h1 h2
  omega
theorem tabR_ahead_len (es : List (C × O)) (e : C × O) : (tabR (e :: es)).length = (tabR es).length + (if (get es e.1).isSome then 0 else 1) := by
  have h1 : (tabR (e :: es)).length = (tabR (es ++ [e])).length := tabR_len_eq (fun c => by simp [or_comm])
  rw [h1, tabR_snoc, put1]
  have hg := get_tabR es e.1
  cases h : get es e.1 with
  | none =>
    rw [h] at hg
    rw [if_pos (get_none_iff.1 hg)]
    simp
  | some o =>
    rw [h] at hg
    rw [if_neg (fun hi => by rw [idx_none hi] at hg; cases hg)]
    simp
theorem tabR_behind_len (es : List (C × O)) (e : C × O) : (tabR (es ++ [e])).length = (tabR es).length + (if (get es e.1).isSome then 0 else 1) := by
  rw [← tabR_ahead_len]
  exact tabR_len_eq (fun c => by simp [or_comm])
end Go.Proofs.Ytmicjfdibhoamaa.val
