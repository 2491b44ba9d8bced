/- The rows that count, by the table and by the reference. -/
import Derived.Test.YtmicjfdibhoamaaRefRows
namespace Go.Proofs.Ytmicjfdibhoamaa.val

theorem get_none_mem {es : List (C × O)} {c : C} : get es c = none ↔ c ∉ es.map (·.1) := by
  induction es with
  | nil => simp [get]
  | cons e r ih =>
    simp only [get, List.map_cons, List.mem_cons, not_or]
    by_cases h : e.1 = c
    · rw [if_pos h]
      simp [h]
    · rw [if_neg h, ih]
      exact ⟨fun k => ⟨fun e => h e.symm, k⟩, fun k => k.2⟩
/-- the row of this number, as the table keeps it -/
def rowOf (es : List (C × O)) (i : Nat) : C × O := match es[i]? with
  | some e => (e.1, e.2.nrm)
  | none => (⟨⟨#[]⟩, ⟨#[]⟩, ⟨#[]⟩, ⟨#[]⟩⟩, O0)
theorem tabR_take (es : List (C × O)) : ∀ q, q ≤ es.length → tabR (es.take q) = (rowsTo (kys es) q).map (rowOf es)
  | 0, _ => rfl
  | q + 1, hq => by
    have ih := tabR_take es q (by omega)
    have hx : es[q]? = some es[q] := List.getElem?_eq_getElem (by omega)
    rw [List.take_succ_eq_append_getElem (by omega), tabR_snoc]
    simp only [rowsTo, List.map_append, ← ih]
    unfold put1
    have hk : (kys es)[q]? = some es[q].1 := by simp [kys, hx]
    have h1 : idx (tabR (es.take q)) es[q].1 = none ↔ firstB (kys es) q = true := by
      rw [← get_none_iff, get_tabR]
      unfold firstB
      rw [decide_eq_true_iff, keyAt_get hk, Option.map_eq_none_iff, get_none_mem]
      simp [kys, List.map_take]
    by_cases hf : firstB (kys es) q = true
    · rw [if_pos (h1.2 hf), if_pos hf]
      simp [rowOf, hx]
    · rw [if_neg (fun h => hf (h1.1 h)), if_neg hf]
      simp
theorem tabR_rows (es : List (C × O)) : tabR es = (rowsTo (kys es) es.length).map (rowOf es) := by
  have := tabR_take es es.length (Nat.le_refl _)
  rwa [List.take_of_length_le (Nat.le_refl _)] at this
theorem rowsTo_lt (cs : List C) : ∀ q, ∀ i ∈ rowsTo cs q, i < q
  | 0, i, h => by simp [rowsTo] at h
  | q + 1, i, h => by
    simp only [rowsTo, List.mem_append] at h
    rcases h with h | h
    · have := rowsTo_lt cs q i h
      omega
    · split at h
      · simp at h
        omega
      · cases h
end Go.Proofs.Ytmicjfdibhoamaa.val
