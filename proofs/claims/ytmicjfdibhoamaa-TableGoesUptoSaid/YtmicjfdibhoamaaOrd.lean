/- The ordered table: how it lies in memory. -/
import Derived.Test.YtmicjfdibhoamaaKey
import Derived.Test.YtmicjfdibhoamaaOut
namespace Go.Proofs.Ytmicjfdibhoamaa.val
open Go.RowKit mem

def get : List (C × O) → C → Option O
  | [], _ => none
  | e :: r, c => if e.1 = c then some e.2 else get r c
def idx : List (C × O) → C → Option Nat
  | [], _ => none
  | e :: r, c => if e.1 = c then some 0 else (idx r c).map (· + 1)
theorem idx_none {l : List (C × O)} {c : C} (h : idx l c = none) : get l c = none := by
  induction l with
  | nil => rfl
  | cons e r ih =>
    simp only [idx] at h
    simp only [get]
    split at h
    · cases h
    · rename_i hne
      rw [if_neg hne]
      exact ih (by simpa using h)
theorem idx_some {l : List (C × O)} {c : C} {q : Nat} (h : idx l c = some q) : ∃ o, l[q]? = some (c, o) ∧ get l c = some o := by
  induction l generalizing q with
  | nil => cases h
  | cons e r ih =>
    simp only [idx] at h
    simp only [get]
    split at h
    · rename_i he
      injection h with h
      subst h
      subst he
      exact ⟨e.2, rfl, by simp⟩
    · rename_i hne
      rw [if_neg hne]
      rw [Option.map_eq_some_iff] at h
      obtain ⟨q', h1, rfl⟩ := h
      obtain ⟨o, h2, h3⟩ := ih h1
      exact ⟨o, by simpa using h2, h3⟩
theorem get_none_iff {l : List (C × O)} {c : C} : get l c = none ↔ idx l c = none := by
  refine ⟨fun h => ?_, idx_none⟩
  cases hi : idx l c with
  | none => rfl
  | some q =>
    obtain ⟨o, _, h2⟩ := idx_some hi
    rw [h2] at h
    cases h
theorem idx_snoc {l : List (C × O)} {c d : C} {o : O} (h : idx l c = none) : idx (l ++ [(c, o)]) d = if d = c then some l.length else idx l d := by
  induction l with
  | nil =>
    simp only [List.nil_append, idx]
    by_cases hd : d = c
    · subst hd; simp
    · rw [if_neg (fun e => hd e.symm), if_neg hd]; rfl
  | cons e r ih =>
    simp only [idx] at h
    split at h
    · cases h
    · rename_i hne
      have ih' := ih (by simpa using h)
      simp only [List.cons_append, idx]
      by_cases he : e.1 = d
      · rw [if_pos he, if_pos he, if_neg (fun hh => hne (by rw [he, hh]))]
      · rw [if_neg he, if_neg he, ih']
        split <;> simp

/-- the blocks of the outcomes of a table -/
def Kid2 (w : World) (lo : Nat) (K U : Value) (b : Nat) : Prop := lo ≤ b ∧ b < w.heap.size ∧ K.ownBlock ≠ some b ∧ U.ownBlock ≠ some b
/-- the table in the blocks g (its map), g + 1 (itself), lo and above -/
def OrdAt (w : World) (g lo : Nat) (rows : List (C × O)) : Prop := ∃ (K U : Value) (css : List (List Value)), g + 2 ≤ lo ∧ lo ≤ w.heap.size ∧
  w.heap[g + 1]? = some (.cells #[.map (some g), K, U] 85 (0, 0)) ∧ MapIs w g rows.length (fun c => (idx rows c).map Int.ofNat) ∧
  w.ownsRow lo 25 4 K rows.length (rows.map (fun e => e.1.cs)).flatten ∧ w.ownsRow lo 37 9 U rows.length css.flatten ∧
  (∀ b, K.ownBlock = some b → U.ownBlock ≠ some b) ∧ Elems IsO w (Kid2 w lo K U) (rows.map (fun e => e.2)) css
theorem OrdAt.below {w w' : World} {g lo : Nat} {rows : List (C × O)} (h : OrdAt w g lo rows) (hb : Below w.heap.size w w') : OrdAt w' g lo rows := by
  obtain ⟨K, U, css, h1, h2, h3, h4, h5, h6, h7, h8⟩ := h
  have hs := hb.size
  exact ⟨K, U, css, h1, by omega, blk_below h3 hb (blk_lt h3), h4.heap (hb.block _ h4.lt), own_below h5 hb, own_below h6 hb, h7,
    h8.keep recO (fun p hp => hb.cell hp.2.1) (fun b hp => ⟨hp.1, by have := hp.2.1; omega, hp.2.2⟩)⟩
end Go.Proofs.Ytmicjfdibhoamaa.val
