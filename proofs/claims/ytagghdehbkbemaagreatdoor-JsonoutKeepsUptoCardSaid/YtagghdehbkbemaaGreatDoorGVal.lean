/- Trees of values: a plain type, its size, and how such a tree lies in memory. PLAIN LEAN: how the layer writes a text: character by character; and the laws on it. -/
import Derived.Test.YtagghdehbkbemaaGreatDoorGMem
import Derived.Lib.RuneBytes
import Derived.Lib.MapLaws
import Derived.Lib.ValidLaws
import Derived.Lib.TrimUEq
section
set_option linter.unusedVariables false
namespace Go.Proofs.YtagghdehbkbemaaGreatDoor.val
open Go.RowKit mem

/-- a value: kind, bool, int, float's bits, text, type, items, members -/
inductive V where
  | mk (k : Int) (b : Bool) (i : Int) (f : Nat) (t y : ByteArray) (items : List V) (fields : List (ByteArray × V))

mutual
/-- how many parts -/
def sz : V → Nat
  | .mk _ _ _ _ _ _ is fs => 1 + szs is + szf fs
def szs : List V → Nat
  | [] => 0
  | v :: r => sz v + szs r
def szf : List (ByteArray × V) → Nat
  | [] => 0
  | (_, v) :: r => sz v + szf r
end

theorem sz_pos (v : V) : 0 < sz v := by cases v; simp only [sz]; omega
theorem szs_get {l : List V} {j : Nat} {v : V} (h : l[j]? = some v) : sz v ≤ szs l := by
  induction l generalizing j with
  | nil => simp at h
  | cons x r ih =>
    simp only [szs]
    cases j with
    | zero => simp at h; subst h; omega
    | succ j => have := ih (j := j) (by simpa using h); omega
theorem szf_get {l : List (ByteArray × V)} {j : Nat} {p : ByteArray × V} (h : l[j]? = some p) : sz p.2 ≤ szf l := by
  induction l generalizing j with
  | nil => simp at h
  | cons x r ih =>
    obtain ⟨s, x⟩ := x
    simp only [szf]
    cases j with
    | zero => simp at h; subst h; show sz x ≤ _; omega
    | succ j => have := ih (j := j) (by simpa using h); omega
theorem szs_len (l : List V) : l.length ≤ szs l := by
  induction l with
  | nil => simp [szs]
  | cons x r ih => have := sz_pos x; simp only [szs, List.length_cons]; omega
theorem szf_len (l : List (ByteArray × V)) : l.length ≤ szf l := by
  induction l with
  | nil => simp [szf]
  | cons x r ih => obtain ⟨s, x⟩ := x; have := sz_pos x; simp only [szf, List.length_cons]; omega

/-- the cells from an address on -/
def CellsAt (w : World) (a : Addr) (cs : List Value) : Prop := ∀ o u, cs[o]? = some u → w.cell? (a.add o) = some u

mutual
/-- the eight cells of a value; all blocks of its lists are in S -/
def IsV (w : World) (S : Nat → Prop) : V → List Value → Prop
  | .mk k b i f t y is fs, cs => ∃ (A : Option Addr) (c : Nat) (A' : Option Addr) (c' : Nat),
      cs = [.int .i64 k, .bool b, .int .i64 i, .float .f64 f, .string t, .string y, .slice A is.length c, .slice A' fs.length c'] ∧
      (A = none → is.length = 0) ∧ (A' = none → fs.length = 0) ∧ IsVs w S is A 0 ∧ IsFs w S fs A' 0
def IsVs (w : World) (S : Nat → Prop) : List V → Option Addr → Nat → Prop
  | [], _, _ => True
  | v :: r, A, j => (∃ (ad : Addr) (cs : List Value), A = some ad ∧ S ad.block ∧ CellsAt w (ad.add (j * 8)) cs ∧ IsV w S v cs) ∧ IsVs w S r A (j + 1)
def IsFs (w : World) (S : Nat → Prop) : List (ByteArray × V) → Option Addr → Nat → Prop
  | [], _, _ => True
  | (s, v) :: r, A, j => (∃ (ad : Addr) (cs : List Value), A = some ad ∧ S ad.block ∧ CellsAt w (ad.add (j * 9)) (.string s :: cs) ∧ IsV w S v cs) ∧ IsFs w S r A (j + 1)
end

theorem CellsAt.keep {w w' : World} {a : Addr} {cs : List Value} {S : Nat → Prop} (h : CellsAt w a cs) (ha : S a.block) (hk : ∀ p : Addr, S p.block → w'.cell? p = w.cell? p) : CellsAt w' a cs :=
  fun o u hu => (hk _ (by rw [add_block]; exact ha)).trans (h o u hu)

mutual
theorem IsV.keep {w w' : World} {S S' : Nat → Prop} (hk : ∀ p : Addr, S p.block → w'.cell? p = w.cell? p) (hS : ∀ b, S b → S' b) : ∀ (v : V) (cs : List Value), IsV w S v cs → IsV w' S' v cs
  | .mk _ _ _ _ _ _ is fs, cs, h => by
    simp only [IsV] at h ⊢
    obtain ⟨A, c, A', c', h1, h2, h3, h4, h5⟩ := h
    exact ⟨A, c, A', c', h1, h2, h3, IsVs.keep hk hS is A 0 h4, IsFs.keep hk hS fs A' 0 h5⟩
theorem IsVs.keep {w w' : World} {S S' : Nat → Prop} (hk : ∀ p : Addr, S p.block → w'.cell? p = w.cell? p) (hS : ∀ b, S b → S' b) : ∀ (l : List V) (A : Option Addr) (j : Nat), IsVs w S l A j → IsVs w' S' l A j
  | [], _, _, _ => by simp only [IsVs]
  | v :: r, A, j, h => by
    simp only [IsVs] at h ⊢
    obtain ⟨⟨ad, cs, h1, h2, h3, h4⟩, h5⟩ := h
    exact ⟨⟨ad, cs, h1, hS _ h2, h3.keep (S := S) (by rw [add_block]; exact h2) hk, IsV.keep hk hS v cs h4⟩, IsVs.keep hk hS r A (j + 1) h5⟩
theorem IsFs.keep {w w' : World} {S S' : Nat → Prop} (hk : ∀ p : Addr, S p.block → w'.cell? p = w.cell? p) (hS : ∀ b, S b → S' b) : ∀ (l : List (ByteArray × V)) (A : Option Addr) (j : Nat), IsFs w S l A j → IsFs w' S' l A j
  | [], _, _, _ => by simp only [IsFs]
  | (s, v) :: r, A, j, h => by
    simp only [IsFs] at h ⊢
    obtain ⟨⟨ad, cs, h1, h2, h3, h4⟩, h5⟩ := h
    exact ⟨⟨ad, cs, h1, hS _ h2, h3.keep (S := S) (by rw [add_block]; exact h2) hk, IsV.keep hk hS v cs h4⟩, IsFs.keep hk hS r A (j + 1) h5⟩
end

/-- blocks below B alone -/
def Bel (S : Nat → Prop) (B : Nat) : Prop := ∀ b, S b → b < B
theorem Bel.mono {S : Nat → Prop} {B B' : Nat} (h : Bel S B) (hB : B ≤ B') : Bel S B' := fun b hb => Nat.lt_of_lt_of_le (h b hb) hB
theorem IsV.below {w w' : World} {S : Nat → Prop} {B : Nat} {v : V} {cs : List Value} (h : IsV w S v cs) (hS : Bel S B) (hb : Below B w w') : IsV w' S v cs := h.keep (fun _ hp => hb.cell (hS _ hp)) (fun _ h => h)
theorem IsVs.below {w w' : World} {S : Nat → Prop} {B : Nat} {l : List V} {A : Option Addr} {j : Nat} (h : IsVs w S l A j) (hS : Bel S B) (hb : Below B w w') : IsVs w' S l A j := h.keep (fun _ hp => hb.cell (hS _ hp)) (fun _ h => h)
theorem IsFs.below {w w' : World} {S : Nat → Prop} {B : Nat} {l : List (ByteArray × V)} {A : Option Addr} {j : Nat} (h : IsFs w S l A j) (hS : Bel S B) (hb : Below B w w') : IsFs w' S l A j := h.keep (fun _ hp => hb.cell (hS _ hp)) (fun _ h => h)
theorem IsV.more {w : World} {S S' : Nat → Prop} {v : V} {cs : List Value} (h : IsV w S v cs) (hS : ∀ b, S b → S' b) : IsV w S' v cs := h.keep (fun _ _ => rfl) hS

theorem IsVs.at_ {w : World} {S : Nat → Prop} {A : Option Addr} : ∀ {l : List V} {j : Nat}, IsVs w S l A j → ∀ {i : Nat} {v : V}, l[i]? = some v →
    ∃ (ad : Addr) (cs : List Value), A = some ad ∧ S ad.block ∧ CellsAt w (ad.add ((j + i) * 8)) cs ∧ IsV w S v cs
  | [], _, _, _, _, hv => by simp at hv
  | x :: r, j, h, i, v, hv => by
    simp only [IsVs] at h
    cases i with
    | zero => simp at hv; subst hv; exact h.1
    | succ i =>
      have := IsVs.at_ h.2 (i := i) (v := v) (by simpa using hv)
      rw [show j + 1 + i = j + (i + 1) from by omega] at this
      exact this
theorem IsFs.at_ {w : World} {S : Nat → Prop} {A : Option Addr} : ∀ {l : List (ByteArray × V)} {j : Nat}, IsFs w S l A j → ∀ {i : Nat} {p : ByteArray × V}, l[i]? = some p →
    ∃ (ad : Addr) (cs : List Value), A = some ad ∧ S ad.block ∧ CellsAt w (ad.add ((j + i) * 9)) (.string p.1 :: cs) ∧ IsV w S p.2 cs
  | [], _, _, _, _, hv => by simp at hv
  | (s, x) :: r, j, h, i, p, hv => by
    simp only [IsFs] at h
    cases i with
    | zero => simp at hv; subst hv; exact h.1
    | succ i =>
      have := IsFs.at_ h.2 (i := i) (p := p) (by simpa using hv)
      rw [show j + 1 + i = j + (i + 1) from by omega] at this
      exact this
theorem IsVs.of {w : World} {S : Nat → Prop} {A : Option Addr} : ∀ {l : List V} {j : Nat}, (∀ (i : Nat) (v : V), l[i]? = some v →
    ∃ (ad : Addr) (cs : List Value), A = some ad ∧ S ad.block ∧ CellsAt w (ad.add ((j + i) * 8)) cs ∧ IsV w S v cs) → IsVs w S l A j
  | [], _, _ => by simp only [IsVs]
  | x :: r, j, h => by
    simp only [IsVs]
    refine ⟨h 0 x (by simp), IsVs.of fun i v hv => ?_⟩
    have := h (i + 1) v (by simpa using hv)
    rw [show j + (i + 1) = j + 1 + i from by omega] at this
    exact this
theorem IsFs.of {w : World} {S : Nat → Prop} {A : Option Addr} : ∀ {l : List (ByteArray × V)} {j : Nat}, (∀ (i : Nat) (p : ByteArray × V), l[i]? = some p →
    ∃ (ad : Addr) (cs : List Value), A = some ad ∧ S ad.block ∧ CellsAt w (ad.add ((j + i) * 9)) (.string p.1 :: cs) ∧ IsV w S p.2 cs) → IsFs w S l A j
  | [], _, _ => by simp only [IsFs]
  | (s, x) :: r, j, h => by
    simp only [IsFs]
    refine ⟨h 0 (s, x) (by simp), IsFs.of fun i p hp => ?_⟩
    have := h (i + 1) p (by simpa using hp)
    rw [show j + (i + 1) = j + 1 + i from by omega] at this
    exact this
/-- eight cells, one by one, as a load of a struct spells them -/
theorem CellsAt.eight {w : World} {a : Addr} {c0 c1 c2 c3 c4 c5 c6 c7 : Value} (h : CellsAt w a [c0, c1, c2, c3, c4, c5, c6, c7]) :
    w.cell? a = some c0 ∧ w.cell? ⟨a.block, a.off + 1, none⟩ = some c1 ∧ w.cell? ⟨a.block, a.off + 2, none⟩ = some c2 ∧ w.cell? ⟨a.block, a.off + 3, none⟩ = some c3 ∧
    w.cell? ⟨a.block, a.off + 4, none⟩ = some c4 ∧ w.cell? ⟨a.block, a.off + 5, none⟩ = some c5 ∧ w.cell? ⟨a.block, a.off + 6, none⟩ = some c6 ∧ w.cell? ⟨a.block, a.off + 7, none⟩ = some c7 :=
  ⟨by simpa [Addr.add] using h 0 c0 rfl, h 1 c1 rfl, h 2 c2 rfl, h 3 c3 rfl, h 4 c4 rfl, h 5 c5 rfl, h 6 c6 rfl, h 7 c7 rfl⟩
theorem CellsAt.nine {w : World} {a : Addr} {s c0 c1 c2 c3 c4 c5 c6 c7 : Value} (h : CellsAt w a [s, c0, c1, c2, c3, c4, c5, c6, c7]) :
    w.cell? a = some s ∧ w.cell? ⟨a.block, a.off + 1, none⟩ = some c0 ∧ w.cell? ⟨a.block, a.off + 2, none⟩ = some c1 ∧ w.cell? ⟨a.block, a.off + 3, none⟩ = some c2 ∧ w.cell? ⟨a.block, a.off + 4, none⟩ = some c3 ∧
    w.cell? ⟨a.block, a.off + 5, none⟩ = some c4 ∧ w.cell? ⟨a.block, a.off + 6, none⟩ = some c5 ∧ w.cell? ⟨a.block, a.off + 7, none⟩ = some c6 ∧ w.cell? ⟨a.block, a.off + 8, none⟩ = some c7 :=
  ⟨by simpa [Addr.add] using h 0 s rfl, h 1 c0 rfl, h 2 c1 rfl, h 3 c2 rfl, h 4 c3 rfl, h 5 c4 rfl, h 6 c5 rfl, h 7 c6 rfl, h 8 c7 rfl⟩

mutual
/-- the law's 'parts' -/
def pt : V → Int → Int
  | .mk _ _ _ _ _ _ is fs, m => ptf fs m (pts is m 1)
def pts : List V → Int → Int → Int
  | [], _, n => n
  | v :: r, m, n => if m ≤ n then n else pts r m (n + pt v (m - n))
def ptf : List (ByteArray × V) → Int → Int → Int
  | [], _, n => n
  | (_, v) :: r, m, n => if m ≤ n then n else ptf r m (n + pt v (m - n))
end
theorem pts_full {l : List V} {m n : Int} (h : m ≤ n) : pts l m n = n := by
  cases l with
  | nil => simp only [pts]
  | cons v r => simp only [pts]; rw [if_pos h]
theorem ptf_full {l : List (ByteArray × V)} {m n : Int} (h : m ≤ n) : ptf l m n = n := by
  cases l with
  | nil => simp only [ptf]
  | cons v r => obtain ⟨s, v⟩ := v; simp only [ptf]; rw [if_pos h]
mutual
theorem pt_bd : ∀ (v : V) (m : Int), 1 ≤ pt v m ∧ pt v m ≤ sz v
  | .mk _ _ _ _ _ _ is fs, m => by
    simp only [pt, sz]
    have h1 := pts_bd is m 1 (by omega)
    have h2 := ptf_bd fs m (pts is m 1) h1.1
    omega
theorem pts_bd : ∀ (l : List V) (m n : Int), 1 ≤ n → 1 ≤ pts l m n ∧ pts l m n ≤ n + szs l
  | [], m, n, h => by simp only [pts, szs]; omega
  | v :: r, m, n, h => by
    simp only [pts, szs]
    split
    · omega
    · have h1 := pt_bd v (m - n)
      have h2 := pts_bd r m (n + pt v (m - n)) (by omega)
      omega
theorem ptf_bd : ∀ (l : List (ByteArray × V)) (m n : Int), 1 ≤ n → 1 ≤ ptf l m n ∧ ptf l m n ≤ n + szf l
  | [], m, n, h => by simp only [ptf, szf]; omega
  | (s, v) :: r, m, n, h => by
    simp only [ptf, szf]
    split
    · omega
    · have h1 := pt_bd v (m - n)
      have h2 := ptf_bd r m (n + pt v (m - n)) (by omega)
      omega
end
theorem pts_drop {l : List V} {k : Nat} {v : V} (h : l[k]? = some v) (m n : Int) : pts (l.drop k) m n = if m ≤ n then n else pts (l.drop (k + 1)) m (n + pt v (m - n)) := by
  obtain ⟨hk, rfl⟩ := List.getElem?_eq_some_iff.1 h
  rw [List.drop_eq_getElem_cons hk]
  simp only [pts]
theorem ptf_drop {l : List (ByteArray × V)} {k : Nat} {p : ByteArray × V} (h : l[k]? = some p) (m n : Int) : ptf (l.drop k) m n = if m ≤ n then n else ptf (l.drop (k + 1)) m (n + pt p.2 (m - n)) := by
  obtain ⟨hk, rfl⟩ := List.getElem?_eq_some_iff.1 h
  rw [List.drop_eq_getElem_cons hk]
  cases l[k]
  simp only [ptf]
end Go.Proofs.YtagghdehbkbemaaGreatDoor.val
end
section
set_option linter.unusedVariables false
namespace Go.Proofs.YtagghdehbkbemaaGreatDoor.txt
open Go.Lib

/-- a digit of base sixteen, by its letter -/
def hexd (n : Nat) : Int := if n < 10 then 48 + n else 87 + n
/-- the letter of the escape of a character; 0: none -/
def escB (r : Nat) : Nat :=
  if r = 34 ∨ r = 92 then r else if 32 ≤ r then 0 else if r = 8 then 98 else if r = 9 then 116 else if r = 10 then 110 else if r = 12 then 102 else if r = 13 then 114 else 117
/-- what stands for a character, as integers -/
def escZ (r : Nat) : List Int :=
  if escB r = 0 then encodeRuneZ r else if escB r = 117 then [92, 117, 48, 48, hexd (r / 16), hexd (r % 16)] else [92, escB r]
/-- the characters of a text by the model's decoder -/
def runesN : Nat → List UInt8 → List Nat
  | 0, _ => []
  | n + 1, l => if l = [] then [] else (decodeL l).1 :: runesN n (l.drop (decodeL l).2)
def runes (l : List UInt8) : List Nat := runesN l.length l
def encZ (l : List UInt8) : List Int := (runes l).flatMap escZ
/-- the whole text between its quotes -/
def quoteZ (l : List UInt8) : List Int := 34 :: (encZ l ++ [34])

theorem runesN_nil (n : Nat) : runesN n [] = [] := by cases n <;> simp [runesN]
theorem runesN_fuel : ∀ (n m : Nat) (l : List UInt8), l.length ≤ n → l.length ≤ m → runesN n l = runesN m l
  | 0, m, l, hn, _ => by
    obtain rfl : l = [] := List.eq_nil_of_length_eq_zero (by omega)
    rw [runesN_nil, runesN_nil]
  | n + 1, 0, l, _, hm => by
    obtain rfl : l = [] := List.eq_nil_of_length_eq_zero (by omega)
    rw [runesN_nil, runesN_nil]
  | n + 1, m + 1, l, hn, hm => by
    unfold runesN
    by_cases hne : l = []
    · simp [hne]
    · have hw := decodeL_width l
      have hl : 0 < l.length := List.length_pos_iff.2 hne
      rw [if_neg hne, if_neg hne, runesN_fuel n m (l.drop (decodeL l).2) (by rw [List.length_drop]; omega) (by rw [List.length_drop]; omega)]
theorem runes_nil : runes [] = [] := rfl
theorem runes_step (l : List UInt8) (hne : l ≠ []) : runes l = (decodeL l).1 :: runes (l.drop (decodeL l).2) := by
  have hl : 0 < l.length := List.length_pos_iff.2 hne
  have hw := decodeL_width l
  obtain ⟨n, hn⟩ : ∃ n, l.length = n + 1 := ⟨l.length - 1, by omega⟩
  unfold runes
  rw [hn]
  show (if l = [] then _ else _) = _
  rw [if_neg hne, runesN_fuel n (l.drop (decodeL l).2).length _ (by rw [List.length_drop]; omega) (Nat.le_refl _)]
theorem encZ_nil : encZ [] = [] := rfl
theorem encZ_step (l : List UInt8) (hne : l ≠ []) : encZ l = escZ (decodeL l).1 ++ encZ (l.drop (decodeL l).2) := by
  unfold encZ
  rw [runes_step l hne]
  rfl

theorem hexd_byte {n : Nat} (h : n < 16) : 0 ≤ hexd n ∧ hexd n < 256 := by unfold hexd; split <;> omega
theorem escB_lt (r : Nat) : escB r < 256 := by
  unfold escB
  repeat' split
  all_goals omega
theorem escB_low {r : Nat} (h : escB r = 117) : r < 32 := by
  unfold escB at h
  split at h
  · omega
  · split at h <;> omega
theorem escZ_byte (r : Nat) : ∀ x ∈ escZ r, 0 ≤ x ∧ x < 256 := by
  intro x hx
  unfold escZ at hx
  split at hx
  · exact encodeRuneZ_byte _ x hx
  · split at hx
    · rename_i h
      have hr := escB_low h
      have h1 := hexd_byte (n := r / 16) (by omega)
      have h2 := hexd_byte (n := r % 16) (by omega)
      simp only [List.mem_cons, List.mem_nil_iff, or_false] at hx
      rcases hx with rfl | rfl | rfl | rfl | rfl | rfl <;> omega
    · have := escB_lt r
      simp only [List.mem_cons, List.mem_nil_iff, or_false] at hx
      rcases hx with rfl | rfl <;> omega
theorem encZ_byte (l : List UInt8) : ∀ x ∈ encZ l, 0 ≤ x ∧ x < 256 := by
  intro x hx
  unfold encZ at hx
  obtain ⟨r, _, hr⟩ := List.mem_flatMap.1 hx
  exact escZ_byte r x hr
theorem quoteZ_byte (l : List UInt8) : ∀ x ∈ quoteZ l, 0 ≤ x ∧ x < 256 := by
  intro x hx
  simp only [quoteZ, List.mem_cons, List.mem_append, List.mem_nil_iff, or_false] at hx
  rcases hx with rfl | h | rfl
  · omega
  · exact encZ_byte l x h
  · omega
/-- at most six bytes a character -/
theorem escZ_length (r : Nat) : (escZ r).length ≤ 6 := by
  unfold escZ
  split
  · have := (encodeRuneZ_length r).2; omega
  · split <;> simp
theorem encZ_length : ∀ (n : Nat) (l : List UInt8), l.length ≤ n → (encZ l).length ≤ 6 * n
  | 0, l, h => by
    obtain rfl : l = [] := List.eq_nil_of_length_eq_zero (by omega)
    simp [encZ_nil]
  | n + 1, l, h => by
    by_cases hne : l = []
    · subst hne; simp [encZ_nil]
    · have hw := decodeL_width l
      have hl : 0 < l.length := List.length_pos_iff.2 hne
      rw [encZ_step l hne, List.length_append]
      have h1 := escZ_length (decodeL l).1
      have h2 := encZ_length n (l.drop (decodeL l).2) (by rw [List.length_drop]; omega)
      omega

/-! ### the text of two texts -/
theorem dN2 (n b0 b1 b2 b3 : Nat) (h0 : b0 / 32 = 6) (hn : 1 < n) (h1 : b1 / 64 = 2) (hv : 128 ≤ b0 % 32 * 64 + b1 % 64) : decodeN n b0 b1 b2 b3 = (b0 % 32 * 64 + b1 % 64, 2) := by
  unfold decodeN
  rw [if_neg (by omega), if_pos ⟨h0, hn, h1⟩, if_pos hv]
theorem dN3 (n b0 b1 b2 b3 : Nat) (h0 : b0 / 16 = 14) (hn : 2 < n) (h1 : b1 / 64 = 2) (h2 : b2 / 64 = 2) (hv : 2048 ≤ b0 % 16 * 4096 + b1 % 64 * 64 + b2 % 64)
    (hw : b0 % 16 * 4096 + b1 % 64 * 64 + b2 % 64 < 55296 ∨ 57344 ≤ b0 % 16 * 4096 + b1 % 64 * 64 + b2 % 64) : decodeN n b0 b1 b2 b3 = (b0 % 16 * 4096 + b1 % 64 * 64 + b2 % 64, 3) := by
  unfold decodeN
  rw [if_neg (by omega), if_neg (by omega), if_pos ⟨h0, ⟨by omega, h1⟩, hn, h2⟩, if_pos ⟨hv, by omega⟩]
theorem dN4 (n b0 b1 b2 b3 : Nat) (h0 : b0 / 8 = 30) (hn : 3 < n) (h1 : b1 / 64 = 2) (h2 : b2 / 64 = 2) (h3 : b3 / 64 = 2) (hv : 65536 ≤ b0 % 8 * 262144 + b1 % 64 * 4096 + b2 % 64 * 64 + b3 % 64)
    (hw : b0 % 8 * 262144 + b1 % 64 * 4096 + b2 % 64 * 64 + b3 % 64 ≤ 1114111) : decodeN n b0 b1 b2 b3 = (b0 % 8 * 262144 + b1 % 64 * 4096 + b2 % 64 * 64 + b3 % 64, 4) := by
  unfold decodeN
  rw [if_neg (by omega), if_neg (by omega), if_neg (by omega), if_pos ⟨h0, ⟨by omega, h1⟩, ⟨by omega, h2⟩, hn, h3⟩, if_pos ⟨hv, by omega⟩]
theorem getD_appL (l r : List UInt8) (k : Nat) (h : k < l.length) : (l ++ r).getD k 0 = l.getD k 0 := by
  simp only [List.getD]
  rw [List.getElem?_append_left h]
theorem decodeL_app (l r : List UInt8) (hne : l ≠ []) (hv : ¬ ((decodeL l).1 = 65533 ∧ (decodeL l).2 = 1)) : decodeL (l ++ r) = decodeL l := by
  have hl : 0 < l.length := List.length_pos_iff.2 hne
  rw [decodeL_N] at hv
  rw [decodeL_N, decodeL_N l]
  have hlen : (l ++ r).length = l.length + r.length := List.length_append
  rcases decodeN_shape l.length (l.getD 0 0).toNat (l.getD 1 0).toNat (l.getD 2 0).toNat (l.getD 3 0).toNat with ⟨c, e⟩ | ⟨c1, c2, c3, cv, e⟩ | ⟨c1, c2, c3, c4, cv, cs, e⟩ | ⟨c1, c2, c3, c4, c5, cv, cw, e⟩ | e
  · rw [e, getD_appL l r 0 hl]
    unfold decodeN
    rw [if_pos c]
  · rw [e, getD_appL l r 0 hl, getD_appL l r 1 c2]
    exact dN2 _ _ _ _ _ c1 (by omega) c3 cv
  · rw [e, getD_appL l r 0 hl, getD_appL l r 1 (by omega), getD_appL l r 2 c2]
    exact dN3 _ _ _ _ _ c1 (by omega) c3 c4 cv cs
  · rw [e, getD_appL l r 0 hl, getD_appL l r 1 (by omega), getD_appL l r 2 (by omega), getD_appL l r 3 c2]
    exact dN4 _ _ _ _ _ c1 (by omega) c3 c4 c5 cv cw
  · rw [e] at hv
    exact absurd ⟨rfl, rfl⟩ hv
theorem valid_step {l : List UInt8} (hne : l ≠ []) (h : validD l = true) : ¬ ((decodeL l).1 = 65533 ∧ (decodeL l).2 = 1) ∧ validD (l.drop (decodeL l).2) = true := by
  rw [validD_step l hne] at h
  split at h
  · cases h
  · exact ⟨by assumption, h⟩
theorem app_both : ∀ (n : Nat) (l r : List UInt8), l.length ≤ n → validD l = true → validD (l ++ r) = validD r ∧ encZ (l ++ r) = encZ l ++ encZ r
  | 0, l, r, h, _ => by
    obtain rfl : l = [] := List.eq_nil_of_length_eq_zero (by omega)
    exact ⟨rfl, rfl⟩
  | n + 1, l, r, h, hv => by
    by_cases hne : l = []
    · subst hne; exact ⟨rfl, rfl⟩
    · have hw := decodeL_width l
      have hle := decodeL_le l hne
      obtain ⟨h1, h2⟩ := valid_step hne hv
      have hd := decodeL_app l r hne h1
      have hnr : l ++ r ≠ [] := by simp [hne]
      obtain ⟨i1, i2⟩ := app_both n (l.drop (decodeL l).2) r (by rw [List.length_drop]; omega) h2
      have hdr : (l ++ r).drop (decodeL l).2 = l.drop (decodeL l).2 ++ r := List.drop_append_of_le_length hle
      rw [validD_step _ hnr, hd, if_neg h1, hdr, encZ_step _ hnr, hd, hdr, i1, i2, encZ_step l hne, List.append_assoc]
      exact ⟨rfl, rfl⟩
end Go.Proofs.YtagghdehbkbemaaGreatDoor.txt
end
