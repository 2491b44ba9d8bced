/- Calls, outcomes, entries: how they lie in memory; lists of records anywhere. -/
import Derived.Test.YtmicjfdibhoamaaOwn
namespace Go.Proofs.Ytmicjfdibhoamaa.val
open Go.RowKit mem

/-- a call: four texts -/
structure C where
  p : ByteArray
  q : ByteArray
  f : ByteArray
  a : ByteArray
deriving DecidableEq
def C.cs (c : C) : List Value := [.string c.p, .string c.q, .string c.f, .string c.a]
def C.v (c : C) : Value := .agg #[.string c.p, .string c.q, .string c.f, .string c.a]
def C.ok (c : C) : Prop := c.p.size ≤ maxLen ∧ c.q.size ≤ maxLen ∧ c.f.size ≤ maxLen ∧ c.a.size ≤ maxLen
/-- an outcome -/
structure O where
  fail : Bool
  v : V
def V0 : V := .mk 0 false 0 0 ⟨#[]⟩ ⟨#[]⟩ [] []
/-- what counts of an outcome -/
def O.nrm (o : O) : O := if o.fail then ⟨true, V0⟩ else ⟨false, o.v⟩

def IsC (_ : World) (_ : Nat → Prop) (c : C) (cs : List Value) : Prop := cs = c.cs
def IsO (w : World) (S : Nat → Prop) (o : O) (cs : List Value) : Prop := ∃ ds, cs = .bool o.fail :: ds ∧ IsV w S o.v ds
def IsE (w : World) (S : Nat → Prop) (e : C × O) (cs : List Value) : Prop := ∃ ds, cs = .string e.1.p :: .string e.1.q :: .string e.1.f :: .string e.1.a :: .bool e.2.fail :: ds ∧ IsV w S e.2.v ds

theorem recC : Rec 4 IsC := ⟨fun h => by rw [h]; rfl, fun h => by rw [h]; intro u hu; simp [C.cs] at hu; rcases hu with rfl | rfl | rfl | rfl <;> rfl, fun _ _ h => h⟩
theorem recO : Rec 9 IsO := by
  refine ⟨fun h => ?_, fun h => ?_, fun hk hS h => ?_⟩
  · obtain ⟨ds, rfl, h⟩ := h
    simp [isV_len h]
  · obtain ⟨ds, rfl, h⟩ := h
    intro u hu
    rcases List.mem_cons.1 hu with rfl | hu
    · rfl
    · exact isV_one h u hu
  · obtain ⟨ds, rfl, h⟩ := h
    exact ⟨ds, rfl, h.keep hk hS⟩
theorem recE : Rec 13 IsE := by
  refine ⟨fun h => ?_, fun h => ?_, fun hk hS h => ?_⟩
  · obtain ⟨ds, rfl, h⟩ := h
    simp [isV_len h]
  · obtain ⟨ds, rfl, h⟩ := h
    intro u hu
    simp only [List.mem_cons] at hu
    rcases hu with rfl | rfl | rfl | rfl | rfl | hu
    · rfl
    · rfl
    · rfl
    · rfl
    · rfl
    · exact isV_one h u hu
  · obtain ⟨ds, rfl, h⟩ := h
    exact ⟨ds, rfl, h.keep hk hS⟩

/-- a list of records, wherever it lies -/
def LAt {α : Type} (size : Nat) (R : World → (Nat → Prop) → α → List Value → Prop) (w : World) (S : Nat → Prop) (l : List α) (A : Option Addr) : Prop :=
  ∀ (i : Nat) (x : α), l[i]? = some x → ∃ (ad : Addr) (cs : List Value), A = some ad ∧ S ad.block ∧ CellsAt w (ad.add (i * size)) cs ∧ R w S x cs
theorem LAt.keep {α : Type} {size : Nat} {R : World → (Nat → Prop) → α → List Value → Prop} (hR : Rec size R) {w w' : World} {S S' : Nat → Prop} {l : List α} {A : Option Addr} (h : LAt size R w S l A)
    (hk : ∀ p : Addr, S p.block → w'.cell? p = w.cell? p) (hS : ∀ b, S b → S' b) : LAt size R w' S' l A := fun i x hx => by
  obtain ⟨ad, cs, h1, h2, h3, h4⟩ := h i x hx
  exact ⟨ad, cs, h1, hS _ h2, h3.keep (S := S) (by rw [add_block]; exact h2) hk, hR.keep hk hS h4⟩
theorem LAt.below {α : Type} {size : Nat} {R : World → (Nat → Prop) → α → List Value → Prop} (hR : Rec size R) {w w' : World} {S : Nat → Prop} {B : Nat} {l : List α} {A : Option Addr} (h : LAt size R w S l A) (hS : Bel S B) (hb : Below B w w') : LAt size R w' S l A :=
  h.keep hR (fun _ hp => hb.cell (hS _ hp)) (fun _ h => h)
theorem LAt.nil {α : Type} {size : Nat} {R : World → (Nat → Prop) → α → List Value → Prop} {w : World} {S : Nat → Prop} {A : Option Addr} : LAt size R w S [] A := fun i x hx => by simp at hx

theorem own_at' {α : Type} {size : Nat} {R : World → (Nat → Prop) → α → List Value → Prop} (hR : Rec size R) {w : World} {base : Nat} {e : TypeId} {v : Value} {l : List α} {css : List (List Value)} {S : Nat → Prop}
    (hown : w.ownsRow base e size v l.length css.flatten) (h : Elems R w S l css) {j : Nat} {x : α} (hx : l[j]? = some x) :
    ∃ (g c : Nat) (cs : List Value), v = .slice (some ⟨g, 0, none⟩) l.length c ∧ base ≤ g ∧ g < w.heap.size ∧ CellsAt w ((⟨g, 0, none⟩ : Addr).add (j * size)) cs ∧ R w S x cs := by
  have hj : j < l.length := (List.getElem?_eq_some_iff.1 hx).1
  obtain ⟨g, c, cur, rfl, hbg, hlt, _, _, _, _, _⟩ := own_block hown (by omega)
  have hcs : css[j]? = some (css[j]'(by rw [h.1]; exact hj)) := List.getElem?_eq_getElem _
  refine ⟨g, c, _, rfl, hbg, hlt, fun o u hu => ?_, h.2 j x _ hx hcs⟩
  rw [add_add]
  exact hown.cells (g := g) rfl _ u (flat_get (elems_len hR h) hcs hu)
/-- an owned row of records reads as a list -/
theorem LAt.of_own {α : Type} {size : Nat} {R : World → (Nat → Prop) → α → List Value → Prop} (hR : Rec size R) {w : World} {base : Nat} {e : TypeId} {A : Option Addr} {n c : Nat} {l : List α} {css : List (List Value)} {S : Nat → Prop}
    (hown : w.ownsRow base e size (.slice A n c) l.length css.flatten) (h : Elems R w S l css) : LAt size R w (fun b => S b ∨ New base w b) l A := fun i x hx => by
  obtain ⟨g, c', cs, hv, hbg, hlt, hc, hr⟩ := own_at' hR hown h hx
  injection hv with hA _ _
  subst hA
  exact ⟨_, cs, rfl, .inr ⟨hbg, hlt⟩, hc, hR.keep (fun _ _ => rfl) (fun b hb => .inl hb) hr⟩

theorem LAt.tail {α : Type} {size : Nat} {R : World → (Nat → Prop) → α → List Value → Prop} {w : World} {S : Nat → Prop} {x : α} {l : List α} {ad : Addr} (h : LAt size R w S (x :: l) (some ad)) (hs : (ad.add size).block = ad.block) : LAt size R w S l (some (ad.add size)) := fun i y hy => by
  obtain ⟨ad', cs, h1, h2, h3, h4⟩ := h (i + 1) y (by simpa using hy)
  injection h1 with h1
  subst h1
  refine ⟨_, cs, rfl, by rw [hs]; exact h2, ?_, h4⟩
  rw [add_add, show size + i * size = (i + 1) * size from by rw [Nat.succ_mul]; omega]
  exact h3

/-- .. and such a list's cells, one after another -/
theorem LAt.cells {α : Type} {size : Nat} {R : World → (Nat → Prop) → α → List Value → Prop} (hR : Rec size R) {w : World} {S : Nat → Prop} {B : Nat} (hB : Bel S B) {l : List α} {A : Option Addr} (h : LAt size R w S l A) :
    ∃ css, Elems R w S l css ∧ Rd w B A css.flatten := by
  have main : ∀ k, k ≤ l.length → ∃ css, Elems R w S (l.take k) css ∧ Rd w B A css.flatten := by
    intro k
    induction k with
    | zero => exact fun _ => ⟨[], by simpa using Elems.nil, by simpa using Rd.nil⟩
    | succ k ih =>
      intro hk
      obtain ⟨css, h1, h2⟩ := ih (by omega)
      have hx : l[k]? = some l[k] := List.getElem?_eq_getElem (by omega)
      obtain ⟨ad, cs, hA, hS, hc, hr⟩ := h k _ hx
      have ht : l.take (k + 1) = l.take k ++ [l[k]] := by rw [List.take_add_one, hx]; rfl
      refine ⟨css ++ [cs], by rw [ht]; exact h1.snoc hr, ?_⟩
      have hlen : css.flatten.length = k * size := by
        have h3 := elems_len hR h1
        have h4 : css.length = k := by rw [h1.1]; simp; omega
        rw [← h4]
        clear h1 h2 h4 ht hc hr ih hx
        induction css with
        | nil => simp
        | cons c r ihh =>
          rw [List.flatten_cons, List.length_append, h3 c (by simp), ihh (fun x hx => h3 x (by simp [hx])), List.length_cons, Nat.succ_mul]
          omega
      intro j u hu
      by_cases hj : j < css.flatten.length
      · rw [List.flatten_append, List.getElem?_append_left hj] at hu
        exact h2 j u hu
      · rw [List.flatten_append, List.getElem?_append_right (by omega), hlen] at hu
        have hu' : cs[j - k * size]? = some u := by simpa using hu
        refine ⟨ad, hA, hB _ hS, ?_⟩
        have := hc _ u hu'
        rw [add_add] at this
        rw [show k * size + (j - k * size) = j from by omega] at this
        exact this
  obtain ⟨css, h1, h2⟩ := main l.length (Nat.le_refl _)
  rw [List.take_of_length_le (Nat.le_refl _)] at h1
  exact ⟨css, h1, h2⟩

theorem CellsAt.four {w : World} {a : Addr} {c0 c1 c2 c3 : Value} (h : CellsAt w a [c0, c1, c2, c3]) :
    w.cell? a = some c0 ∧ w.cell? ⟨a.block, a.off + 1, none⟩ = some c1 ∧ w.cell? ⟨a.block, a.off + 2, none⟩ = some c2 ∧ w.cell? ⟨a.block, a.off + 3, none⟩ = some c3 :=
  ⟨by simpa [Addr.add] using h 0 c0 rfl, h 1 c1 rfl, h 2 c2 rfl, h 3 c3 rfl⟩
theorem CellsAt.thirteen {w : World} {a : Addr} {c0 c1 c2 c3 c4 c5 c6 c7 c8 c9 c10 c11 c12 : Value} (h : CellsAt w a [c0, c1, c2, c3, c4, c5, c6, c7, c8, c9, c10, c11, c12]) :
    w.cell? a = some c0 ∧ w.cell? ⟨a.block, a.off + 1, none⟩ = some c1 ∧ w.cell? ⟨a.block, a.off + 2, none⟩ = some c2 ∧ w.cell? ⟨a.block, a.off + 3, none⟩ = some c3 ∧
    w.cell? ⟨a.block, a.off + 4, none⟩ = some c4 ∧ w.cell? ⟨a.block, a.off + 5, none⟩ = some c5 ∧ w.cell? ⟨a.block, a.off + 6, none⟩ = some c6 ∧ w.cell? ⟨a.block, a.off + 7, none⟩ = some c7 ∧ w.cell? ⟨a.block, a.off + 8, none⟩ = some c8 ∧
    w.cell? ⟨a.block, a.off + 9, none⟩ = some c9 ∧ w.cell? ⟨a.block, a.off + 10, none⟩ = some c10 ∧ w.cell? ⟨a.block, a.off + 11, none⟩ = some c11 ∧ w.cell? ⟨a.block, a.off + 12, none⟩ = some c12 :=
  ⟨by simpa [Addr.add] using h 0 c0 rfl, h 1 c1 rfl, h 2 c2 rfl, h 3 c3 rfl, h 4 c4 rfl, h 5 c5 rfl, h 6 c6 rfl, h 7 c7 rfl, h 8 c8 rfl, h 9 c9 rfl, h 10 c10 rfl, h 11 c11 rfl, h 12 c12 rfl⟩

/-- the law's 'wide' -/
def wideN : List (C × O) → Int → Bool
  | [], _ => false
  | e :: r, n => if 20000 ≤ n + pt e.2.v 20000 then true else wideN r (n + pt e.2.v 20000)
theorem wideN_drop {l : List (C × O)} {k : Nat} {e : C × O} (h : l[k]? = some e) (n : Int) : wideN (l.drop k) n = if 20000 ≤ n + pt e.2.v 20000 then true else wideN (l.drop (k + 1)) (n + pt e.2.v 20000) := by
  obtain ⟨hk, rfl⟩ := List.getElem?_eq_some_iff.1 h
  rw [List.drop_eq_getElem_cons hk]
  simp only [wideN]
/-- the sizes of all outcomes -/
def szE : List (C × O) → Nat
  | [] => 0
  | e :: r => sz e.2.v + szE r
theorem szE_get {l : List (C × O)} {j : Nat} {e : C × O} (h : l[j]? = some e) : sz e.2.v ≤ szE l := by
  induction l generalizing j with
  | nil => simp at h
  | cons x r ih =>
    simp only [szE]
    cases j with
    | zero => simp at h; subst h; omega
    | succ j => have := ih (j := j) (by simpa using h); omega
theorem szE_len (l : List (C × O)) : l.length ≤ szE l := by
  induction l with
  | nil => simp [szE]
  | cons x r ih => have := sz_pos x.2.v; simp only [szE, List.length_cons]; omega
end Go.Proofs.Ytmicjfdibhoamaa.val
