/- Owned lists of entries: handed to New, to wide; two of them one behind the other. -/
import Derived.Test.YtmicjfdibhoamaaWorks
import Derived.Test.YtmicjfdibhoamaaWide
import Derived.Test.YtmicjfdibhoamaaLaw
namespace Go.Proofs.Ytmicjfdibhoamaa.val
open Go.RowKit mem

theorem szE_append (l r : List (C × O)) : szE (l ++ r) = szE l + szE r := by
  induction l with
  | nil => simp [szE]
  | cons e l ih => simp only [List.cons_append, szE, ih]; omega

theorem own_empty_at {w : World} {base g : Nat} {e : TypeId} {size : Nat} (h : w.heap[g]? = some (.cells #[] e (0, 0))) (hb : base ≤ g) : w.ownsRow base e size (.slice (some ⟨g, 0, none⟩) 0 0) 0 [] :=
  ⟨by simp, .inr ⟨g, 0, #[], rfl, hb, h, Nat.le_refl _, Nat.zero_le _, by simp, by simp⟩⟩

theorem elems_flat {α : Type} {size : Nat} {R : World → (Nat → Prop) → α → List Value → Prop} (hR : Rec size R) {w : World} {S : Nat → Prop} {l : List α} {css : List (List Value)} (h : Elems R w S l css) : css.flatten.length = l.length * size := by
  have h3 := elems_len hR h
  rw [← h.1]
  clear h
  induction css with
  | nil => simp
  | cons x r ih =>
    rw [List.flatten_cons, List.length_append, h3 x (by simp), ih (fun y hy => h3 y (by simp [hy])), List.length_cons, Nat.succ_mul]
    omega
theorem elems_one {α : Type} {size : Nat} {R : World → (Nat → Prop) → α → List Value → Prop} (hR : Rec size R) {w : World} {S : Nat → Prop} {l : List α} {css : List (List Value)} (h : Elems R w S l css) : ∀ u ∈ css.flatten, u.oneCell' = true := fun u hu => by
  obtain ⟨cs, hcs, hu⟩ := List.mem_flatten.1 hu
  obtain ⟨j, hj, rfl⟩ := List.getElem_of_mem hcs
  exact hR.one (h.2 j (l[j]'(by rw [← h.1]; exact hj)) _ (List.getElem?_eq_getElem _) (List.getElem?_eq_getElem hj)) u hu
theorem Elems.append {α : Type} {R : World → (Nat → Prop) → α → List Value → Prop} {w : World} {S : Nat → Prop} {l r : List α} {css dss : List (List Value)} (h : Elems R w S l css) (k : Elems R w S r dss) : Elems R w S (l ++ r) (css ++ dss) := by
  refine ⟨by simp [h.1, k.1], fun j y ds h1 h2 => ?_⟩
  by_cases hj : j < l.length
  · rw [List.getElem?_append_left hj] at h1
    rw [List.getElem?_append_left (by rw [h.1]; exact hj)] at h2
    exact h.2 j y ds h1 h2
  · rw [List.getElem?_append_right (by omega)] at h1
    rw [List.getElem?_append_right (by rw [h.1]; omega), h.1] at h2
    exact k.2 _ y ds h1 h2

/-- an owned list of records -/
def OwnL {α : Type} (T : TypeId) (size : Nat) (R : World → (Nat → Prop) → α → List Value → Prop) (w : World) (base : Nat) (v : Value) (l : List α) : Prop :=
  ∃ css, w.ownsRow base T size v l.length css.flatten ∧ Elems R w (Kids w base v) l css
theorem OwnL.below {α : Type} {T : TypeId} {size : Nat} {R : World → (Nat → Prop) → α → List Value → Prop} (hR : Rec size R) {w w' : World} {base : Nat} {v : Value} {l : List α} (h : OwnL T size R w base v l) (hb : Below w.heap.size w w') : OwnL T size R w' base v l := by
  obtain ⟨css, h1, h2⟩ := h
  exact ⟨css, own_below h1 hb, h2.below hR hb⟩
theorem OwnL.base {α : Type} {T : TypeId} {size : Nat} {R : World → (Nat → Prop) → α → List Value → Prop} (hR : Rec size R) {w : World} {base base' : Nat} {v : Value} {l : List α} (h : OwnL T size R w base v l) (hb : base' ≤ base) : OwnL T size R w base' v l := by
  obtain ⟨css, ⟨h1, h2⟩, h3⟩ := h
  refine ⟨css, ⟨h1, ?_⟩, h3.keep hR (fun _ _ => rfl) (fun b hb' => ⟨by have := hb'.1; omega, hb'.2.1, hb'.2.2⟩)⟩
  rcases h2 with h2 | ⟨g, cap, cur, hv, hg, r⟩
  · exact .inl h2
  · exact .inr ⟨g, cap, cur, hv, by omega, r⟩
theorem OwnL.lt {α : Type} {T : TypeId} {size : Nat} {R : World → (Nat → Prop) → α → List Value → Prop} {w : World} {base : Nat} {v : Value} {l : List α} (h : OwnL T size R w base v l) : ∀ k, v.ownBlock = some k → base ≤ k ∧ k < w.heap.size := by
  obtain ⟨css, h1, h2⟩ := h
  exact h1.lt
/-- what an append of one owned list onto another asks, and what it leaves -/
def Two {α : Type} (T : TypeId) (size : Nat) (R : World → (Nat → Prop) → α → List Value → Prop) (w : World) (base : Nat) (v : Value) (l r : List α) (css : List (List Value)) (A : Option Addr) (dss : List (List Value)) : Prop :=
  w.ownsRow base T size v l.length css.flatten ∧ Rd w w.heap.size A dss.flatten ∧ dss.flatten.length = r.length * size ∧ (A = none → r.length = 0) ∧ (∀ u ∈ dss.flatten, u.oneCell' = true) ∧
  ∀ (v' : Value) (w' : World), w'.ownsRow base T size v' (l.length + r.length) (css.flatten ++ dss.flatten) → w.grownBy w' v.ownBlock → (v'.ownBlock = v.ownBlock ∨ v'.ownBlock = some w.heap.size) → ∃ A' c', v' = .slice A' (l.length + r.length) c' ∧ OwnL T size R w' base v' (l ++ r)
theorem OwnL.lat {α : Type} {T : TypeId} {size : Nat} {R : World → (Nat → Prop) → α → List Value → Prop} (hR : Rec size R) {w : World} {base : Nat} {v : Value} {l : List α} (h : OwnL T size R w base v l) :
    ∃ A c, v = .slice A l.length c ∧ (A = none → l.length = 0) ∧ LAt size R w (New base w) l A := by
  obtain ⟨css, h1, h2⟩ := h
  obtain ⟨A, c, rfl, hn, _⟩ := own_form h1
  refine ⟨A, c, rfl, hn, ?_⟩
  exact (LAt.of_own hR h1 h2).keep hR (fun _ _ => rfl) (fun b hb => by
    rcases hb with hb | hb
    · exact ⟨hb.1, hb.2.1⟩
    · exact hb)
theorem OwnL.rd {α : Type} {T : TypeId} {size : Nat} {R : World → (Nat → Prop) → α → List Value → Prop} (hR : Rec size R) {w : World} {base : Nat} {v : Value} {l : List α} (h : OwnL T size R w base v l) :
    ∃ A c css, v = .slice A l.length c ∧ (A = none → l.length = 0) ∧ Rd w w.heap.size A css.flatten ∧ css.flatten.length = l.length * size ∧ (∀ u ∈ css.flatten, u.oneCell' = true) ∧ Elems R w (Kids w base v) l css ∧ w.ownsRow base T size v l.length css.flatten := by
  obtain ⟨css, h1, h2⟩ := h
  obtain ⟨A, c, rfl, hn, _⟩ := own_form h1
  exact ⟨A, c, css, rfl, hn, Rd.of_own h1, elems_flat hR h2, elems_one hR h2, h2, h1⟩
/-- behind an append of one owned list onto another that was made before it -/
theorem OwnL.app {α : Type} {T : TypeId} {size : Nat} {R : World → (Nat → Prop) → α → List Value → Prop} (hR : Rec size R) {w w' : World} {base base2 : Nat} {v v2 v' : Value} {l r : List α} {css dss : List (List Value)}
    (h1 : w.ownsRow base T size v l.length css.flatten) (e1 : Elems R w (Kids w base v) l css) (e2 : Elems R w (Kids w base2 v2) r dss) (hb : base ≤ base2) (hlt : ∀ k, v.ownBlock = some k → k < base2)
    (hown : w'.ownsRow base T size v' (l.length + r.length) (css.flatten ++ dss.flatten)) (hg : w.grownBy w' v.ownBlock) (hat : v'.ownBlock = v.ownBlock ∨ v'.ownBlock = some w.heap.size) : OwnL T size R w' base v' (l ++ r) := by
  refine ⟨css ++ dss, by rw [List.length_append, List.flatten_append]; exact hown, ?_⟩
  have hs := hg.size
  have k1 : ∀ b, Kids w base v b → Kids w' base v' b := fun b h => ⟨h.1, by have := h.2.1; omega, by
    rcases hat with e | e
    · rw [e]; exact h.2.2
    · rw [e]; have := h.2.1; simp; omega⟩
  have k2 : ∀ b, Kids w base2 v2 b → Kids w' base v' b := fun b h => ⟨by have := h.1; omega, by have := h.2.1; omega, by
    rcases hat with e | e
    · rw [e]; intro hh; have := hlt b hh; have := h.1; omega
    · rw [e]; have := h.2.1; simp; omega⟩
  refine (e1.keep hR (fun p hp => World.cell?_of_block (hg.block p.block hp.2.1 (fun e => hp.2.2 e.symm))) k1).append (e2.keep hR (fun p hp => World.cell?_of_block (hg.block p.block hp.2.1 (fun e => ?_))) k2)
  have := hlt p.block e.symm
  have := hp.1
  omega

theorem OwnL.two {α : Type} {T : TypeId} {size : Nat} {R : World → (Nat → Prop) → α → List Value → Prop} (hR : Rec size R) {w : World} {base base2 : Nat} {v : Value} {l r : List α} {A : Option Addr} {n c : Nat}
    (h1 : OwnL T size R w base v l) (h2 : OwnL T size R w base2 (.slice A n c) r) (hb : base ≤ base2) (hlt : ∀ k, v.ownBlock = some k → k < base2) : ∃ css dss, Two T size R w base v l r css A dss := by
  obtain ⟨css, k1, k2⟩ := h1
  obtain ⟨A', c', dss, e, j1, j2, j3, j4, j5, _⟩ := h2.rd hR
  injection e with e1 _ e2
  subst e1
  refine ⟨css, dss, k1, j2, j3, j1, j4, fun v' w' q1 q2 q3 => ?_⟩
  obtain ⟨A3, c3, rfl, _⟩ := own_form q1
  exact ⟨A3, c3, rfl, OwnL.app hR k1 k2 j5 hb hlt q1 q2 q3⟩
theorem entsPost_own {w w' : World} {es : List (C × O)} {e : Ending} (h : EntsPost w es e w') : ∃ v, e = .returned v ∧ OwnL 39 13 IsE w' w.heap.size v es ∧ Below w.heap.size w w' := by
  obtain ⟨v, css, rfl, h1, h2, h3⟩ := h
  exact ⟨v, rfl, ⟨css, h1, h2⟩, h3⟩
def EntsOwn (w : World) (es : List (C × O)) (e : Ending) (w' : World) : Prop := ∃ A c, e = .returned (.slice A es.length c) ∧ OwnL 39 13 IsE w' w.heap.size (.slice A es.length c) es ∧ Below w.heap.size w w'
theorem copyEntries_own (es : List (C × O)) (hes : szE es ≤ 1048576) (A : Option Addr) (c : Nat) (w : World) (S : Nat → Prop) (hE : LAt 13 IsE w S es A) (hB : Bel S w.heap.size) :
    Calls Try.prog 14 #[.slice A es.length c] w (EntsOwn w es) :=
  (copyEntries_any es hes A c w S hE hB).mono fun e w' h => by
    obtain ⟨v, rfl, h1, h2⟩ := entsPost_own h
    obtain ⟨A, c, rfl, _⟩ := h1.lat recE
    exact ⟨A, c, rfl, h1, h2⟩
/-- New at an owned list -/
theorem tabNew_own (es : List (C × O)) (n : Nat) (hn : n = es.length) (hes : szE es ≤ 1048576) (hok : ∀ e ∈ es, e.1.ok) (A : Option Addr) (c : Nat) (w : World) (base : Nat) (h : OwnL 39 13 IsE w base (.slice A n c) es) :
    Calls Try.prog 16 #[.slice A n c] w (NewPost w es) := by
  subst hn
  obtain ⟨A', c', e, _, h2⟩ := h.lat recE
  injection e with e1 _ e2
  subst e1
  exact tabNew_any es hes hok A c w _ h2 (fun b hb => hb.2)
theorem wide_own (es : List (C × O)) (n : Nat) (hn : n = es.length) (hes : szE es ≤ 1048576) (A : Option Addr) (c : Nat) (w : World) (S : Nat → Prop) (hE : LAt 13 IsE w S es A) (hB : Bel S w.heap.size) :
    Calls Try.prog 12 #[.slice A n c] w (WidePost w (wideN es 0)) := by
  subst hn
  exact wide_any es hes A c w S hE hB

/-- a block of one entry, read as a list of one -/
theorem lat_one {w : World} {g : Nat} {cs : Array Value} {T : TypeId} {e : C × O} {S : Nat → Prop} (hg : w.heap[g]? = some (.cells cs T (0, 0))) (h : IsE w S e cs.toList) : LAt 13 IsE w (fun b => S b ∨ b = g) [e] (some ⟨g, 0, none⟩) := fun i x hx => by
  have hi : i = 0 := by
    have := (List.getElem?_eq_some_iff.1 hx).1
    simp at this
    omega
  subst hi
  simp at hx
  subst hx
  refine ⟨_, cs.toList, rfl, .inr rfl, fun o u hu => ?_, recE.keep (fun _ _ => rfl) (fun b hb => .inl hb) h⟩
  rw [add_add, add_zero_off, Nat.zero_mul, Nat.zero_add, cell_of_row w g o cs T (0, 0) hg]
  simpa using hu
theorem lat_more {α : Type} {size : Nat} {R : World → (Nat → Prop) → α → List Value → Prop} (hR : Rec size R) {w : World} {S S' : Nat → Prop} {l : List α} {A : Option Addr} (h : LAt size R w S l A) (hS : ∀ b, S b → S' b) : LAt size R w S' l A := h.keep hR (fun _ _ => rfl) hS
theorem Rd.lst {w : World} {g : Nat} {xs : List Value} {e : TypeId} (hg : w.heap[g]? = some (.cells xs.toArray e (0, 0))) : Rd w (g + 1) (some ⟨g, 0, none⟩) xs := Rd.of_cells hg (fun j u h => by simpa using h)
/-- copyEntries at one row in a block of its own -/
theorem copyOne (w0 w : World) (S : Nat → Prop) (e0 : C × O) (cs : Array Value) (T : TypeId) (g : Nat) (hg : w.heap[g]? = some (.cells cs T (0, 0))) (h0 : IsE w0 S e0 cs.toList) (hB : Bel S w0.heap.size) (hb : Below w0.heap.size w0 w) (hsz : sz e0.2.v ≤ 1048576) :
    Calls Try.prog 14 #[.slice (some ⟨g, 0, none⟩) 1 1] w fun e w' => ∃ A c, e = .returned (.slice A 1 c) ∧ OwnL 39 13 IsE w' w.heap.size (.slice A 1 c) [e0] ∧ Below w.heap.size w w' :=
  (copyEntries_own [e0] (by simp [szE]; exact hsz) (some ⟨g, 0, none⟩) 1 w (fun b => S b ∨ b = g) (lat_one hg (recE.keep (fun p hp => hb.cell (hB _ hp)) (fun _ h => h) h0)) (fun b h => by
    rcases h with h | rfl
    · exact Nat.lt_of_lt_of_le (hB b h) hb.size
    · exact blk_lt hg)).mono fun e w' h => h
theorem wide_row {w1 w6 : World} {S : Nat → Prop} {es : List (C × O)} {e0 : C × O} {css0 : List (List Value)} {cs0 : List Value} {v : Value} {n : Nat} (hE : Elems IsE w1 S es css0) (h0 : IsE w1 S e0 cs0) (hB : Bel S w1.heap.size) (hb : Below w1.heap.size w1 w6)
    (hown : w6.ownsRow w1.heap.size 39 13 v n (css0.flatten ++ cs0)) (hn : n = es.length + 1) (hsz : szE es + sz e0.2.v ≤ 1048576) :
    ∃ A c, v = .slice A n c ∧ Calls Try.prog 12 #[.slice A n c] w6 (WidePost w6 (wideN (es ++ [e0]) 0)) := by
  obtain ⟨A, c, rfl, _⟩ := own_form hown
  have e1 : Elems IsE w6 S (es ++ [e0]) (css0 ++ [cs0]) := (hE.snoc h0).keep recE (fun p hp => hb.cell (hB _ hp)) (fun _ h => h)
  refine ⟨A, c, rfl, wide_own (es ++ [e0]) n (by simp [hn]) (by rw [szE_append]; simp only [szE]; omega) A c w6 (fun b => S b ∨ New w1.heap.size w6 b) (LAt.of_own (e := 39) (n := n) (c := c) recE ?_ e1) (fun b hb' => ?_)⟩
  · have e2 : (css0 ++ [cs0]).flatten = css0.flatten ++ cs0 := by simp
    have e3 : (es ++ [e0]).length = n := by simp [hn]
    rw [e2, e3]
    exact hown
  · rcases hb' with h | h
    · exact Nat.lt_of_lt_of_le (hB b h) hb.size
    · exact h.2
end Go.Proofs.Ytmicjfdibhoamaa.val
