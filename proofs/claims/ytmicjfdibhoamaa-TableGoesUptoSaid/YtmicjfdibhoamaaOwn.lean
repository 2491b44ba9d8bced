/- Lists of records in a row of the call's own: what an append does to them; from such a row to a value's lists. -/
import Derived.Test.YtmicjfdibhoamaaVal
namespace Go.Proofs.Ytmicjfdibhoamaa.val
open Go.RowKit mem

/-- how a record of a fixed number of cells lies in memory -/
structure Rec {α : Type} (size : Nat) (R : World → (Nat → Prop) → α → List Value → Prop) : Prop where
  len : ∀ {w : World} {S : Nat → Prop} {x : α} {cs : List Value}, R w S x cs → cs.length = size
  one : ∀ {w : World} {S : Nat → Prop} {x : α} {cs : List Value}, R w S x cs → ∀ u ∈ cs, u.oneCell' = true
  keep : ∀ {w w' : World} {S S' : Nat → Prop} {x : α} {cs : List Value}, (∀ p : Addr, S p.block → w'.cell? p = w.cell? p) → (∀ b, S b → S' b) → R w S x cs → R w' S' x cs

/-- the blocks that the elements of an owned row may use -/
def Kids (w : World) (base : Nat) (v : Value) (b : Nat) : Prop := base ≤ b ∧ b < w.heap.size ∧ v.ownBlock ≠ some b

/-- each element's cells -/
def Elems {α : Type} (R : World → (Nat → Prop) → α → List Value → Prop) (w : World) (S : Nat → Prop) (l : List α) (css : List (List Value)) : Prop :=
  css.length = l.length ∧ ∀ (j : Nat) (x : α) (cs : List Value), l[j]? = some x → css[j]? = some cs → R w S x cs

theorem Elems.nil {α : Type} {R : World → (Nat → Prop) → α → List Value → Prop} {w : World} {S : Nat → Prop} : Elems R w S [] [] := ⟨rfl, fun j x cs h => by simp at h⟩
theorem Elems.keep {α : Type} {size : Nat} {R : World → (Nat → Prop) → α → List Value → Prop} (hR : Rec size R) {w w' : World} {S S' : Nat → Prop} {l : List α} {css : List (List Value)} (h : Elems R w S l css)
    (hk : ∀ p : Addr, S p.block → w'.cell? p = w.cell? p) (hS : ∀ b, S b → S' b) : Elems R w' S' l css := ⟨h.1, fun j x cs h1 h2 => hR.keep hk hS (h.2 j x cs h1 h2)⟩
theorem Elems.snoc {α : Type} {R : World → (Nat → Prop) → α → List Value → Prop} {w : World} {S : Nat → Prop} {l : List α} {css : List (List Value)} (h : Elems R w S l css) {x : α} {cs : List Value} (hx : R w S x cs) : Elems R w S (l ++ [x]) (css ++ [cs]) := by
  refine ⟨by simp [h.1], fun j y ds h1 h2 => ?_⟩
  by_cases hj : j < l.length
  · rw [List.getElem?_append_left hj] at h1
    rw [List.getElem?_append_left (by rw [h.1]; exact hj)] at h2
    exact h.2 j y ds h1 h2
  · rw [List.getElem?_append_right (by omega)] at h1
    rw [List.getElem?_append_right (by rw [h.1]; omega), h.1] at h2
    have hj0 : j - l.length = 0 := by
      have := (List.getElem?_eq_some_iff.1 h1).1
      simp at this
      omega
    rw [hj0] at h1 h2
    simp at h1 h2
    subst h1 h2
    exact hx
theorem Elems.below {α : Type} {size : Nat} {R : World → (Nat → Prop) → α → List Value → Prop} (hR : Rec size R) {w w' : World} {base : Nat} {v : Value} {l : List α} {css : List (List Value)} (h : Elems R w (Kids w base v) l css)
    (hb : Below w.heap.size w w') : Elems R w' (Kids w' base v) l css :=
  h.keep hR (fun _ hp => hb.cell hp.2.1) (fun _ hp => ⟨hp.1, Nat.lt_of_lt_of_le hp.2.1 hb.size, hp.2.2⟩)
/-- a store into a block below the row's base -/
theorem Elems.low {α : Type} {size : Nat} {R : World → (Nat → Prop) → α → List Value → Prop} (hR : Rec size R) {w : World} {base : Nat} {v : Value} {l : List α} {css : List (List Value)} (h : Elems R w (Kids w base v) l css)
    {a : Addr} (ha : a.block < base) (u : Value) : Elems R (w.setCell a u) (Kids (w.setCell a u) base v) l css :=
  h.keep hR (fun p hp => World.cell?_of_block (Below.heap_setCell w a u p.block (by have := hp.1; omega))) (fun b hp => ⟨hp.1, by simpa [World.setCell] using hp.2.1, hp.2.2⟩)
/-- behind an append of one element -/
theorem Elems.app {α : Type} {size : Nat} {R : World → (Nat → Prop) → α → List Value → Prop} (hR : Rec size R) {w w2 : World} {o : Obj} {base : Nat} {v v' : Value} {l : List α} {css : List (List Value)} (h : Elems R w (Kids w base v) l css)
    {x : α} {cs : List Value} (hx : R w (Kids w base v) x cs) (hg : (w.alloc o).grownBy w2 v.ownBlock) (hat : v'.ownBlock = v.ownBlock ∨ v'.ownBlock = some (w.alloc o).heap.size) : Elems R w2 (Kids w2 base v') (l ++ [x]) (css ++ [cs]) := by
  refine (h.snoc hx).keep hR (fun p hp => ?_) (fun b hp => ?_)
  · rw [World.cell?_of_block (hg.block p.block (by have := hp.2.1; simp; omega) (fun e => hp.2.2 e.symm))]
    exact World.cell?_of_block (Below.heap_alloc w o p.block hp.2.1)
  · refine ⟨hp.1, ?_, ?_⟩
    · have h1 := hg.size
      have h2 := hp.2.1
      simp at h1
      omega
    · rcases hat with e | e
      · rw [e]
        exact hp.2.2
      · rw [e]
        have h2 := hp.2.1
        simp
        omega

theorem flat_get {size : Nat} : ∀ {css : List (List Value)}, (∀ cs ∈ css, cs.length = size) → ∀ {j o : Nat} {cs : List Value} {u : Value}, css[j]? = some cs → cs[o]? = some u → css.flatten[j * size + o]? = some u
  | [], _, j, o, cs, u, h, _ => by simp at h
  | c :: r, hl, j, o, cs, u, h, hu => by
    have hc : c.length = size := hl c (by simp)
    rw [List.flatten_cons]
    cases j with
    | zero =>
      simp at h
      subst h
      rw [Nat.zero_mul, Nat.zero_add, List.getElem?_append_left (List.getElem?_eq_some_iff.1 hu).1]
      exact hu
    | succ j =>
      rw [List.getElem?_append_right (by rw [hc, Nat.succ_mul]; omega), hc, show (j + 1) * size + o - size = j * size + o from by rw [Nat.succ_mul]; omega]
      exact flat_get (fun x hx => hl x (by simp [hx])) (by simpa using h) hu

theorem elems_len {α : Type} {size : Nat} {R : World → (Nat → Prop) → α → List Value → Prop} (hR : Rec size R) {w : World} {S : Nat → Prop} {l : List α} {css : List (List Value)} (h : Elems R w S l css) : ∀ cs ∈ css, cs.length = size := by
  intro cs hcs
  obtain ⟨j, hj, rfl⟩ := List.getElem_of_mem hcs
  have hj' : j < l.length := by rw [← h.1]; exact hj
  exact hR.len (h.2 j (l[j]) _ (List.getElem?_eq_getElem hj') (List.getElem?_eq_getElem hj))

theorem add_add (a : Addr) (i j : Nat) : (a.add i).add j = a.add (i + j) := by
  unfold Addr.add
  by_cases hi : i = 0 <;> by_cases hj : j = 0 <;> simp [hi, hj, Nat.add_assoc]

/-- element j of an owned row of records: its cells, and that it is one -/
theorem own_elem {α : Type} {size : Nat} {R : World → (Nat → Prop) → α → List Value → Prop} (hR : Rec size R) {w : World} {base : Nat} {e : TypeId} {v : Value} {l : List α} {css : List (List Value)}
    (hown : w.ownsRow base e size v l.length css.flatten) (h : Elems R w (Kids w base v) l css) {j : Nat} {x : α} (hx : l[j]? = some x) :
    ∃ (g c : Nat) (cs : List Value), v = .slice (some ⟨g, 0, none⟩) l.length c ∧ base ≤ g ∧ g < w.heap.size ∧ CellsAt w ((⟨g, 0, none⟩ : Addr).add (j * size)) cs ∧ R w (Kids w base v) x cs := by
  have hj : j < l.length := (List.getElem?_eq_some_iff.1 hx).1
  obtain ⟨g, c, cur, rfl, hbg, hlt, _, _, _, _, _⟩ := own_block hown (by omega)
  have hcs : css[j]? = some (css[j]'(by rw [h.1]; exact hj)) := List.getElem?_eq_getElem _
  refine ⟨g, c, _, rfl, hbg, hlt, fun o u hu => ?_, h.2 j x _ hx hcs⟩
  rw [add_add]
  exact hown.cells (g := g) rfl _ u (flat_get (elems_len hR h) hcs hu)

/-! the two kinds of records of a value -/
theorem isV_len {w : World} {S : Nat → Prop} {v : V} {cs : List Value} (h : IsV w S v cs) : cs.length = 8 := by
  cases v
  simp only [IsV] at h
  obtain ⟨_, _, _, _, rfl, _⟩ := h
  rfl
theorem isV_one {w : World} {S : Nat → Prop} {v : V} {cs : List Value} (h : IsV w S v cs) : ∀ u ∈ cs, u.oneCell' = true := by
  cases v
  simp only [IsV] at h
  obtain ⟨_, _, _, _, rfl, _⟩ := h
  intro u hu
  simp at hu
  rcases hu with rfl | rfl | rfl | rfl | rfl | rfl | rfl | rfl <;> rfl
theorem recV : Rec 8 IsV := ⟨fun h => isV_len h, fun h => isV_one h, fun hk hS h => h.keep hk hS⟩
/-- a member: its name, and its value's cells -/
def IsF (w : World) (S : Nat → Prop) (p : ByteArray × V) (cs : List Value) : Prop := ∃ ds, cs = .string p.1 :: ds ∧ IsV w S p.2 ds
theorem recF : Rec 9 IsF := by
  refine ⟨fun h => ?_, fun h => ?_, fun hk hS h => ?_⟩
  · obtain ⟨ds, rfl, h⟩ := h
    simp [isV_len h]
  · obtain ⟨ds, rfl, h⟩ := h
    intro u hu
    rcases List.mem_cons.1 hu with rfl | hu
    · rfl
    · exact isV_one h u hu
  · obtain ⟨ds, rfl, h⟩ := h
    exact ⟨ds, rfl, h.keep hk hS⟩

/-- all blocks that a call has made -/
def New (base : Nat) (w : World) (b : Nat) : Prop := base ≤ b ∧ b < w.heap.size

theorem own_isVs {w : World} {base : Nat} {e : TypeId} {A : Option Addr} {n c : Nat} {l : List V} {css : List (List Value)} (hown : w.ownsRow base e 8 (.slice A n c) l.length css.flatten) (h : Elems IsV w (Kids w base (.slice A n c)) l css) :
    IsVs w (New base w) l A 0 := by
  refine IsVs.of fun i x hx => ?_
  obtain ⟨g, c', cs, hv, hbg, hlt, hc, hR⟩ := own_elem recV hown h hx
  injection hv with hA _ _
  subst hA
  rw [Nat.zero_add]
  exact ⟨_, cs, rfl, ⟨hbg, hlt⟩, hc, hR.more fun b hb => ⟨hb.1, hb.2.1⟩⟩
theorem own_isFs {w : World} {base : Nat} {e : TypeId} {A : Option Addr} {n c : Nat} {l : List (ByteArray × V)} {css : List (List Value)} (hown : w.ownsRow base e 9 (.slice A n c) l.length css.flatten) (h : Elems IsF w (Kids w base (.slice A n c)) l css) :
    IsFs w (New base w) l A 0 := by
  refine IsFs.of fun i x hx => ?_
  obtain ⟨g, c', cs, hv, hbg, hlt, hc, ds, rfl, hR⟩ := own_elem recF hown h hx
  injection hv with hA _ _
  subst hA
  rw [Nat.zero_add]
  exact ⟨_, ds, rfl, ⟨hbg, hlt⟩, hc, hR.more fun b hb => ⟨hb.1, hb.2.1⟩⟩

/-- what is known of a block that is known whole: its cells, and that none is frozen -/
theorem blk8 {w : World} {g : Nat} {t : TypeId} {c0 c1 c2 c3 c4 c5 c6 c7 : Value} (h : w.heap[g]? = some (.cells #[c0, c1, c2, c3, c4, c5, c6, c7] t (0, 0))) :
    w.cell? ⟨g, 0, none⟩ = some c0 ∧ w.cell? ⟨g, 1, none⟩ = some c1 ∧ w.cell? ⟨g, 2, none⟩ = some c2 ∧ w.cell? ⟨g, 3, none⟩ = some c3 ∧ w.cell? ⟨g, 4, none⟩ = some c4 ∧ w.cell? ⟨g, 5, none⟩ = some c5 ∧ w.cell? ⟨g, 6, none⟩ = some c6 ∧ w.cell? ⟨g, 7, none⟩ = some c7 :=
  ⟨cell_of_row w g 0 _ t (0, 0) h, cell_of_row w g 1 _ t (0, 0) h, cell_of_row w g 2 _ t (0, 0) h, cell_of_row w g 3 _ t (0, 0) h, cell_of_row w g 4 _ t (0, 0) h, cell_of_row w g 5 _ t (0, 0) h, cell_of_row w g 6 _ t (0, 0) h, cell_of_row w g 7 _ t (0, 0) h⟩
theorem blk_lt {w : World} {g : Nat} {o : Obj} (h : w.heap[g]? = some o) : g < w.heap.size := (Array.getElem?_eq_some_iff.1 h).1
theorem blk_alloc {w : World} {g : Nat} {o : Obj} (h : w.heap[g]? = some o) (x : Obj) : (w.alloc x).heap[g]? = some o := (Below.heap_alloc w x g (blk_lt h)).trans h
theorem blk_below {w w' : World} {B g : Nat} {o : Obj} (h : w.heap[g]? = some o) (hb : Below B w w') (hg : g < B) : w'.heap[g]? = some o := (hb.block g hg).trans h
theorem blk_grown {w w' : World} {g : Nat} {o : Obj} {row : Option Nat} (h : w.heap[g]? = some o) (hb : w.grownBy w' row) (hg : some g ≠ row) : w'.heap[g]? = some o := (hb.block g (blk_lt h) hg).trans h
theorem blk_far {w : World} {g : Nat} {o : Obj} (h : w.heap[g]? = some o) {a : Addr} (ha : g ≠ a.block) (u : Value) : (w.setCell a u).heap[g]? = some o := (Below.heap_setCell w a u g ha).trans h

theorem own_below {w w' : World} {base : Nat} {e : TypeId} {size n : Nat} {v : Value} {xs : List Value} (h : w.ownsRow base e size v n xs) (hb : Below w.heap.size w w') : w'.ownsRow base e size v n xs :=
  h.kept (row := none) ⟨hb.os, hb.tape, hb.output, hb.size, fun k hk _ => hb.block k hk⟩ (by cases hv : v.ownBlock <;> simp)
/-- what a callee has made may be a kid of the caller's row -/
theorem kid_new {w w0 w' : World} {base : Nat} {e : TypeId} {size n : Nat} {v : Value} {xs : List Value} (h : w.ownsRow base e size v n xs) (hw : w.heap.size ≤ w0.heap.size) (hB : base ≤ w.heap.size) : ∀ b, New w0.heap.size w' b → Kids w' base v b := by
  intro b hb
  refine ⟨by have := hb.1; omega, hb.2, fun e => ?_⟩
  have h1 := (h.lt b e).2
  have h2 := hb.1
  omega
theorem own_ne {w : World} {base : Nat} {e : TypeId} {size n : Nat} {v : Value} {xs : List Value} (h : w.ownsRow base e size v n xs) {g : Nat} (hg : g < base) : some g ≠ v.ownBlock := fun e => by
  have := (h.lt g e.symm).1
  omega

/-- between two block numbers nothing has turned -/
def Mid (lo hi : Nat) (w w' : World) : Prop := ∀ b, lo ≤ b → b < hi → w'.heap[b]? = w.heap[b]?
theorem Mid.refl (lo hi : Nat) (w : World) : Mid lo hi w w := fun _ _ _ => rfl
theorem Mid.below {lo hi B : Nat} {w a b : World} (h : Mid lo hi w a) (hb : Below B a b) (hB : hi ≤ B) : Mid lo hi w b := fun k h1 h2 => (hb.block k (by omega)).trans (h k h1 h2)
theorem Mid.alloc {lo hi : Nat} {w a : World} (h : Mid lo hi w a) (hs : hi ≤ a.heap.size) (o : Obj) : Mid lo hi w (a.alloc o) := fun k h1 h2 => (Below.heap_alloc a o k (by omega)).trans (h k h1 h2)
theorem Mid.grown {lo hi : Nat} {w a b : World} {row : Option Nat} (h : Mid lo hi w a) (hg : a.grownBy b row) (hs : hi ≤ a.heap.size) (hr : ∀ k, row = some k → hi ≤ k) : Mid lo hi w b := fun k h1 h2 => (hg.block k (by omega) (fun e => by have := hr k e.symm; omega)).trans (h k h1 h2)
theorem Mid.set {lo hi : Nat} {w a : World} (h : Mid lo hi w a) {p : Addr} (hp : p.block < lo ∨ hi ≤ p.block) (u : Value) : Mid lo hi w (a.setCell p u) := fun k h1 h2 => (Below.heap_setCell a p u k (by omega)).trans (h k h1 h2)
theorem blk9 {w : World} {g : Nat} {t : TypeId} {s c0 c1 c2 c3 c4 c5 c6 c7 : Value} (h : w.heap[g]? = some (.cells #[s, c0, c1, c2, c3, c4, c5, c6, c7] t (0, 0))) :
    w.cell? ⟨g, 0, none⟩ = some s ∧ w.cell? ⟨g, 1, none⟩ = some c0 ∧ w.cell? ⟨g, 2, none⟩ = some c1 ∧ w.cell? ⟨g, 3, none⟩ = some c2 ∧ w.cell? ⟨g, 4, none⟩ = some c3 ∧ w.cell? ⟨g, 5, none⟩ = some c4 ∧ w.cell? ⟨g, 6, none⟩ = some c5 ∧ w.cell? ⟨g, 7, none⟩ = some c6 ∧ w.cell? ⟨g, 8, none⟩ = some c7 :=
  ⟨cell_of_row w g 0 _ t (0, 0) h, cell_of_row w g 1 _ t (0, 0) h, cell_of_row w g 2 _ t (0, 0) h, cell_of_row w g 3 _ t (0, 0) h, cell_of_row w g 4 _ t (0, 0) h, cell_of_row w g 5 _ t (0, 0) h, cell_of_row w g 6 _ t (0, 0) h, cell_of_row w g 7 _ t (0, 0) h, cell_of_row w g 8 _ t (0, 0) h⟩

theorem isF_one {w : World} {S : Nat → Prop} {s : ByteArray} {v : V} {cs : List Value} (h : IsV w S v cs) : ∀ u ∈ (Value.string s :: cs), u.oneCell' = true := by
  intro u hu
  rcases List.mem_cons.1 hu with rfl | hu
  · rfl
  · exact isV_one h u hu

theorem copy_end {w wl wr wz : World} {k : Int} {b : Bool} {i : Int} {f : Nat} {t y : ByteArray} {is : List V} {fs : List (ByteArray × V)} {A1 A9 : Option Addr} {c1 c9 : Nat} (hG : wr.grownBy wz (some (w.heap.size + 1)))
    (HV : IsVs wl (New (w.heap.size + 3) wl) is A1 0) (HM : Mid (w.heap.size + 3) wl.heap.size wl wr) (HF : IsFs wr (New wl.heap.size wr) fs A9 0) (hwl : w.heap.size + 3 ≤ wl.heap.size) (hsz : wl.heap.size ≤ wr.heap.size) (hb : Below w.heap.size w wr)
    (h1 : A1 = none → is.length = 0) (h9 : A9 = none → fs.length = 0) :
    IsV wz (New w.heap.size wz) (.mk k b i f t y is fs) [.int .i64 k, .bool b, .int .i64 i, .float .f64 f, .string t, .string y, .slice A1 is.length c1, .slice A9 fs.length c9] ∧ Below w.heap.size w wz := by
  have hs := hG.size
  refine ⟨?_, hb.grown hG (by omega) (fun q e => by injection e; omega)⟩
  simp only [IsV]
  refine ⟨A1, c1, A9, c9, rfl, h1, h9, HV.keep (fun p hp => ?_) (fun q hq => ⟨by have := hq.1; omega, by have := hq.2; omega⟩), HF.keep (fun p hp => ?_) (fun q hq => ⟨by have := hq.1; omega, by have := hq.2; omega⟩)⟩
  · have a := hp.1
    have b := hp.2
    rw [World.cell?_of_block (hG.block p.block (by omega) (by intro e; injection e; omega))]
    exact World.cell?_of_block (HM p.block a b)
  · have a := hp.1
    have b := hp.2
    exact World.cell?_of_block (hG.block p.block b (by intro e; injection e; omega))
end Go.Proofs.Ytmicjfdibhoamaa.val
