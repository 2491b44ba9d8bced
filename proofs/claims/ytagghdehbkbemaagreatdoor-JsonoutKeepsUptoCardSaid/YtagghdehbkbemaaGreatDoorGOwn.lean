/- Lists of records in a row of the call's own: what an append does to them; from such a row to a value's lists. Lists of records in a row of the call's own, their parts in old blocks: read and written on. -/
import Derived.Test.YtagghdehbkbemaaGreatDoorGVal
import Derived.Test.YtagghdehbkbemaaGreatDoorGArr
section
set_option linter.unusedVariables false
namespace Go.Proofs.YtagghdehbkbemaaGreatDoor.val
open Go.RowKit mem

/-- how a record of a fixed number of cells lies in memory -/
structure Rec {α : Type} (size : Nat) (R : World → (Nat → Prop) → α → List Value → Prop) : Prop where
  len : ∀ {w : World} {S : Nat → Prop} {x : α} {cs : List Value}, R w S x cs → cs.length = size
  one : ∀ {w : World} {S : Nat → Prop} {x : α} {cs : List Value}, R w S x cs → ∀ u ∈ cs, u.oneCell' = true
  keep : ∀ {w w' : World} {S S' : Nat → Prop} {x : α} {cs : List Value}, (∀ p : Addr, S p.block → w'.cell? p = w.cell? p) → (∀ b, S b → S' b) → R w S x cs → R w' S' x cs

/-- the blocks that the elements of an owned row may use -/
def Kids (w : World) (base : Nat) (v : Value) (b : Nat) : Prop := base ≤ b ∧ b < w.heap.size ∧ v.ownBlock ≠ some b

/-- each element's cells -/
def Elems {α : Type} (R : World → (Nat → Prop) → α → List Value → Prop) (w : World) (S : Nat → Prop) (l : List α) (css : List (List Value)) : Prop :=
  css.length = l.length ∧ ∀ (j : Nat) (x : α) (cs : List Value), l[j]? = some x → css[j]? = some cs → R w S x cs

theorem Elems.nil {α : Type} {R : World → (Nat → Prop) → α → List Value → Prop} {w : World} {S : Nat → Prop} : Elems R w S [] [] := ⟨rfl, fun j x cs h => by simp at h⟩
theorem Elems.keep {α : Type} {size : Nat} {R : World → (Nat → Prop) → α → List Value → Prop} (hR : Rec size R) {w w' : World} {S S' : Nat → Prop} {l : List α} {css : List (List Value)} (h : Elems R w S l css)
    (hk : ∀ p : Addr, S p.block → w'.cell? p = w.cell? p) (hS : ∀ b, S b → S' b) : Elems R w' S' l css := ⟨h.1, fun j x cs h1 h2 => hR.keep hk hS (h.2 j x cs h1 h2)⟩
theorem Elems.snoc {α : Type} {R : World → (Nat → Prop) → α → List Value → Prop} {w : World} {S : Nat → Prop} {l : List α} {css : List (List Value)} (h : Elems R w S l css) {x : α} {cs : List Value} (hx : R w S x cs) : Elems R w S (l ++ [x]) (css ++ [cs]) := by
  refine ⟨by simp [h.1], fun j y ds h1 h2 => ?_⟩
  by_cases hj : j < l.length
  · rw [List.getElem?_append_left hj] at h1
    rw [List.getElem?_append_left (by rw [h.1]; exact hj)] at h2
    exact h.2 j y ds h1 h2
  · rw [List.getElem?_append_right (by omega)] at h1
    rw [List.getElem?_append_right (by rw [h.1]; omega), h.1] at h2
    have hj0 : j - l.length = 0 := by
      have := (List.getElem?_eq_some_iff.1 h1).1
      simp at this
      omega
    rw [hj0] at h1 h2
    simp at h1 h2
    subst h1 h2
    exact hx
theorem Elems.below {α : Type} {size : Nat} {R : World → (Nat → Prop) → α → List Value → Prop} (hR : Rec size R) {w w' : World} {base : Nat} {v : Value} {l : List α} {css : List (List Value)} (h : Elems R w (Kids w base v) l css)
    (hb : Below w.heap.size w w') : Elems R w' (Kids w' base v) l css :=
  h.keep hR (fun _ hp => hb.cell hp.2.1) (fun _ hp => ⟨hp.1, Nat.lt_of_lt_of_le hp.2.1 hb.size, hp.2.2⟩)
/-- a store into a block below the row's base -/
theorem Elems.low {α : Type} {size : Nat} {R : World → (Nat → Prop) → α → List Value → Prop} (hR : Rec size R) {w : World} {base : Nat} {v : Value} {l : List α} {css : List (List Value)} (h : Elems R w (Kids w base v) l css)
    {a : Addr} (ha : a.block < base) (u : Value) : Elems R (w.setCell a u) (Kids (w.setCell a u) base v) l css :=
  h.keep hR (fun p hp => World.cell?_of_block (Below.heap_setCell w a u p.block (by have := hp.1; omega))) (fun b hp => ⟨hp.1, by simpa [World.setCell] using hp.2.1, hp.2.2⟩)
/-- behind an append of one element -/
theorem Elems.app {α : Type} {size : Nat} {R : World → (Nat → Prop) → α → List Value → Prop} (hR : Rec size R) {w w2 : World} {o : Obj} {base : Nat} {v v' : Value} {l : List α} {css : List (List Value)} (h : Elems R w (Kids w base v) l css)
    {x : α} {cs : List Value} (hx : R w (Kids w base v) x cs) (hg : (w.alloc o).grownBy w2 v.ownBlock) (hat : v'.ownBlock = v.ownBlock ∨ v'.ownBlock = some (w.alloc o).heap.size) : Elems R w2 (Kids w2 base v') (l ++ [x]) (css ++ [cs]) := by
  refine (h.snoc hx).keep hR (fun p hp => ?_) (fun b hp => ?_)
  · rw [World.cell?_of_block (hg.block p.block (by have := hp.2.1; simp; omega) (fun e => hp.2.2 e.symm))]
    exact World.cell?_of_block (Below.heap_alloc w o p.block hp.2.1)
  · refine ⟨hp.1, ?_, ?_⟩
    · have h1 := hg.size
      have h2 := hp.2.1
      simp at h1
      omega
    · rcases hat with e | e
      · rw [e]
        exact hp.2.2
      · rw [e]
        have h2 := hp.2.1
        simp
        omega

theorem flat_get {size : Nat} : ∀ {css : List (List Value)}, (∀ cs ∈ css, cs.length = size) → ∀ {j o : Nat} {cs : List Value} {u : Value}, css[j]? = some cs → cs[o]? = some u → css.flatten[j * size + o]? = some u
  | [], _, j, o, cs, u, h, _ => by simp at h
  | c :: r, hl, j, o, cs, u, h, hu => by
    have hc : c.length = size := hl c (by simp)
    rw [List.flatten_cons]
    cases j with
    | zero =>
      simp at h
      subst h
      rw [Nat.zero_mul, Nat.zero_add, List.getElem?_append_left (List.getElem?_eq_some_iff.1 hu).1]
      exact hu
    | succ j =>
      rw [List.getElem?_append_right (by rw [hc, Nat.succ_mul]; omega), hc, show (j + 1) * size + o - size = j * size + o from by rw [Nat.succ_mul]; omega]
      exact flat_get (fun x hx => hl x (by simp [hx])) (by simpa using h) hu

theorem elems_len {α : Type} {size : Nat} {R : World → (Nat → Prop) → α → List Value → Prop} (hR : Rec size R) {w : World} {S : Nat → Prop} {l : List α} {css : List (List Value)} (h : Elems R w S l css) : ∀ cs ∈ css, cs.length = size := by
  intro cs hcs
  obtain ⟨j, hj, rfl⟩ := List.getElem_of_mem hcs
  have hj' : j < l.length := by rw [← h.1]; exact hj
  exact hR.len (h.2 j (l[j]) _ (List.getElem?_eq_getElem hj') (List.getElem?_eq_getElem hj))

theorem add_add (a : Addr) (i j : Nat) : (a.add i).add j = a.add (i + j) := by
  unfold Addr.add
  by_cases hi : i = 0 <;> by_cases hj : j = 0 <;> simp [hi, hj, Nat.add_assoc]

/-- element j of an owned row of records: its cells, and that it is one -/
theorem own_elem {α : Type} {size : Nat} {R : World → (Nat → Prop) → α → List Value → Prop} (hR : Rec size R) {w : World} {base : Nat} {e : TypeId} {v : Value} {l : List α} {css : List (List Value)}
    (hown : w.ownsRow base e size v l.length css.flatten) (h : Elems R w (Kids w base v) l css) {j : Nat} {x : α} (hx : l[j]? = some x) :
    ∃ (g c : Nat) (cs : List Value), v = .slice (some ⟨g, 0, none⟩) l.length c ∧ base ≤ g ∧ g < w.heap.size ∧ CellsAt w ((⟨g, 0, none⟩ : Addr).add (j * size)) cs ∧ R w (Kids w base v) x cs := by
  have hj : j < l.length := (List.getElem?_eq_some_iff.1 hx).1
  obtain ⟨g, c, cur, rfl, hbg, hlt, _, _, _, _, _⟩ := own_block hown (by omega)
  have hcs : css[j]? = some (css[j]'(by rw [h.1]; exact hj)) := List.getElem?_eq_getElem _
  refine ⟨g, c, _, rfl, hbg, hlt, fun o u hu => ?_, h.2 j x _ hx hcs⟩
  rw [add_add]
  exact hown.cells (g := g) rfl _ u (flat_get (elems_len hR h) hcs hu)

/-! the two kinds of records of a value -/
theorem isV_len {w : World} {S : Nat → Prop} {v : V} {cs : List Value} (h : IsV w S v cs) : cs.length = 8 := by
  cases v
  simp only [IsV] at h
  obtain ⟨_, _, _, _, rfl, _⟩ := h
  rfl
theorem isV_one {w : World} {S : Nat → Prop} {v : V} {cs : List Value} (h : IsV w S v cs) : ∀ u ∈ cs, u.oneCell' = true := by
  cases v
  simp only [IsV] at h
  obtain ⟨_, _, _, _, rfl, _⟩ := h
  intro u hu
  simp at hu
  rcases hu with rfl | rfl | rfl | rfl | rfl | rfl | rfl | rfl <;> rfl
theorem recV : Rec 8 IsV := ⟨fun h => isV_len h, fun h => isV_one h, fun hk hS h => h.keep hk hS⟩
/-- a member: its name, and its value's cells -/
def IsF (w : World) (S : Nat → Prop) (p : ByteArray × V) (cs : List Value) : Prop := ∃ ds, cs = .string p.1 :: ds ∧ IsV w S p.2 ds
theorem recF : Rec 9 IsF := by
  refine ⟨fun h => ?_, fun h => ?_, fun hk hS h => ?_⟩
  · obtain ⟨ds, rfl, h⟩ := h
    simp [isV_len h]
  · obtain ⟨ds, rfl, h⟩ := h
    intro u hu
    rcases List.mem_cons.1 hu with rfl | hu
    · rfl
    · exact isV_one h u hu
  · obtain ⟨ds, rfl, h⟩ := h
    exact ⟨ds, rfl, h.keep hk hS⟩

/-- all blocks that a call has made -/
def New (base : Nat) (w : World) (b : Nat) : Prop := base ≤ b ∧ b < w.heap.size

theorem own_isVs {w : World} {base : Nat} {e : TypeId} {A : Option Addr} {n c : Nat} {l : List V} {css : List (List Value)} (hown : w.ownsRow base e 8 (.slice A n c) l.length css.flatten) (h : Elems IsV w (Kids w base (.slice A n c)) l css) :
    IsVs w (New base w) l A 0 := by
  refine IsVs.of fun i x hx => ?_
  obtain ⟨g, c', cs, hv, hbg, hlt, hc, hR⟩ := own_elem recV hown h hx
  injection hv with hA _ _
  subst hA
  rw [Nat.zero_add]
  exact ⟨_, cs, rfl, ⟨hbg, hlt⟩, hc, hR.more fun b hb => ⟨hb.1, hb.2.1⟩⟩
theorem own_isFs {w : World} {base : Nat} {e : TypeId} {A : Option Addr} {n c : Nat} {l : List (ByteArray × V)} {css : List (List Value)} (hown : w.ownsRow base e 9 (.slice A n c) l.length css.flatten) (h : Elems IsF w (Kids w base (.slice A n c)) l css) :
    IsFs w (New base w) l A 0 := by
  refine IsFs.of fun i x hx => ?_
  obtain ⟨g, c', cs, hv, hbg, hlt, hc, ds, rfl, hR⟩ := own_elem recF hown h hx
  injection hv with hA _ _
  subst hA
  rw [Nat.zero_add]
  exact ⟨_, ds, rfl, ⟨hbg, hlt⟩, hc, hR.more fun b hb => ⟨hb.1, hb.2.1⟩⟩

/-- what is known of a block that is known whole: its cells, and that none is frozen -/
theorem blk8 {w : World} {g : Nat} {t : TypeId} {c0 c1 c2 c3 c4 c5 c6 c7 : Value} (h : w.heap[g]? = some (.cells #[c0, c1, c2, c3, c4, c5, c6, c7] t (0, 0))) :
    w.cell? ⟨g, 0, none⟩ = some c0 ∧ w.cell? ⟨g, 1, none⟩ = some c1 ∧ w.cell? ⟨g, 2, none⟩ = some c2 ∧ w.cell? ⟨g, 3, none⟩ = some c3 ∧ w.cell? ⟨g, 4, none⟩ = some c4 ∧ w.cell? ⟨g, 5, none⟩ = some c5 ∧ w.cell? ⟨g, 6, none⟩ = some c6 ∧ w.cell? ⟨g, 7, none⟩ = some c7 :=
  ⟨cell_of_row w g 0 _ t (0, 0) h, cell_of_row w g 1 _ t (0, 0) h, cell_of_row w g 2 _ t (0, 0) h, cell_of_row w g 3 _ t (0, 0) h, cell_of_row w g 4 _ t (0, 0) h, cell_of_row w g 5 _ t (0, 0) h, cell_of_row w g 6 _ t (0, 0) h, cell_of_row w g 7 _ t (0, 0) h⟩
theorem blk_lt {w : World} {g : Nat} {o : Obj} (h : w.heap[g]? = some o) : g < w.heap.size := (Array.getElem?_eq_some_iff.1 h).1
theorem blk_alloc {w : World} {g : Nat} {o : Obj} (h : w.heap[g]? = some o) (x : Obj) : (w.alloc x).heap[g]? = some o := (Below.heap_alloc w x g (blk_lt h)).trans h
theorem blk_below {w w' : World} {B g : Nat} {o : Obj} (h : w.heap[g]? = some o) (hb : Below B w w') (hg : g < B) : w'.heap[g]? = some o := (hb.block g hg).trans h
theorem blk_grown {w w' : World} {g : Nat} {o : Obj} {row : Option Nat} (h : w.heap[g]? = some o) (hb : w.grownBy w' row) (hg : some g ≠ row) : w'.heap[g]? = some o := (hb.block g (blk_lt h) hg).trans h
theorem blk_far {w : World} {g : Nat} {o : Obj} (h : w.heap[g]? = some o) {a : Addr} (ha : g ≠ a.block) (u : Value) : (w.setCell a u).heap[g]? = some o := (Below.heap_setCell w a u g ha).trans h

theorem own_below {w w' : World} {base : Nat} {e : TypeId} {size n : Nat} {v : Value} {xs : List Value} (h : w.ownsRow base e size v n xs) (hb : Below w.heap.size w w') : w'.ownsRow base e size v n xs :=
  h.kept (row := none) ⟨hb.os, hb.tape, hb.output, hb.size, fun k hk _ => hb.block k hk⟩ (by cases hv : v.ownBlock <;> simp)
/-- what a callee has made may be a kid of the caller's row -/
theorem kid_new {w w0 w' : World} {base : Nat} {e : TypeId} {size n : Nat} {v : Value} {xs : List Value} (h : w.ownsRow base e size v n xs) (hw : w.heap.size ≤ w0.heap.size) (hB : base ≤ w.heap.size) : ∀ b, New w0.heap.size w' b → Kids w' base v b := by
  intro b hb
  refine ⟨by have := hb.1; omega, hb.2, fun e => ?_⟩
  have h1 := (h.lt b e).2
  have h2 := hb.1
  omega
theorem own_ne {w : World} {base : Nat} {e : TypeId} {size n : Nat} {v : Value} {xs : List Value} (h : w.ownsRow base e size v n xs) {g : Nat} (hg : g < base) : some g ≠ v.ownBlock := fun e => by
  have := (h.lt g e.symm).1
  omega

/-- between two block numbers nothing has turned -/
def Mid (lo hi : Nat) (w w' : World) : Prop := ∀ b, lo ≤ b → b < hi → w'.heap[b]? = w.heap[b]?
theorem Mid.refl (lo hi : Nat) (w : World) : Mid lo hi w w := fun _ _ _ => rfl
theorem Mid.below {lo hi B : Nat} {w a b : World} (h : Mid lo hi w a) (hb : Below B a b) (hB : hi ≤ B) : Mid lo hi w b := fun k h1 h2 => (hb.block k (by omega)).trans (h k h1 h2)
theorem Mid.alloc {lo hi : Nat} {w a : World} (h : Mid lo hi w a) (hs : hi ≤ a.heap.size) (o : Obj) : Mid lo hi w (a.alloc o) := fun k h1 h2 => (Below.heap_alloc a o k (by omega)).trans (h k h1 h2)
theorem Mid.grown {lo hi : Nat} {w a b : World} {row : Option Nat} (h : Mid lo hi w a) (hg : a.grownBy b row) (hs : hi ≤ a.heap.size) (hr : ∀ k, row = some k → hi ≤ k) : Mid lo hi w b := fun k h1 h2 => (hg.block k (by omega) (fun e => by have := hr k e.symm; omega)).trans (h k h1 h2)
theorem Mid.set {lo hi : Nat} {w a : World} (h : Mid lo hi w a) {p : Addr} (hp : p.block < lo ∨ hi ≤ p.block) (u : Value) : Mid lo hi w (a.setCell p u) := fun k h1 h2 => (Below.heap_setCell a p u k (by omega)).trans (h k h1 h2)
theorem blk9 {w : World} {g : Nat} {t : TypeId} {s c0 c1 c2 c3 c4 c5 c6 c7 : Value} (h : w.heap[g]? = some (.cells #[s, c0, c1, c2, c3, c4, c5, c6, c7] t (0, 0))) :
    w.cell? ⟨g, 0, none⟩ = some s ∧ w.cell? ⟨g, 1, none⟩ = some c0 ∧ w.cell? ⟨g, 2, none⟩ = some c1 ∧ w.cell? ⟨g, 3, none⟩ = some c2 ∧ w.cell? ⟨g, 4, none⟩ = some c3 ∧ w.cell? ⟨g, 5, none⟩ = some c4 ∧ w.cell? ⟨g, 6, none⟩ = some c5 ∧ w.cell? ⟨g, 7, none⟩ = some c6 ∧ w.cell? ⟨g, 8, none⟩ = some c7 :=
  ⟨cell_of_row w g 0 _ t (0, 0) h, cell_of_row w g 1 _ t (0, 0) h, cell_of_row w g 2 _ t (0, 0) h, cell_of_row w g 3 _ t (0, 0) h, cell_of_row w g 4 _ t (0, 0) h, cell_of_row w g 5 _ t (0, 0) h, cell_of_row w g 6 _ t (0, 0) h, cell_of_row w g 7 _ t (0, 0) h, cell_of_row w g 8 _ t (0, 0) h⟩

theorem isF_one {w : World} {S : Nat → Prop} {s : ByteArray} {v : V} {cs : List Value} (h : IsV w S v cs) : ∀ u ∈ (Value.string s :: cs), u.oneCell' = true := by
  intro u hu
  rcases List.mem_cons.1 hu with rfl | hu
  · rfl
  · exact isV_one h u hu

theorem copy_end {w wl wr wz : World} {k : Int} {b : Bool} {i : Int} {f : Nat} {t y : ByteArray} {is : List V} {fs : List (ByteArray × V)} {A1 A9 : Option Addr} {c1 c9 : Nat} (hG : wr.grownBy wz (some (w.heap.size + 1)))
    (HV : IsVs wl (New (w.heap.size + 3) wl) is A1 0) (HM : Mid (w.heap.size + 3) wl.heap.size wl wr) (HF : IsFs wr (New wl.heap.size wr) fs A9 0) (hwl : w.heap.size + 3 ≤ wl.heap.size) (hsz : wl.heap.size ≤ wr.heap.size) (hb : Below w.heap.size w wr)
    (h1 : A1 = none → is.length = 0) (h9 : A9 = none → fs.length = 0) :
    IsV wz (New w.heap.size wz) (.mk k b i f t y is fs) [.int .i64 k, .bool b, .int .i64 i, .float .f64 f, .string t, .string y, .slice A1 is.length c1, .slice A9 fs.length c9] ∧ Below w.heap.size w wz := by
  have hs := hG.size
  refine ⟨?_, hb.grown hG (by omega) (fun q e => by injection e; omega)⟩
  simp only [IsV]
  refine ⟨A1, c1, A9, c9, rfl, h1, h9, HV.keep (fun p hp => ?_) (fun q hq => ⟨by have := hq.1; omega, by have := hq.2; omega⟩), HF.keep (fun p hp => ?_) (fun q hq => ⟨by have := hq.1; omega, by have := hq.2; omega⟩)⟩
  · have a := hp.1
    have b := hp.2
    rw [World.cell?_of_block (hG.block p.block (by omega) (by intro e; injection e; omega))]
    exact World.cell?_of_block (HM p.block a b)
  · have a := hp.1
    have b := hp.2
    exact World.cell?_of_block (hG.block p.block b (by intro e; injection e; omega))
end Go.Proofs.YtagghdehbkbemaaGreatDoor.val
end
section
namespace Go.Proofs.YtagghdehbkbemaaGreatDoor.val
open Go.RowKit mem app
set_option linter.unusedVariables false

/-- the row's block afterwards: the same, or a new one -/
def Nx (w : World) (v v' : Value) : Prop := v'.ownBlock = v.ownBlock ∨ ∃ k, v'.ownBlock = some k ∧ w.heap.size ≤ k
theorem Nx.refl (w : World) (v : Value) : Nx w v v := .inl rfl
theorem Nx.trans {w w1 : World} {v v1 v2 : Value} (h : Nx w v v1) (hw : w.heap.size ≤ w1.heap.size) (h2 : Nx w1 v1 v2) : Nx w v v2 := by
  rcases h2 with e | ⟨j, e, hj⟩
  · rcases h with e1 | ⟨i, e1, hi⟩
    · exact .inl (e.trans e1)
    · exact .inr ⟨i, e.trans e1, hi⟩
  · exact .inr ⟨j, e, by omega⟩
theorem gtrans {w w1 w2 : World} {v v1 : Value} (h : w.grownBy w1 v.ownBlock) (hn : Nx w v v1) (h2 : w1.grownBy w2 v1.ownBlock) : w.grownBy w2 v.ownBlock :=
  ⟨h2.os.trans h.os, h2.tape.trans h.tape, h2.output.trans h.output, Nat.le_trans h.size h2.size, fun k hk hne => by
    have h1 := h.block k hk hne
    refine (h2.block k (Nat.lt_of_lt_of_le hk h.size) ?_).trans h1
    rcases hn with e | ⟨j, e, hj⟩
    · rw [e]; exact hne
    · rw [e]
      intro h3
      injection h3 with h3
      omega⟩
theorem galloc (w : World) (o : Obj) (row : Option Nat) : w.grownBy (w.alloc o) row := ⟨rfl, rfl, rfl, by simp, fun k hk _ => Lib.alloc_old w o k hk⟩
theorem gbelow {w w' : World} (h : Below w.heap.size w w') (row : Option Nat) : w.grownBy w' row := ⟨h.os, h.tape, h.output, h.size, fun k hk _ => h.block k hk⟩
/-- an owned list of records; their parts lie in S -/
def Row {α : Type} (T : TypeId) (size : Nat) (R : World → (Nat → Prop) → α → List Value → Prop) (w : World) (B : Nat) (S : Nat → Prop) (v : Value) (l : List α) : Prop :=
  ∃ css, w.ownsRow B T size v l.length css.flatten ∧ Elems R w S l css
section
variable {α : Type} {T : TypeId} {size : Nat} {R : World → (Nat → Prop) → α → List Value → Prop}
theorem Row.nil (w : World) (B : Nat) (S : Nat → Prop) : Row T size R w B S (.slice none 0 0) [] := ⟨[], World.ownsRow_nil w B T size, Elems.nil⟩
theorem Row.form {w : World} {B : Nat} {S : Nat → Prop} {v : Value} {l : List α} (h : Row T size R w B S v l) : ∃ A c, v = .slice A l.length c ∧ (A = none → l.length = 0) := by
  obtain ⟨css, h1, _⟩ := h
  obtain ⟨A, c, e, hn, _⟩ := own_form h1
  exact ⟨A, c, e, hn⟩
theorem Row.lt {w : World} {B : Nat} {S : Nat → Prop} {v : Value} {l : List α} (h : Row T size R w B S v l) : ∀ k, v.ownBlock = some k → B ≤ k ∧ k < w.heap.size := by
  obtain ⟨css, h1, _⟩ := h
  exact h1.lt
/-- the row stands where its block and S stand -/
theorem Row.stay (hR : Rec size R) {w w' : World} {B : Nat} {S : Nat → Prop} {v : Value} {l : List α} (h : Row T size R w B S v l) (hS : Bel S B) (hB : Below B w w') (hk : ∀ g, v.ownBlock = some g → w'.heap[g]? = w.heap[g]?) : Row T size R w' B S v l := by
  obtain ⟨css, h1, h2⟩ := h
  exact ⟨css, own_kept h1 hk, h2.keep hR (fun p hp => hB.cell (hS _ hp)) (fun _ h => h)⟩
theorem Row.below (hR : Rec size R) {w w' : World} {B : Nat} {S : Nat → Prop} {v : Value} {l : List α} (h : Row T size R w B S v l) (hS : Bel S B) (hB : B ≤ w.heap.size) (hb : Below w.heap.size w w') : Row T size R w' B S v l :=
  h.stay hR hS (hb.mono hB) fun g hg => hb.block g (h.lt g hg).2
theorem Row.block {w : World} {B : Nat} {S : Nat → Prop} {v : Value} {l : List α} (h : Row T size R w B S v l) : ∀ g, v.ownBlock = some g → ∃ cur, w.heap[g]? = some (.cells cur T (0, 0)) := by
  obtain ⟨css, h1, _⟩ := h
  exact own_cells h1
/-- two rows of unlike types lie apart -/
theorem Row.ne {β : Type} {T2 : TypeId} {size2 : Nat} {R2 : World → (Nat → Prop) → β → List Value → Prop} {w : World} {B B2 : Nat} {S S2 : Nat → Prop} {v v2 : Value} {l : List α} {l2 : List β} (h : Row T size R w B S v l) (h2 : Row T2 size2 R2 w B2 S2 v2 l2) (hT : T ≠ T2) : ∀ g, v.ownBlock = some g → some g ≠ v2.ownBlock := by
  intro g hg e
  obtain ⟨c1, e1⟩ := h.block g hg
  obtain ⟨c2, e2⟩ := h2.block g e.symm
  rw [e1] at e2
  injection e2 with e2
  injection e2 with _ e2
  exact hT e2
/-- element j: its cells -/
theorem Row.at_ (hR : Rec size R) {w : World} {B : Nat} {S : Nat → Prop} {A : Option Addr} {n c : Nat} {l : List α} (h : Row T size R w B S (.slice A n c) l) {j : Nat} {x : α} (hx : l[j]? = some x) :
    ∃ (ad : Addr) (cs : List Value), A = some ad ∧ ad.block < w.heap.size ∧ CellsAt w (ad.add (j * size)) cs ∧ R w S x cs := by
  obtain ⟨css, h1, h2⟩ := h
  have hj : j < l.length := (List.getElem?_eq_some_iff.1 hx).1
  obtain ⟨g, c2, cur, hv, hbg, hlt, _, _, _, _, _⟩ := own_block h1 (by omega)
  have hcs : css[j]? = some (css[j]'(by rw [h2.1]; exact hj)) := List.getElem?_eq_getElem _
  refine ⟨⟨g, 0, none⟩, _, by injection hv, hlt, fun o u hu => ?_, h2.2 j x _ hx hcs⟩
  rw [add_add]
  exact h1.cells (g := g) (by rw [hv]; rfl) _ u (flat_get (elems_len hR h2) hcs hu)
/-- one record more -/
theorem Row.snoc (hR : Rec size R) {w w' : World} {B : Nat} {S : Nat → Prop} {v' : Value} {l : List α} {css : List (List Value)} {x : α} {cs : List Value} (h2 : Elems R w S l css) (hx : R w S x cs) (hS : Bel S B) (hb : Below B w w')
    (ho : w'.ownsRow B T size v' (l.length + 1) (css.flatten ++ cs)) : Row T size R w' B S v' (l ++ [x]) := by
  refine ⟨css ++ [cs], by rw [List.length_append, List.flatten_append]; simpa using ho, (h2.snoc hx).keep hR (fun p hp => hb.cell (hS _ hp)) (fun _ h => h)⟩
/-- the append of one record, its literal just made -/
theorem wpList_row {P : Program} (W : World) {ops : Array Oper} {rest : List Oper} {o : Oper} {a : Act} {Q : Exit → Act → World → Prop} (hR : Rec size R) (hgd : o.guard = none) (s x : Operand) (t : TypeId)
    (ho : o.op = .call { callee := .builtin .append, args := #[s, x], argTypes := #[t, t] }) (cs : List Value) (i : TypeInfo) (z : Value) (bytes : Nat) (ht : P.underlying t = some (.slice T)) (hi : P.info? T = some i) (hz : i.zero = some z)
    (hsize : i.size = size) (hby : i.bytes = bytes) (hzs : z.cells.size = size) (hsz : 0 < size) (hbl : bytes ≤ 4096) (B : Nat) (S : Nat → Prop) (u : Value) (l : List α) (y : α) (hs : a.eval s = u) (hx : a.eval x = .slice (some ⟨W.heap.size, 0, none⟩) 1 1)
    (hrow : Row T size R W B S u l) (hy : R W S y cs) (hS : Bel S B) (hn : l.length ≤ 4194304) (hB : B ≤ W.heap.size)
    (h : ∀ u' W', Row T size R W' B S u' (l ++ [y]) → W.grownBy W' u.ownBlock → Nx W u u' → wpList P ops Q rest (a.put o.dst u') W') : wpList P ops Q (o :: rest) a (W.alloc (.cells cs.toArray T)) := by
  obtain ⟨css, h1, h2⟩ := hrow
  have hlen : cs.length = size := hR.len hy
  refine wpList_app (W.alloc (.cells cs.toArray T)) hgd s x t ho B T i z size bytes ht hi hz hsize hby hzs hsz u l.length css.flatten hs (h1.alloc _) (W.heap.size + 1) (some ⟨W.heap.size, 0, none⟩) 1 1 cs hx (by rw [hlen]; omega) (Rd.new W cs T) (by intro h; cases h) (hR.one hy) (by unfold maxLen; omega) ?_ (by simp; omega) ?_
  · have := Nat.mul_le_mul (show l.length + 1 ≤ 4194305 by omega) hbl
    omega
  · intro u' W' hown hgrow hat
    have hg : W.grownBy W' u.ownBlock := gtrans (galloc W _ _) (.inl rfl) hgrow
    have hb : Below B W W' := ⟨hg.os, hg.tape, hg.output, hg.size, fun k hk => hg.block k (by omega) (by intro e1; have := (h1.lt k e1.symm).1; omega)⟩
    refine h u' W' (Row.snoc hR h2 hy hS hb hown) hg ?_
    rcases hat with e | e
    · exact .inl e
    · exact .inr ⟨_, e, by simp⟩
end
/-- a step: a name, an index, a mark -/
def IsSt (_ : World) (_ : Nat → Prop) (x : ByteArray × Int × Bool) (cs : List Value) : Prop := cs = [.string x.1, .int .i64 x.2.1, .bool x.2.2]
theorem recSt : Rec 3 IsSt := ⟨fun h => by rw [h]; rfl, fun h => by rw [h]; intro u hu; simp at hu; rcases hu with rfl | rfl | rfl <;> rfl, fun _ _ h => h⟩
/-- a part: a path, which does not count, and a value -/
def IsPt (w : World) (S : Nat → Prop) (x : V) (cs : List Value) : Prop := ∃ A n c ds, cs = .slice A n c :: ds ∧ IsV w S x ds
theorem recPt : Rec 9 IsPt := by
  refine ⟨fun h => ?_, fun h => ?_, fun hk hS h => ?_⟩
  · obtain ⟨A, n, c, ds, rfl, h⟩ := h
    simp [isV_len h]
  · obtain ⟨A, n, c, ds, rfl, h⟩ := h
    intro u hu
    rcases List.mem_cons.1 hu with rfl | hu
    · rfl
    · exact isV_one h u hu
  · obtain ⟨A, n, c, ds, rfl, h⟩ := h
    exact ⟨A, n, c, ds, rfl, h.keep hk hS⟩
end Go.Proofs.YtagghdehbkbemaaGreatDoor.val
end
