/- Lists of records in a row of the call's own: what an append does to them; from such a row to a value's lists. A range over an iterator that reads memory of its own between two rounds, and may itself range over another: the caller's side. A range over an iterator that turns nothing of what its rounds leave: what a round lays may be told of behind the range. The iterator over a value's children, at every value. -/
import Derived.Test.YthlncdcfppehcaaDoorGVal
import Derived.RangeFuncNested
import Derived.RangeFuncBound
import Derived.RangeFuncCalls
import Derived.RangeFuncLeaves
import Derived.Shelf.Abstract
import Derived.OwnWalkIn
import Derived.TacticsInMore
import Derived.LoopNIn
import Derived.LoopIn
import Derived.Sort.CutIn
import Derived.Stop.RegionWithIn
import Derived.Test.YthlncdcfppehcaaDoorProg
section
namespace Go.Proofs.YthlncdcfppehcaaDoor.val
open Go.RowKit mem

/-- how a record of a fixed number of cells lies in memory -/
structure Rec {α : Type} (size : Nat) (R : World → (Nat → Prop) → α → List Value → Prop) : Prop where
  len : ∀ {w : World} {S : Nat → Prop} {x : α} {cs : List Value}, R w S x cs → cs.length = size
  one : ∀ {w : World} {S : Nat → Prop} {x : α} {cs : List Value}, R w S x cs → ∀ u ∈ cs, u.oneCell' = true
  keep : ∀ {w w' : World} {S S' : Nat → Prop} {x : α} {cs : List Value}, (∀ p : Addr, S p.block → w'.cell? p = w.cell? p) → (∀ b, S b → S' b) → R w S x cs → R w' S' x cs

/-- the blocks that the elements of an owned row may use -/
def Kids (w : World) (base : Nat) (v : Value) (b : Nat) : Prop := base ≤ b ∧ b < w.heap.size ∧ v.ownBlock ≠ some b

/-- each element's cells -/
def Elems {α : Type} (R : World → (Nat → Prop) → α → List Value → Prop) (w : World) (S : Nat → Prop) (l : List α) (css : List (List Value)) : Prop :=
  css.length = l.length ∧ ∀ (j : Nat) (x : α) (cs : List Value), l[j]? = some x → css[j]? = some cs → R w S x cs

theorem Elems.nil {α : Type} {R : World → (Nat → Prop) → α → List Value → Prop} {w : World} {S : Nat → Prop} : Elems R w S [] [] := ⟨rfl, fun j x cs h => by simp at h⟩
theorem Elems.keep {α : Type} {size : Nat} {R : World → (Nat → Prop) → α → List Value → Prop} (hR : Rec size R) {w w' : World} {S S' : Nat → Prop} {l : List α} {css : List (List Value)} (h : Elems R w S l css)
    (hk : ∀ p : Addr, S p.block → w'.cell? p = w.cell? p) (hS : ∀ b, S b → S' b) : Elems R w' S' l css := ⟨h.1, fun j x cs h1 h2 => hR.keep hk hS (h.2 j x cs h1 h2)⟩
theorem Elems.snoc {α : Type} {R : World → (Nat → Prop) → α → List Value → Prop} {w : World} {S : Nat → Prop} {l : List α} {css : List (List Value)} (h : Elems R w S l css) {x : α} {cs : List Value} (hx : R w S x cs) : Elems R w S (l ++ [x]) (css ++ [cs]) := by
  refine ⟨by simp [h.1], fun j y ds h1 h2 => ?_⟩
  by_cases hj : j < l.length
  · rw [List.getElem?_append_left hj] at h1
    rw [List.getElem?_append_left (by rw [h.1]; exact hj)] at h2
    exact h.2 j y ds h1 h2
  · rw [List.getElem?_append_right (by omega)] at h1
    rw [List.getElem?_append_right (by rw [h.1]; omega), h.1] at h2
    have hj0 : j - l.length = 0 := by
      have := (List.getElem?_eq_some_iff.1 h1).1
      simp at this
      omega
    rw [hj0] at h1 h2
    simp at h1 h2
    subst h1 h2
    exact hx
theorem Elems.below {α : Type} {size : Nat} {R : World → (Nat → Prop) → α → List Value → Prop} (hR : Rec size R) {w w' : World} {base : Nat} {v : Value} {l : List α} {css : List (List Value)} (h : Elems R w (Kids w base v) l css)
    (hb : Below w.heap.size w w') : Elems R w' (Kids w' base v) l css :=
  h.keep hR (fun _ hp => hb.cell hp.2.1) (fun _ hp => ⟨hp.1, Nat.lt_of_lt_of_le hp.2.1 hb.size, hp.2.2⟩)
/-- a store into a block below the row's base -/
theorem Elems.low {α : Type} {size : Nat} {R : World → (Nat → Prop) → α → List Value → Prop} (hR : Rec size R) {w : World} {base : Nat} {v : Value} {l : List α} {css : List (List Value)} (h : Elems R w (Kids w base v) l css)
    {a : Addr} (ha : a.block < base) (u : Value) : Elems R (w.setCell a u) (Kids (w.setCell a u) base v) l css :=
  h.keep hR (fun p hp => World.cell?_of_block (Below.heap_setCell w a u p.block (by have := hp.1; omega))) (fun b hp => ⟨hp.1, by simpa [World.setCell] using hp.2.1, hp.2.2⟩)
/-- behind an append of one element -/
theorem Elems.app {α : Type} {size : Nat} {R : World → (Nat → Prop) → α → List Value → Prop} (hR : Rec size R) {w w2 : World} {o : Obj} {base : Nat} {v v' : Value} {l : List α} {css : List (List Value)} (h : Elems R w (Kids w base v) l css)
    {x : α} {cs : List Value} (hx : R w (Kids w base v) x cs) (hg : (w.alloc o).grownBy w2 v.ownBlock) (hat : v'.ownBlock = v.ownBlock ∨ v'.ownBlock = some (w.alloc o).heap.size) : Elems R w2 (Kids w2 base v') (l ++ [x]) (css ++ [cs]) := by
  refine (h.snoc hx).keep hR (fun p hp => ?_) (fun b hp => ?_)
  · rw [World.cell?_of_block (hg.block p.block (by have := hp.2.1; simp; omega) (fun e => hp.2.2 e.symm))]
    exact World.cell?_of_block (Below.heap_alloc w o p.block hp.2.1)
  · refine ⟨hp.1, ?_, ?_⟩
    · have h1 := hg.size
      have h2 := hp.2.1
      simp at h1
      omega
    · rcases hat with e | e
      · rw [e]
        exact hp.2.2
      · rw [e]
        have h2 := hp.2.1
        simp
        omega

theorem flat_get {size : Nat} : ∀ {css : List (List Value)}, (∀ cs ∈ css, cs.length = size) → ∀ {j o : Nat} {cs : List Value} {u : Value}, css[j]? = some cs → cs[o]? = some u → css.flatten[j * size + o]? = some u
  | [], _, j, o, cs, u, h, _ => by simp at h
  | c :: r, hl, j, o, cs, u, h, hu => by
    have hc : c.length = size := hl c (by simp)
    rw [List.flatten_cons]
    cases j with
    | zero =>
      simp at h
      subst h
      rw [Nat.zero_mul, Nat.zero_add, List.getElem?_append_left (List.getElem?_eq_some_iff.1 hu).1]
      exact hu
    | succ j =>
      rw [List.getElem?_append_right (by rw [hc, Nat.succ_mul]; omega), hc, show (j + 1) * size + o - size = j * size + o from by rw [Nat.succ_mul]; omega]
      exact flat_get (fun x hx => hl x (by simp [hx])) (by simpa using h) hu

theorem elems_len {α : Type} {size : Nat} {R : World → (Nat → Prop) → α → List Value → Prop} (hR : Rec size R) {w : World} {S : Nat → Prop} {l : List α} {css : List (List Value)} (h : Elems R w S l css) : ∀ cs ∈ css, cs.length = size := by
  intro cs hcs
  obtain ⟨j, hj, rfl⟩ := List.getElem_of_mem hcs
  have hj' : j < l.length := by rw [← h.1]; exact hj
  exact hR.len (h.2 j (l[j]) _ (List.getElem?_eq_getElem hj') (List.getElem?_eq_getElem hj))

theorem add_add (a : Addr) (i j : Nat) : (a.add i).add j = a.add (i + j) := by
  unfold Addr.add
  by_cases hi : i = 0 <;> by_cases hj : j = 0 <;> simp [hi, hj, Nat.add_assoc]

/-- element j of an owned row of records: its cells, and that it is one -/
theorem own_elem {α : Type} {size : Nat} {R : World → (Nat → Prop) → α → List Value → Prop} (hR : Rec size R) {w : World} {base : Nat} {e : TypeId} {v : Value} {l : List α} {css : List (List Value)}
    (hown : w.ownsRow base e size v l.length css.flatten) (h : Elems R w (Kids w base v) l css) {j : Nat} {x : α} (hx : l[j]? = some x) :
    ∃ (g c : Nat) (cs : List Value), v = .slice (some ⟨g, 0, none⟩) l.length c ∧ base ≤ g ∧ g < w.heap.size ∧ CellsAt w ((⟨g, 0, none⟩ : Addr).add (j * size)) cs ∧ R w (Kids w base v) x cs := by
  have hj : j < l.length := (List.getElem?_eq_some_iff.1 hx).1
  obtain ⟨g, c, cur, rfl, hbg, hlt, _, _, _, _, _⟩ := own_block hown (by omega)
  have hcs : css[j]? = some (css[j]'(by rw [h.1]; exact hj)) := List.getElem?_eq_getElem _
  refine ⟨g, c, _, rfl, hbg, hlt, fun o u hu => ?_, h.2 j x _ hx hcs⟩
  rw [add_add]
  exact hown.cells (g := g) rfl _ u (flat_get (elems_len hR h) hcs hu)

/-! the two kinds of records of a value -/
theorem isV_len {w : World} {S : Nat → Prop} {v : V} {cs : List Value} (h : IsV w S v cs) : cs.length = 8 := by
  cases v
  simp only [IsV] at h
  obtain ⟨_, _, _, _, rfl, _⟩ := h
  rfl
theorem isV_one {w : World} {S : Nat → Prop} {v : V} {cs : List Value} (h : IsV w S v cs) : ∀ u ∈ cs, u.oneCell' = true := by
  cases v
  simp only [IsV] at h
  obtain ⟨_, _, _, _, rfl, _⟩ := h
  intro u hu
  simp at hu
  rcases hu with rfl | rfl | rfl | rfl | rfl | rfl | rfl | rfl <;> rfl
theorem recV : Rec 8 IsV := ⟨fun h => isV_len h, fun h => isV_one h, fun hk hS h => h.keep hk hS⟩
/-- a member: its name, and its value's cells -/
def IsF (w : World) (S : Nat → Prop) (p : ByteArray × V) (cs : List Value) : Prop := ∃ ds, cs = .string p.1 :: ds ∧ IsV w S p.2 ds
theorem recF : Rec 9 IsF := by
  refine ⟨fun h => ?_, fun h => ?_, fun hk hS h => ?_⟩
  · obtain ⟨ds, rfl, h⟩ := h
    simp [isV_len h]
  · obtain ⟨ds, rfl, h⟩ := h
    intro u hu
    rcases List.mem_cons.1 hu with rfl | hu
    · rfl
    · exact isV_one h u hu
  · obtain ⟨ds, rfl, h⟩ := h
    exact ⟨ds, rfl, h.keep hk hS⟩

/-- all blocks that a call has made -/
def New (base : Nat) (w : World) (b : Nat) : Prop := base ≤ b ∧ b < w.heap.size

theorem own_isVs {w : World} {base : Nat} {e : TypeId} {A : Option Addr} {n c : Nat} {l : List V} {css : List (List Value)} (hown : w.ownsRow base e 8 (.slice A n c) l.length css.flatten) (h : Elems IsV w (Kids w base (.slice A n c)) l css) :
    IsVs w (New base w) l A 0 := by
  refine IsVs.of fun i x hx => ?_
  obtain ⟨g, c', cs, hv, hbg, hlt, hc, hR⟩ := own_elem recV hown h hx
  injection hv with hA _ _
  subst hA
  rw [Nat.zero_add]
  exact ⟨_, cs, rfl, ⟨hbg, hlt⟩, hc, hR.more fun b hb => ⟨hb.1, hb.2.1⟩⟩
theorem own_isFs {w : World} {base : Nat} {e : TypeId} {A : Option Addr} {n c : Nat} {l : List (ByteArray × V)} {css : List (List Value)} (hown : w.ownsRow base e 9 (.slice A n c) l.length css.flatten) (h : Elems IsF w (Kids w base (.slice A n c)) l css) :
    IsFs w (New base w) l A 0 := by
  refine IsFs.of fun i x hx => ?_
  obtain ⟨g, c', cs, hv, hbg, hlt, hc, ds, rfl, hR⟩ := own_elem recF hown h hx
  injection hv with hA _ _
  subst hA
  rw [Nat.zero_add]
  exact ⟨_, ds, rfl, ⟨hbg, hlt⟩, hc, hR.more fun b hb => ⟨hb.1, hb.2.1⟩⟩

/-- what is known of a block that is known whole: its cells, and that none is frozen -/
theorem blk8 {w : World} {g : Nat} {t : TypeId} {c0 c1 c2 c3 c4 c5 c6 c7 : Value} (h : w.heap[g]? = some (.cells #[c0, c1, c2, c3, c4, c5, c6, c7] t (0, 0))) :
    w.cell? ⟨g, 0, none⟩ = some c0 ∧ w.cell? ⟨g, 1, none⟩ = some c1 ∧ w.cell? ⟨g, 2, none⟩ = some c2 ∧ w.cell? ⟨g, 3, none⟩ = some c3 ∧ w.cell? ⟨g, 4, none⟩ = some c4 ∧ w.cell? ⟨g, 5, none⟩ = some c5 ∧ w.cell? ⟨g, 6, none⟩ = some c6 ∧ w.cell? ⟨g, 7, none⟩ = some c7 :=
  ⟨cell_of_row w g 0 _ t (0, 0) h, cell_of_row w g 1 _ t (0, 0) h, cell_of_row w g 2 _ t (0, 0) h, cell_of_row w g 3 _ t (0, 0) h, cell_of_row w g 4 _ t (0, 0) h, cell_of_row w g 5 _ t (0, 0) h, cell_of_row w g 6 _ t (0, 0) h, cell_of_row w g 7 _ t (0, 0) h⟩
theorem blk_lt {w : World} {g : Nat} {o : Obj} (h : w.heap[g]? = some o) : g < w.heap.size := (Array.getElem?_eq_some_iff.1 h).1
theorem blk_alloc {w : World} {g : Nat} {o : Obj} (h : w.heap[g]? = some o) (x : Obj) : (w.alloc x).heap[g]? = some o := (Below.heap_alloc w x g (blk_lt h)).trans h
theorem blk_below {w w' : World} {B g : Nat} {o : Obj} (h : w.heap[g]? = some o) (hb : Below B w w') (hg : g < B) : w'.heap[g]? = some o := (hb.block g hg).trans h
theorem blk_grown {w w' : World} {g : Nat} {o : Obj} {row : Option Nat} (h : w.heap[g]? = some o) (hb : w.grownBy w' row) (hg : some g ≠ row) : w'.heap[g]? = some o := (hb.block g (blk_lt h) hg).trans h
theorem blk_far {w : World} {g : Nat} {o : Obj} (h : w.heap[g]? = some o) {a : Addr} (ha : g ≠ a.block) (u : Value) : (w.setCell a u).heap[g]? = some o := (Below.heap_setCell w a u g ha).trans h

theorem own_below {w w' : World} {base : Nat} {e : TypeId} {size n : Nat} {v : Value} {xs : List Value} (h : w.ownsRow base e size v n xs) (hb : Below w.heap.size w w') : w'.ownsRow base e size v n xs :=
  h.kept (row := none) ⟨hb.os, hb.tape, hb.output, hb.size, fun k hk _ => hb.block k hk⟩ (by cases hv : v.ownBlock <;> simp)
/-- what a callee has made may be a kid of the caller's row -/
theorem kid_new {w w0 w' : World} {base : Nat} {e : TypeId} {size n : Nat} {v : Value} {xs : List Value} (h : w.ownsRow base e size v n xs) (hw : w.heap.size ≤ w0.heap.size) (hB : base ≤ w.heap.size) : ∀ b, New w0.heap.size w' b → Kids w' base v b := by
  intro b hb
  refine ⟨by have := hb.1; omega, hb.2, fun e => ?_⟩
  have h1 := (h.lt b e).2
  have h2 := hb.1
  omega
theorem own_ne {w : World} {base : Nat} {e : TypeId} {size n : Nat} {v : Value} {xs : List Value} (h : w.ownsRow base e size v n xs) {g : Nat} (hg : g < base) : some g ≠ v.ownBlock := fun e => by
  have := (h.lt g e.symm).1
  omega

/-- between two block numbers nothing has turned -/
def Mid (lo hi : Nat) (w w' : World) : Prop := ∀ b, lo ≤ b → b < hi → w'.heap[b]? = w.heap[b]?
theorem Mid.refl (lo hi : Nat) (w : World) : Mid lo hi w w := fun _ _ _ => rfl
theorem Mid.below {lo hi B : Nat} {w a b : World} (h : Mid lo hi w a) (hb : Below B a b) (hB : hi ≤ B) : Mid lo hi w b := fun k h1 h2 => (hb.block k (by omega)).trans (h k h1 h2)
theorem Mid.alloc {lo hi : Nat} {w a : World} (h : Mid lo hi w a) (hs : hi ≤ a.heap.size) (o : Obj) : Mid lo hi w (a.alloc o) := fun k h1 h2 => (Below.heap_alloc a o k (by omega)).trans (h k h1 h2)
theorem Mid.grown {lo hi : Nat} {w a b : World} {row : Option Nat} (h : Mid lo hi w a) (hg : a.grownBy b row) (hs : hi ≤ a.heap.size) (hr : ∀ k, row = some k → hi ≤ k) : Mid lo hi w b := fun k h1 h2 => (hg.block k (by omega) (fun e => by have := hr k e.symm; omega)).trans (h k h1 h2)
theorem Mid.set {lo hi : Nat} {w a : World} (h : Mid lo hi w a) {p : Addr} (hp : p.block < lo ∨ hi ≤ p.block) (u : Value) : Mid lo hi w (a.setCell p u) := fun k h1 h2 => (Below.heap_setCell a p u k (by omega)).trans (h k h1 h2)
theorem blk9 {w : World} {g : Nat} {t : TypeId} {s c0 c1 c2 c3 c4 c5 c6 c7 : Value} (h : w.heap[g]? = some (.cells #[s, c0, c1, c2, c3, c4, c5, c6, c7] t (0, 0))) :
    w.cell? ⟨g, 0, none⟩ = some s ∧ w.cell? ⟨g, 1, none⟩ = some c0 ∧ w.cell? ⟨g, 2, none⟩ = some c1 ∧ w.cell? ⟨g, 3, none⟩ = some c2 ∧ w.cell? ⟨g, 4, none⟩ = some c3 ∧ w.cell? ⟨g, 5, none⟩ = some c4 ∧ w.cell? ⟨g, 6, none⟩ = some c5 ∧ w.cell? ⟨g, 7, none⟩ = some c6 ∧ w.cell? ⟨g, 8, none⟩ = some c7 :=
  ⟨cell_of_row w g 0 _ t (0, 0) h, cell_of_row w g 1 _ t (0, 0) h, cell_of_row w g 2 _ t (0, 0) h, cell_of_row w g 3 _ t (0, 0) h, cell_of_row w g 4 _ t (0, 0) h, cell_of_row w g 5 _ t (0, 0) h, cell_of_row w g 6 _ t (0, 0) h, cell_of_row w g 7 _ t (0, 0) h, cell_of_row w g 8 _ t (0, 0) h⟩

theorem isF_one {w : World} {S : Nat → Prop} {s : ByteArray} {v : V} {cs : List Value} (h : IsV w S v cs) : ∀ u ∈ (Value.string s :: cs), u.oneCell' = true := by
  intro u hu
  rcases List.mem_cons.1 hu with rfl | hu
  · rfl
  · exact isV_one h u hu

theorem copy_end {w wl wr wz : World} {k : Int} {b : Bool} {i : Int} {f : Nat} {t y : ByteArray} {is : List V} {fs : List (ByteArray × V)} {A1 A9 : Option Addr} {c1 c9 : Nat} (hG : wr.grownBy wz (some (w.heap.size + 1)))
    (HV : IsVs wl (New (w.heap.size + 3) wl) is A1 0) (HM : Mid (w.heap.size + 3) wl.heap.size wl wr) (HF : IsFs wr (New wl.heap.size wr) fs A9 0) (hwl : w.heap.size + 3 ≤ wl.heap.size) (hsz : wl.heap.size ≤ wr.heap.size) (hb : Below w.heap.size w wr)
    (h1 : A1 = none → is.length = 0) (h9 : A9 = none → fs.length = 0) :
    IsV wz (New w.heap.size wz) (.mk k b i f t y is fs) [.int .i64 k, .bool b, .int .i64 i, .float .f64 f, .string t, .string y, .slice A1 is.length c1, .slice A9 fs.length c9] ∧ Below w.heap.size w wz := by
  have hs := hG.size
  refine ⟨?_, hb.grown hG (by omega) (fun q e => by injection e; omega)⟩
  simp only [IsV]
  refine ⟨A1, c1, A9, c9, rfl, h1, h9, HV.keep (fun p hp => ?_) (fun q hq => ⟨by have := hq.1; omega, by have := hq.2; omega⟩), HF.keep (fun p hp => ?_) (fun q hq => ⟨by have := hq.1; omega, by have := hq.2; omega⟩)⟩
  · have a := hp.1
    have b := hp.2
    rw [World.cell?_of_block (hG.block p.block (by omega) (by intro e; injection e; omega))]
    exact World.cell?_of_block (HM p.block a b)
  · have a := hp.1
    have b := hp.2
    exact World.cell?_of_block (hG.block p.block b (by intro e; injection e; omega))
end Go.Proofs.YthlncdcfppehcaaDoor.val
end
section
namespace Go.Proofs.YthlncdcfppehcaaDoor.val
open Go.RowKit mem

/-- what a round leaves of the memory below n and of what lay from B on -/
def Keep (n B : Nat) (W W' : World) : Prop := Below n W W' ∧ ∀ k, B ≤ k → k < W.heap.size → W'.heap[k]? = W.heap[k]?
theorem Keep.refl (n B : Nat) (W : World) : Keep n B W W := ⟨Below.refl _ _, fun _ _ _ => rfl⟩
theorem Keep.trans {n B : Nat} {W W' W'' : World} (h : Keep n B W W') (k : Keep n B W' W'') : Keep n B W W'' := ⟨h.1.trans k.1, fun j h1 h2 => (k.2 j h1 (Nat.lt_of_lt_of_le h2 h.1.size)).trans (h.2 j h1 h2)⟩
theorem Keep.of_below {n B : Nat} {W W' : World} (h : Below W.heap.size W W') (hn : n ≤ W.heap.size) : Keep n B W W' := ⟨h.mono hn, fun j _ h2 => h.block j h2⟩
theorem Keep.from {n B B' : Nat} {W W' : World} (h : Keep n B W W') (hB : B ≤ B') : Keep n B' W W' := ⟨h.1, fun j h1 h2 => h.2 j (by omega) h2⟩

section
variable {P : Program}
/-- THE CONTRACT OF AN ITERATOR: N rounds; what it hands to round q of them ('encs'); it turns nothing but blocks laid since its call began. -/
def SeqB (P : Program) (f : Nat) (lb : Array Value) (N : Nat) (encs : Nat → Nat → World → Array Value → Prop) (n : Nat) (Pre : World → Prop) : Prop :=
  ∀ (l : Nat) (W0 : World) (J : Nat → World → Prop) (Jx : World → Prop), Pre W0 → n ≤ W0.heap.size →
    (∀ q W W', J q W → Below W0.heap.size W W' → J q W') → (∀ W W', Jx W → Below W0.heap.size W W' → Jx W') →
    (∀ (m q : Nat) (W1 : World) (args : Array Value), q < N → J q W1 → encs W0.heap.size q W1 args → W0.heap.size ≤ W1.heap.size → Below n W0 W1 → YieldAt Fence.wide m P l args W1 fun e W' =>
      Keep n W0.heap.size W1 W' ∧ ((e = .returned (.bool true) ∧ J (q + 1) W') ∨ (e = .returned (.bool false) ∧ Jx W'))) →
    J 0 W0 → ∀ m, CallsIn Fence.wide m P f (#[.func (.yield l) #[] #[]] ++ lb) W0 fun e W' => (∃ v, e = .returned v) ∧ (J N W' ∨ Jx W')

/-- how the body of a round may be left -/
def postB (n B : Nat) (I : Nat → World → Prop) (Ix : Code → World → Prop) (q : Nat) (W : World) : Exit → Act → World → Prop
  | .normal, _, W' => Keep n B W W' ∧ I q W'
  | .ret, _, W' => Keep n B W W' ∧ Ix .ret W'
  | .exit id, _, W' => Keep n B W W' ∧ Ix (.exit id) W'
  | .goto t, _, W' => Keep n B W W' ∧ Ix (.goto t) W'
  | _, _, _ => False

/-- THE RANGE, outside every round. -/
theorem range_B {g : Operand} {ps : Array Tmp} {assign body : Code} {Q : Exit → Act → World → Prop} {a : Act} {w : World} {n m : Nat} {gf : Nat} {lb : Array Value} (hg : a.eval g = .func (.func gf) #[] lb) (eg : Enters P gf)
    {N : Nat} {encs : Nat → Nat → World → Array Value → Prop} {Pre : World → Prop} (hseq : SeqB P gf lb N encs n Pre) (hn0 : n ≤ w.heap.size) (hpre : ∀ W1, Below w.heap.size w W1 → Pre W1) (hps : ∀ B q W args, encs B q W args → args.size = ps.size)
    (I : Nat → World → Prop) (Ix : Code → World → Prop) (hI : ∀ q W W', I q W → Below w.heap.size W W' → I q W') (hIx : ∀ c W W', Ix c W → Below w.heap.size W W' → Ix c W') (h0 : I 0 w)
    (hround : ∀ (l k q B : Nat) (W : World) (args : Array Value), w.heap.size ≤ l → l < B → B ≤ W.heap.size → q < N → I q W → encs B q W args → Below n w W →
      assign.wpIn (Fence.wide.inRound l) k P (Exit.then (fun a' W' => Keep n w.heap.size W W' ∧ I q W' ∧ ∀ W2, W2.heap.size = W'.heap.size → (∀ j, j ≠ l → W2.heap[j]? = W'.heap[j]?) → Below w.heap.size W' W2 → (∃ r, W2.heap[l]? = some (.loop r)) → I q W2 →
        body.wpIn (Fence.wide.inRound l) k P (postB n w.heap.size I Ix (q + 1) W2) a' W2) (fun _ _ _ => False)) { tmps := (ps.zip args).foldl (fun t (p, v) => t.setIfInBounds p v) a.tmps, defers := [] } W)
    (hdone : ∀ (D : Nat) (W : World), w.heap.size ≤ D → I N W → W.heap[D]? = some (.deferred (some [])) → Q .normal { a with defers := { target := .collected D, args := #[] } :: a.defers } W)
    (hstop : ∀ (D : Nat) (c : Code) (W : World), w.heap.size ≤ D → Ix c W → W.heap[D]? = some (.deferred (some [])) → c.wpIn Fence.wide m P Q { a with defers := { target := .collected D, args := #[] } :: a.defers } W) :
    (Code.rangeFunc g ps assign body).wpIn Fence.wide m P Q a w := by
  refine wpIn_rangeFunc fun fn hfn => ?_
  obtain ⟨rec, hrec⟩ : ∃ rec : LoopState → Option Code → Loop, rec = fun st pe => { state := st, pending := pe, fn, tmps := a.tmps, params := ps, assign, body, defers := w.heap.size } := ⟨_, rfl⟩
  have hK1 : ((w.alloc (.deferred (some []))).alloc (.loop (rec .ready none))).heap[w.heap.size]? = some (.deferred (some [])) := (Below.heap_alloc _ _ _ (by simp)).trans (World.alloc_heap_new w _)
  have hL1 : ((w.alloc (.deferred (some []))).alloc (.loop (rec .ready none))).heap[w.heap.size + 1]? = some (.loop (rec .ready none)) := by simpa using World.alloc_heap_new (w.alloc (.deferred (some []))) (.loop (rec .ready none))
  have hb1 : Below w.heap.size w ((w.alloc (.deferred (some []))).alloc (.loop (rec .ready none))) := ((Below.refl _ w).alloc (Nat.le_refl _) _).alloc (by simp) _
  have hs1 : w.heap.size + 2 ≤ ((w.alloc (.deferred (some []))).alloc (.loop (rec .ready none))).heap.size := by simp
  have hE : (Instr.enterLoop fn a.tmps ps assign body none).run P w = .ok (w.heap.size + 1, [{ target := .collected w.heap.size, args := #[] }]) ((w.alloc (.deferred (some []))).alloc (.loop (rec .ready none))) := by rw [hrec]; exact run_enterLoop_outer _ _ _ _ _
  generalize ((w.alloc (.deferred (some []))).alloc (.loop (rec .ready none))) = W1 at *
  refine ⟨w.heap.size + 1, _, W1, { target := .fn (.func gf) lb, args := #[.func (.yield (w.heap.size + 1)) #[] #[]] }, W1, gf, #[.func (.yield (w.heap.size + 1)) #[] #[]] ++ lb, W1, hE, ?_, ?_, ?_, (fun h => by cases h), ?_⟩
  · simp only [resolve, hg]
    simp [go_sem]
  · intro f' _
    trivial
  · have eg' : ∀ (args : Array Value) (w : World), (callFunc gf args).run P w = .ok (.enter gf args) w := eg
    simp [invoke, go_sem, eg']
  · refine (hseq (w.heap.size + 1) W1
      (fun q W => I q W ∧ W.heap[w.heap.size + 1]? = some (.loop (rec .ready none)) ∧ W.heap[w.heap.size]? = some (.deferred (some [])))
      (fun W => ∃ c, Ix c W ∧ W.heap[w.heap.size + 1]? = some (.loop (rec .done (some c))) ∧ W.heap[w.heap.size]? = some (.deferred (some [])))
      (hpre W1 hb1) (by omega)
      (fun q W W' h hb => ⟨hI q W W' h.1 (hb.mono (by omega)), blk_below h.2.1 hb (by omega), blk_below h.2.2 hb (by omega)⟩)
      (fun W W' h hb => by
        obtain ⟨c, h1, h2, h3⟩ := h
        exact ⟨c, hIx c W W' h1 (hb.mono (by omega)), blk_below h2 hb (by omega), blk_below h3 hb (by omega)⟩)
      ?_ ⟨hI 0 w W1 h0 hb1, hL1, hK1⟩ _).mono ?_
    · rintro k q W args hq ⟨hi, hl, hk⟩ henc hsz hbw'
      have hbw : Below n w W := (hb1.mono hn0).trans hbw'
      have hlt : w.heap.size + 1 < W.heap.size := (Array.getElem?_eq_some_iff.1 hl).1
      have hy := run_yield (P := P) (args := args) hl (by rw [hrec]; exact hps _ q W args henc)
      rw [hrec] at hy
      refine ⟨fn, _, assign, body, hy, roundIn_of_wpIn hfn (wpIn_mono (hround (w.heap.size + 1) k q W1.heap.size W args (by omega) (by omega) hsz hq hi henc hbw) ?_)⟩
      clear hy
      rintro e a' Wa hp
      cases e with
      | normal =>
        obtain ⟨hka, hia, hbody⟩ := hp
        have hla := (hka.2 (w.heap.size + 1) (by omega) hlt).trans hl
        have hkda := (hka.2 w.heap.size (Nat.le_refl _) (by omega)).trans hk
        have hsa := hka.1.size
        refine ⟨_, run_beginRound hla (by rw [hrec]), ?_⟩
        have hl2 : (Wa.putObj (w.heap.size + 1) (.loop { rec .ready none with state := .busy })).heap[w.heap.size + 1]? = some (.loop { rec .ready none with state := .busy }) := World.putObj_heap_same (by omega)
        have hb2 : Below w.heap.size Wa (Wa.putObj (w.heap.size + 1) (.loop { rec .ready none with state := .busy })) := belowK_b (w := w) (Nat.le_refl _) Wa (w.heap.size + 1) _ _ (by omega) hla rfl rfl
        have ho2 : ∀ j, j ≠ w.heap.size + 1 → (Wa.putObj (w.heap.size + 1) (.loop { rec .ready none with state := .busy })).heap[j]? = Wa.heap[j]? := fun j hj => World.putObj_heap_other (by omega)
        have hz2 : (Wa.putObj (w.heap.size + 1) (.loop { rec .ready none with state := .busy })).heap.size = Wa.heap.size := by simp [World.putObj]
        generalize (Wa.putObj (w.heap.size + 1) (.loop { rec .ready none with state := .busy })) = W2 at *
        refine wpIn_mono (hbody W2 hz2 ho2 hb2 ⟨_, hl2⟩ (hI _ _ _ hia hb2)) ?_
        have hkd2 := (ho2 w.heap.size (by omega)).trans hkda
        have hkW : Keep n W1.heap.size W W2 := (hka.from (by omega)).trans ⟨hb2.mono hn0, fun j h1 _ => ho2 j (by omega)⟩
        have fin : ∀ (jump : Option Code) (W3 : World), Keep n w.heap.size W2 W3 →
            ∃ W4, (Instr.endRound (w.heap.size + 1) jump).run P W3 = .ok (.bool jump.isNone) W4 ∧ W4.heap[w.heap.size + 1]? = some (.loop (rec (if jump.isNone then .ready else .done) jump)) ∧ W4.heap[w.heap.size]? = some (.deferred (some [])) ∧ Below w.heap.size W3 W4 ∧ Keep n W1.heap.size W W4 := fun jump W3 hk3 => by
          have hs3 := hk3.1.size
          have hl3 := (hk3.2 (w.heap.size + 1) (by omega) (by omega)).trans hl2
          have hkd3 := (hk3.2 w.heap.size (Nat.le_refl _) (by omega)).trans hkd2
          have hrun := run_endRound (P := P) jump hl3
          rw [hrec] at hrun ⊢
          have hb3 : Below w.heap.size W3 (W3.putObj (w.heap.size + 1) (.loop { state := if jump.isNone then .ready else .done, pending := jump, fn, tmps := a.tmps, params := ps, assign, body, defers := w.heap.size })) := belowK_b (w := w) (Nat.le_refl _) W3 (w.heap.size + 1) _ _ (by omega) hl3 rfl rfl
          exact ⟨_, hrun, World.putObj_heap_same (by omega), (World.putObj_heap_other (by omega)).trans hkd3, hb3, (hkW.trans (hk3.from (by omega))).trans ⟨hb3.mono hn0, fun j h1 _ => World.putObj_heap_other (by omega)⟩⟩
        rintro e a3 W3 hp3
        cases e with
        | normal =>
          obtain ⟨hk3, hi3⟩ := hp3
          obtain ⟨W4, hr, hl4, hk4, hb4, hK4⟩ := fin none W3 hk3
          exact ⟨_, _, hr, hK4, .inl ⟨rfl, hI _ _ _ hi3 hb4, hl4, hk4⟩⟩
        | ret =>
          obtain ⟨hk3, hi3⟩ := hp3
          obtain ⟨W4, hr, hl4, hk4, hb4, hK4⟩ := fin (some .ret) W3 hk3
          exact ⟨_, _, hr, hK4, .inr ⟨rfl, .ret, hIx _ _ _ hi3 hb4, hl4, hk4⟩⟩
        | exit id =>
          obtain ⟨hk3, hi3⟩ := hp3
          obtain ⟨W4, hr, hl4, hk4, hb4, hK4⟩ := fin (some (.exit id)) W3 hk3
          exact ⟨_, _, hr, hK4, .inr ⟨rfl, .exit id, hIx _ _ _ hi3 hb4, hl4, hk4⟩⟩
        | goto t =>
          obtain ⟨hk3, hi3⟩ := hp3
          obtain ⟨W4, hr, hl4, hk4, hb4, hK4⟩ := fin (some (.goto t)) W3 hk3
          exact ⟨_, _, hr, hK4, .inr ⟨rfl, .goto t, hIx _ _ _ hi3 hb4, hl4, hk4⟩⟩
        | panic ch => exact hp3.elim
        | outgrown => exact hp3.elim
      | _ => exact hp.elim
    · rintro e W2 ⟨⟨v, rfl⟩, (⟨hi, hl, hk⟩ | ⟨c, hi, hl, hk⟩)⟩
      · have hend := run_endLoop (P := P) hl (by rw [hrec]; simp)
        have hp : (rec .ready none).pending = none := by rw [hrec]
        rw [hp] at hend
        have hlt := (Array.getElem?_eq_some_iff.1 hl).1
        exact ⟨none, _, hend, hdone w.heap.size _ (Nat.le_refl _) (hI _ _ _ hi (belowK_b (w := w) (Nat.le_refl _) W2 (w.heap.size + 1) _ _ (by omega) hl rfl rfl)) ((World.putObj_heap_other (by omega)).trans hk)⟩
      · have hend := run_endLoop (P := P) hl (by rw [hrec]; simp)
        have hp : (rec .done (some c)).pending = some c := by rw [hrec]
        rw [hp] at hend
        exact ⟨some c, _, hend, hstop w.heap.size c _ (Nat.le_refl _) (hIx _ _ _ hi (belowK_b (w := w) (Nat.le_refl _) W2 (w.heap.size + 1) _ _ (by omega) hl rfl rfl)) ((World.putObj_heap_other (by omega)).trans hk)⟩
/-- THE RANGE, within a round of loop l₀. -/
theorem range_N {g : Operand} {ps : Array Tmp} {assign body : Code} {Q : Exit → Act → World → Prop} {a : Act} {w : World} {n m : Nat} {l₀ : Nat} {r₀ : Loop} (hl₀ : w.heap[l₀]? = some (.loop r₀)) {gf : Nat} {lb : Array Value} (hg : a.eval g = .func (.func gf) #[] lb) (eg : Enters P gf)
    {N : Nat} {encs : Nat → Nat → World → Array Value → Prop} {Pre : World → Prop} (hseq : SeqB P gf lb N encs n Pre) (hn0 : n ≤ w.heap.size) (hpre : ∀ W1, Below w.heap.size w W1 → Pre W1) (hps : ∀ B q W args, encs B q W args → args.size = ps.size)
    (I : Nat → World → Prop) (Ix : Code → World → Prop) (hI : ∀ q W W', I q W → Below w.heap.size W W' → I q W') (hIx : ∀ c W W', Ix c W → Below w.heap.size W W' → Ix c W') (h0 : I 0 w)
    (hround : ∀ (l k q B : Nat) (W : World) (args : Array Value), w.heap.size ≤ l → l < B → B ≤ W.heap.size → q < N → I q W → encs B q W args → Below n w W →
      assign.wpIn (Fence.wide.inRound l) k P (Exit.then (fun a' W' => Keep n w.heap.size W W' ∧ I q W' ∧ ∀ W2, W2.heap.size = W'.heap.size → (∀ j, j ≠ l → W2.heap[j]? = W'.heap[j]?) → Below w.heap.size W' W2 → (∃ r, W2.heap[l]? = some (.loop r)) → I q W2 →
        body.wpIn (Fence.wide.inRound l) k P (postB n w.heap.size I Ix (q + 1) W2) a' W2) (fun _ _ _ => False)) { tmps := (ps.zip args).foldl (fun t (p, v) => t.setIfInBounds p v) a.tmps, defers := [] } W)
    (hdone : ∀ (W : World), I N W → Q .normal a W)
    (hstop : ∀ (c : Code) (W : World), Ix c W → c.wpIn (Fence.wide.inRound l₀) m P Q a W) :
    (Code.rangeFunc g ps assign body).wpIn (Fence.wide.inRound l₀) m P Q a w := by
  refine wpIn_rangeFunc fun fn hfn => ?_
  obtain ⟨rec, hrec⟩ : ∃ rec : LoopState → Option Code → Loop, rec = fun st pe => { state := st, pending := pe, fn, tmps := a.tmps, params := ps, assign, body, defers := r₀.defers } := ⟨_, rfl⟩
  have hL1 : (w.alloc (.loop (rec .ready none))).heap[w.heap.size]? = some (.loop (rec .ready none)) := World.alloc_heap_new w _
  have hb1 : Below w.heap.size w (w.alloc (.loop (rec .ready none))) := (Below.refl _ w).alloc (Nat.le_refl _) _
  have hs1 : w.heap.size + 1 ≤ (w.alloc (.loop (rec .ready none))).heap.size := by simp
  have hE : (Instr.enterLoop fn a.tmps ps assign body (some l₀)).run P w = .ok (w.heap.size, []) (w.alloc (.loop (rec .ready none))) := by rw [hrec]; exact run_enterLoop_inner hl₀ _ _ _ _ _
  generalize (w.alloc (.loop (rec .ready none))) = W1 at *
  refine ⟨w.heap.size, _, W1, { target := .fn (.func gf) lb, args := #[.func (.yield (w.heap.size)) #[] #[]] }, W1, gf, #[.func (.yield (w.heap.size)) #[] #[]] ++ lb, W1, hE, ?_, ?_, ?_, (fun h => by cases h), ?_⟩
  · simp only [resolve, hg]
    simp [go_sem]
  · intro f' _
    trivial
  · have eg' : ∀ (args : Array Value) (w : World), (callFunc gf args).run P w = .ok (.enter gf args) w := eg
    simp [invoke, go_sem, eg']
  · refine (hseq (w.heap.size) W1
      (fun q W => I q W ∧ W.heap[w.heap.size]? = some (.loop (rec .ready none)))
      (fun W => ∃ c, Ix c W ∧ W.heap[w.heap.size]? = some (.loop (rec .done (some c))))
      (hpre W1 hb1) (by omega)
      (fun q W W' h hb => ⟨hI q W W' h.1 (hb.mono (by omega)), blk_below h.2 hb (by omega)⟩)
      (fun W W' h hb => by
        obtain ⟨c, h1, h2⟩ := h
        exact ⟨c, hIx c W W' h1 (hb.mono (by omega)), blk_below h2 hb (by omega)⟩)
      ?_ ⟨hI 0 w W1 h0 hb1, hL1⟩ _).mono ?_
    · rintro k q W args hq ⟨hi, hl⟩ henc hsz hbw'
      have hbw : Below n w W := (hb1.mono hn0).trans hbw'
      have hlt : w.heap.size < W.heap.size := (Array.getElem?_eq_some_iff.1 hl).1
      have hy := run_yield (P := P) (args := args) hl (by rw [hrec]; exact hps _ q W args henc)
      rw [hrec] at hy
      refine ⟨fn, _, assign, body, hy, roundIn_of_wpIn hfn (wpIn_mono (hround w.heap.size k q W1.heap.size W args (by omega) (by omega) hsz hq hi henc hbw) ?_)⟩
      clear hy
      rintro e a' Wa hp
      cases e with
      | normal =>
        obtain ⟨hka, hia, hbody⟩ := hp
        have hla := (hka.2 (w.heap.size) (by omega) hlt).trans hl
        have hsa := hka.1.size
        refine ⟨_, run_beginRound hla (by rw [hrec]), ?_⟩
        have hl2 : (Wa.putObj (w.heap.size) (.loop { rec .ready none with state := .busy })).heap[w.heap.size]? = some (.loop { rec .ready none with state := .busy }) := World.putObj_heap_same (by omega)
        have hb2 : Below w.heap.size Wa (Wa.putObj (w.heap.size) (.loop { rec .ready none with state := .busy })) := belowK_b (w := w) (Nat.le_refl _) Wa (w.heap.size) _ _ (by omega) hla rfl rfl
        have ho2 : ∀ j, j ≠ w.heap.size → (Wa.putObj (w.heap.size) (.loop { rec .ready none with state := .busy })).heap[j]? = Wa.heap[j]? := fun j hj => World.putObj_heap_other (by omega)
        have hz2 : (Wa.putObj (w.heap.size) (.loop { rec .ready none with state := .busy })).heap.size = Wa.heap.size := by simp [World.putObj]
        generalize (Wa.putObj (w.heap.size) (.loop { rec .ready none with state := .busy })) = W2 at *
        refine wpIn_mono (hbody W2 hz2 ho2 hb2 ⟨_, hl2⟩ (hI _ _ _ hia hb2)) ?_
        have hkW : Keep n W1.heap.size W W2 := (hka.from (by omega)).trans ⟨hb2.mono hn0, fun j h1 _ => ho2 j (by omega)⟩
        have fin : ∀ (jump : Option Code) (W3 : World), Keep n w.heap.size W2 W3 →
            ∃ W4, (Instr.endRound (w.heap.size) jump).run P W3 = .ok (.bool jump.isNone) W4 ∧ W4.heap[w.heap.size]? = some (.loop (rec (if jump.isNone then .ready else .done) jump)) ∧ Below w.heap.size W3 W4 ∧ Keep n W1.heap.size W W4 := fun jump W3 hk3 => by
          have hs3 := hk3.1.size
          have hl3 := (hk3.2 (w.heap.size) (by omega) (by omega)).trans hl2
          have hrun := run_endRound (P := P) jump hl3
          rw [hrec] at hrun ⊢
          have hb3 : Below w.heap.size W3 (W3.putObj (w.heap.size) (.loop { state := if jump.isNone then .ready else .done, pending := jump, fn, tmps := a.tmps, params := ps, assign, body, defers := r₀.defers })) := belowK_b (w := w) (Nat.le_refl _) W3 (w.heap.size) _ _ (by omega) hl3 rfl rfl
          exact ⟨_, hrun, World.putObj_heap_same (by omega), hb3, (hkW.trans (hk3.from (by omega))).trans ⟨hb3.mono hn0, fun j h1 _ => World.putObj_heap_other (by omega)⟩⟩
        rintro e a3 W3 hp3
        cases e with
        | normal =>
          obtain ⟨hk3, hi3⟩ := hp3
          obtain ⟨W4, hr, hl4, hb4, hK4⟩ := fin none W3 hk3
          exact ⟨_, _, hr, hK4, .inl ⟨rfl, hI _ _ _ hi3 hb4, hl4⟩⟩
        | ret =>
          obtain ⟨hk3, hi3⟩ := hp3
          obtain ⟨W4, hr, hl4, hb4, hK4⟩ := fin (some .ret) W3 hk3
          exact ⟨_, _, hr, hK4, .inr ⟨rfl, .ret, hIx _ _ _ hi3 hb4, hl4⟩⟩
        | exit id =>
          obtain ⟨hk3, hi3⟩ := hp3
          obtain ⟨W4, hr, hl4, hb4, hK4⟩ := fin (some (.exit id)) W3 hk3
          exact ⟨_, _, hr, hK4, .inr ⟨rfl, .exit id, hIx _ _ _ hi3 hb4, hl4⟩⟩
        | goto t =>
          obtain ⟨hk3, hi3⟩ := hp3
          obtain ⟨W4, hr, hl4, hb4, hK4⟩ := fin (some (.goto t)) W3 hk3
          exact ⟨_, _, hr, hK4, .inr ⟨rfl, .goto t, hIx _ _ _ hi3 hb4, hl4⟩⟩
        | panic ch => exact hp3.elim
        | outgrown => exact hp3.elim
      | _ => exact hp.elim
    · rintro e W2 ⟨⟨v, rfl⟩, (⟨hi, hl⟩ | ⟨c, hi, hl⟩)⟩
      · have hend := run_endLoop (P := P) hl (by rw [hrec]; simp)
        have hp : (rec .ready none).pending = none := by rw [hrec]
        rw [hp] at hend
        have hlt := (Array.getElem?_eq_some_iff.1 hl).1
        exact ⟨none, _, hend, hdone _ (hI _ _ _ hi (belowK_b (w := w) (Nat.le_refl _) W2 (w.heap.size) _ _ (by omega) hl rfl rfl))⟩
      · have hend := run_endLoop (P := P) hl (by rw [hrec]; simp)
        have hp : (rec .done (some c)).pending = some c := by rw [hrec]
        rw [hp] at hend
        exact ⟨some c, _, hend, hstop c _ (hIx _ _ _ hi (belowK_b (w := w) (Nat.le_refl _) W2 (w.heap.size) _ _ (by omega) hl rfl rfl))⟩
end
end Go.Proofs.YthlncdcfppehcaaDoor.val
end
section
namespace Go.Proofs.YthlncdcfppehcaaDoor.val
open Go.RowKit mem
set_option linter.unusedVariables false

/-- every block of cells stands -/
structure Ext (W W' : World) : Prop where
  os : W'.os = W.os
  tape : W'.tape = W.tape
  output : W'.output = W.output
  size : W.heap.size ≤ W'.heap.size
  cells : ∀ (k : Nat) (cs : Array Value) (t : TypeId) (z : Nat × Nat), W.heap[k]? = some (.cells cs t z) → W'.heap[k]? = some (.cells cs t z)
theorem Ext.of_below {W W' : World} (h : Below W.heap.size W W') : Ext W W' := ⟨h.os, h.tape, h.output, h.size, fun k cs t z hk => (h.block k (blk_lt hk)).trans hk⟩
theorem Ext.put {W : World} {l : Nat} {o : Obj} (h : W.heap[l]? = some o) (ho : ∀ cs t z, o ≠ .cells cs t z) (o' : Obj) : Ext W (W.putObj l o') :=
  ⟨rfl, rfl, rfl, by simp [World.putObj], fun k cs t z hk => (World.putObj_heap_other (by intro e; subst e; rw [h] at hk; injection hk with hk; exact ho _ _ _ hk)).trans hk⟩
theorem Ext.trans {W W' W'' : World} (h : Ext W W') (k : Ext W' W'') : Ext W W'' := ⟨k.os.trans h.os, k.tape.trans h.tape, k.output.trans h.output, Nat.le_trans h.size k.size, fun j cs t z hj => k.cells j cs t z (h.cells j cs t z hj)⟩

section
variable {P : Program}
/-- THE CONTRACT OF AN ITERATOR: N rounds; what it hands to round q of them ('encs'); it turns nothing that lay before it yields, but by laying new blocks. -/
def SeqC (P : Program) (f : Nat) (lb : Array Value) (N : Nat) (encs : Nat → Nat → World → Array Value → Prop) (n : Nat) (Pre : World → Prop) : Prop :=
  ∀ (l : Nat) (W0 : World) (J : Nat → World → Prop) (Jx : World → Prop), Pre W0 → n ≤ W0.heap.size →
    (∀ q W W', J q W → Below W.heap.size W W' → J q W') → (∀ W W', Jx W → Below W.heap.size W W' → Jx W') →
    (∀ (m q : Nat) (W1 : World) (args : Array Value), q < N → J q W1 → encs W0.heap.size q W1 args → W0.heap.size ≤ W1.heap.size → Below n W0 W1 → YieldAt Fence.wide m P l args W1 fun e W' =>
      Keep n W0.heap.size W1 W' ∧ ((e = .returned (.bool true) ∧ J (q + 1) W') ∨ (e = .returned (.bool false) ∧ Jx W'))) →
    J 0 W0 → ∀ m, CallsIn Fence.wide m P f (#[.func (.yield l) #[] #[]] ++ lb) W0 fun e W' => (∃ v, e = .returned v) ∧ (J N W' ∨ Jx W')

/-- THE RANGE, outside every round. -/
theorem range_C {g : Operand} {ps : Array Tmp} {assign body : Code} {Q : Exit → Act → World → Prop} {a : Act} {w : World} {n m : Nat} {gf : Nat} {lb : Array Value} (hg : a.eval g = .func (.func gf) #[] lb) (eg : Enters P gf)
    {N : Nat} {encs : Nat → Nat → World → Array Value → Prop} {Pre : World → Prop} (hseq : SeqC P gf lb N encs n Pre) (hn0 : n ≤ w.heap.size) (hpre : ∀ W1, Below w.heap.size w W1 → Pre W1) (hps : ∀ B q W args, encs B q W args → args.size = ps.size)
    (I : Nat → World → Prop) (Ix : Code → World → Prop) (hI : ∀ q W W', I q W → Below w.heap.size W W' → Ext W W' → I q W') (hIx : ∀ c W W', Ix c W → Below w.heap.size W W' → Ext W W' → Ix c W') (h0 : I 0 w)
    (hround : ∀ (l k q B : Nat) (W : World) (args : Array Value), w.heap.size ≤ l → l < B → B ≤ W.heap.size → q < N → I q W → encs B q W args → Below n w W →
      assign.wpIn (Fence.wide.inRound l) k P (Exit.then (fun a' W' => Keep n w.heap.size W W' ∧ I q W' ∧ ∀ W2, W2.heap.size = W'.heap.size → (∀ j, j ≠ l → W2.heap[j]? = W'.heap[j]?) → Below w.heap.size W' W2 → (∃ r, W2.heap[l]? = some (.loop r)) → I q W2 →
        body.wpIn (Fence.wide.inRound l) k P (postB n w.heap.size I Ix (q + 1) W2) a' W2) (fun _ _ _ => False)) { tmps := (ps.zip args).foldl (fun t (p, v) => t.setIfInBounds p v) a.tmps, defers := [] } W)
    (hdone : ∀ (D : Nat) (W : World), w.heap.size ≤ D → I N W → W.heap[D]? = some (.deferred (some [])) → Q .normal { a with defers := { target := .collected D, args := #[] } :: a.defers } W)
    (hstop : ∀ (D : Nat) (c : Code) (W : World), w.heap.size ≤ D → Ix c W → W.heap[D]? = some (.deferred (some [])) → c.wpIn Fence.wide m P Q { a with defers := { target := .collected D, args := #[] } :: a.defers } W) :
    (Code.rangeFunc g ps assign body).wpIn Fence.wide m P Q a w := by
  refine wpIn_rangeFunc fun fn hfn => ?_
  obtain ⟨rec, hrec⟩ : ∃ rec : LoopState → Option Code → Loop, rec = fun st pe => { state := st, pending := pe, fn, tmps := a.tmps, params := ps, assign, body, defers := w.heap.size } := ⟨_, rfl⟩
  have hK1 : ((w.alloc (.deferred (some []))).alloc (.loop (rec .ready none))).heap[w.heap.size]? = some (.deferred (some [])) := (Below.heap_alloc _ _ _ (by simp)).trans (World.alloc_heap_new w _)
  have hL1 : ((w.alloc (.deferred (some []))).alloc (.loop (rec .ready none))).heap[w.heap.size + 1]? = some (.loop (rec .ready none)) := by simpa using World.alloc_heap_new (w.alloc (.deferred (some []))) (.loop (rec .ready none))
  have hb1 : Below w.heap.size w ((w.alloc (.deferred (some []))).alloc (.loop (rec .ready none))) := ((Below.refl _ w).alloc (Nat.le_refl _) _).alloc (by simp) _
  have hs1 : w.heap.size + 2 ≤ ((w.alloc (.deferred (some []))).alloc (.loop (rec .ready none))).heap.size := by simp
  have hE : (Instr.enterLoop fn a.tmps ps assign body none).run P w = .ok (w.heap.size + 1, [{ target := .collected w.heap.size, args := #[] }]) ((w.alloc (.deferred (some []))).alloc (.loop (rec .ready none))) := by rw [hrec]; exact run_enterLoop_outer _ _ _ _ _
  generalize ((w.alloc (.deferred (some []))).alloc (.loop (rec .ready none))) = W1 at *
  refine ⟨w.heap.size + 1, _, W1, { target := .fn (.func gf) lb, args := #[.func (.yield (w.heap.size + 1)) #[] #[]] }, W1, gf, #[.func (.yield (w.heap.size + 1)) #[] #[]] ++ lb, W1, hE, ?_, ?_, ?_, (fun h => by cases h), ?_⟩
  · simp only [resolve, hg]
    simp [go_sem]
  · intro f' _
    trivial
  · have eg' : ∀ (args : Array Value) (w : World), (callFunc gf args).run P w = .ok (.enter gf args) w := eg
    simp [invoke, go_sem, eg']
  · refine (hseq (w.heap.size + 1) W1
      (fun q W => I q W ∧ W.heap[w.heap.size + 1]? = some (.loop (rec .ready none)) ∧ W.heap[w.heap.size]? = some (.deferred (some [])))
      (fun W => ∃ c, Ix c W ∧ W.heap[w.heap.size + 1]? = some (.loop (rec .done (some c))) ∧ W.heap[w.heap.size]? = some (.deferred (some [])))
      (hpre W1 hb1) (by omega)
      (fun q W W' h hb => ⟨hI q W W' h.1 (hb.mono (Nat.le_of_lt (blk_lt h.2.2))) (Ext.of_below hb), blk_below h.2.1 hb (blk_lt h.2.1), blk_below h.2.2 hb (blk_lt h.2.2)⟩)
      (fun W W' h hb => by
        obtain ⟨c, h1, h2, h3⟩ := h
        exact ⟨c, hIx c W W' h1 (hb.mono (Nat.le_of_lt (blk_lt h3))) (Ext.of_below hb), blk_below h2 hb (blk_lt h2), blk_below h3 hb (blk_lt h3)⟩)
      ?_ ⟨hI 0 w W1 h0 hb1 (Ext.of_below hb1), hL1, hK1⟩ _).mono ?_
    · rintro k q W args hq ⟨hi, hl, hk⟩ henc hsz hbw'
      have hbw : Below n w W := (hb1.mono hn0).trans hbw'
      have hlt : w.heap.size + 1 < W.heap.size := (Array.getElem?_eq_some_iff.1 hl).1
      have hy := run_yield (P := P) (args := args) hl (by rw [hrec]; exact hps _ q W args henc)
      rw [hrec] at hy
      refine ⟨fn, _, assign, body, hy, roundIn_of_wpIn hfn (wpIn_mono (hround (w.heap.size + 1) k q W1.heap.size W args (by omega) (by omega) hsz hq hi henc hbw) ?_)⟩
      clear hy
      rintro e a' Wa hp
      cases e with
      | normal =>
        obtain ⟨hka, hia, hbody⟩ := hp
        have hla := (hka.2 (w.heap.size + 1) (by omega) hlt).trans hl
        have hkda := (hka.2 w.heap.size (Nat.le_refl _) (by omega)).trans hk
        have hsa := hka.1.size
        refine ⟨_, run_beginRound hla (by rw [hrec]), ?_⟩
        have hl2 : (Wa.putObj (w.heap.size + 1) (.loop { rec .ready none with state := .busy })).heap[w.heap.size + 1]? = some (.loop { rec .ready none with state := .busy }) := World.putObj_heap_same (by omega)
        have hb2 : Below w.heap.size Wa (Wa.putObj (w.heap.size + 1) (.loop { rec .ready none with state := .busy })) := belowK_b (w := w) (Nat.le_refl _) Wa (w.heap.size + 1) _ _ (by omega) hla rfl rfl
        have hx2 : Ext Wa (Wa.putObj (w.heap.size + 1) (.loop { rec .ready none with state := .busy })) := Ext.put hla (fun _ _ _ e => by cases e) _
        have ho2 : ∀ j, j ≠ w.heap.size + 1 → (Wa.putObj (w.heap.size + 1) (.loop { rec .ready none with state := .busy })).heap[j]? = Wa.heap[j]? := fun j hj => World.putObj_heap_other (by omega)
        have hz2 : (Wa.putObj (w.heap.size + 1) (.loop { rec .ready none with state := .busy })).heap.size = Wa.heap.size := by simp [World.putObj]
        generalize (Wa.putObj (w.heap.size + 1) (.loop { rec .ready none with state := .busy })) = W2 at *
        refine wpIn_mono (hbody W2 hz2 ho2 hb2 ⟨_, hl2⟩ (hI _ _ _ hia hb2 hx2)) ?_
        have hkd2 := (ho2 w.heap.size (by omega)).trans hkda
        have hkW : Keep n W1.heap.size W W2 := (hka.from (by omega)).trans ⟨hb2.mono hn0, fun j h1 _ => ho2 j (by omega)⟩
        have fin : ∀ (jump : Option Code) (W3 : World), Keep n w.heap.size W2 W3 →
            ∃ W4, (Instr.endRound (w.heap.size + 1) jump).run P W3 = .ok (.bool jump.isNone) W4 ∧ W4.heap[w.heap.size + 1]? = some (.loop (rec (if jump.isNone then .ready else .done) jump)) ∧ W4.heap[w.heap.size]? = some (.deferred (some [])) ∧ (Below w.heap.size W3 W4 ∧ Ext W3 W4) ∧ Keep n W1.heap.size W W4 := fun jump W3 hk3 => by
          have hs3 := hk3.1.size
          have hl3 := (hk3.2 (w.heap.size + 1) (by omega) (by omega)).trans hl2
          have hkd3 := (hk3.2 w.heap.size (Nat.le_refl _) (by omega)).trans hkd2
          have hrun := run_endRound (P := P) jump hl3
          rw [hrec] at hrun ⊢
          have hb3 : Below w.heap.size W3 (W3.putObj (w.heap.size + 1) (.loop { state := if jump.isNone then .ready else .done, pending := jump, fn, tmps := a.tmps, params := ps, assign, body, defers := w.heap.size })) := belowK_b (w := w) (Nat.le_refl _) W3 (w.heap.size + 1) _ _ (by omega) hl3 rfl rfl
          exact ⟨_, hrun, World.putObj_heap_same (by omega), (World.putObj_heap_other (by omega)).trans hkd3, ⟨hb3, Ext.put hl3 (fun _ _ _ e => by cases e) _⟩, (hkW.trans (hk3.from (by omega))).trans ⟨hb3.mono hn0, fun j h1 _ => World.putObj_heap_other (by omega)⟩⟩
        rintro e a3 W3 hp3
        cases e with
        | normal =>
          obtain ⟨hk3, hi3⟩ := hp3
          obtain ⟨W4, hr, hl4, hk4, hb4, hK4⟩ := fin none W3 hk3
          exact ⟨_, _, hr, hK4, .inl ⟨rfl, hI _ _ _ hi3 hb4.1 hb4.2, hl4, hk4⟩⟩
        | ret =>
          obtain ⟨hk3, hi3⟩ := hp3
          obtain ⟨W4, hr, hl4, hk4, hb4, hK4⟩ := fin (some .ret) W3 hk3
          exact ⟨_, _, hr, hK4, .inr ⟨rfl, .ret, hIx _ _ _ hi3 hb4.1 hb4.2, hl4, hk4⟩⟩
        | exit id =>
          obtain ⟨hk3, hi3⟩ := hp3
          obtain ⟨W4, hr, hl4, hk4, hb4, hK4⟩ := fin (some (.exit id)) W3 hk3
          exact ⟨_, _, hr, hK4, .inr ⟨rfl, .exit id, hIx _ _ _ hi3 hb4.1 hb4.2, hl4, hk4⟩⟩
        | goto t =>
          obtain ⟨hk3, hi3⟩ := hp3
          obtain ⟨W4, hr, hl4, hk4, hb4, hK4⟩ := fin (some (.goto t)) W3 hk3
          exact ⟨_, _, hr, hK4, .inr ⟨rfl, .goto t, hIx _ _ _ hi3 hb4.1 hb4.2, hl4, hk4⟩⟩
        | panic ch => exact hp3.elim
        | outgrown => exact hp3.elim
      | _ => exact hp.elim
    · rintro e W2 ⟨⟨v, rfl⟩, (⟨hi, hl, hk⟩ | ⟨c, hi, hl, hk⟩)⟩
      · have hend := run_endLoop (P := P) hl (by rw [hrec]; simp)
        have hp : (rec .ready none).pending = none := by rw [hrec]
        rw [hp] at hend
        have hlt := (Array.getElem?_eq_some_iff.1 hl).1
        exact ⟨none, _, hend, hdone w.heap.size _ (Nat.le_refl _) (hI _ _ _ hi (belowK_b (w := w) (Nat.le_refl _) W2 (w.heap.size + 1) _ _ (by omega) hl rfl rfl) (Ext.put hl (fun _ _ _ e => by cases e) _)) ((World.putObj_heap_other (by omega)).trans hk)⟩
      · have hend := run_endLoop (P := P) hl (by rw [hrec]; simp)
        have hp : (rec .done (some c)).pending = some c := by rw [hrec]
        rw [hp] at hend
        exact ⟨some c, _, hend, hstop w.heap.size c _ (Nat.le_refl _) (hIx _ _ _ hi (belowK_b (w := w) (Nat.le_refl _) W2 (w.heap.size + 1) _ _ (by omega) hl rfl rfl) (Ext.put hl (fun _ _ _ e => by cases e) _)) ((World.putObj_heap_other (by omega)).trans hk)⟩
end
end Go.Proofs.YthlncdcfppehcaaDoor.val
end
section
namespace Go.Proofs.YthlncdcfppehcaaDoor.val
open Go.RowKit mem
attribute [local go_sem] run_store_float Oper.semAt_some
set_option linter.unusedVariables false

/-- what is handed to round q: some step, the child -/
def encK (S : Nat → Prop) (kids : List V) (q : Nat) (W : World) (args : Array Value) : Prop := ∃ (s : ByteArray) (j : Int) (bo : Bool) (x : V) (cs : List Value), kids[q]? = some x ∧ args = #[.agg #[.string s, .int .i64 j, .bool bo], .agg cs.toArray] ∧ IsV W S x cs
section
variable (b : Bool) (i : Int) (f : Nat) (t y : ByteArray) (A A' : Option Addr) (n m c c' : Nat) (S : Nat → Prop)
set_option maxRecDepth 100000 in
set_option maxHeartbeats 4000000 in
theorem kidseq_none (k r : Int) (h5 : r ≠ 5) (h6 : r ≠ 6) (g nn : Nat) (hK : ∀ W : World, Calls Tryd.prog 24 #[.agg #[.int .i64 k, .bool b, .int .i64 i, .float .f64 f, .string t, .string y, .slice A n c, .slice A' m c']] W fun e w' => e = .returned (.int .i64 r) ∧ Below W.heap.size W w') :
    SeqC Tryd.prog 40 #[.pointer (some ⟨g, 0, none⟩)] 0 (fun _ => encK S []) nn (fun W => W.heap[g]? = some (.cells #[.int .i64 k, .bool b, .int .i64 i, .float .f64 f, .string t, .string y, .slice A n c, .slice A' m c'] 30 (0, 0))) := by
  intro l W J Jx hpre hnW hJ hJx hY h0 m0
  have q5 : (r == 5) = false := beq_false_of_ne h5
  have q6 : (r == 6) = false := beq_false_of_ne h6
  have HK := Lib.hid hK
  have HJ0 := Lib.hid (fun W' (hb : Below W.heap.size W W') => hJ 0 W W' h0 hb)
  clear hK hJ hJx hY h0 h5 h6 hnW
  obtain ⟨m0, m1, m2, m3, m4, m5, m6, m7⟩ := blk8 hpre
  clear hpre
  refine callsIn_wide.2 ((callsIn_wide (n := 4)).1 ?_)
  show CallsIn Fence.wide 4 Tryd.prog 40 #[.func (.yield l) #[] #[], .pointer (some ⟨g, 0, none⟩)] W _
  refine callsIn_of_wp Tryd.func40 rfl trivial ?_ rfl
  simp only [Tryd.ntmps40, List.size_toArray, List.length_cons, List.length_nil, Nat.reduceAdd, Nat.reduceSub, Array.replicate_succ, Array.replicate_zero, List.push_toArray, List.append_toArray, List.nil_append, List.cons_append]
  gi_wp2_with fail
  refine ⟨trivial, (callsIn_wide.2 (HK.out _)).mono ?_⟩
  rintro e w2 ⟨rfl, hb⟩
  have HJ1 := Lib.hid (HJ0.out w2 hb)
  clear m0 m1 m2 m3 m4 m5 m6 m7 HJ0 HK hb
  gi_wp2_with fail
  go_end0
  exact ⟨⟨_, rfl⟩, .inl HJ1.out⟩
set_option maxRecDepth 100000 in
set_option maxHeartbeats 4000000 in
theorem kidseq_list (is : List V) (w : World) (g nn : Nat) (hl : is.length = n) (hn2 : n ≤ 1048576) (hI : IsVs w S is A 0) (hS : Bel S w.heap.size) (hwn : w.heap.size ≤ nn) (hK : ∀ W : World, Calls Tryd.prog 24 #[.agg #[.int .i64 5, .bool b, .int .i64 i, .float .f64 f, .string t, .string y, .slice A n c, .slice A' m c']] W fun e w' => e = .returned (.int .i64 5) ∧ Below W.heap.size W w') :
    SeqC Tryd.prog 40 #[.pointer (some ⟨g, 0, none⟩)] n (fun _ => encK S is) nn (fun W => W.heap[g]? = some (.cells #[.int .i64 5, .bool b, .int .i64 i, .float .f64 f, .string t, .string y, .slice A n c, .slice A' m c'] 30 (0, 0)) ∧ Below w.heap.size w W) := by
  rintro l W J Jx ⟨hpre, hW⟩ hnW hJ hJx hY h0 m0
  have HK := Lib.hid hK
  have HY := Lib.hid hY
  have HI := Lib.hid hI
  have HS := Lib.hid hS
  have HN := Lib.hid hl
  have HW := Lib.hid hW
  have hsw := hW.size
  clear hK hY hI hS hl hW
  have hgl := blk_lt hpre
  obtain ⟨m0, m1, m2, m3, m4, m5, m6, m7⟩ := blk8 hpre
  refine callsIn_wide.2 ((callsIn_wide (n := 4)).1 ?_)
  show CallsIn Fence.wide 4 Tryd.prog 40 #[.func (.yield l) #[] #[], .pointer (some ⟨g, 0, none⟩)] W _
  refine callsIn_of_wp Tryd.func40 rfl trivial ?_ rfl
  simp only [Tryd.ntmps40, List.size_toArray, List.length_cons, List.length_nil, Nat.reduceAdd, Nat.reduceSub, Array.replicate_succ, Array.replicate_zero, List.push_toArray, List.append_toArray, List.nil_append, List.cons_append]
  gi_wp2_with fail
  refine ⟨trivial, (callsIn_wide.2 (HK.out _)).mono ?_⟩
  rintro e w2 ⟨rfl, hb⟩
  have hJ0 := Lib.hid (hJ 0 W w2 h0 hb)
  have HB2 := Lib.hid hb
  have HG2 := blk_below hpre hb hgl
  have hz2 := hb.size
  clear m0 m1 m2 m3 m4 m5 m6 m7 HK hb h0 hpre
  obtain ⟨m0, m1, m2, m3, m4, m5, m6, m7⟩ := blk8 HG2
  clear HG2
  gi_wp2_with fail
  clear m0 m1 m2 m3 m4 m5 m6 m7
  gi_loopw [14] (fun vi wr => ∃ q : Nat, q ≤ n ∧ vi = .int .i64 (q : Int) ∧ Hid (J q wr) ∧ Hid (Keep nn W.heap.size w2 wr)) (fun i _ => n - (intOf i).toNat)
  case atStart => exact ⟨0, Nat.zero_le _, rfl, hJ0, Lib.hid (Keep.refl _ _ _)⟩
  case round =>
    obtain ⟨q, hq, rfl, HJ, hkp⟩ := hrel
    clear hJ0
    have hszr := hkp.out.1.size
    have HBR : Hid (Below w.heap.size w wr) := Lib.hid ((HW.out.trans (HB2.out.mono hsw)).trans (hkp.out.1.mono hwn))
    by_cases hlt : q < n
    · obtain ⟨x, hx⟩ : ∃ p, is[q]? = some p := ⟨_, List.getElem?_eq_getElem (by rw [HN.out]; exact hlt)⟩
      obtain ⟨ad, cs, rfl, hadB, hcs, hvx⟩ := HI.out.at_ hx
      rw [Nat.zero_add] at hcs
      have hadw : ad.block < w.heap.size := HS.out _ hadB
      have HX := Lib.hid hx
      have HVX := Lib.hid hvx
      obtain ⟨k2, b2, i2, f2, t2, y2, is2, fs2⟩ := x
      simp only [IsV] at hvx
      obtain ⟨A2, c2, A2', c2', rfl, _⟩ := hvx
      obtain ⟨d0, d1, d2, d3, d4, d5, d6, d7⟩ := (hcs.keep (S := fun b => b < w.heap.size) (by rw [add_block]; exact hadw) (fun p hp => HBR.out.cell hp)).eight
      clear hcs hx
      have hq0 : (0 : Int) ≤ (q : Int) := by omega
      have hqn : (q : Int) < (n : Int) := by omega
      have hnr : nn ≤ wr.heap.size := by omega
      have hbx : Below wr.heap.size wr (wr.alloc (.cells #[.int .i64 k2, .bool b2, .int .i64 i2, .float .f64 f2, .string t2, .string y2, .slice A2 is2.length c2, .slice A2' fs2.length c2'] 30)) := (Below.refl _ _).alloc (Nat.le_refl _) _
      have HKX := Lib.hid (hkp.out.trans (Keep.of_below (B := W.heap.size) hbx hnr))
      obtain ⟨fn, tmps, assign, body, hy, hR⟩ := HY.out 3 q (wr.alloc (.cells #[.int .i64 k2, .bool b2, .int .i64 i2, .float .f64 f2, .string t2, .string y2, .slice A2 is2.length c2, .slice A2' fs2.length c2'] 30)) #[.agg #[.string ⟨#[]⟩, .int .i64 (q : Int), .bool true], .agg #[.int .i64 k2, .bool b2, .int .i64 i2, .float .f64 f2, .string t2, .string y2, .slice A2 is2.length c2, .slice A2' fs2.length c2']] hlt (hJ q wr _ HJ.out hbx)
        ⟨⟨#[]⟩, (q : Int), true, .mk k2 b2 i2 f2 t2 y2 is2 fs2, _, HX.out, rfl, HVX.out.below HS.out (HBR.out.trans (hbx.mono (by omega)))⟩ (by have := hbx.size; omega) ((HB2.out.mono hnW).trans HKX.out.1)
      have HR := Lib.hid (RoundIn.mono hR (R' := fun e W' => ∃ bb : Bool, e = .returned (.bool bb) ∧ Keep nn W.heap.size (wr.alloc (.cells #[.int .i64 k2, .bool b2, .int .i64 i2, .float .f64 f2, .string t2, .string y2, .slice A2 is2.length c2, .slice A2' fs2.length c2'] 30)) W' ∧ (bb = true → J (q + 1) W') ∧ (bb = false → Jx W')) (fun e W' h => by
        obtain ⟨hk, (⟨rfl, hJ'⟩ | ⟨rfl, hJx'⟩)⟩ := h
        · exact ⟨true, rfl, hk, (fun _ => hJ'), (fun h => by cases h)⟩
        · exact ⟨false, rfl, hk, (fun h => by cases h), (fun _ => hJx')⟩))
      clear hR hbx
      gi_wp2_with fail
      refine HR.out.mono ?_
      rintro e W' ⟨bb, rfl, hk, hJ1, hJ2⟩
      have HKN := Lib.hid (HKX.out.trans hk)
      have HJ1 := Lib.hid hJ1
      have HJ2 := Lib.hid hJ2
      clear hJ1 hJ2 hk hy HR HKX d0 d1 d2 d3 d4 d5 d6 d7
      cases bb with
      | true =>
        gi_wp2_with fail
        exact ⟨⟨q + 1, by omega, by go_num, Lib.hid (HJ1.out (by trivial)), HKN⟩, by simp [intOf]; omega⟩
      | false =>
        gi_wp2_with fail
        first
          | exact bodyPost_ret (results_none rfl _ _ _) rfl ⟨⟨_, rfl⟩, .inr (HJ2.out (by trivial))⟩
          | exact ⟨⟨_, rfl⟩, .inr (HJ2.out (by trivial))⟩
          | (go_end0; exact ⟨⟨_, rfl⟩, .inr (HJ2.out (by trivial))⟩)
    · obtain rfl : q = n := by omega
      gi_wp2_with fail
      go_end0
      exact ⟨⟨_, rfl⟩, .inl HJ.out⟩
set_option maxRecDepth 100000 in
set_option maxHeartbeats 4000000 in
theorem kidseq_obj (fs : List (ByteArray × V)) (w : World) (g nn : Nat) (hl : fs.length = m) (hn2 : m ≤ 1048576) (hI : IsFs w S fs A' 0) (hS : Bel S w.heap.size) (hwn : w.heap.size ≤ nn) (hK : ∀ W : World, Calls Tryd.prog 24 #[.agg #[.int .i64 6, .bool b, .int .i64 i, .float .f64 f, .string t, .string y, .slice A n c, .slice A' m c']] W fun e w' => e = .returned (.int .i64 6) ∧ Below W.heap.size W w') :
    SeqC Tryd.prog 40 #[.pointer (some ⟨g, 0, none⟩)] m (fun _ => encK S (fs.map (·.2))) nn (fun W => W.heap[g]? = some (.cells #[.int .i64 6, .bool b, .int .i64 i, .float .f64 f, .string t, .string y, .slice A n c, .slice A' m c'] 30 (0, 0)) ∧ Below w.heap.size w W) := by
  rintro l W J Jx ⟨hpre, hW⟩ hnW hJ hJx hY h0 m0
  have HK := Lib.hid hK
  have HY := Lib.hid hY
  have HI := Lib.hid hI
  have HS := Lib.hid hS
  have HN := Lib.hid hl
  have HW := Lib.hid hW
  have hsw := hW.size
  clear hK hY hI hS hl hW
  have hgl := blk_lt hpre
  obtain ⟨m0, m1, m2, m3, m4, m5, m6, m7⟩ := blk8 hpre
  refine callsIn_wide.2 ((callsIn_wide (n := 4)).1 ?_)
  show CallsIn Fence.wide 4 Tryd.prog 40 #[.func (.yield l) #[] #[], .pointer (some ⟨g, 0, none⟩)] W _
  refine callsIn_of_wp Tryd.func40 rfl trivial ?_ rfl
  simp only [Tryd.ntmps40, List.size_toArray, List.length_cons, List.length_nil, Nat.reduceAdd, Nat.reduceSub, Array.replicate_succ, Array.replicate_zero, List.push_toArray, List.append_toArray, List.nil_append, List.cons_append]
  gi_wp2_with fail
  refine ⟨trivial, (callsIn_wide.2 (HK.out _)).mono ?_⟩
  rintro e w2 ⟨rfl, hb⟩
  have hJ0 := Lib.hid (hJ 0 W w2 h0 hb)
  have HB2 := Lib.hid hb
  have HG2 := blk_below hpre hb hgl
  have hz2 := hb.size
  clear m0 m1 m2 m3 m4 m5 m6 m7 HK hb h0 hpre
  obtain ⟨m0, m1, m2, m3, m4, m5, m6, m7⟩ := blk8 HG2
  clear HG2
  gi_wp2_with fail
  clear m0 m1 m2 m3 m4 m5 m6 m7
  gi_loopw [31] (fun vi wr => ∃ q : Nat, q ≤ m ∧ vi = .int .i64 (q : Int) ∧ Hid (J q wr) ∧ Hid (Keep nn W.heap.size w2 wr)) (fun i _ => m - (intOf i).toNat)
  case atStart => exact ⟨0, Nat.zero_le _, rfl, hJ0, Lib.hid (Keep.refl _ _ _)⟩
  case round =>
    obtain ⟨q, hq, rfl, HJ, hkp⟩ := hrel
    clear hJ0
    have hszr := hkp.out.1.size
    have HBR : Hid (Below w.heap.size w wr) := Lib.hid ((HW.out.trans (HB2.out.mono hsw)).trans (hkp.out.1.mono hwn))
    by_cases hlt : q < m
    · obtain ⟨x, hx⟩ : ∃ p, fs[q]? = some p := ⟨_, List.getElem?_eq_getElem (by rw [HN.out]; exact hlt)⟩
      obtain ⟨sn, x⟩ := x
      obtain ⟨ad, cs, rfl, hadB, hcs, hvx⟩ := HI.out.at_ hx
      rw [Nat.zero_add] at hcs
      simp only at hcs hvx
      have hadw : ad.block < w.heap.size := HS.out _ hadB
      have HX : Hid ((fs.map (·.2))[q]? = some x) := Lib.hid (by rw [List.getElem?_map, hx]; rfl)
      have HVX := Lib.hid hvx
      obtain ⟨k2, b2, i2, f2, t2, y2, is2, fs2⟩ := x
      simp only [IsV] at hvx
      obtain ⟨A2, c2, A2', c2', rfl, _⟩ := hvx
      obtain ⟨d0, d1, d2, d3, d4, d5, d6, d7, d8⟩ := (hcs.keep (S := fun b => b < w.heap.size) (by rw [add_block]; exact hadw) (fun p hp => HBR.out.cell hp)).nine
      clear hcs hx
      have hq0 : (0 : Int) ≤ (q : Int) := by omega
      have hqn : (q : Int) < (m : Int) := by omega
      have hnr : nn ≤ wr.heap.size := by omega
      have hbx : Below wr.heap.size wr (wr.alloc (.cells #[.string sn, .int .i64 k2, .bool b2, .int .i64 i2, .float .f64 f2, .string t2, .string y2, .slice A2 is2.length c2, .slice A2' fs2.length c2'] 38)) := (Below.refl _ _).alloc (Nat.le_refl _) _
      have HKX := Lib.hid (hkp.out.trans (Keep.of_below (B := W.heap.size) hbx hnr))
      obtain ⟨fn, tmps, assign, body, hy, hR⟩ := HY.out 3 q (wr.alloc (.cells #[.string sn, .int .i64 k2, .bool b2, .int .i64 i2, .float .f64 f2, .string t2, .string y2, .slice A2 is2.length c2, .slice A2' fs2.length c2'] 38)) #[.agg #[.string sn, .int .i64 0, .bool false], .agg #[.int .i64 k2, .bool b2, .int .i64 i2, .float .f64 f2, .string t2, .string y2, .slice A2 is2.length c2, .slice A2' fs2.length c2']] hlt (hJ q wr _ HJ.out hbx)
        ⟨sn, 0, false, .mk k2 b2 i2 f2 t2 y2 is2 fs2, _, HX.out, rfl, HVX.out.below HS.out (HBR.out.trans (hbx.mono (by omega)))⟩ (by have := hbx.size; omega) ((HB2.out.mono hnW).trans HKX.out.1)
      have HR := Lib.hid (RoundIn.mono hR (R' := fun e W' => ∃ bb : Bool, e = .returned (.bool bb) ∧ Keep nn W.heap.size (wr.alloc (.cells #[.string sn, .int .i64 k2, .bool b2, .int .i64 i2, .float .f64 f2, .string t2, .string y2, .slice A2 is2.length c2, .slice A2' fs2.length c2'] 38)) W' ∧ (bb = true → J (q + 1) W') ∧ (bb = false → Jx W')) (fun e W' h => by
        obtain ⟨hk, (⟨rfl, hJ'⟩ | ⟨rfl, hJx'⟩)⟩ := h
        · exact ⟨true, rfl, hk, (fun _ => hJ'), (fun h => by cases h)⟩
        · exact ⟨false, rfl, hk, (fun h => by cases h), (fun _ => hJx')⟩))
      clear hR hbx
      gi_wp2_with fail
      refine HR.out.mono ?_
      rintro e W' ⟨bb, rfl, hk, hJ1, hJ2⟩
      have HKN := Lib.hid (HKX.out.trans hk)
      have HJ1 := Lib.hid hJ1
      have HJ2 := Lib.hid hJ2
      clear hJ1 hJ2 hk hy HR HKX d0 d1 d2 d3 d4 d5 d6 d7 d8
      cases bb with
      | true =>
        gi_wp2_with fail
        exact ⟨⟨q + 1, by omega, by go_num, Lib.hid (HJ1.out (by trivial)), HKN⟩, by simp [intOf]; omega⟩
      | false =>
        gi_wp2_with fail
        first
          | exact bodyPost_ret (results_none rfl _ _ _) rfl ⟨⟨_, rfl⟩, .inr (HJ2.out (by trivial))⟩
          | exact ⟨⟨_, rfl⟩, .inr (HJ2.out (by trivial))⟩
          | (go_end0; exact ⟨⟨_, rfl⟩, .inr (HJ2.out (by trivial))⟩)
    · obtain rfl : q = m := by omega
      gi_wp2_with fail
      go_end0
      exact ⟨⟨_, rfl⟩, .inl HJ.out⟩
end
end Go.Proofs.YthlncdcfppehcaaDoor.val
end
