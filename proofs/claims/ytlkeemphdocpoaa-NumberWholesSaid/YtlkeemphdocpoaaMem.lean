/- Small words on memory: a slice value that reads as a list of cells. -/
import Derived.WalkKit
import Derived.Below
import Derived.Laws.OwnMore
import Derived.Deep.Draws
import Derived.Lib.Hide
import Derived.Maps.AppendAt
import Derived.OwnWalk
import Derived.Laws.BytesString
import Derived.Laws.Entries
namespace Go.Proofs.Ytlkeemphdocpoaa.mem
open Go.RowKit

theorem ret_int {k : IntKind} {a b : Int} (h : a = b) : Ending.returned (.int k a) = .returned (.int k b) := by rw [h]
theorem ret_bool {a b : Bool} (h : a = b) : Ending.returned (.bool a) = .returned (.bool b) := by rw [h]
theorem ret_3 {a b c a' b' c' : Int} (h : a = a') (h2 : b = b') (h3 : c = c') : Ending.returned (.tuple #[.int .i64 a, .int .i64 b, .int .i64 c]) = .returned (.tuple #[.int .i64 a', .int .i64 b', .int .i64 c']) := by rw [h, h2, h3]

theorem add_block (a : Addr) (n : Nat) : (a.add n).block = a.block := by unfold Addr.add; split <;> rfl

/-- the cells from the address on hold the list; where there is one, the address lies below block B -/
def Rd (w : World) (B : Nat) (A : Option Addr) (xs : List Value) : Prop := ∀ j u, xs[j]? = some u → ∃ ad, A = some ad ∧ ad.block < B ∧ w.cell? (ad.add j) = some u

theorem Rd.at_ {w : World} {B : Nat} {A : Option Addr} {xs : List Value} (h : Rd w B A xs) {k : Nat} (hk : k < xs.length) : ∃ ad, A = some ad ∧ ad.block < B ∧ w.cell? (ad.add k) = some xs[k] :=
  h k _ (List.getElem?_eq_getElem hk)
theorem Rd.keep {w w' : World} {B : Nat} {A : Option Addr} {xs : List Value} (h : Rd w B A xs) (hk : ∀ p : Addr, p.block < B → w'.cell? p = w.cell? p) : Rd w' B A xs :=
  fun j u hu => by
    obtain ⟨ad, e, hb, hc⟩ := h j u hu
    exact ⟨ad, e, hb, (hk _ (by rw [add_block]; exact hb)).trans hc⟩
theorem Rd.below {w w' : World} {B : Nat} {A : Option Addr} {xs : List Value} (h : Rd w B A xs) (hb : Below B w w') : Rd w' B A xs := h.keep fun _ hp => hb.cell hp
theorem Rd.more {w : World} {B B' : Nat} {A : Option Addr} {xs : List Value} (h : Rd w B A xs) (hB : B ≤ B') : Rd w B' A xs :=
  fun j u hu => by
    obtain ⟨ad, e, hb, hc⟩ := h j u hu
    exact ⟨ad, e, by omega, hc⟩
theorem Rd.nil {w : World} {B : Nat} {A : Option Addr} : Rd w B A [] := fun j u hu => by simp at hu

theorem Rd.of_own {w : World} {base : Nat} {e : TypeId} {size n c : Nat} {A : Option Addr} {xs : List Value} (h : w.ownsRow base e size (.slice A n c) n xs) : Rd w w.heap.size A xs := by
  intro j u hu
  cases A with
  | none =>
    rcases h.2 with ⟨_, rfl⟩ | ⟨g, cap, cur, hv, _⟩
    · have := h.1
      have hx : xs = [] := List.eq_nil_of_length_eq_zero (by simpa using this)
      subst hx
      simp at hu
    · injection hv with h1
      cases h1
  | some ad =>
    have hl := h.lt ad.block rfl
    have had : ad = ⟨ad.block, 0, none⟩ := by
      rcases h.2 with ⟨hv, _⟩ | ⟨g, cap, cur, hv, _⟩
      · injection hv with h1
        cases h1
      · injection hv with h1
        injection h1 with h1
        rw [h1]
    refine ⟨ad, rfl, hl.2, ?_⟩
    have := h.cells (g := ad.block) rfl j u hu
    rw [had]
    exact this

section
variable {P : Program} (w : World)

theorem run_app_nil (base : Nat) (t ty e : TypeId) (i : TypeInfo) (size : Nat) (ht : P.underlying t = some (.slice e)) (hi : P.info? e = some i)
    (v : Value) (n : Nat) (xs : List Value) (hown : w.ownsRow base e size v n xs) (c : Nat) : (Builtin.append_ #[t, t] ty #[v, .slice none 0 c]).run P w = .ok v w := by
  rcases hown.2 with ⟨rfl, rfl⟩ | ⟨g, cap, cur, rfl, _, _, hnc, _⟩
  · simp [Builtin.append_, run_underlying ht, sizeOf, typeInfo, hi, Builtin.lenOf, Builtin.firstCells]
  · simp [Builtin.append_, run_underlying ht, sizeOf, typeInfo, hi, Builtin.lenOf, Builtin.firstCells, hnc, storeCells]

/-- append onto a row of the call's own, from whatever source reads as a list (nil, empty, or not) -/
theorem run_app (base : Nat) (t ty e : TypeId) (i : TypeInfo) (z : Value) (size bytes : Nat) (ht : P.underlying t = some (.slice e)) (hi : P.info? e = some i) (hz : i.zero = some z)
    (hsize : i.size = size) (hby : i.bytes = bytes) (hzs : z.cells.size = size) (hsz : 0 < size)
    (v : Value) (n : Nat) (xs : List Value) (hown : w.ownsRow base e size v n xs)
    (B : Nat) (A : Option Addr) (m c : Nat) (news : List Value) (hl : news.length = m * size) (hr : Rd w B A news) (hnz : A = none → m = 0) (h1 : ∀ u ∈ news, u.oneCell' = true)
    (h63 : n + m ≤ maxLen) (hbytes : (n + m) * bytes ≤ 140737488355328) (hbase : base ≤ w.heap.size) :
    ∃ v' w', (Builtin.append_ #[t, t] ty #[v, .slice A m c]).run P w = .ok v' w' ∧ w'.ownsRow base e size v' (n + m) (xs ++ news) ∧ w.grownBy w' v.ownBlock ∧
      (v'.ownBlock = v.ownBlock ∨ v'.ownBlock = some w.heap.size) := by
  rcases A with _ | ad
  · have hm : m = 0 := hnz rfl
    subst hm
    have hn : news = [] := List.eq_nil_of_length_eq_zero (by simpa using hl)
    subst hn
    exact ⟨v, w, run_app_nil w base t ty e i size ht hi v n xs hown c, by simpa using hown, ⟨rfl, rfl, rfl, Nat.le_refl _, fun _ _ _ => rfl⟩, .inl rfl⟩
  · have hcells : ∀ j u, news[j]? = some u → w.cell? (ad.add j) = some u := by
      intro j u hu
      obtain ⟨ad', e', _, hc⟩ := hr j u hu
      injection e' with e'
      subst e'
      exact hc
    obtain ⟨v', w', hrun, h2, h3, _, h5⟩ := run_append_own_at (P := P) w base t ty e i z size bytes ht hi hz hsize hby hzs hsz v n xs hown ad m c news hl hcells h1 h63 hbytes hbase
    exact ⟨v', w', hrun, h2, h3, h5⟩

theorem wp_app {o : Oper} {a : Act} {K : Act → World → Prop} {Q : Exit → Act → World → Prop} (s x : Operand) (t : TypeId)
    (ho : o.op = .call { callee := .builtin .append, args := #[s, x], argTypes := #[t, t] })
    (base : Nat) (e : TypeId) (i : TypeInfo) (z : Value) (size bytes : Nat) (ht : P.underlying t = some (.slice e)) (hi : P.info? e = some i) (hz : i.zero = some z)
    (hsize : i.size = size) (hby : i.bytes = bytes) (hzs : z.cells.size = size) (hsz : 0 < size)
    (v : Value) (n : Nat) (xs : List Value) (hs : a.eval s = v) (hown : w.ownsRow base e size v n xs)
    (B : Nat) (A : Option Addr) (m c : Nat) (news : List Value) (hx : a.eval x = .slice A m c) (hl : news.length = m * size) (hr : Rd w B A news) (hnz : A = none → m = 0) (h1 : ∀ u ∈ news, u.oneCell' = true)
    (h63 : n + m ≤ maxLen) (hbytes : (n + m) * bytes ≤ 140737488355328) (hbase : base ≤ w.heap.size)
    (h : ∀ v' w', w'.ownsRow base e size v' (n + m) (xs ++ news) → w.grownBy w' v.ownBlock → (v'.ownBlock = v.ownBlock ∨ v'.ownBlock = some w.heap.size) → K (a.put o.dst v') w') : o.wp P a w K Q := by
  obtain ⟨v', w', hrun, h2, h3, h4⟩ := run_app (P := P) w base t o.type e i z size bytes ht hi hz hsize hby hzs hsz v n xs hown B A m c news hl hr hnz h1 h63 hbytes hbase
  unfold Oper.wp execOp
  simp only [ho, resolve, invoke, builtin, Sem.run_bind, Sem.run_pure, Result.andThen_ok, List.map_toArray, List.map_cons, List.map_nil, hs, hx, hrun]
  exact h v' w' h2 h3 h4

theorem wpList_app {ops : Array Oper} {rest : List Oper} {o : Oper} {a : Act} {Q : Exit → Act → World → Prop} (hgd : o.guard = none) (s x : Operand) (t : TypeId)
    (ho : o.op = .call { callee := .builtin .append, args := #[s, x], argTypes := #[t, t] })
    (base : Nat) (e : TypeId) (i : TypeInfo) (z : Value) (size bytes : Nat) (ht : P.underlying t = some (.slice e)) (hi : P.info? e = some i) (hz : i.zero = some z)
    (hsize : i.size = size) (hby : i.bytes = bytes) (hzs : z.cells.size = size) (hsz : 0 < size)
    (v : Value) (n : Nat) (xs : List Value) (hs : a.eval s = v) (hown : w.ownsRow base e size v n xs)
    (B : Nat) (A : Option Addr) (m c : Nat) (news : List Value) (hx : a.eval x = .slice A m c) (hl : news.length = m * size) (hr : Rd w B A news) (hnz : A = none → m = 0) (h1 : ∀ u ∈ news, u.oneCell' = true)
    (h63 : n + m ≤ maxLen) (hbytes : (n + m) * bytes ≤ 140737488355328) (hbase : base ≤ w.heap.size)
    (h : ∀ v' w', w'.ownsRow base e size v' (n + m) (xs ++ news) → w.grownBy w' v.ownBlock → (v'.ownBlock = v.ownBlock ∨ v'.ownBlock = some w.heap.size) → wpList P ops Q rest (a.put o.dst v') w') : wpList P ops Q (o :: rest) a w :=
  wpList_plain hgd fun _ hK => wp_app w s x t ho base e i z size bytes ht hi hz hsize hby hzs hsz v n xs hs hown B A m c news hx hl hr hnz h1 h63 hbytes hbase fun v' w' h2 h3 h4 => hK _ _ (h v' w' h2 h3 h4)
end

theorem Rd.one (w : World) (x : Value) (t : TypeId) : Rd (w.alloc (.cells #[x] t)) (w.heap.size + 1) (some ⟨w.heap.size, 0, none⟩) [x] := by
  intro j u hu
  exact ⟨_, rfl, by simp, cell_one_new w x t j u hu⟩

theorem own_lt {w : World} {base : Nat} {e : TypeId} {size n : Nat} {v : Value} {xs : List Value} (h : w.ownsRow base e size v n xs) : ∀ k, v.ownBlock = some k → base ≤ k ∧ k < w.heap.size := h.lt

/-- a value that owns a row is a slice of that length -/
theorem own_form {w : World} {base : Nat} {e : TypeId} {size n : Nat} {v : Value} {xs : List Value} (h : w.ownsRow base e size v n xs) : ∃ A c, v = .slice A n c ∧ (A = none → n = 0) ∧ n ≤ c ∧ c ≤ maxLen := by
  rcases h.2 with ⟨rfl, rfl⟩ | ⟨g, cap, cur, rfl, _, _, h1, h2, _⟩
  · exact ⟨none, 0, rfl, fun _ => rfl, Nat.le_refl _, Nat.zero_le _⟩
  · exact ⟨_, cap, rfl, (fun h => by cases h), h1, h2⟩

/-- behind an append onto a row of the call's own (with the new element's block, or without) -/
theorem below_app1 {B base : Nat} {e : TypeId} {size n : Nat} {w wr w1 : World} {v : Value} {xs : List Value} {o : Obj} (hb : Below B w wr) (hown : wr.ownsRow base e size v n xs) (hB : B ≤ base) (hBs : B ≤ wr.heap.size)
    (hg : (wr.alloc o).grownBy w1 v.ownBlock) : Below B w w1 :=
  (hb.alloc hBs o).grown hg (by simp; omega) fun k hk => Nat.le_trans hB (hown.lt k hk).1
theorem below_app {B base : Nat} {e : TypeId} {size n : Nat} {w wr w1 : World} {v : Value} {xs : List Value} (hb : Below B w wr) (hown : wr.ownsRow base e size v n xs) (hB : B ≤ base) (hBs : B ≤ wr.heap.size)
    (hg : wr.grownBy w1 v.ownBlock) : Below B w w1 :=
  hb.grown hg hBs fun k hk => Nat.le_trans hB (hown.lt k hk).1

theorem add_zero_off (g j : Nat) : (⟨g, 0, none⟩ : Addr).add j = ⟨g, j, none⟩ := by unfold Addr.add; split <;> simp_all

/-- a new block reads as its cells -/
theorem Rd.new (w : World) (cs : List Value) (t : TypeId) : Rd (w.alloc (.cells cs.toArray t)) (w.heap.size + 1) (some ⟨w.heap.size, 0, none⟩) cs := by
  intro j u hu
  refine ⟨_, rfl, by simp, ?_⟩
  rw [add_zero_off, cell_of_row (w.alloc (.cells cs.toArray t)) w.heap.size j cs.toArray t (0, 0) (heap_alloc_new w _)]
  simpa using hu

/-- a row of the call's own that is not empty: its block -/
theorem own_block {w : World} {base : Nat} {e : TypeId} {size n : Nat} {v : Value} {xs : List Value} (h : w.ownsRow base e size v n xs) (hn : 0 < n) :
    ∃ g c cur, v = .slice (some ⟨g, 0, none⟩) n c ∧ base ≤ g ∧ g < w.heap.size ∧ n ≤ c ∧ c ≤ maxLen ∧ w.heap[g]? = some (.cells cur e (0, 0)) ∧ cur.size = c * size ∧ cur.toList.take (n * size) = xs := by
  rcases h.2 with ⟨_, h0⟩ | ⟨g, cap, cur, hv, hb, hg, h1, h2, h3, h4⟩
  · omega
  · exact ⟨g, cap, cur, hv, hb, (Array.getElem?_eq_some_iff.1 hg).1, h1, h2, hg, h3, h4⟩

/-- an empty composite literal, not nil -/
theorem own_empty (w : World) (base g : Nat) (e : TypeId) (size : Nat) (hg : w.heap.size = g) (hb : base ≤ g) : (w.alloc (.cells #[] e)).ownsRow base e size (.slice (some ⟨g, 0, none⟩) 0 0) 0 [] := by
  subst hg
  exact World.ownsRow_made w #[] 0 hb (Nat.zero_le _) (by simp)
theorem Rd.newAt (w : World) (g : Nat) (cs : List Value) (t : TypeId) (hg : w.heap.size = g) : Rd (w.alloc (.cells cs.toArray t)) (g + 1) (some ⟨g, 0, none⟩) cs := by
  subst hg
  exact Rd.new w cs t

/-- the string whose bytes are these numbers -/
def strOf (xs : List Int) : ByteArray := ⟨(xs.map fun n => UInt8.ofNat n.toNat).toArray⟩
theorem strOf_size (xs : List Int) : (strOf xs).size = xs.length := by simp [strOf, ByteArray.size]
theorem strOf_foldl (xs : List Int) (s : ByteArray) : xs.foldl (fun r n => r.push (UInt8.ofNat n.toNat)) s = ⟨s.data ++ (xs.map fun n => UInt8.ofNat n.toNat).toArray⟩ := by
  induction xs generalizing s with
  | nil => simp
  | cons x xs ih =>
    rw [List.foldl_cons, ih]
    congr 1
    apply Array.toList_inj.1
    simp [ByteArray.push]
theorem run_conv_bytes {P : Program} {w : World} {B : Nat} (src dst e : TypeId) (A : Option Addr) (xs : List Int) (c : Nat) (hs : P.underlying src = some (.slice e)) (he : P.underlying e = some (.int .u8)) (hd : P.underlying dst = some .string)
    (hr : Rd w B A (xs.map (.int .u8))) (hn : A = none → xs.length = 0) : (convert src dst (.slice A xs.length c)).run P w = .ok (.string (strOf xs)) w := by
  rw [run_convert_bytes_string w src dst e A xs.length c hs he hd]
  cases A with
  | none =>
    have hx : xs = [] := List.eq_nil_of_length_eq_zero (hn rfl)
    subst hx
    simp [Conv.bytesToString, strOf, Sem.run_pure]
    rfl
  | some ad =>
    have hl : (loadCells ad xs.length).run P w = .ok (xs.map (Value.int .u8)).toArray w := by
      have h1 := run_loadCells_list (P := P) (w := w) ad (xs.map (.int .u8)) (fun j v hv => by
        obtain ⟨ad', e', _, hc⟩ := hr j v hv
        injection e' with e'
        subst e'
        exact hc)
      simpa using h1
    rw [run_bytesToString w ad xs.length c xs hl, strOf_foldl]
    simp [strOf]

/-- the first elements of a row of the call's own -/
theorem Rd.of_block {w : World} {g : Nat} {cur : Array Value} {e : TypeId} {xs ys : List Value} {k : Nat} (hg : w.heap[g]? = some (.cells cur e (0, 0))) (ht : cur.toList.take k = ys) (hp : ∃ zs, ys = xs ++ zs) : Rd w (g + 1) (some ⟨g, 0, none⟩) xs := by
  intro j u hu
  obtain ⟨zs, rfl⟩ := hp
  refine ⟨_, rfl, by simp, ?_⟩
  rw [add_zero_off, cell_of_row w g j cur e (0, 0) hg]
  have h1 : (xs ++ zs)[j]? = some u := by
    rw [List.getElem?_append_left (List.getElem?_eq_some_iff.1 hu).1]
    exact hu
  rw [← ht, List.getElem?_take] at h1
  split at h1
  · simpa using h1
  · cases h1
theorem box_cell {B g : Nat} {w w' : World} {cs : Array Value} {t : TypeId} (hb : Below B (w.alloc (.cells cs t)) w') (hg : w.heap.size = g) (hB : g < B) (j : Nat) : w'.cell? ⟨g, j, none⟩ = cs[j]? := by
  subst hg
  rw [hb.cell (p := ⟨w.heap.size, j, none⟩) hB]
  exact cell_of_row _ _ _ cs t (0, 0) (heap_alloc_new w _)

theorem blk_set {w : World} {g : Nat} {cs : Array Value} {t : TypeId} (h : w.heap[g]? = some (.cells cs t (0, 0))) (i : Nat) (u : Value) : (w.setCell ⟨g, i, none⟩ u).heap[g]? = some (.cells (cs.setIfInBounds i u) t (0, 0)) := by
  simp [World.setCell, Array.getElem?_modify, h]
theorem blk_cell {w : World} {g : Nat} {cs : Array Value} {t : TypeId} (h : w.heap[g]? = some (.cells cs t (0, 0))) {i : Nat} (hi : i < cs.size) : w.cell? ⟨g, i, none⟩ = some cs[i] := by
  rw [cell_of_row w g i cs t (0, 0) h]
  simp [hi]
theorem blk_frozen {w : World} {g : Nat} {cs : Array Value} {t : TypeId} (h : w.heap[g]? = some (.cells cs t (0, 0))) (i : Nat) : w.frozen? ⟨g, i, none⟩ = false := by
  simp [World.frozen?, h]
theorem grown_set {a w : World} {g : Nat} (h : a.grownBy w (some g)) (i : Nat) (u : Value) : a.grownBy (w.setCell ⟨g, i, none⟩ u) (some g) :=
  ⟨h.os, h.tape, h.output, by simpa [World.setCell] using h.size, fun k hk hne => (Below.heap_setCell w _ u k (by rintro rfl; exact hne rfl)).trans (h.block k hk hne)⟩
theorem grown_refl (w : World) (row : Option Nat) : w.grownBy w row := ⟨rfl, rfl, rfl, Nat.le_refl _, fun _ _ _ => rfl⟩
theorem grown_below {a w : World} {g B : Nat} (h : a.grownBy w (some g)) (hB : B ≤ g) (hs : B ≤ a.heap.size) : Below B a w :=
  ⟨h.os, h.tape, h.output, h.size, fun k hk => h.block k (by omega) (by simp; omega)⟩
theorem Rd.of_cells {w : World} {g : Nat} {cur : Array Value} {e : TypeId} {xs : List Value} (hg : w.heap[g]? = some (.cells cur e (0, 0))) (h : ∀ (j : Nat) (u : Value), xs[j]? = some u → cur[j]? = some u) : Rd w (g + 1) (some ⟨g, 0, none⟩) xs := by
  intro j u hu
  refine ⟨_, rfl, by simp, ?_⟩
  rw [add_zero_off, cell_of_row w g j cur e (0, 0) hg]
  exact h j u hu

/-- a float stored: the walk's rule that lacks -/
theorem run_store_float (P : Program) (w : World) (a : Addr) (m : Mode) (k : FloatKind) (b : Nat) : (store a (.float k b) m).run P w = stored P w a (.float k b) m := run_store P w a _ m rfl

theorem step_app {P : Program} (w : World) {ops : Array Oper} {o : Oper} {a : Act} {K : Act → World → Prop} {Q : Exit → Act → World → Prop} {E : Prop} (hgd : o.guard = none) (s x : Operand) (t : TypeId)
    (ho : o.op = .call { callee := .builtin .append, args := #[s, x], argTypes := #[t, t] })
    (base : Nat) (e : TypeId) (i : TypeInfo) (z : Value) (size bytes : Nat) (ht : P.underlying t = some (.slice e)) (hi : P.info? e = some i) (hz : i.zero = some z)
    (hsize : i.size = size) (hby : i.bytes = bytes) (hzs : z.cells.size = size) (hsz : 0 < size)
    (v : Value) (n : Nat) (xs : List Value) (hs : a.eval s = v) (hown : w.ownsRow base e size v n xs)
    (B : Nat) (A : Option Addr) (m c : Nat) (news : List Value) (hx : a.eval x = .slice A m c) (hl : news.length = m * size) (hr : Rd w B A news) (hnz : A = none → m = 0) (h1 : ∀ u ∈ news, u.oneCell' = true)
    (h63 : n + m ≤ maxLen) (hbytes : (n + m) * bytes ≤ 140737488355328) (hbase : base ≤ w.heap.size)
    (h : ∀ v' w', w'.ownsRow base e size v' (n + m) (xs ++ news) → w.grownBy w' v.ownBlock → (v'.ownBlock = v.ownBlock ∨ v'.ownBlock = some w.heap.size) → K (a.put o.dst v') w') :
    if Region.wanted o (yielded ops a.tmps) = true then Oper.wp P o a w K Q else E := by
  have hw : Region.wanted o (yielded ops a.tmps) = true := by simp [Region.wanted, hgd]
  rw [if_pos hw]
  exact wp_app w s x t ho base e i z size bytes ht hi hz hsize hby hzs hsz v n xs hs hown B A m c news hx hl hr hnz h1 h63 hbytes hbase h
end Go.Proofs.Ytlkeemphdocpoaa.mem
