/- Small words on memory: a slice value that reads as a list of cells. PLAIN LEAN: whole numbers as words of 32 bits, the lowest first, none of them 0 at the end. The reference's whole numbers of any size: trim, times. The reference's whole numbers: up, plus, wide, order. The reference's whole numbers: wide, order, ofDigits, ten. -/
import Derived.WalkKit
import Derived.Below
import Derived.Laws.OwnMore
import Derived.Deep.Draws
import Derived.Lib.Hide
import Derived.Maps.AppendAt
import Derived.OwnWalk
import Derived.Laws.BytesString
import Derived.Laws.Entries
import Derived.Test.YtbkdhejcbcgalaaGreatDoorChecked
import Derived.KernelRfl
import Derived.Deep.DeepMust
import Derived.Deep.QuietTactic
import Derived.BigQuiet
import Derived.Outline
import Derived.WalkLawsBesides
import Derived.WalkSpells
section
set_option linter.unusedVariables false
namespace Go.Proofs.YtbkdhejcbcgalaaGreatDoor.mem
open Go.RowKit

theorem ret_int {k : IntKind} {a b : Int} (h : a = b) : Ending.returned (.int k a) = .returned (.int k b) := by rw [h]
theorem ret_bool {a b : Bool} (h : a = b) : Ending.returned (.bool a) = .returned (.bool b) := by rw [h]
theorem ret_3 {a b c a' b' c' : Int} (h : a = a') (h2 : b = b') (h3 : c = c') : Ending.returned (.tuple #[.int .i64 a, .int .i64 b, .int .i64 c]) = .returned (.tuple #[.int .i64 a', .int .i64 b', .int .i64 c']) := by rw [h, h2, h3]

theorem add_block (a : Addr) (n : Nat) : (a.add n).block = a.block := by unfold Addr.add; split <;> rfl

/-- the cells from the address on hold the list; where there is one, the address lies below block B -/
def Rd (w : World) (B : Nat) (A : Option Addr) (xs : List Value) : Prop := ∀ j u, xs[j]? = some u → ∃ ad, A = some ad ∧ ad.block < B ∧ w.cell? (ad.add j) = some u

theorem Rd.at_ {w : World} {B : Nat} {A : Option Addr} {xs : List Value} (h : Rd w B A xs) {k : Nat} (hk : k < xs.length) : ∃ ad, A = some ad ∧ ad.block < B ∧ w.cell? (ad.add k) = some xs[k] :=
  h k _ (List.getElem?_eq_getElem hk)
theorem Rd.keep {w w' : World} {B : Nat} {A : Option Addr} {xs : List Value} (h : Rd w B A xs) (hk : ∀ p : Addr, p.block < B → w'.cell? p = w.cell? p) : Rd w' B A xs :=
  fun j u hu => by
    obtain ⟨ad, e, hb, hc⟩ := h j u hu
    exact ⟨ad, e, hb, (hk _ (by rw [add_block]; exact hb)).trans hc⟩
theorem Rd.below {w w' : World} {B : Nat} {A : Option Addr} {xs : List Value} (h : Rd w B A xs) (hb : Below B w w') : Rd w' B A xs := h.keep fun _ hp => hb.cell hp
theorem Rd.more {w : World} {B B' : Nat} {A : Option Addr} {xs : List Value} (h : Rd w B A xs) (hB : B ≤ B') : Rd w B' A xs :=
  fun j u hu => by
    obtain ⟨ad, e, hb, hc⟩ := h j u hu
    exact ⟨ad, e, by omega, hc⟩
theorem Rd.nil {w : World} {B : Nat} {A : Option Addr} : Rd w B A [] := fun j u hu => by simp at hu

theorem Rd.of_own {w : World} {base : Nat} {e : TypeId} {size n c : Nat} {A : Option Addr} {xs : List Value} (h : w.ownsRow base e size (.slice A n c) n xs) : Rd w w.heap.size A xs := by
  intro j u hu
  cases A with
  | none =>
    rcases h.2 with ⟨_, rfl⟩ | ⟨g, cap, cur, hv, _⟩
    · have := h.1
      have hx : xs = [] := List.eq_nil_of_length_eq_zero (by simpa using this)
      subst hx
      simp at hu
    · injection hv with h1
      cases h1
  | some ad =>
    have hl := h.lt ad.block rfl
    have had : ad = ⟨ad.block, 0, none⟩ := by
      rcases h.2 with ⟨hv, _⟩ | ⟨g, cap, cur, hv, _⟩
      · injection hv with h1
        cases h1
      · injection hv with h1
        injection h1 with h1
        rw [h1]
    refine ⟨ad, rfl, hl.2, ?_⟩
    have := h.cells (g := ad.block) rfl j u hu
    rw [had]
    exact this

section
variable {P : Program} (w : World)

theorem run_app_nil (base : Nat) (t ty e : TypeId) (i : TypeInfo) (size : Nat) (ht : P.underlying t = some (.slice e)) (hi : P.info? e = some i)
    (v : Value) (n : Nat) (xs : List Value) (hown : w.ownsRow base e size v n xs) (c : Nat) : (Builtin.append_ #[t, t] ty #[v, .slice none 0 c]).run P w = .ok v w := by
  rcases hown.2 with ⟨rfl, rfl⟩ | ⟨g, cap, cur, rfl, _, _, hnc, _⟩
  · simp [Builtin.append_, run_underlying ht, sizeOf, typeInfo, hi, Builtin.lenOf, Builtin.firstCells]
  · simp [Builtin.append_, run_underlying ht, sizeOf, typeInfo, hi, Builtin.lenOf, Builtin.firstCells, hnc, storeCells]

/-- append onto a row of the call's own, from whatever source reads as a list (nil, empty, or not) -/
theorem run_app (base : Nat) (t ty e : TypeId) (i : TypeInfo) (z : Value) (size bytes : Nat) (ht : P.underlying t = some (.slice e)) (hi : P.info? e = some i) (hz : i.zero = some z)
    (hsize : i.size = size) (hby : i.bytes = bytes) (hzs : z.cells.size = size) (hsz : 0 < size)
    (v : Value) (n : Nat) (xs : List Value) (hown : w.ownsRow base e size v n xs)
    (B : Nat) (A : Option Addr) (m c : Nat) (news : List Value) (hl : news.length = m * size) (hr : Rd w B A news) (hnz : A = none → m = 0) (h1 : ∀ u ∈ news, u.oneCell' = true)
    (h63 : n + m ≤ maxLen) (hbytes : (n + m) * bytes ≤ 140737488355328) (hbase : base ≤ w.heap.size) :
    ∃ v' w', (Builtin.append_ #[t, t] ty #[v, .slice A m c]).run P w = .ok v' w' ∧ w'.ownsRow base e size v' (n + m) (xs ++ news) ∧ w.grownBy w' v.ownBlock ∧
      (v'.ownBlock = v.ownBlock ∨ v'.ownBlock = some w.heap.size) := by
  rcases A with _ | ad
  · have hm : m = 0 := hnz rfl
    subst hm
    have hn : news = [] := List.eq_nil_of_length_eq_zero (by simpa using hl)
    subst hn
    exact ⟨v, w, run_app_nil w base t ty e i size ht hi v n xs hown c, by simpa using hown, ⟨rfl, rfl, rfl, Nat.le_refl _, fun _ _ _ => rfl⟩, .inl rfl⟩
  · have hcells : ∀ j u, news[j]? = some u → w.cell? (ad.add j) = some u := by
      intro j u hu
      obtain ⟨ad', e', _, hc⟩ := hr j u hu
      injection e' with e'
      subst e'
      exact hc
    obtain ⟨v', w', hrun, h2, h3, _, h5⟩ := run_append_own_at (P := P) w base t ty e i z size bytes ht hi hz hsize hby hzs hsz v n xs hown ad m c news hl hcells h1 h63 hbytes hbase
    exact ⟨v', w', hrun, h2, h3, h5⟩

theorem wp_app {o : Oper} {a : Act} {K : Act → World → Prop} {Q : Exit → Act → World → Prop} (s x : Operand) (t : TypeId)
    (ho : o.op = .call { callee := .builtin .append, args := #[s, x], argTypes := #[t, t] })
    (base : Nat) (e : TypeId) (i : TypeInfo) (z : Value) (size bytes : Nat) (ht : P.underlying t = some (.slice e)) (hi : P.info? e = some i) (hz : i.zero = some z)
    (hsize : i.size = size) (hby : i.bytes = bytes) (hzs : z.cells.size = size) (hsz : 0 < size)
    (v : Value) (n : Nat) (xs : List Value) (hs : a.eval s = v) (hown : w.ownsRow base e size v n xs)
    (B : Nat) (A : Option Addr) (m c : Nat) (news : List Value) (hx : a.eval x = .slice A m c) (hl : news.length = m * size) (hr : Rd w B A news) (hnz : A = none → m = 0) (h1 : ∀ u ∈ news, u.oneCell' = true)
    (h63 : n + m ≤ maxLen) (hbytes : (n + m) * bytes ≤ 140737488355328) (hbase : base ≤ w.heap.size)
    (h : ∀ v' w', w'.ownsRow base e size v' (n + m) (xs ++ news) → w.grownBy w' v.ownBlock → (v'.ownBlock = v.ownBlock ∨ v'.ownBlock = some w.heap.size) → K (a.put o.dst v') w') : o.wp P a w K Q := by
  obtain ⟨v', w', hrun, h2, h3, h4⟩ := run_app (P := P) w base t o.type e i z size bytes ht hi hz hsize hby hzs hsz v n xs hown B A m c news hl hr hnz h1 h63 hbytes hbase
  unfold Oper.wp execOp
  simp only [ho, resolve, invoke, builtin, Sem.run_bind, Sem.run_pure, Result.andThen_ok, List.map_toArray, List.map_cons, List.map_nil, hs, hx, hrun]
  exact h v' w' h2 h3 h4

theorem wpList_app {ops : Array Oper} {rest : List Oper} {o : Oper} {a : Act} {Q : Exit → Act → World → Prop} (hgd : o.guard = none) (s x : Operand) (t : TypeId)
    (ho : o.op = .call { callee := .builtin .append, args := #[s, x], argTypes := #[t, t] })
    (base : Nat) (e : TypeId) (i : TypeInfo) (z : Value) (size bytes : Nat) (ht : P.underlying t = some (.slice e)) (hi : P.info? e = some i) (hz : i.zero = some z)
    (hsize : i.size = size) (hby : i.bytes = bytes) (hzs : z.cells.size = size) (hsz : 0 < size)
    (v : Value) (n : Nat) (xs : List Value) (hs : a.eval s = v) (hown : w.ownsRow base e size v n xs)
    (B : Nat) (A : Option Addr) (m c : Nat) (news : List Value) (hx : a.eval x = .slice A m c) (hl : news.length = m * size) (hr : Rd w B A news) (hnz : A = none → m = 0) (h1 : ∀ u ∈ news, u.oneCell' = true)
    (h63 : n + m ≤ maxLen) (hbytes : (n + m) * bytes ≤ 140737488355328) (hbase : base ≤ w.heap.size)
    (h : ∀ v' w', w'.ownsRow base e size v' (n + m) (xs ++ news) → w.grownBy w' v.ownBlock → (v'.ownBlock = v.ownBlock ∨ v'.ownBlock = some w.heap.size) → wpList P ops Q rest (a.put o.dst v') w') : wpList P ops Q (o :: rest) a w :=
  wpList_plain hgd fun _ hK => wp_app w s x t ho base e i z size bytes ht hi hz hsize hby hzs hsz v n xs hs hown B A m c news hx hl hr hnz h1 h63 hbytes hbase fun v' w' h2 h3 h4 => hK _ _ (h v' w' h2 h3 h4)
end

theorem Rd.one (w : World) (x : Value) (t : TypeId) : Rd (w.alloc (.cells #[x] t)) (w.heap.size + 1) (some ⟨w.heap.size, 0, none⟩) [x] := by
  intro j u hu
  exact ⟨_, rfl, by simp, cell_one_new w x t j u hu⟩

theorem own_lt {w : World} {base : Nat} {e : TypeId} {size n : Nat} {v : Value} {xs : List Value} (h : w.ownsRow base e size v n xs) : ∀ k, v.ownBlock = some k → base ≤ k ∧ k < w.heap.size := h.lt

/-- a value that owns a row is a slice of that length -/
theorem own_form {w : World} {base : Nat} {e : TypeId} {size n : Nat} {v : Value} {xs : List Value} (h : w.ownsRow base e size v n xs) : ∃ A c, v = .slice A n c ∧ (A = none → n = 0) ∧ n ≤ c ∧ c ≤ maxLen := by
  rcases h.2 with ⟨rfl, rfl⟩ | ⟨g, cap, cur, rfl, _, _, h1, h2, _⟩
  · exact ⟨none, 0, rfl, fun _ => rfl, Nat.le_refl _, Nat.zero_le _⟩
  · exact ⟨_, cap, rfl, (fun h => by cases h), h1, h2⟩

/-- behind an append onto a row of the call's own (with the new element's block, or without) -/
theorem below_app1 {B base : Nat} {e : TypeId} {size n : Nat} {w wr w1 : World} {v : Value} {xs : List Value} {o : Obj} (hb : Below B w wr) (hown : wr.ownsRow base e size v n xs) (hB : B ≤ base) (hBs : B ≤ wr.heap.size)
    (hg : (wr.alloc o).grownBy w1 v.ownBlock) : Below B w w1 :=
  (hb.alloc hBs o).grown hg (by simp; omega) fun k hk => Nat.le_trans hB (hown.lt k hk).1
theorem below_app {B base : Nat} {e : TypeId} {size n : Nat} {w wr w1 : World} {v : Value} {xs : List Value} (hb : Below B w wr) (hown : wr.ownsRow base e size v n xs) (hB : B ≤ base) (hBs : B ≤ wr.heap.size)
    (hg : wr.grownBy w1 v.ownBlock) : Below B w w1 :=
  hb.grown hg hBs fun k hk => Nat.le_trans hB (hown.lt k hk).1

theorem add_zero_off (g j : Nat) : (⟨g, 0, none⟩ : Addr).add j = ⟨g, j, none⟩ := by unfold Addr.add; split <;> simp_all

/-- a new block reads as its cells -/
theorem Rd.new (w : World) (cs : List Value) (t : TypeId) : Rd (w.alloc (.cells cs.toArray t)) (w.heap.size + 1) (some ⟨w.heap.size, 0, none⟩) cs := by
  intro j u hu
  refine ⟨_, rfl, by simp, ?_⟩
  rw [add_zero_off, cell_of_row (w.alloc (.cells cs.toArray t)) w.heap.size j cs.toArray t (0, 0) (heap_alloc_new w _)]
  simpa using hu

/-- a row of the call's own that is not empty: its block -/
theorem own_block {w : World} {base : Nat} {e : TypeId} {size n : Nat} {v : Value} {xs : List Value} (h : w.ownsRow base e size v n xs) (hn : 0 < n) :
    ∃ g c cur, v = .slice (some ⟨g, 0, none⟩) n c ∧ base ≤ g ∧ g < w.heap.size ∧ n ≤ c ∧ c ≤ maxLen ∧ w.heap[g]? = some (.cells cur e (0, 0)) ∧ cur.size = c * size ∧ cur.toList.take (n * size) = xs := by
  rcases h.2 with ⟨_, h0⟩ | ⟨g, cap, cur, hv, hb, hg, h1, h2, h3, h4⟩
  · omega
  · exact ⟨g, cap, cur, hv, hb, (Array.getElem?_eq_some_iff.1 hg).1, h1, h2, hg, h3, h4⟩

/-- an empty composite literal, not nil -/
theorem own_empty (w : World) (base g : Nat) (e : TypeId) (size : Nat) (hg : w.heap.size = g) (hb : base ≤ g) : (w.alloc (.cells #[] e)).ownsRow base e size (.slice (some ⟨g, 0, none⟩) 0 0) 0 [] := by
  subst hg
  exact World.ownsRow_made w #[] 0 hb (Nat.zero_le _) (by simp)
theorem Rd.newAt (w : World) (g : Nat) (cs : List Value) (t : TypeId) (hg : w.heap.size = g) : Rd (w.alloc (.cells cs.toArray t)) (g + 1) (some ⟨g, 0, none⟩) cs := by
  subst hg
  exact Rd.new w cs t

/-- the string whose bytes are these numbers -/
def strOf (xs : List Int) : ByteArray := ⟨(xs.map fun n => UInt8.ofNat n.toNat).toArray⟩
theorem strOf_size (xs : List Int) : (strOf xs).size = xs.length := by simp [strOf, ByteArray.size]
theorem strOf_foldl (xs : List Int) (s : ByteArray) : xs.foldl (fun r n => r.push (UInt8.ofNat n.toNat)) s = ⟨s.data ++ (xs.map fun n => UInt8.ofNat n.toNat).toArray⟩ := by
  induction xs generalizing s with
  | nil => simp
  | cons x xs ih =>
    rw [List.foldl_cons, ih]
    congr 1
    apply Array.toList_inj.1
    simp [ByteArray.push]
theorem run_conv_bytes {P : Program} {w : World} {B : Nat} (src dst e : TypeId) (A : Option Addr) (xs : List Int) (c : Nat) (hs : P.underlying src = some (.slice e)) (he : P.underlying e = some (.int .u8)) (hd : P.underlying dst = some .string)
    (hr : Rd w B A (xs.map (.int .u8))) (hn : A = none → xs.length = 0) : (convert src dst (.slice A xs.length c)).run P w = .ok (.string (strOf xs)) w := by
  rw [run_convert_bytes_string w src dst e A xs.length c hs he hd]
  cases A with
  | none =>
    have hx : xs = [] := List.eq_nil_of_length_eq_zero (hn rfl)
    subst hx
    simp [Conv.bytesToString, strOf, Sem.run_pure]
    rfl
  | some ad =>
    have hl : (loadCells ad xs.length).run P w = .ok (xs.map (Value.int .u8)).toArray w := by
      have h1 := run_loadCells_list (P := P) (w := w) ad (xs.map (.int .u8)) (fun j v hv => by
        obtain ⟨ad', e', _, hc⟩ := hr j v hv
        injection e' with e'
        subst e'
        exact hc)
      simpa using h1
    rw [run_bytesToString w ad xs.length c xs hl, strOf_foldl]
    simp [strOf]

/-- the first elements of a row of the call's own -/
theorem Rd.of_block {w : World} {g : Nat} {cur : Array Value} {e : TypeId} {xs ys : List Value} {k : Nat} (hg : w.heap[g]? = some (.cells cur e (0, 0))) (ht : cur.toList.take k = ys) (hp : ∃ zs, ys = xs ++ zs) : Rd w (g + 1) (some ⟨g, 0, none⟩) xs := by
  intro j u hu
  obtain ⟨zs, rfl⟩ := hp
  refine ⟨_, rfl, by simp, ?_⟩
  rw [add_zero_off, cell_of_row w g j cur e (0, 0) hg]
  have h1 : (xs ++ zs)[j]? = some u := by
    rw [List.getElem?_append_left (List.getElem?_eq_some_iff.1 hu).1]
    exact hu
  rw [← ht, List.getElem?_take] at h1
  split at h1
  · simpa using h1
  · cases h1
theorem box_cell {B g : Nat} {w w' : World} {cs : Array Value} {t : TypeId} (hb : Below B (w.alloc (.cells cs t)) w') (hg : w.heap.size = g) (hB : g < B) (j : Nat) : w'.cell? ⟨g, j, none⟩ = cs[j]? := by
  subst hg
  rw [hb.cell (p := ⟨w.heap.size, j, none⟩) hB]
  exact cell_of_row _ _ _ cs t (0, 0) (heap_alloc_new w _)

theorem blk_set {w : World} {g : Nat} {cs : Array Value} {t : TypeId} (h : w.heap[g]? = some (.cells cs t (0, 0))) (i : Nat) (u : Value) : (w.setCell ⟨g, i, none⟩ u).heap[g]? = some (.cells (cs.setIfInBounds i u) t (0, 0)) := by
  simp [World.setCell, Array.getElem?_modify, h]
theorem blk_cell {w : World} {g : Nat} {cs : Array Value} {t : TypeId} (h : w.heap[g]? = some (.cells cs t (0, 0))) {i : Nat} (hi : i < cs.size) : w.cell? ⟨g, i, none⟩ = some cs[i] := by
  rw [cell_of_row w g i cs t (0, 0) h]
  simp [hi]
theorem blk_frozen {w : World} {g : Nat} {cs : Array Value} {t : TypeId} (h : w.heap[g]? = some (.cells cs t (0, 0))) (i : Nat) : w.frozen? ⟨g, i, none⟩ = false := by
  simp [World.frozen?, h]
theorem grown_set {a w : World} {g : Nat} (h : a.grownBy w (some g)) (i : Nat) (u : Value) : a.grownBy (w.setCell ⟨g, i, none⟩ u) (some g) :=
  ⟨h.os, h.tape, h.output, by simpa [World.setCell] using h.size, fun k hk hne => (Below.heap_setCell w _ u k (by rintro rfl; exact hne rfl)).trans (h.block k hk hne)⟩
theorem grown_refl (w : World) (row : Option Nat) : w.grownBy w row := ⟨rfl, rfl, rfl, Nat.le_refl _, fun _ _ _ => rfl⟩
theorem grown_below {a w : World} {g B : Nat} (h : a.grownBy w (some g)) (hB : B ≤ g) (hs : B ≤ a.heap.size) : Below B a w :=
  ⟨h.os, h.tape, h.output, h.size, fun k hk => h.block k (by omega) (by simp; omega)⟩
theorem Rd.of_cells {w : World} {g : Nat} {cur : Array Value} {e : TypeId} {xs : List Value} (hg : w.heap[g]? = some (.cells cur e (0, 0))) (h : ∀ (j : Nat) (u : Value), xs[j]? = some u → cur[j]? = some u) : Rd w (g + 1) (some ⟨g, 0, none⟩) xs := by
  intro j u hu
  refine ⟨_, rfl, by simp, ?_⟩
  rw [add_zero_off, cell_of_row w g j cur e (0, 0) hg]
  exact h j u hu

/-- a float stored: the walk's rule that lacks -/
theorem run_store_float (P : Program) (w : World) (a : Addr) (m : Mode) (k : FloatKind) (b : Nat) : (store a (.float k b) m).run P w = stored P w a (.float k b) m := run_store P w a _ m rfl

theorem step_app {P : Program} (w : World) {ops : Array Oper} {o : Oper} {a : Act} {K : Act → World → Prop} {Q : Exit → Act → World → Prop} {E : Prop} (hgd : o.guard = none) (s x : Operand) (t : TypeId)
    (ho : o.op = .call { callee := .builtin .append, args := #[s, x], argTypes := #[t, t] })
    (base : Nat) (e : TypeId) (i : TypeInfo) (z : Value) (size bytes : Nat) (ht : P.underlying t = some (.slice e)) (hi : P.info? e = some i) (hz : i.zero = some z)
    (hsize : i.size = size) (hby : i.bytes = bytes) (hzs : z.cells.size = size) (hsz : 0 < size)
    (v : Value) (n : Nat) (xs : List Value) (hs : a.eval s = v) (hown : w.ownsRow base e size v n xs)
    (B : Nat) (A : Option Addr) (m c : Nat) (news : List Value) (hx : a.eval x = .slice A m c) (hl : news.length = m * size) (hr : Rd w B A news) (hnz : A = none → m = 0) (h1 : ∀ u ∈ news, u.oneCell' = true)
    (h63 : n + m ≤ maxLen) (hbytes : (n + m) * bytes ≤ 140737488355328) (hbase : base ≤ w.heap.size)
    (h : ∀ v' w', w'.ownsRow base e size v' (n + m) (xs ++ news) → w.grownBy w' v.ownBlock → (v'.ownBlock = v.ownBlock ∨ v'.ownBlock = some w.heap.size) → K (a.put o.dst v') w') :
    if Region.wanted o (yielded ops a.tmps) = true then Oper.wp P o a w K Q else E := by
  have hw : Region.wanted o (yielded ops a.tmps) = true := by simp [Region.wanted, hgd]
  rw [if_pos hw]
  exact wp_app w s x t ho base e i z size bytes ht hi hz hsize hby hzs hsz v n xs hs hown B A m c news hx hl hr hnz h1 h63 hbytes hbase h
end Go.Proofs.YtbkdhejcbcgalaaGreatDoor.mem
end
section
set_option linter.unusedVariables false
namespace Go.Proofs.YtbkdhejcbcgalaaGreatDoor.fl

def val : List Nat → Nat
  | [] => 0
  | x :: l => x + 4294967296 * val l
def wdF : Nat → Nat → List Nat
  | 0, _ => []
  | f + 1, N => if N = 0 then [] else N % 4294967296 :: wdF f (N / 4294967296)
/-- the words of a number -/
def wd (N : Nat) : List Nat := wdF N N
def Wds (l : List Nat) : Prop := ∀ x ∈ l, x < 4294967296

theorem wdF_fuel : ∀ (f g N : Nat), N ≤ f → N ≤ g → wdF f N = wdF g N
  | 0, g, N, h, _ => by
    obtain rfl : N = 0 := by omega
    cases g <;> simp [wdF]
  | f + 1, 0, N, _, h => by
    obtain rfl : N = 0 := by omega
    simp [wdF]
  | f + 1, g + 1, N, h1, h2 => by
    unfold wdF
    by_cases h : N = 0
    · simp [h]
    · rw [if_neg h, if_neg h, wdF_fuel f g _ (by omega) (by omega)]
theorem wd_zero : wd 0 = [] := rfl
theorem wd_pos {N : Nat} (h : N ≠ 0) : wd N = N % 4294967296 :: wd (N / 4294967296) := by
  unfold wd
  obtain ⟨k, hk⟩ : ∃ k, N = k + 1 := ⟨N - 1, by omega⟩
  rw [wdF_fuel N (k + 1) N (by omega) (by omega)]
  show (if N = 0 then _ else _) = _
  rw [if_neg h, wdF_fuel k (N / 4294967296) _ (by omega) (Nat.le_refl _)]
theorem val_wd (N : Nat) : val (wd N) = N := by
  induction N using Nat.strongRecOn with
  | _ N ih =>
    by_cases h : N = 0
    · subst h; rfl
    · rw [wd_pos h]
      simp only [val]
      rw [ih _ (by omega)]
      omega
theorem wds_wd (N : Nat) : Wds (wd N) := by
  induction N using Nat.strongRecOn with
  | _ N ih =>
    by_cases h : N = 0
    · subst h; intro x hx; simp [wd_zero] at hx
    · rw [wd_pos h]
      intro x hx
      rcases List.mem_cons.1 hx with rfl | hx
      · omega
      · exact ih _ (by omega) x hx
theorem val_app : ∀ (a b : List Nat), val (a ++ b) = val a + 4294967296 ^ a.length * val b
  | [], b => by simp [val]
  | x :: a, b => by
    simp only [List.cons_append, val, List.length_cons]
    rw [val_app a b, Nat.pow_succ, Nat.mul_add, Nat.add_assoc, ← Nat.mul_assoc, Nat.mul_comm (4294967296 ^ a.length)]
theorem val_lt : ∀ (a : List Nat), Wds a → val a < 4294967296 ^ a.length
  | [], _ => by simp [val]
  | x :: a, h => by
    have h1 := h x (by simp)
    have h2 := val_lt a fun y hy => h y (by simp [hy])
    simp only [val, List.length_cons, Nat.pow_succ]
    omega
theorem Wds.app {a b : List Nat} (ha : Wds a) (hb : Wds b) : Wds (a ++ b) := fun x hx => by
  rcases List.mem_append.1 hx with h | h
  · exact ha x h
  · exact hb x h
theorem Wds.take {a : List Nat} (ha : Wds a) (k : Nat) : Wds (a.take k) := fun x hx => ha x (List.mem_of_mem_take hx)
/-- words without a 0 at the end are the words of their number -/
theorem wd_val : ∀ (a : List Nat), Wds a → (∀ x, a.getLast? = some x → x ≠ 0) → wd (val a) = a
  | [], _, _ => rfl
  | x :: a, h, hl => by
    have hx := h x (by simp)
    have hz : val (x :: a) ≠ 0 := by
      intro h0
      simp only [val] at h0
      have h1 : val a = 0 := by omega
      have h2 : x = 0 := by omega
      cases a with
      | nil => exact hl x (by simp) h2
      | cons y b =>
        have ih := wd_val (y :: b) (fun z hz => h z (by simp [hz])) (fun z hz => hl z (by simpa using hz))
        rw [h1] at ih
        exact absurd ih.symm (by simp [wd_zero])
    rw [wd_pos hz]
    have e1 : val (x :: a) % 4294967296 = x := by simp only [val]; omega
    have e2 : val (x :: a) / 4294967296 = val a := by simp only [val]; omega
    rw [e1, e2]
    cases a with
    | nil => rfl
    | cons y b => rw [wd_val (y :: b) (fun z hz => h z (by simp [hz])) (fun z hz => hl z (by simpa using hz))]
theorem val_snoc_zero (a : List Nat) : val (a ++ [0]) = val a := by rw [val_app]; simp [val]
/-- a step of trim: the first n words, the last of them 0 -/
theorem val_take_zero {a : List Nat} {n : Nat} (h : a[n]? = some 0) : val (a.take (n + 1)) = val (a.take n) := by
  obtain ⟨h1, h2⟩ := List.getElem?_eq_some_iff.1 h
  rw [List.take_succ_eq_append_getElem h1, h2, val_snoc_zero]
theorem wd_take {a : List Nat} {n : Nat} (ha : Wds a) (h : n = 0 ∨ ∃ x, a[n - 1]? = some x ∧ x ≠ 0) : wd (val (a.take n)) = a.take n := by
  refine wd_val _ (ha.take n) fun x hx => ?_
  rcases h with rfl | ⟨y, hy, hy0⟩
  · simp at hx
  · obtain ⟨h1, h2⟩ := List.getElem?_eq_some_iff.1 hy
    by_cases hn : n = 0
    · subst hn; simp at hx
    · rw [List.getLast?_eq_getElem?, List.length_take, List.getElem?_take] at hx
      rw [Nat.min_eq_left (by omega), if_pos (by omega), hy] at hx
      injection hx with hx
      subst hx
      exact hy0
theorem wd_len_le {N k : Nat} (h : N < 4294967296 ^ k) : (wd N).length ≤ k := by
  induction k generalizing N with
  | zero =>
    obtain rfl : N = 0 := by simpa using h
    simp [wd_zero]
  | succ k ih =>
    by_cases h0 : N = 0
    · subst h0; simp [wd_zero]
    · rw [wd_pos h0, List.length_cons]
      have := ih (N := N / 4294967296) (by rw [Nat.pow_succ] at h; exact Nat.div_lt_of_lt_mul (by rw [Nat.mul_comm]; exact h))
      omega
theorem wd_len_pow {N : Nat} (h : N ≠ 0) : 4294967296 ^ ((wd N).length - 1) ≤ N := by
  induction N using Nat.strongRecOn with
  | _ N ih =>
    rw [wd_pos h]
    by_cases h1 : N / 4294967296 = 0
    · rw [h1]; simp [wd_zero]; omega
    · have := ih _ (by omega) h1
      have hp : 0 < (wd (N / 4294967296)).length := by rw [wd_pos h1]; simp
      obtain ⟨k, hk⟩ : ∃ k, (wd (N / 4294967296)).length = k + 1 := ⟨(wd (N / 4294967296)).length - 1, by omega⟩
      rw [hk] at this
      rw [List.length_cons, hk]
      simp only [Nat.add_sub_cancel] at this ⊢
      rw [Nat.pow_succ]
      exact Nat.le_trans (Nat.mul_le_mul_right 4294967296 this) (Nat.div_mul_le_self N 4294967296)
theorem wd_eq_nil {N : Nat} (h : (wd N).length = 0) : N = 0 := by
  by_cases h0 : N = 0
  · exact h0
  · rw [wd_pos h0] at h; simp at h
theorem lt_of_len {N M : Nat} (h : (wd N).length < (wd M).length) : N < M := by
  have hM : M ≠ 0 := fun h0 => by subst h0; simp [wd_zero] at h
  have h1 := val_lt (wd N) (wds_wd N)
  rw [val_wd] at h1
  have h2 := wd_len_pow hM
  have h3 : 4294967296 ^ (wd N).length ≤ 4294967296 ^ ((wd M).length - 1) := Nat.pow_le_pow_right (by decide) (by omega)
  omega
theorem split_at {a : List Nat} {i : Nat} (hi : i < a.length) : a.take i ++ a.getD i 0 :: a.drop (i + 1) = a := by
  have e : a.getD i 0 = a[i] := by rw [List.getD_eq_getElem?_getD, List.getElem?_eq_getElem hi]; rfl
  rw [e, ← List.drop_eq_getElem_cons hi, List.take_append_drop]
/-- comparing from the top: what is above is alike -/
theorem cmp_at {a b : List Nat} {i : Nat} (hl : a.length = b.length) (hi : i < a.length) (ha : Wds a) (hd : a.drop (i + 1) = b.drop (i + 1)) (h : a.getD i 0 < b.getD i 0) : val a < val b := by
  have hi2 : i < b.length := by omega
  have ea := split_at hi
  have eb := split_at hi2
  have va : val a = val (a.take i) + 4294967296 ^ i * (a.getD i 0 + 4294967296 * val (a.drop (i + 1))) := by
    conv => lhs; rw [← ea]
    rw [val_app, List.length_take, Nat.min_eq_left (by omega)]
    rfl
  have vb : val b = val (b.take i) + 4294967296 ^ i * (b.getD i 0 + 4294967296 * val (a.drop (i + 1))) := by
    conv => lhs; rw [← eb]
    rw [val_app, List.length_take, Nat.min_eq_left (by omega), hd]
    rfl
  have h1 := val_lt (a.take i) (ha.take i)
  rw [List.length_take, Nat.min_eq_left (by omega)] at h1
  have h2 : 4294967296 ^ i * (a.getD i 0 + 4294967296 * val (a.drop (i + 1)) + 1) ≤ 4294967296 ^ i * (b.getD i 0 + 4294967296 * val (a.drop (i + 1))) := Nat.mul_le_mul_left _ (by omega)
  rw [Nat.mul_add, Nat.mul_one] at h2
  omega

/-! ### the sums that the loops make -/
/-- times: the words so far, the carry -/
theorem times_step {r a : List Nat} {i m c carry : Nat} (hi : i < a.length) (hr : r.length = i) (h : val r + 4294967296 ^ i * carry = val (a.take i) * m + c) :
    val (r ++ [(a.getD i 0 * m + carry) % 4294967296]) + 4294967296 ^ (i + 1) * ((a.getD i 0 * m + carry) / 4294967296) = val (a.take (i + 1)) * m + c := by
  have e : a.getD i 0 = a[i] := by rw [List.getD_eq_getElem?_getD, List.getElem?_eq_getElem hi]; rfl
  rw [List.take_succ_eq_append_getElem hi, ← e, val_app, val_app, hr, List.length_take, Nat.min_eq_left (by omega)]
  simp only [val, Nat.mul_zero, Nat.add_zero]
  obtain ⟨x, hx⟩ : ∃ x, a.getD i 0 * m + carry = x := ⟨_, rfl⟩
  rw [hx, Nat.pow_succ, Nat.mul_assoc, Nat.add_assoc, ← Nat.mul_add, Nat.mod_add_div, ← hx, Nat.mul_add, Nat.add_mul]
  rw [← Nat.mul_assoc]
  omega
theorem times_end {r a : List Nat} {m c carry : Nat} (hr : r.length = a.length) (h : val r + 4294967296 ^ a.length * carry = val (a.take a.length) * m + c) : val (r ++ [carry]) = val a * m + c ∧ (carry = 0 → val r = val a * m + c) := by
  rw [List.take_length] at h
  refine ⟨?_, fun h0 => by subst h0; simpa using h⟩
  rw [val_app, hr]
  simp only [val, Nat.mul_zero, Nat.add_zero]
  exact h
/-- plus -/
theorem plus_step {r a b : List Nat} {i carry : Nat} (hr : r.length = i) (h : val r + 4294967296 ^ i * carry = val (a.take i) + val (b.take i)) :
    val (r ++ [(carry + a.getD i 0 + b.getD i 0) % 4294967296]) + 4294967296 ^ (i + 1) * ((carry + a.getD i 0 + b.getD i 0) / 4294967296) = val (a.take (i + 1)) + val (b.take (i + 1)) := by
  have tk : ∀ l : List Nat, val (l.take (i + 1)) = val (l.take i) + 4294967296 ^ i * l.getD i 0 := by
    intro l
    by_cases hi : i < l.length
    · rw [List.take_succ_eq_append_getElem hi, val_app, List.length_take, Nat.min_eq_left (by omega), List.getD_eq_getElem?_getD, List.getElem?_eq_getElem hi]
      simp [val]
    · rw [List.take_of_length_le (by omega), List.take_of_length_le (by omega), List.getD_eq_getElem?_getD, List.getElem?_eq_none (by omega)]
      simp
  rw [tk a, tk b, val_app, hr]
  simp only [val, Nat.mul_zero, Nat.add_zero]
  obtain ⟨x, hx⟩ : ∃ x, carry + a.getD i 0 + b.getD i 0 = x := ⟨_, rfl⟩
  rw [hx, Nat.pow_succ, Nat.mul_assoc, Nat.add_assoc, ← Nat.mul_add, Nat.mod_add_div, ← hx, Nat.mul_add, Nat.mul_add]
  omega
theorem plus_end {r a b : List Nat} {i : Nat} (ha : a.length ≤ i) (hb : b.length ≤ i) (h : val r + 4294967296 ^ i * 0 = val (a.take i) + val (b.take i)) : val r = val a + val b := by
  rw [List.take_of_length_le ha, List.take_of_length_le hb] at h
  simpa using h
/-- up: noughts in front -/
theorem wd_up (N k : Nat) (h : N ≠ 0) : List.replicate k 0 ++ wd N = wd (4294967296 ^ k * N) := by
  induction k with
  | zero => simp
  | succ k ih =>
    have hz : 4294967296 ^ (k + 1) * N ≠ 0 := Nat.mul_ne_zero (Nat.ne_of_gt (Nat.pow_pos (by omega))) h
    rw [wd_pos hz, List.replicate_succ, List.cons_append, ih]
    have e : 4294967296 ^ (k + 1) * N = 4294967296 * (4294967296 ^ k * N) := by rw [Nat.pow_succ, Nat.mul_comm (4294967296 ^ k), Nat.mul_assoc]
    rw [e, Nat.mul_mod_right, Nat.mul_div_cancel_left _ (by omega)]
end Go.Proofs.YtbkdhejcbcgalaaGreatDoor.fl
end
section
namespace Go.Proofs.YtbkdhejcbcgalaaGreatDoor.big
open Go.RowKit mem fl
set_option linter.unusedVariables false

theorem infoW : (Tryz.prog.info? 86).map (fun i => (i.zero, i.size, i.bytes)) = some (some (.int .u32 0), 1, 4) := by kernel_rfl
theorem info_parts {P : Program} {t : TypeId} {z : Option Value} {s b : Nat} (h : (P.info? t).map (fun i => (i.zero, i.size, i.bytes)) = some (z, s, b)) : ∃ i, P.info? t = some i ∧ i.zero = z ∧ i.size = s ∧ i.bytes = b := by
  cases hi : P.info? t with
  | none => rw [hi] at h; simp at h
  | some i =>
    rw [hi] at h
    simp at h
    exact ⟨i, rfl, h.1, h.2.1, h.2.2⟩

/-- words as values -/
def us (l : List Nat) : List Value := l.map fun x : Nat => .int .u32 (x : Int)
theorem us_length (l : List Nat) : (us l).length = l.length := by simp [us]
theorem us_app (a b : List Nat) : us (a ++ b) = us a ++ us b := by simp [us]
theorem us_take (a : List Nat) (n : Nat) : us (a.take n) = (us a).take n := by simp [us]
theorem us_get {l : List Nat} {k : Nat} (h : k < l.length) : (us l)[k]? = some (.int .u32 (l.getD k 0 : Int)) := by
  unfold us
  rw [List.getElem?_map, List.getElem?_eq_getElem h, List.getD_eq_getElem?_getD, List.getElem?_eq_getElem h]
  rfl
theorem Rd.take {w : World} {B : Nat} {A : Option Addr} {xs : List Value} (h : Rd w B A xs) (n : Nat) : Rd w B A (xs.take n) := fun j u hu => by
  rw [List.getElem?_take] at hu
  by_cases hj : j < n
  · rw [if_pos hj] at hu
    exact h j u hu
  · rw [if_neg hj] at hu
    cases hu
/-- a value that reads as the words of N -/
def Bn (w : World) (B : Nat) (v : Value) (N : Nat) : Prop := ∃ A c, v = .slice A (wd N).length c ∧ Rd w B A (us (wd N)) ∧ (wd N).length ≤ c
theorem Bn.below {w w' : World} {B : Nat} {v : Value} {N : Nat} (h : Bn w B v N) (hb : Below B w w') : Bn w' B v N := by
  obtain ⟨A, c, rfl, hr, hc⟩ := h
  exact ⟨A, c, rfl, hr.below hb, hc⟩
theorem Bn.more {w : World} {B B' : Nat} {v : Value} {N : Nat} (h : Bn w B v N) (hB : B ≤ B') : Bn w B' v N := by
  obtain ⟨A, c, rfl, hr, hc⟩ := h
  exact ⟨A, c, rfl, hr.more hB, hc⟩

def TrimPost (A : Option Addr) (N : Nat) (w : World) (e : Ending) (w' : World) : Prop := ∃ c, e = .returned (.slice A (wd N).length c) ∧ (wd N).length ≤ c ∧ w = w'

theorem pre_eq {l : List Nat} {n : Nat} (hl : Wds l) (h : n = 0 ∨ ∃ x, l[n - 1]? = some x ∧ x ≠ 0) (hn : n ≤ l.length) (hv : val (l.take n) = val l) : (wd (val l)).length = n ∧ wd (val l) = l.take n := by
  have h1 := wd_take hl h
  rw [hv] at h1
  exact ⟨by rw [h1, List.length_take]; omega, h1⟩
/-- what a function that makes a number answers -/
def BnPost (N : Nat) (w : World) (e : Ending) (w' : World) : Prop := ∃ v, e = .returned v ∧ Bn w' w'.heap.size v N ∧ Below w.heap.size w w'


theorem wd_prefix {l : List Nat} (hl : Wds l) : wd (val l) = l.take (wd (val l)).length := by
  have : ∀ n, n ≤ l.length → val (l.take n) = val l → ∃ k, k ≤ n ∧ wd (val l) = l.take k := by
    intro n
    induction n with
    | zero => intro h1 h2; exact ⟨0, Nat.le_refl _, (pre_eq hl (.inl rfl) h1 h2).2⟩
    | succ n ih =>
      intro h1 h2
      have hg : l[n]? = some l[n] := List.getElem?_eq_getElem (by omega)
      by_cases h0 : l[n] = 0
      · rw [h0] at hg
        obtain ⟨k, h3, h4⟩ := ih (by omega) (by rw [← val_take_zero hg]; exact h2)
        exact ⟨k, by omega, h4⟩
      · exact ⟨n + 1, Nat.le_refl _, (pre_eq hl (.inr ⟨l[n], hg, h0⟩) h1 h2).2⟩
  obtain ⟨k, h1, h2⟩ := this l.length (Nat.le_refl _) (by rw [List.take_length])
  rw [h2, List.length_take, List.take_eq_take_iff]
  omega
def TrimOwn (M : Nat) (w : World) (e : Ending) (w' : World) : Prop := ∃ v, e = .returned v ∧ Bn w w.heap.size v M ∧ w = w'
/-- times between two rounds -/
def TmSt (a : List Nat) (m c : Nat) (w : World) (v : Value) (carry i : Nat) (wr : World) : Prop :=
  ∃ r : List Nat, wr.ownsRow w.heap.size 86 1 v i (us r) ∧ Below w.heap.size w wr ∧ r.length = i ∧ Wds r ∧ val r + 4294967296 ^ i * carry = val (a.take i) * m + c
theorem mul_bd {x m c : Nat} (hx : x < 4294967296) (hm : m < 4294967296) (hc : c < 4294967296) : x * m ≤ 18446744065119617025 ∧ x * m + c < 18446744073709551616 := by
  have : x * m ≤ 4294967295 * 4294967295 := Nat.mul_le_mul (by omega) (by omega)
  omega

end Go.Proofs.YtbkdhejcbcgalaaGreatDoor.big
end
section
namespace Go.Proofs.YtbkdhejcbcgalaaGreatDoor.big
open Go.RowKit mem fl
set_option linter.unusedVariables false


theorem Bn.zero (w : World) (B : Nat) : Bn w B (.slice none 0 0) 0 := ⟨none, 0, rfl, Rd.nil, Nat.le_refl _⟩
theorem below_grown {w w' : World} (h : Below w.heap.size w w') : w.grownBy w' none := ⟨h.os, h.tape, h.output, h.size, fun k hk _ => h.block k hk⟩
theorem rd_none {w : World} {B : Nat} {A : Option Addr} {l : List Nat} (h : Rd w B A (us l)) : A = none → l.length = 0 := by
  rintro rfl
  by_cases hz : l.length = 0
  · exact hz
  · obtain ⟨ad, h1, _⟩ := h 0 _ (us_get (l := l) (k := 0) (by omega))
    cases h1
theorem us_one (l : List Nat) : ∀ u ∈ us l, u.oneCell' = true := by
  intro u hu
  simp only [us, List.mem_map] at hu
  obtain ⟨x, _, rfl⟩ := hu
  rfl
theorem made_zero (n : Nat) : (madeCells (Value.int IntKind.u32 0).cells (n * 1)).toList = us (List.replicate n 0) := by
  rw [Nat.mul_one]
  show (madeCells #[_] n).toList = _
  simp [madeCells, us, List.eq_replicate_iff]
  intro a _
  rw [Nat.mod_one]
  rfl
theorem pow_u32 (k : Nat) : (2 : Int) ^ (k % 32) % 4294967296 = ((2 ^ (k % 32) : Nat) : Int) := by
  have h1 : 2 ^ (k % 32) < 2 ^ 32 := Nat.pow_lt_pow_right (by omega) (by omega)
  have h2 : ((2 ^ (k % 32) : Nat) : Int) = (2 : Int) ^ (k % 32) := by simp
  rw [← h2]
  obtain ⟨x, hx⟩ : ∃ x, 2 ^ (k % 32) = x := ⟨_, rfl⟩
  rw [hx] at h1 ⊢
  omega
theorem pow_lt32 (k : Nat) : 2 ^ (k % 32) < 4294967296 := Nat.pow_lt_pow_right (n := 32) (by omega) (by omega)
theorem up_words (N k : Nat) (h : N ≠ 0) : List.replicate (k / 32) 0 ++ wd (N * 2 ^ (k % 32) + 0) = wd (N * 2 ^ k) := by
  rw [Nat.add_zero, wd_up _ _ (Nat.mul_ne_zero h (Nat.ne_of_gt (Nat.two_pow_pos _)))]
  congr 1
  have : (4294967296 : Nat) = 2 ^ 32 := rfl
  rw [this, ← Nat.pow_mul, Nat.mul_left_comm, ← Nat.pow_add, Nat.div_add_mod]
theorem bn_own {w : World} {base n N : Nat} {v : Value} (h : w.ownsRow base 86 1 v n (us (wd N))) : Bn w w.heap.size v N := by
  obtain ⟨A2, c2, rfl, hA2, hc2, hm2⟩ := own_form h
  have := h.1
  rw [us_length] at this
  have e : n = (wd N).length := by simpa using this.symm
  subst e
  exact ⟨A2, c2, rfl, Rd.of_own h, hc2⟩
/-- plus between two rounds -/
def PlSt (a b : List Nat) (w : World) (v : Value) (carry i : Nat) (wr : World) : Prop :=
  ∃ r : List Nat, wr.ownsRow w.heap.size 86 1 v i (us r) ∧ Below w.heap.size w wr ∧ r.length = i ∧ Wds r ∧ val r + 4294967296 ^ i * carry = val (a.take i) + val (b.take i)

theorem PlSt.step {a b r : List Nat} {w w5 : World} {v' : Value} {i s carry x y : Nat} (ho : w5.ownsRow w.heap.size 86 1 v' (i + 1) (us r ++ [.int .u32 ((s % 4294967296 : Nat) : Int)])) (hs : s = carry + x + y) (hb : Below w.heap.size w w5) (hl : r.length = i) (hw : Wds r)
    (h : val (r ++ [(carry + x + y) % 4294967296]) + 4294967296 ^ (i + 1) * ((carry + x + y) / 4294967296) = val (a.take (i + 1)) + val (b.take (i + 1))) : PlSt a b w v' (s / 4294967296) (i + 1) w5 := by
  subst hs
  refine ⟨r ++ [(carry + x + y) % 4294967296], ?_, hb, by rw [List.length_append, hl]; rfl, hw.app (by intro z hz; simp at hz; omega), h⟩
  rw [us_app]
  exact ho
theorem PlSt.step0 {a b r : List Nat} {w w5 : World} {v' : Value} {i carry x y : Nat} (ho : w5.ownsRow w.heap.size 86 1 v' (i + 1) (us r ++ [.int .u32 (carry : Int)])) (hs : carry < 4294967296 ∧ x = 0 ∧ y = 0) (hb : Below w.heap.size w w5) (hl : r.length = i) (hw : Wds r)
    (h : val (r ++ [(carry + x + y) % 4294967296]) + 4294967296 ^ (i + 1) * ((carry + x + y) / 4294967296) = val (a.take (i + 1)) + val (b.take (i + 1))) : PlSt a b w v' (carry / 4294967296) (i + 1) w5 := by
  obtain ⟨h1, rfl, rfl⟩ := hs
  exact PlSt.step (s := carry) (carry := carry) (x := 0) (y := 0) (by rw [Nat.mod_eq_of_lt h1]; exact ho) rfl hb hl hw h
theorem wds_get {l : List Nat} (h : Wds l) (k : Nat) : l.getD k 0 < 4294967296 := by
  rw [List.getD_eq_getElem?_getD]
  by_cases hk : k < l.length
  · rw [List.getElem?_eq_getElem hk]
    exact h _ (List.getElem_mem hk)
  · rw [List.getElem?_eq_none (by omega)]
    simp
end Go.Proofs.YtbkdhejcbcgalaaGreatDoor.big
end
section
namespace Go.Proofs.YtbkdhejcbcgalaaGreatDoor.big
open Go.RowKit mem fl
set_option linter.unusedVariables false

theorem wd_len_mul {N m k : Nat} (h : (wd N).length ≤ k) (hm : m ≤ 4294967296) : (wd (N * m)).length ≤ k + 1 := by
  have h1 := val_lt (wd N) (wds_wd N)
  rw [val_wd] at h1
  refine wd_len_le ?_
  have h2 : N < 4294967296 ^ k := Nat.lt_of_lt_of_le h1 (Nat.pow_le_pow_right (by decide) h)
  rw [Nat.pow_succ]
  by_cases h0 : m = 0
  · subst h0; rw [Nat.mul_zero]; exact Nat.mul_pos (Nat.pow_pos (by decide)) (by decide)
  · exact Nat.lt_of_lt_of_le ((Nat.mul_lt_mul_right (by omega)).2 h2) (Nat.mul_le_mul_left _ hm)
theorem wide_sum (N m : Nat) : N * (m % 4294967296) + 0 + (N * (m / 4294967296) + 0) * 2 ^ 32 = N * m := by
  have e : (2 : Nat) ^ 32 = 4294967296 := rfl
  rw [e, Nat.add_zero, Nat.add_zero, Nat.mul_assoc, ← Nat.mul_add]
  congr 1
  omega

def ordN (N M : Nat) : Int := if N < M then -1 else if M < N then 1 else 0
def OrdPost (N M : Nat) (w : World) (e : Ending) (w' : World) : Prop := e = .returned (.int .i64 (ordN N M)) ∧ ∃ n, w' = w.drewN n
theorem drop_one {l : List Nat} {k : Nat} (h : k < l.length) : l.drop k = l.getD k 0 :: l.drop (k + 1) := by
  rw [List.getD_eq_getElem?_getD, List.getElem?_eq_getElem h]
  exact List.drop_eq_getElem_cons h
theorem drewN_add (w : World) (a b : Nat) : (w.drewN a).drewN b = w.drewN (a + b) := by
  induction b with
  | zero => rfl
  | succ b ih => show ((w.drewN a).drewN b).drew = _; rw [ih]; rfl
theorem drewN_add3 (w : World) (a b c : Nat) : ((w.drewN a).drewN b).drewN c = w.drewN (a + b + c) := by rw [drewN_add w a b, drewN_add]
theorem Below.drewN {B : Nat} {a w : World} (h : Below B a w) (n : Nat) : Below B a (w.drewN n) := ⟨h.os, h.tape, h.output, h.size, h.block⟩
/-! ### digits -/
/-- the value of decimal digits, as bytes -/
def dv (l : List UInt8) : Nat := l.foldl (fun n c => n * 10 + (c.toNat - 48)) 0
def Digs (l : List UInt8) : Prop := ∀ c ∈ l, 48 ≤ c.toNat ∧ c.toNat ≤ 57
theorem dv_snoc (l : List UInt8) (c : UInt8) : dv (l ++ [c]) = dv l * 10 + (c.toNat - 48) := by unfold dv; rw [List.foldl_append]; rfl
theorem dv_from (l : List UInt8) : ∀ n, l.foldl (fun n c => n * 10 + (c.toNat - 48)) n = n * 10 ^ l.length + dv l := by
  unfold dv
  induction l with
  | nil => intro n; simp
  | cons c l ih =>
    intro n
    simp only [List.foldl_cons, List.length_cons]
    rw [ih, ih (0 * 10 + (c.toNat - 48)), Nat.pow_succ, Nat.add_mul, Nat.zero_mul, Nat.zero_add, Nat.mul_assoc, Nat.mul_comm 10]
    omega
theorem dv_app (l r : List UInt8) : dv (l ++ r) = dv l * 10 ^ r.length + dv r := by
  unfold dv
  rw [List.foldl_append]
  exact dv_from r _
theorem dv_lt : ∀ (l : List UInt8), Digs l → dv l < 10 ^ l.length := by
  intro l
  induction l with
  | nil => intro _; simp [dv]
  | cons c l ih =>
    intro h
    have h1 := h c (by simp)
    have h2 := ih fun d hd => h d (by simp [hd])
    have : dv (c :: l) = (0 * 10 + (c.toNat - 48)) * 10 ^ l.length + dv l := dv_from l _
    rw [this, List.length_cons, Nat.pow_succ]
    have h3 : (0 * 10 + (c.toNat - 48)) * 10 ^ l.length ≤ 9 * 10 ^ l.length := Nat.mul_le_mul_right _ (by omega)
    omega
theorem Digs.take {l : List UInt8} (h : Digs l) (k : Nat) : Digs (l.take k) := fun c hc => h c (List.mem_of_mem_take hc)
theorem Digs.drop {l : List UInt8} (h : Digs l) (k : Nat) : Digs (l.drop k) := fun c hc => h c (List.mem_of_mem_drop hc)
/-- the value of c digits from place i on -/
def dvAt (l : List UInt8) (i c : Nat) : Nat := dv ((l.drop i).take c)
theorem dvAt_zero (l : List UInt8) (i : Nat) : dvAt l i 0 = 0 := by simp [dvAt, dv]
theorem dvAt_succ {l : List UInt8} {i c : Nat} (h : i + c < l.length) : dvAt l i (c + 1) = dvAt l i c * 10 + ((l[i + c]).toNat - 48) := by
  unfold dvAt
  rw [List.take_succ_eq_append_getElem (by rw [List.length_drop]; omega), dv_snoc, List.getElem_drop]
theorem dvAt_lt {l : List UInt8} (hd : Digs l) {i c : Nat} (h : i + c ≤ l.length) : dvAt l i c < 10 ^ c := by
  have := dv_lt _ ((hd.drop i).take c)
  rw [List.length_take, List.length_drop, Nat.min_eq_left (by omega)] at this
  exact this
theorem dv_take_add {l : List UInt8} {i c : Nat} (h : i + c ≤ l.length) : dv (l.take (i + c)) = dv (l.take i) * 10 ^ c + dvAt l i c := by
  rw [List.take_add, dv_app]
  unfold dvAt
  rw [List.length_take, List.length_drop, Nat.min_eq_left (by omega)]
theorem bts_get (s : ByteArray) (k : Nat) (h : k < s.size) : s.data.toList[k]'(by simpa using h) = s[k] := by simp; rfl

def OdSt (l : List UInt8) (w : World) (v : Value) (p : Nat) (wr : World) : Prop := Bn wr wr.heap.size v (dv (l.take p)) ∧ Below w.heap.size w wr
theorem pow9 {c : Nat} (h : c ≤ 9) : 10 ^ c ≤ 1000000000 := Nat.pow_le_pow_right (n := 10) (j := 9) (by decide) h
theorem pow8 {c : Nat} (h : c ≤ 8) : 10 ^ c ≤ 100000000 := Nat.pow_le_pow_right (n := 10) (j := 8) (by decide) h
theorem wd_len_dv {l : List UInt8} (h : Digs l) : (wd (dv l)).length ≤ l.length := by
  have := dv_lt l h
  exact wd_len_le (Nat.lt_of_lt_of_le this (Nat.pow_le_pow_left (by decide) _))

end Go.Proofs.YtbkdhejcbcgalaaGreatDoor.big
end
