/- Small words on memory: a slice value that reads as a list of cells. PLAIN LEAN: whole numbers as words of 32 bits, the lowest first, none of them 0 at the end. The reference's whole numbers of any size: trim, times. The reference's whole numbers: up, plus, wide, order. The reference's whole numbers: wide, order, ofDigits, ten. -/
import Derived.WalkKit
import Derived.Below
import Derived.Laws.OwnMore
import Derived.Deep.Draws
import Derived.Lib.Hide
import Derived.Maps.AppendAt
import Derived.OwnWalk
import Derived.Laws.BytesString
import Derived.Laws.Entries
import Derived.Test.YtjciflgnlldgbaaGreatDoorChecked
import Derived.KernelRfl
import Derived.Deep.DeepMust
import Derived.Deep.QuietTactic
import Derived.BigQuiet
import Derived.Outline
import Derived.WalkLawsBesides
import Derived.WalkSpells
section
set_option linter.unusedVariables false
namespace Go.Proofs.YtjciflgnlldgbaaGreatDoor.mem
open Go.RowKit

theorem ret_int {k : IntKind} {a b : Int} (h : a = b) : Ending.returned (.int k a) = .returned (.int k b) := by rw [h]
theorem ret_bool {a b : Bool} (h : a = b) : Ending.returned (.bool a) = .returned (.bool b) := by rw [h]
theorem ret_3 {a b c a' b' c' : Int} (h : a = a') (h2 : b = b') (h3 : c = c') : Ending.returned (.tuple #[.int .i64 a, .int .i64 b, .int .i64 c]) = .returned (.tuple #[.int .i64 a', .int .i64 b', .int .i64 c']) := by rw [h, h2, h3]

theorem add_block (a : Addr) (n : Nat) : (a.add n).block = a.block := by unfold Addr.add; split <;> rfl

/-- the cells from the address on hold the list; where there is one, the address lies below block B -/
def Rd (w : World) (B : Nat) (A : Option Addr) (xs : List Value) : Prop := ∀ j u, xs[j]? = some u → ∃ ad, A = some ad ∧ ad.block < B ∧ w.cell? (ad.add j) = some u

theorem Rd.at_ {w : World} {B : Nat} {A : Option Addr} {xs : List Value} (h : Rd w B A xs) {k : Nat} (hk : k < xs.length) : ∃ ad, A = some ad ∧ ad.block < B ∧ w.cell? (ad.add k) = some xs[k] :=
  h k _ (List.getElem?_eq_getElem hk)
theorem Rd.keep {w w' : World} {B : Nat} {A : Option Addr} {xs : List Value} (h : Rd w B A xs) (hk : ∀ p : Addr, p.block < B → w'.cell? p = w.cell? p) : Rd w' B A xs :=
  fun j u hu => by
    obtain ⟨ad, e, hb, hc⟩ := h j u hu
    exact ⟨ad, e, hb, (hk _ (by rw [add_block]; exact hb)).trans hc⟩
theorem Rd.below {w w' : World} {B : Nat} {A : Option Addr} {xs : List Value} (h : Rd w B A xs) (hb : Below B w w') : Rd w' B A xs := h.keep fun _ hp => hb.cell hp
theorem Rd.more {w : World} {B B' : Nat} {A : Option Addr} {xs : List Value} (h : Rd w B A xs) (hB : B ≤ B') : Rd w B' A xs :=
  fun j u hu => by
    obtain ⟨ad, e, hb, hc⟩ := h j u hu
    exact ⟨ad, e, by omega, hc⟩
theorem Rd.nil {w : World} {B : Nat} {A : Option Addr} : Rd w B A [] := fun j u hu => by simp at hu

theorem Rd.of_own {w : World} {base : Nat} {e : TypeId} {size n c : Nat} {A : Option Addr} {xs : List Value} (h : w.ownsRow base e size (.slice A n c) n xs) : Rd w w.heap.size A xs := by
  intro j u hu
  cases A with
  | none =>
    rcases h.2 with ⟨_, rfl⟩ | ⟨g, cap, cur, hv, _⟩
    · have := h.1
      have hx : xs = [] := List.eq_nil_of_length_eq_zero (by simpa using this)
      subst hx
      simp at hu
    · injection hv with h1
      cases h1
  | some ad =>
    have hl := h.lt ad.block rfl
    have had : ad = ⟨ad.block, 0, none⟩ := by
      rcases h.2 with ⟨hv, _⟩ | ⟨g, cap, cur, hv, _⟩
      · injection hv with h1
        cases h1
      · injection hv with h1
        injection h1 with h1
        rw [h1]
    refine ⟨ad, rfl, hl.2, ?_⟩
    have := h.cells (g := ad.block) rfl j u hu
    rw [had]
    exact this

section
variable {P : Program} (w : World)

theorem run_app_nil (base : Nat) (t ty e : TypeId) (i : TypeInfo) (size : Nat) (ht : P.underlying t = some (.slice e)) (hi : P.info? e = some i)
    (v : Value) (n : Nat) (xs : List Value) (hown : w.ownsRow base e size v n xs) (c : Nat) : (Builtin.append_ #[t, t] ty #[v, .slice none 0 c]).run P w = .ok v w := by
  rcases hown.2 with ⟨rfl, rfl⟩ | ⟨g, cap, cur, rfl, _, _, hnc, _⟩
  · simp [Builtin.append_, run_underlying ht, sizeOf, typeInfo, hi, Builtin.lenOf, Builtin.firstCells]
  · simp [Builtin.append_, run_underlying ht, sizeOf, typeInfo, hi, Builtin.lenOf, Builtin.firstCells, hnc, storeCells]

/-- append onto a row of the call's own, from whatever source reads as a list (nil, empty, or not) -/
theorem run_app (base : Nat) (t ty e : TypeId) (i : TypeInfo) (z : Value) (size bytes : Nat) (ht : P.underlying t = some (.slice e)) (hi : P.info? e = some i) (hz : i.zero = some z)
    (hsize : i.size = size) (hby : i.bytes = bytes) (hzs : z.cells.size = size) (hsz : 0 < size)
    (v : Value) (n : Nat) (xs : List Value) (hown : w.ownsRow base e size v n xs)
    (B : Nat) (A : Option Addr) (m c : Nat) (news : List Value) (hl : news.length = m * size) (hr : Rd w B A news) (hnz : A = none → m = 0) (h1 : ∀ u ∈ news, u.oneCell' = true)
    (h63 : n + m ≤ maxLen) (hbytes : (n + m) * bytes ≤ 140737488355328) (hbase : base ≤ w.heap.size) :
    ∃ v' w', (Builtin.append_ #[t, t] ty #[v, .slice A m c]).run P w = .ok v' w' ∧ w'.ownsRow base e size v' (n + m) (xs ++ news) ∧ w.grownBy w' v.ownBlock ∧
      (v'.ownBlock = v.ownBlock ∨ v'.ownBlock = some w.heap.size) := by
  rcases A with _ | ad
  · have hm : m = 0 := hnz rfl
    subst hm
    have hn : news = [] := List.eq_nil_of_length_eq_zero (by simpa using hl)
    subst hn
    exact ⟨v, w, run_app_nil w base t ty e i size ht hi v n xs hown c, by simpa using hown, ⟨rfl, rfl, rfl, Nat.le_refl _, fun _ _ _ => rfl⟩, .inl rfl⟩
  · have hcells : ∀ j u, news[j]? = some u → w.cell? (ad.add j) = some u := by
      intro j u hu
      obtain ⟨ad', e', _, hc⟩ := hr j u hu
      injection e' with e'
      subst e'
      exact hc
    obtain ⟨v', w', hrun, h2, h3, _, h5⟩ := run_append_own_at (P := P) w base t ty e i z size bytes ht hi hz hsize hby hzs hsz v n xs hown ad m c news hl hcells h1 h63 hbytes hbase
    exact ⟨v', w', hrun, h2, h3, h5⟩

theorem wp_app {o : Oper} {a : Act} {K : Act → World → Prop} {Q : Exit → Act → World → Prop} (s x : Operand) (t : TypeId)
    (ho : o.op = .call { callee := .builtin .append, args := #[s, x], argTypes := #[t, t] })
    (base : Nat) (e : TypeId) (i : TypeInfo) (z : Value) (size bytes : Nat) (ht : P.underlying t = some (.slice e)) (hi : P.info? e = some i) (hz : i.zero = some z)
    (hsize : i.size = size) (hby : i.bytes = bytes) (hzs : z.cells.size = size) (hsz : 0 < size)
    (v : Value) (n : Nat) (xs : List Value) (hs : a.eval s = v) (hown : w.ownsRow base e size v n xs)
    (B : Nat) (A : Option Addr) (m c : Nat) (news : List Value) (hx : a.eval x = .slice A m c) (hl : news.length = m * size) (hr : Rd w B A news) (hnz : A = none → m = 0) (h1 : ∀ u ∈ news, u.oneCell' = true)
    (h63 : n + m ≤ maxLen) (hbytes : (n + m) * bytes ≤ 140737488355328) (hbase : base ≤ w.heap.size)
    (h : ∀ v' w', w'.ownsRow base e size v' (n + m) (xs ++ news) → w.grownBy w' v.ownBlock → (v'.ownBlock = v.ownBlock ∨ v'.ownBlock = some w.heap.size) → K (a.put o.dst v') w') : o.wp P a w K Q := by
  obtain ⟨v', w', hrun, h2, h3, h4⟩ := run_app (P := P) w base t o.type e i z size bytes ht hi hz hsize hby hzs hsz v n xs hown B A m c news hl hr hnz h1 h63 hbytes hbase
  unfold Oper.wp execOp
  simp only [ho, resolve, invoke, builtin, Sem.run_bind, Sem.run_pure, Result.andThen_ok, List.map_toArray, List.map_cons, List.map_nil, hs, hx, hrun]
  exact h v' w' h2 h3 h4

theorem wpList_app {ops : Array Oper} {rest : List Oper} {o : Oper} {a : Act} {Q : Exit → Act → World → Prop} (hgd : o.guard = none) (s x : Operand) (t : TypeId)
    (ho : o.op = .call { callee := .builtin .append, args := #[s, x], argTypes := #[t, t] })
    (base : Nat) (e : TypeId) (i : TypeInfo) (z : Value) (size bytes : Nat) (ht : P.underlying t = some (.slice e)) (hi : P.info? e = some i) (hz : i.zero = some z)
    (hsize : i.size = size) (hby : i.bytes = bytes) (hzs : z.cells.size = size) (hsz : 0 < size)
    (v : Value) (n : Nat) (xs : List Value) (hs : a.eval s = v) (hown : w.ownsRow base e size v n xs)
    (B : Nat) (A : Option Addr) (m c : Nat) (news : List Value) (hx : a.eval x = .slice A m c) (hl : news.length = m * size) (hr : Rd w B A news) (hnz : A = none → m = 0) (h1 : ∀ u ∈ news, u.oneCell' = true)
    (h63 : n + m ≤ maxLen) (hbytes : (n + m) * bytes ≤ 140737488355328) (hbase : base ≤ w.heap.size)
    (h : ∀ v' w', w'.ownsRow base e size v' (n + m) (xs ++ news) → w.grownBy w' v.ownBlock → (v'.ownBlock = v.ownBlock ∨ v'.ownBlock = some w.heap.size) → wpList P ops Q rest (a.put o.dst v') w') : wpList P ops Q (o :: rest) a w :=
  wpList_plain hgd fun _ hK => wp_app w s x t ho base e i z size bytes ht hi hz hsize hby hzs hsz v n xs hs hown B A m c news hx hl hr hnz h1 h63 hbytes hbase fun v' w' h2 h3 h4 => hK _ _ (h v' w' h2 h3 h4)
end

theorem Rd.one (w : World) (x : Value) (t : TypeId) : Rd (w.alloc (.cells #[x] t)) (w.heap.size + 1) (some ⟨w.heap.size, 0, none⟩) [x] := by
  intro j u hu
  exact ⟨_, rfl, by simp, cell_one_new w x t j u hu⟩

theorem own_lt {w : World} {base : Nat} {e : TypeId} {size n : Nat} {v : Value} {xs : List Value} (h : w.ownsRow base e size v n xs) : ∀ k, v.ownBlock = some k → base ≤ k ∧ k < w.heap.size := h.lt

/-- a value that owns a row is a slice of that length -/
theorem own_form {w : World} {base : Nat} {e : TypeId} {size n : Nat} {v : Value} {xs : List Value} (h : w.ownsRow base e size v n xs) : ∃ A c, v = .slice A n c ∧ (A = none → n = 0) ∧ n ≤ c ∧ c ≤ maxLen := by
  rcases h.2 with ⟨rfl, rfl⟩ | ⟨g, cap, cur, rfl, _, _, h1, h2, _⟩
  · exact ⟨none, 0, rfl, fun _ => rfl, Nat.le_refl _, Nat.zero_le _⟩
  · exact ⟨_, cap, rfl, (fun h => by cases h), h1, h2⟩

/-- behind an append onto a row of the call's own (with the new element's block, or without) -/
theorem below_app1 {B base : Nat} {e : TypeId} {size n : Nat} {w wr w1 : World} {v : Value} {xs : List Value} {o : Obj} (hb : Below B w wr) (hown : wr.ownsRow base e size v n xs) (hB : B ≤ base) (hBs : B ≤ wr.heap.size)
    (hg : (wr.alloc o).grownBy w1 v.ownBlock) : Below B w w1 :=
  (hb.alloc hBs o).grown hg (by simp; omega) fun k hk => Nat.le_trans hB (hown.lt k hk).1
theorem below_app {B base : Nat} {e : TypeId} {size n : Nat} {w wr w1 : World} {v : Value} {xs : List Value} (hb : Below B w wr) (hown : wr.ownsRow base e size v n xs) (hB : B ≤ base) (hBs : B ≤ wr.heap.size)
    (hg : wr.grownBy w1 v.ownBlock) : Below B w w1 :=
  hb.grown hg hBs fun k hk => Nat.le_trans hB (hown.lt k hk).1

theorem add_zero_off (g j : Nat) : (⟨g, 0, none⟩ : Addr).add j = ⟨g, j, none⟩ := by unfold Addr.add; split <;> simp_all

/-- a new block reads as its cells -/
theorem Rd.new (w : World) (cs : List Value) (t : TypeId) : Rd (w.alloc (.cells cs.toArray t)) (w.heap.size + 1) (some ⟨w.heap.size, 0, none⟩) cs := by
  intro j u hu
  refine ⟨_, rfl, by simp, ?_⟩
  rw [add_zero_off, cell_of_row (w.alloc (.cells cs.toArray t)) w.heap.size j cs.toArray t (0, 0) (heap_alloc_new w _)]
  simpa using hu

/-- a row of the call's own that is not empty: its block -/
theorem own_block {w : World} {base : Nat} {e : TypeId} {size n : Nat} {v : Value} {xs : List Value} (h : w.ownsRow base e size v n xs) (hn : 0 < n) :
    ∃ g c cur, v = .slice (some ⟨g, 0, none⟩) n c ∧ base ≤ g ∧ g < w.heap.size ∧ n ≤ c ∧ c ≤ maxLen ∧ w.heap[g]? = some (.cells cur e (0, 0)) ∧ cur.size = c * size ∧ cur.toList.take (n * size) = xs := by
  rcases h.2 with ⟨_, h0⟩ | ⟨g, cap, cur, hv, hb, hg, h1, h2, h3, h4⟩
  · omega
  · exact ⟨g, cap, cur, hv, hb, (Array.getElem?_eq_some_iff.1 hg).1, h1, h2, hg, h3, h4⟩

/-- an empty composite literal, not nil -/
theorem own_empty (w : World) (base g : Nat) (e : TypeId) (size : Nat) (hg : w.heap.size = g) (hb : base ≤ g) : (w.alloc (.cells #[] e)).ownsRow base e size (.slice (some ⟨g, 0, none⟩) 0 0) 0 [] := by
  subst hg
  exact World.ownsRow_made w #[] 0 hb (Nat.zero_le _) (by simp)
theorem Rd.newAt (w : World) (g : Nat) (cs : List Value) (t : TypeId) (hg : w.heap.size = g) : Rd (w.alloc (.cells cs.toArray t)) (g + 1) (some ⟨g, 0, none⟩) cs := by
  subst hg
  exact Rd.new w cs t

/-- the string whose bytes are these numbers -/
def strOf (xs : List Int) : ByteArray := ⟨(xs.map fun n => UInt8.ofNat n.toNat).toArray⟩
theorem strOf_size (xs : List Int) : (strOf xs).size = xs.length := by simp [strOf, ByteArray.size]
theorem strOf_foldl (xs : List Int) (s : ByteArray) : xs.foldl (fun r n => r.push (UInt8.ofNat n.toNat)) s = ⟨s.data ++ (xs.map fun n => UInt8.ofNat n.toNat).toArray⟩ := by
  induction xs generalizing s with
  | nil => simp
  | cons x xs ih =>
    rw [List.foldl_cons, ih]
    congr 1
    apply Array.toList_inj.1
    simp [ByteArray.push]
theorem run_conv_bytes {P : Program} {w : World} {B : Nat} (src dst e : TypeId) (A : Option Addr) (xs : List Int) (c : Nat) (hs : P.underlying src = some (.slice e)) (he : P.underlying e = some (.int .u8)) (hd : P.underlying dst = some .string)
    (hr : Rd w B A (xs.map (.int .u8))) (hn : A = none → xs.length = 0) : (convert src dst (.slice A xs.length c)).run P w = .ok (.string (strOf xs)) w := by
  rw [run_convert_bytes_string w src dst e A xs.length c hs he hd]
  cases A with
  | none =>
    have hx : xs = [] := List.eq_nil_of_length_eq_zero (hn rfl)
    subst hx
    simp [Conv.bytesToString, strOf, Sem.run_pure]
    rfl
  | some ad =>
    have hl : (loadCells ad xs.length).run P w = .ok (xs.map (Value.int .u8)).toArray w := by
      have h1 := run_loadCells_list (P := P) (w := w) ad (xs.map (.int .u8)) (fun j v hv => by
        obtain ⟨ad', e', _, hc⟩ := hr j v hv
        injection e' with e'
        subst e'
        exact hc)
      simpa using h1
    rw [run_bytesToString w ad xs.length c xs hl, strOf_foldl]
    simp [strOf]

/-- the first elements of a row of the call's own -/
theorem Rd.of_block {w : World} {g : Nat} {cur : Array Value} {e : TypeId} {xs ys : List Value} {k : Nat} (hg : w.heap[g]? = some (.cells cur e (0, 0))) (ht : cur.toList.take k = ys) (hp : ∃ zs, ys = xs ++ zs) : Rd w (g + 1) (some ⟨g, 0, none⟩) xs := by
  intro j u hu
  obtain ⟨zs, rfl⟩ := hp
  refine ⟨_, rfl, by simp, ?_⟩
  rw [add_zero_off, cell_of_row w g j cur e (0, 0) hg]
  have h1 : (xs ++ zs)[j]? = some u := by
    rw [List.getElem?_append_left (List.getElem?_eq_some_iff.1 hu).1]
    exact hu
  rw [← ht, List.getElem?_take] at h1
  split at h1
  · simpa using h1
  · cases h1
theorem box_cell {B g : Nat} {w w' : World} {cs : Array Value} {t : TypeId} (hb : Below B (w.alloc (.cells cs t)) w') (hg : w.heap.size = g) (hB : g < B) (j : Nat) : w'.cell? ⟨g, j, none⟩ = cs[j]? := by
  subst hg
  rw [hb.cell (p := ⟨w.heap.size, j, none⟩) hB]
  exact cell_of_row _ _ _ cs t (0, 0) (heap_alloc_new w _)

theorem blk_set {w : World} {g : Nat} {cs : Array Value} {t : TypeId} (h : w.heap[g]? = some (.cells cs t (0, 0))) (i : Nat) (u : Value) : (w.setCell ⟨g, i, none⟩ u).heap[g]? = some (.cells (cs.setIfInBounds i u) t (0, 0)) := by
  simp [World.setCell, Array.getElem?_modify, h]
theorem blk_cell {w : World} {g : Nat} {cs : Array Value} {t : TypeId} (h : w.heap[g]? = some (.cells cs t (0, 0))) {i : Nat} (hi : i < cs.size) : w.cell? ⟨g, i, none⟩ = some cs[i] := by
  rw [cell_of_row w g i cs t (0, 0) h]
  simp [hi]
theorem blk_frozen {w : World} {g : Nat} {cs : Array Value} {t : TypeId} (h : w.heap[g]? = some (.cells cs t (0, 0))) (i : Nat) : w.frozen? ⟨g, i, none⟩ = false := by
  simp [World.frozen?, h]
theorem grown_set {a w : World} {g : Nat} (h : a.grownBy w (some g)) (i : Nat) (u : Value) : a.grownBy (w.setCell ⟨g, i, none⟩ u) (some g) :=
  ⟨h.os, h.tape, h.output, by simpa [World.setCell] using h.size, fun k hk hne => (Below.heap_setCell w _ u k (by rintro rfl; exact hne rfl)).trans (h.block k hk hne)⟩
theorem grown_refl (w : World) (row : Option Nat) : w.grownBy w row := ⟨rfl, rfl, rfl, Nat.le_refl _, fun _ _ _ => rfl⟩
theorem grown_below {a w : World} {g B : Nat} (h : a.grownBy w (some g)) (hB : B ≤ g) (hs : B ≤ a.heap.size) : Below B a w :=
  ⟨h.os, h.tape, h.output, h.size, fun k hk => h.block k (by omega) (by simp; omega)⟩
theorem Rd.of_cells {w : World} {g : Nat} {cur : Array Value} {e : TypeId} {xs : List Value} (hg : w.heap[g]? = some (.cells cur e (0, 0))) (h : ∀ (j : Nat) (u : Value), xs[j]? = some u → cur[j]? = some u) : Rd w (g + 1) (some ⟨g, 0, none⟩) xs := by
  intro j u hu
  refine ⟨_, rfl, by simp, ?_⟩
  rw [add_zero_off, cell_of_row w g j cur e (0, 0) hg]
  exact h j u hu

/-- a float stored: the walk's rule that lacks -/
theorem run_store_float (P : Program) (w : World) (a : Addr) (m : Mode) (k : FloatKind) (b : Nat) : (store a (.float k b) m).run P w = stored P w a (.float k b) m := run_store P w a _ m rfl

theorem step_app {P : Program} (w : World) {ops : Array Oper} {o : Oper} {a : Act} {K : Act → World → Prop} {Q : Exit → Act → World → Prop} {E : Prop} (hgd : o.guard = none) (s x : Operand) (t : TypeId)
    (ho : o.op = .call { callee := .builtin .append, args := #[s, x], argTypes := #[t, t] })
    (base : Nat) (e : TypeId) (i : TypeInfo) (z : Value) (size bytes : Nat) (ht : P.underlying t = some (.slice e)) (hi : P.info? e = some i) (hz : i.zero = some z)
    (hsize : i.size = size) (hby : i.bytes = bytes) (hzs : z.cells.size = size) (hsz : 0 < size)
    (v : Value) (n : Nat) (xs : List Value) (hs : a.eval s = v) (hown : w.ownsRow base e size v n xs)
    (B : Nat) (A : Option Addr) (m c : Nat) (news : List Value) (hx : a.eval x = .slice A m c) (hl : news.length = m * size) (hr : Rd w B A news) (hnz : A = none → m = 0) (h1 : ∀ u ∈ news, u.oneCell' = true)
    (h63 : n + m ≤ maxLen) (hbytes : (n + m) * bytes ≤ 140737488355328) (hbase : base ≤ w.heap.size)
    (h : ∀ v' w', w'.ownsRow base e size v' (n + m) (xs ++ news) → w.grownBy w' v.ownBlock → (v'.ownBlock = v.ownBlock ∨ v'.ownBlock = some w.heap.size) → K (a.put o.dst v') w') :
    if Region.wanted o (yielded ops a.tmps) = true then Oper.wp P o a w K Q else E := by
  have hw : Region.wanted o (yielded ops a.tmps) = true := by simp [Region.wanted, hgd]
  rw [if_pos hw]
  exact wp_app w s x t ho base e i z size bytes ht hi hz hsize hby hzs hsz v n xs hs hown B A m c news hx hl hr hnz h1 h63 hbytes hbase h
end Go.Proofs.YtjciflgnlldgbaaGreatDoor.mem
end
section
set_option linter.unusedVariables false
namespace Go.Proofs.YtjciflgnlldgbaaGreatDoor.fl

def val : List Nat → Nat
  | [] => 0
  | x :: l => x + 4294967296 * val l
def wdF : Nat → Nat → List Nat
  | 0, _ => []
  | f + 1, N => if N = 0 then [] else N % 4294967296 :: wdF f (N / 4294967296)
/-- the words of a number -/
def wd (N : Nat) : List Nat := wdF N N
def Wds (l : List Nat) : Prop := ∀ x ∈ l, x < 4294967296

theorem wdF_fuel : ∀ (f g N : Nat), N ≤ f → N ≤ g → wdF f N = wdF g N
  | 0, g, N, h, _ => by
    obtain rfl : N = 0 := by omega
    cases g <;> simp [wdF]
  | f + 1, 0, N, _, h => by
    obtain rfl : N = 0 := by omega
    simp [wdF]
  | f + 1, g + 1, N, h1, h2 => by
    unfold wdF
    by_cases h : N = 0
    · simp [h]
    · rw [if_neg h, if_neg h, wdF_fuel f g _ (by omega) (by omega)]
theorem wd_zero : wd 0 = [] := rfl
theorem wd_pos {N : Nat} (h : N ≠ 0) : wd N = N % 4294967296 :: wd (N / 4294967296) := by
  unfold wd
  obtain ⟨k, hk⟩ : ∃ k, N = k + 1 := ⟨N - 1, by omega⟩
  rw [wdF_fuel N (k + 1) N (by omega) (by omega)]
  show (if N = 0 then _ else _) = _
  rw [if_neg h, wdF_fuel k (N / 4294967296) _ (by omega) (Nat.le_refl _)]
theorem val_wd (N : Nat) : val (wd N) = N := by
  induction N using Nat.strongRecOn with
  | _ N ih =>
    by_cases h : N = 0
    · subst h; rfl
    · rw [wd_pos h]
      simp only [val]
      rw [ih _ (by omega)]
      omega
theorem wds_wd (N : Nat) : Wds (wd N) := by
  induction N using Nat.strongRecOn with
  | _ N ih =>
    by_cases h : N = 0
    · subst h; intro x hx; simp [wd_zero] at hx
    · rw [wd_pos h]
      intro x hx
      rcases List.mem_cons.1 hx with rfl | hx
      · omega
      · exact ih _ (by omega) x hx
theorem val_app : ∀ (a b : List Nat), val (a ++ b) = val a + 4294967296 ^ a.length * val b
  | [], b => by simp [val]
  | x :: a, b => by
    simp only [List.cons_append, val, List.length_cons]
    rw [val_app a b, Nat.pow_succ, Nat.mul_add, Nat.add_assoc, ← Nat.mul_assoc, Nat.mul_comm (4294967296 ^ a.length)]
theorem val_lt : ∀ (a : List Nat), Wds a → val a < 4294967296 ^ a.length
  | [], _ => by simp [val]
  | x :: a, h => by
    have h1 := h x (by simp)
    have h2 := val_lt a fun y hy => h y (by simp [hy])
    simp only [val, List.length_cons, Nat.pow_succ]
    omega
theorem Wds.app {a b : List Nat} (ha : Wds a) (hb : Wds b) : Wds (a ++ b) := fun x hx => by
  rcases List.mem_append.1 hx with h | h
  · exact ha x h
  · exact hb x h
theorem Wds.take {a : List Nat} (ha : Wds a) (k : Nat) : Wds (a.take k) := fun x hx => ha x (List.mem_of_mem_take hx)
/-- words without a 0 at the end are the words of their number -/
theorem wd_val : ∀ (a : List Nat), Wds a → (∀ x, a.getLast? = some x → x ≠ 0) → wd (val a) = a
  | [], _, _ => rfl
  | x :: a, h, hl => by
    have hx := h x (by simp)
    have hz : val (x :: a) ≠ 0 := by
      intro h0
      simp only [val] at h0
      have h1 : val a = 0 := by omega
      have h2 : x = 0 := by omega
      cases a with
      | nil => exact hl x (by simp) h2
      | cons y b =>
        have ih := wd_val (y :: b) (fun z hz => h z (by simp [hz])) (fun z hz => hl z (by simpa using hz))
        rw [h1] at ih
        exact absurd ih.symm (by simp [wd_zero])
    rw [wd_pos hz]
    have e1 : val (x :: a) % 4294967296 = x := by simp only [val]; omega
    have e2 : val (x :: a) / 4294967296 = val a := by simp only [val]; omega
    rw [e1, e2]
    cases a with
    | nil => rfl
    | cons y b => rw [wd_val (y :: b) (fun z hz => h z (by simp [hz])) (fun z hz => hl z (by simpa using hz))]
theorem val_snoc_zero (a : List Nat) : val (a ++ [0]) = val a := by rw [val_app]; simp [val]
/-- a step of trim: the first n words, the last of them 0 -/
theorem val_take_zero {a : List Nat} {n : Nat} (h : a[n]? = some 0) : val (a.take (n + 1)) = val (a.take n) := by
  obtain ⟨h1, h2⟩ := List.getElem?_eq_some_iff.1 h
  rw [List.take_succ_eq_append_getElem h1, h2, val_snoc_zero]
theorem wd_take {a : List Nat} {n : Nat} (ha : Wds a) (h : n = 0 ∨ ∃ x, a[n - 1]? = some x ∧ x ≠ 0) : wd (val (a.take n)) = a.take n := by
  refine wd_val _ (ha.take n) fun x hx => ?_
  rcases h with rfl | ⟨y, hy, hy0⟩
  · simp at hx
  · obtain ⟨h1, h2⟩ := List.getElem?_eq_some_iff.1 hy
    by_cases hn : n = 0
    · subst hn; simp at hx
    · rw [List.getLast?_eq_getElem?, List.length_take, List.getElem?_take] at hx
      rw [Nat.min_eq_left (by omega), if_pos (by omega), hy] at hx
      injection hx with hx
      subst hx
      exact hy0
theorem wd_len_le {N k : Nat} (h : N < 4294967296 ^ k) : (wd N).length ≤ k := by
  induction k generalizing N with
  | zero =>
    obtain rfl : N = 0 := by simpa using h
    simp [wd_zero]
  | succ k ih =>
    by_cases h0 : N = 0
    · subst h0; simp [wd_zero]
    · rw [wd_pos h0, List.length_cons]
      have := ih (N := N / 4294967296) (by rw [Nat.pow_succ] at h; exact Nat.div_lt_of_lt_mul (by rw [Nat.mul_comm]; exact h))
      omega
theorem wd_len_pow {N : Nat} (h : N ≠ 0) : 4294967296 ^ ((wd N).length - 1) ≤ N := by
  induction N using Nat.strongRecOn with
  | _ N ih =>
    rw [wd_pos h]
    by_cases h1 : N / 4294967296 = 0
    · rw [h1]; simp [wd_zero]; omega
    · have := ih _ (by omega) h1
      have hp : 0 < (wd (N / 4294967296)).length := by rw [wd_pos h1]; simp
      obtain ⟨k, hk⟩ : ∃ k, (wd (N / 4294967296)).length = k + 1 := ⟨(wd (N / 4294967296)).length - 1, by omega⟩
      rw [hk] at this
      rw [List.length_cons, hk]
      simp only [Nat.add_sub_cancel] at this ⊢
      rw [Nat.pow_succ]
      exact Nat.le_trans (Nat.mul_le_mul_right 4294967296 this) (Nat.div_mul_le_self N 4294967296)
theorem wd_eq_nil {N : Nat} (h : (wd N).length = 0) : N = 0 := by
  by_cases h0 : N = 0
  · exact h0
  · rw [wd_pos h0] at h; simp at h
theorem lt_of_len {N M : Nat} (h : (wd N).length < (wd M).length) : N < M := by
  have hM : M ≠ 0 := fun h0 => by subst h0; simp [wd_zero] at h
  have h1 := val_lt (wd N) (wds_wd N)
  rw [val_wd] at h1
  have h2 := wd_len_pow hM
  have h3 : 4294967296 ^ (wd N).length ≤ 4294967296 ^ ((wd M).length - 1) := Nat.pow_le_pow_right (by decide) (by omega)
  omega
theorem split_at {a : List Nat} {i : Nat} (hi : i < a.length) : a.take i ++ a.getD i 0 :: a.drop (i + 1) = a := by
  have e : a.getD i 0 = a[i] := by rw [List.getD_eq_getElem?_getD, List.getElem?_eq_getElem hi]; rfl
  rw [e, ← List.drop_eq_getElem_cons hi, List.take_append_drop]
/-- comparing from the top: what is above is alike -/
theorem cmp_at {a b : List Nat} {i : Nat} (hl : a.length = b.length) (hi : i < a.length) (ha : Wds a) (hd : a.drop (i + 1) = b.drop (i + 1)) (h : a.getD i 0 < b.getD i 0) : val a < val b := by
  have hi2 : i < b.length := by omega
  have ea := split_at hi
  have eb := split_at hi2
  have va : val a = val (a.take i) + 4294967296 ^ i * (a.getD i 0 + 4294967296 * val (a.drop (i + 1))) := by
    conv => lhs; rw [← ea]
    rw [val_app, List.length_take, Nat.min_eq_left (by omega)]
    rfl
  have vb : val b = val (b.take i) + 4294967296 ^ i * (b.getD i 0 + 4294967296 * val (a.drop (i + 1))) := by
    conv => lhs; rw [← eb]
    rw [val_app, List.length_take, Nat.min_eq_left (by omega), hd]
    rfl
  have h1 := val_lt (a.take i) (ha.take i)
  rw [List.length_take, Nat.min_eq_left (by omega)] at h1
  have h2 : 4294967296 ^ i * (a.getD i 0 + 4294967296 * val (a.drop (i + 1)) + 1) ≤ 4294967296 ^ i * (b.getD i 0 + 4294967296 * val (a.drop (i + 1))) := Nat.mul_le_mul_left _ (by omega)
  rw [Nat.mul_add, Nat.mul_one] at h2
  omega

/-! ### the sums that the loops make -/
/-- times: the words so far, the carry -/
theorem times_step {r a : List Nat} {i m c carry : Nat} (hi : i < a.length) (hr : r.length = i) (h : val r + 4294967296 ^ i * carry = val (a.take i) * m + c) :
    val (r ++ [(a.getD i 0 * m + carry) % 4294967296]) + 4294967296 ^ (i + 1) * ((a.getD i 0 * m + carry) / 4294967296) = val (a.take (i + 1)) * m + c := by
  have e : a.getD i 0 = a[i] := by rw [List.getD_eq_getElem?_getD, List.getElem?_eq_getElem hi]; rfl
  rw [List.take_succ_eq_append_getElem hi, ← e, val_app, val_app, hr, List.length_take, Nat.min_eq_left (by omega)]
  simp only [val, Nat.mul_zero, Nat.add_zero]
  obtain ⟨x, hx⟩ : ∃ x, a.getD i 0 * m + carry = x := ⟨_, rfl⟩
  rw [hx, Nat.pow_succ, Nat.mul_assoc, Nat.add_assoc, ← Nat.mul_add, Nat.mod_add_div, ← hx, Nat.mul_add, Nat.add_mul]
  rw [← Nat.mul_assoc]
  omega
theorem times_end {r a : List Nat} {m c carry : Nat} (hr : r.length = a.length) (h : val r + 4294967296 ^ a.length * carry = val (a.take a.length) * m + c) : val (r ++ [carry]) = val a * m + c ∧ (carry = 0 → val r = val a * m + c) := by
  rw [List.take_length] at h
  refine ⟨?_, fun h0 => by subst h0; simpa using h⟩
  rw [val_app, hr]
  simp only [val, Nat.mul_zero, Nat.add_zero]
  exact h
/-- plus -/
theorem plus_step {r a b : List Nat} {i carry : Nat} (hr : r.length = i) (h : val r + 4294967296 ^ i * carry = val (a.take i) + val (b.take i)) :
    val (r ++ [(carry + a.getD i 0 + b.getD i 0) % 4294967296]) + 4294967296 ^ (i + 1) * ((carry + a.getD i 0 + b.getD i 0) / 4294967296) = val (a.take (i + 1)) + val (b.take (i + 1)) := by
  have tk : ∀ l : List Nat, val (l.take (i + 1)) = val (l.take i) + 4294967296 ^ i * l.getD i 0 := by
    intro l
    by_cases hi : i < l.length
    · rw [List.take_succ_eq_append_getElem hi, val_app, List.length_take, Nat.min_eq_left (by omega), List.getD_eq_getElem?_getD, List.getElem?_eq_getElem hi]
      simp [val]
    · rw [List.take_of_length_le (by omega), List.take_of_length_le (by omega), List.getD_eq_getElem?_getD, List.getElem?_eq_none (by omega)]
      simp
  rw [tk a, tk b, val_app, hr]
  simp only [val, Nat.mul_zero, Nat.add_zero]
  obtain ⟨x, hx⟩ : ∃ x, carry + a.getD i 0 + b.getD i 0 = x := ⟨_, rfl⟩
  rw [hx, Nat.pow_succ, Nat.mul_assoc, Nat.add_assoc, ← Nat.mul_add, Nat.mod_add_div, ← hx, Nat.mul_add, Nat.mul_add]
  omega
theorem plus_end {r a b : List Nat} {i : Nat} (ha : a.length ≤ i) (hb : b.length ≤ i) (h : val r + 4294967296 ^ i * 0 = val (a.take i) + val (b.take i)) : val r = val a + val b := by
  rw [List.take_of_length_le ha, List.take_of_length_le hb] at h
  simpa using h
/-- up: noughts in front -/
theorem wd_up (N k : Nat) (h : N ≠ 0) : List.replicate k 0 ++ wd N = wd (4294967296 ^ k * N) := by
  induction k with
  | zero => simp
  | succ k ih =>
    have hz : 4294967296 ^ (k + 1) * N ≠ 0 := Nat.mul_ne_zero (Nat.ne_of_gt (Nat.pow_pos (by omega))) h
    rw [wd_pos hz, List.replicate_succ, List.cons_append, ih]
    have e : 4294967296 ^ (k + 1) * N = 4294967296 * (4294967296 ^ k * N) := by rw [Nat.pow_succ, Nat.mul_comm (4294967296 ^ k), Nat.mul_assoc]
    rw [e, Nat.mul_mod_right, Nat.mul_div_cancel_left _ (by omega)]
end Go.Proofs.YtjciflgnlldgbaaGreatDoor.fl
end
section
namespace Go.Proofs.YtjciflgnlldgbaaGreatDoor.big
open Go.RowKit mem fl
set_option linter.unusedVariables false

theorem infoW : (Tryz.prog.info? 100).map (fun i => (i.zero, i.size, i.bytes)) = some (some (.int .u32 0), 1, 4) := by kernel_rfl
theorem info_parts {P : Program} {t : TypeId} {z : Option Value} {s b : Nat} (h : (P.info? t).map (fun i => (i.zero, i.size, i.bytes)) = some (z, s, b)) : ∃ i, P.info? t = some i ∧ i.zero = z ∧ i.size = s ∧ i.bytes = b := by
  cases hi : P.info? t with
  | none => rw [hi] at h; simp at h
  | some i =>
    rw [hi] at h
    simp at h
    exact ⟨i, rfl, h.1, h.2.1, h.2.2⟩

/-- words as values -/
def us (l : List Nat) : List Value := l.map fun x : Nat => .int .u32 (x : Int)
theorem us_length (l : List Nat) : (us l).length = l.length := by simp [us]
theorem us_app (a b : List Nat) : us (a ++ b) = us a ++ us b := by simp [us]
theorem us_take (a : List Nat) (n : Nat) : us (a.take n) = (us a).take n := by simp [us]
theorem us_get {l : List Nat} {k : Nat} (h : k < l.length) : (us l)[k]? = some (.int .u32 (l.getD k 0 : Int)) := by
  unfold us
  rw [List.getElem?_map, List.getElem?_eq_getElem h, List.getD_eq_getElem?_getD, List.getElem?_eq_getElem h]
  rfl
theorem Rd.take {w : World} {B : Nat} {A : Option Addr} {xs : List Value} (h : Rd w B A xs) (n : Nat) : Rd w B A (xs.take n) := fun j u hu => by
  rw [List.getElem?_take] at hu
  by_cases hj : j < n
  · rw [if_pos hj] at hu
    exact h j u hu
  · rw [if_neg hj] at hu
    cases hu
/-- a value that reads as the words of N -/
def Bn (w : World) (B : Nat) (v : Value) (N : Nat) : Prop := ∃ A c, v = .slice A (wd N).length c ∧ Rd w B A (us (wd N)) ∧ (wd N).length ≤ c
theorem Bn.below {w w' : World} {B : Nat} {v : Value} {N : Nat} (h : Bn w B v N) (hb : Below B w w') : Bn w' B v N := by
  obtain ⟨A, c, rfl, hr, hc⟩ := h
  exact ⟨A, c, rfl, hr.below hb, hc⟩
theorem Bn.more {w : World} {B B' : Nat} {v : Value} {N : Nat} (h : Bn w B v N) (hB : B ≤ B') : Bn w B' v N := by
  obtain ⟨A, c, rfl, hr, hc⟩ := h
  exact ⟨A, c, rfl, hr.more hB, hc⟩

def TrimPost (A : Option Addr) (N : Nat) (w : World) (e : Ending) (w' : World) : Prop := ∃ c, e = .returned (.slice A (wd N).length c) ∧ (wd N).length ≤ c ∧ w = w'

theorem pre_eq {l : List Nat} {n : Nat} (hl : Wds l) (h : n = 0 ∨ ∃ x, l[n - 1]? = some x ∧ x ≠ 0) (hn : n ≤ l.length) (hv : val (l.take n) = val l) : (wd (val l)).length = n ∧ wd (val l) = l.take n := by
  have h1 := wd_take hl h
  rw [hv] at h1
  exact ⟨by rw [h1, List.length_take]; omega, h1⟩
set_option maxRecDepth 100000 in
set_option maxHeartbeats 400000 in
theorem trim_any (A : Option Addr) (c n0 : Nat) (l : List Nat) (w : World) (B : Nat) (hr : Rd w B A (us l)) (hl : Wds l) (hn0 : l.length = n0) (hn : n0 ≤ 1100000) (hcap : n0 ≤ c) :
    Calls Tryz.prog 74 #[.slice A n0 c] w (TrimPost A (val l) w) := by
  have HR := Lib.hid hr
  have HL := Lib.hid hl
  have HN := Lib.hid hn0
  clear hr hl hn0
  go_enter Tryz.func74, Tryz.ntmps74
  go_wp2_with fail
  go_loop [0] (fun v => ∃ (n cc : Nat), n ≤ n0 ∧ n ≤ cc ∧ v = .slice A n cc ∧ Hid (val (l.take n) = val l)) (fun v => match v with | .slice _ n _ => n | _ => 0)
  case atStart => exact ⟨n0, c, Nat.le_refl _, hcap, rfl, Lib.hid (by rw [← HN.out, List.take_length])⟩
  case round =>
    obtain ⟨n, cc, hnl, hncc, rfl, hv⟩ := hrel
    by_cases hz : n = 0
    · subst hz
      go_wp2_with fail
      go_ret
      have h1 := pre_eq HL.out (.inl rfl) (Nat.zero_le _) hv.out
      exact ⟨cc, (by rw [h1.1]; rfl), by omega, rfl⟩
    · obtain ⟨m, rfl⟩ : ∃ m, n = m + 1 := ⟨n - 1, by omega⟩
      obtain ⟨x, hx⟩ : ∃ x, l.getD m 0 = x := ⟨_, rfl⟩
      have hget := us_get (l := l) (k := m) (by rw [HN.out]; omega)
      rw [hx] at hget
      obtain ⟨ad, rfl, hb, hc⟩ := HR.out m _ hget
      have HX := Lib.hid hx
      clear hget hx
      by_cases hx0 : x = 0
      · subst hx0
        have hcc : (m : Int) ≤ (cc : Int) := by omega
        go_wp2_with fail
        go_round
        case rel => exact ⟨m, cc, by omega, by omega, by simp, Lib.hid (by
          rw [← hv.out, val_take_zero]
          have := HX.out
          have hm : m < l.length := by rw [HN.out]; omega
          rw [List.getD_eq_getElem?_getD, List.getElem?_eq_getElem hm] at this
          rw [List.getElem?_eq_getElem hm]
          simpa using this)⟩
        case measure => simp
      · have hx1 : ((x : Int) == 0) = false := by simp; omega
        go_wp2_with fail
        go_ret
        have h1 := pre_eq (n := m + 1) HL.out (.inr ⟨x, by
          have := HX.out
          have hm : m < l.length := by rw [HN.out]; omega
          rw [List.getD_eq_getElem?_getD, List.getElem?_eq_getElem hm] at this
          simp only [Nat.add_sub_cancel]
          rw [List.getElem?_eq_getElem hm]
          simpa using this, hx0⟩) (by rw [HN.out]; omega) hv.out
        exact ⟨cc, (by rw [h1.1]; rfl), (by rw [h1.1]; omega), rfl⟩

/-- what a function that makes a number answers -/
def BnPost (N : Nat) (w : World) (e : Ending) (w' : World) : Prop := ∃ v, e = .returned v ∧ Bn w' w'.heap.size v N ∧ Below w.heap.size w w'


theorem wd_prefix {l : List Nat} (hl : Wds l) : wd (val l) = l.take (wd (val l)).length := by
  have : ∀ n, n ≤ l.length → val (l.take n) = val l → ∃ k, k ≤ n ∧ wd (val l) = l.take k := by
    intro n
    induction n with
    | zero => intro h1 h2; exact ⟨0, Nat.le_refl _, (pre_eq hl (.inl rfl) h1 h2).2⟩
    | succ n ih =>
      intro h1 h2
      have hg : l[n]? = some l[n] := List.getElem?_eq_getElem (by omega)
      by_cases h0 : l[n] = 0
      · rw [h0] at hg
        obtain ⟨k, h3, h4⟩ := ih (by omega) (by rw [← val_take_zero hg]; exact h2)
        exact ⟨k, by omega, h4⟩
      · exact ⟨n + 1, Nat.le_refl _, (pre_eq hl (.inr ⟨l[n], hg, h0⟩) h1 h2).2⟩
  obtain ⟨k, h1, h2⟩ := this l.length (Nat.le_refl _) (by rw [List.take_length])
  rw [h2, List.length_take, List.take_eq_take_iff]
  omega
def TrimOwn (M : Nat) (w : World) (e : Ending) (w' : World) : Prop := ∃ v, e = .returned v ∧ Bn w w.heap.size v M ∧ w = w'
theorem trim_own {base n M : Nat} {v : Value} {r : List Nat} {w : World} (ho : w.ownsRow base 100 1 v n (us r)) (hl : r.length = n) (hw : Wds r) (hn : n ≤ 1100000) (hM : val r = M) :
    Calls Tryz.prog 74 #[v] w (TrimOwn M w) := by
  obtain ⟨A2, c2, rfl, hA2, hc2, hm2⟩ := own_form ho
  refine (trim_any A2 c2 n r w w.heap.size (Rd.of_own ho) hw hl hn hc2).mono ?_
  rintro e w' ⟨c3, rfl, hc3, rfl⟩
  have h2 := wd_prefix hw
  rw [hM] at hc3 h2 ⊢
  refine ⟨_, rfl, ⟨A2, c3, rfl, ?_, hc3⟩, rfl⟩
  have h1 := Rd.take (Rd.of_own ho) (wd M).length
  rw [← us_take, ← h2] at h1
  exact h1
/-- times between two rounds -/
def TmSt (a : List Nat) (m c : Nat) (w : World) (v : Value) (carry i : Nat) (wr : World) : Prop :=
  ∃ r : List Nat, wr.ownsRow w.heap.size 100 1 v i (us r) ∧ Below w.heap.size w wr ∧ r.length = i ∧ Wds r ∧ val r + 4294967296 ^ i * carry = val (a.take i) * m + c
theorem mul_bd {x m c : Nat} (hx : x < 4294967296) (hm : m < 4294967296) (hc : c < 4294967296) : x * m ≤ 18446744065119617025 ∧ x * m + c < 18446744073709551616 := by
  have : x * m ≤ 4294967295 * 4294967295 := Nat.mul_le_mul (by omega) (by omega)
  omega

set_option maxRecDepth 100000 in
set_option maxHeartbeats 1100000 in
theorem times_any (v0 : Value) (N m c : Nat) (w : World) (hv : Bn w w.heap.size v0 N) (hm : m < 4294967296) (hc : c < 4294967296) (hn : (wd N).length ≤ 900000) :
    Calls Tryz.prog 60 #[v0, .int .u32 m, .int .u32 c] w (BnPost (N * m + c) w) := by
  obtain ⟨iv, hiv, hv0, hv1, hv2⟩ := info_parts infoW
  obtain ⟨A, cap, rfl, hr, hcap⟩ := hv
  have hwl := wds_wd N
  have hvl := val_wd N
  have hlp : ∀ k, k < (wd N).length → (wd N).getD k 0 < 4294967296 := fun k hk => hwl _ (by rw [List.getD_eq_getElem?_getD, List.getElem?_eq_getElem hk]; exact List.getElem_mem hk)
  have HLP := Lib.hid hlp
  have HW := Lib.hid hwl
  have HV := Lib.hid hvl
  have HR := Lib.hid hr
  clear hlp hwl hvl hr
  generalize wd N = l at *
  obtain ⟨L, hL⟩ : ∃ L, l.length = L := ⟨_, rfl⟩
  rw [hL] at hn hcap ⊢
  have HL := Lib.hid hL
  clear hL
  go_enter Tryz.func60, Tryz.ntmps60
  go_wp2_with fail
  go_loopw [7, 8, 9] (fun v7 v8 v9 wr => ∃ (i carry : Nat) (vv : Value), i ≤ L ∧ carry < 4294967296 ∧ v9 = .int .i64 (i : Int) ∧ v8 = .int .u64 (carry : Int) ∧ vv = v7 ∧ Hid (TmSt l m c w vv carry i wr)) (fun _ _ v9 _ => L - (intOf v9).toNat)
  case atStart =>
    exact ⟨0, c, _, Nat.zero_le _, hc, rfl, rfl, rfl, Lib.hid ⟨[], World.ownsRow_nil _ _ _ _, Below.refl _ _, rfl, (by intro x hx; simp at hx), by simp [val]⟩⟩
  case round =>
    obtain ⟨i, carry, vv, hiL, hcb, rfl, rfl, rfl, hst⟩ := hrel
    by_cases hi : i < L
    · have hgx := us_get (l := l) (k := i) (by rw [HL.out]; exact hi)
      obtain ⟨ad, rfl, hab, hcell⟩ := HR.out i _ hgx
      obtain ⟨r, hown, hb, hrl, hrw, hsum⟩ := hst.out
      have hxl := HLP.out i (by rw [HL.out]; exact hi)
      obtain ⟨x, hx⟩ : ∃ x, l.getD i 0 = x := ⟨_, rfl⟩
      rw [hx] at hcell hxl
      have hcell2 := (hb.cell (p := ad.add i) (by rw [add_block]; exact hab)).trans hcell
      have HO := Lib.hid hown
      have hbz := hb.size
      have HBl := Lib.hid hb
      have HX := Lib.hid hx
      have HRl := Lib.hid hrl
      have HRw := Lib.hid hrw
      have HS := Lib.hid hsum
      have hmb := mul_bd hxl hm hcb
      obtain ⟨p, hp⟩ : ∃ p, x * m = p := ⟨_, rfl⟩
      rw [hp] at hmb
      have hp2 : (x : Int) * (m : Int) = (p : Int) := by rw [← hp]; simp
      have HP := Lib.hid hp
      clear hcell hst hb hown hrl hrw hsum hgx hx hp
      go_wp2_with (at_builtin; go_must (refine wpList_app _ rfl (.tmp 29) (.tmp 32) _ rfl w.heap.size 100 iv (.int .u32 0) 1 4 Tryz.underlying83 hiv hv0 hv1 hv2 rfl (by omega) vv i (us r) rfl (HO.out.alloc _) (wr.heap.size + 1) (some ⟨wr.heap.size, 0, none⟩) 1 1 [.int .u32 ((p + carry) % 4294967296 : Nat)] rfl rfl (Rd.new wr [.int .u32 ((p + carry) % 4294967296 : Nat)] 100) (by simp) (by intro u hu; simp at hu; subst hu; rfl) (by unfold maxLen; omega) (by omega) (by simp; omega) ?_; intro v' w5 hown' hgrow' hat'; have HO' := Lib.hid hown'; have HG' := Lib.hid hgrow'; clear hown' hgrow' hat'))
      refine ⟨⟨i + 1, (p + carry) / 4294967296, _, by omega, by omega, by simp, by simp, rfl, Lib.hid ⟨r ++ [(p + carry) % 4294967296], ?_, below_app1 HBl.out HO.out (Nat.le_refl _) hbz HG'.out, by rw [List.length_append, HRl.out]; rfl, HRw.out.app (by intro y hy; simp at hy; omega), ?_⟩⟩, by simp [intOf]; omega⟩
      · have := HO'.out
        rw [us_app]
        exact this
      · have := times_step (a := l) (i := i) (m := m) (c := c) (carry := carry) (by rw [HL.out]; exact hi) HRl.out HS.out
        rw [HX.out, HP.out] at this
        exact this
    · obtain rfl : i = L := by omega
      obtain ⟨r, hown, hb, hrl, hrw, hsum⟩ := hst.out
      have hend := times_end (r := r) (a := l) (m := m) (c := c) (carry := carry) (by rw [hrl, HL.out]) (by rw [HL.out]; exact hsum)
      rw [HV.out] at hend
      have HE := Lib.hid hend
      have HO := Lib.hid hown
      have hbz := hb.size
      have HBl := Lib.hid hb
      have HRl := Lib.hid hrl
      have HRw := Lib.hid hrw
      clear hst hb hown hrl hrw hsum hend
      by_cases hc0 : carry = 0
      · subst hc0
        have HE1 := Lib.hid (HE.out.2 rfl)
        clear HE
        go_wp2_with fail
        refine (trim_own HO.out HRl.out HRw.out (by omega) HE1.out).mono ?_
        rintro e w' ⟨v3, rfl, hbn, rfl⟩
        have HBN := Lib.hid hbn
        clear hbn
        go_wp2_with fail
        go_ret
        exact ⟨_, rfl, HBN.out, HBl.out⟩
      · have hcp : (0 : Int) < (carry : Int) := by omega
        have hc3 : (carry : Int) % 4294967296 = (carry : Int) := by omega
        go_wp2_with (at_builtin; go_must (refine wpList_app _ rfl (.tmp 38) (.tmp 41) _ rfl w.heap.size 100 iv (.int .u32 0) 1 4 Tryz.underlying83 hiv hv0 hv1 hv2 rfl (by omega) vv i (us r) rfl (HO.out.alloc _) (wr.heap.size + 1) (some ⟨wr.heap.size, 0, none⟩) 1 1 [.int .u32 carry] rfl rfl (Rd.new wr [.int .u32 carry] 100) (by simp) (by intro u hu; simp at hu; subst hu; rfl) (by unfold maxLen; omega) (by omega) (by simp; omega) ?_; intro v' w5 hown' hgrow' hat'; have HO' := Lib.hid hown'; have HG' := Lib.hid hgrow'; clear hown' hgrow' hat'))
        have HE1 := Lib.hid HE.out.1
        clear HE
        refine (trim_own (r := r ++ [carry]) (by rw [us_app]; exact HO'.out) (by rw [List.length_append, HRl.out]; rfl) (HRw.out.app (by intro y hy; simp at hy; omega)) (by omega) HE1.out).mono ?_
        rintro e w' ⟨v3, rfl, hbn, rfl⟩
        have HBN := Lib.hid hbn
        clear hbn
        have HBl2 := Lib.hid (below_app1 HBl.out HO.out (Nat.le_refl _) hbz HG'.out)
        go_wp2_with fail
        go_ret
        exact ⟨_, rfl, HBN.out, HBl2.out⟩
end Go.Proofs.YtjciflgnlldgbaaGreatDoor.big
end
section
namespace Go.Proofs.YtjciflgnlldgbaaGreatDoor.big
open Go.RowKit mem fl
set_option linter.unusedVariables false


theorem Bn.zero (w : World) (B : Nat) : Bn w B (.slice none 0 0) 0 := ⟨none, 0, rfl, Rd.nil, Nat.le_refl _⟩
theorem below_grown {w w' : World} (h : Below w.heap.size w w') : w.grownBy w' none := ⟨h.os, h.tape, h.output, h.size, fun k hk _ => h.block k hk⟩
theorem rd_none {w : World} {B : Nat} {A : Option Addr} {l : List Nat} (h : Rd w B A (us l)) : A = none → l.length = 0 := by
  rintro rfl
  by_cases hz : l.length = 0
  · exact hz
  · obtain ⟨ad, h1, _⟩ := h 0 _ (us_get (l := l) (k := 0) (by omega))
    cases h1
theorem us_one (l : List Nat) : ∀ u ∈ us l, u.oneCell' = true := by
  intro u hu
  simp only [us, List.mem_map] at hu
  obtain ⟨x, _, rfl⟩ := hu
  rfl
theorem made_zero (n : Nat) : (madeCells (Value.int IntKind.u32 0).cells (n * 1)).toList = us (List.replicate n 0) := by
  rw [Nat.mul_one]
  show (madeCells #[_] n).toList = _
  simp [madeCells, us, List.eq_replicate_iff]
  intro a _
  rw [Nat.mod_one]
  rfl
theorem pow_u32 (k : Nat) : (2 : Int) ^ (k % 32) % 4294967296 = ((2 ^ (k % 32) : Nat) : Int) := by
  have h1 : 2 ^ (k % 32) < 2 ^ 32 := Nat.pow_lt_pow_right (by omega) (by omega)
  have h2 : ((2 ^ (k % 32) : Nat) : Int) = (2 : Int) ^ (k % 32) := by simp
  rw [← h2]
  obtain ⟨x, hx⟩ : ∃ x, 2 ^ (k % 32) = x := ⟨_, rfl⟩
  rw [hx] at h1 ⊢
  omega
theorem pow_lt32 (k : Nat) : 2 ^ (k % 32) < 4294967296 := Nat.pow_lt_pow_right (n := 32) (by omega) (by omega)
theorem up_words (N k : Nat) (h : N ≠ 0) : List.replicate (k / 32) 0 ++ wd (N * 2 ^ (k % 32) + 0) = wd (N * 2 ^ k) := by
  rw [Nat.add_zero, wd_up _ _ (Nat.mul_ne_zero h (Nat.ne_of_gt (Nat.two_pow_pos _)))]
  congr 1
  have : (4294967296 : Nat) = 2 ^ 32 := rfl
  rw [this, ← Nat.pow_mul, Nat.mul_left_comm, ← Nat.pow_add, Nat.div_add_mod]
theorem bn_own {w : World} {base n N : Nat} {v : Value} (h : w.ownsRow base 100 1 v n (us (wd N))) : Bn w w.heap.size v N := by
  obtain ⟨A2, c2, rfl, hA2, hc2, hm2⟩ := own_form h
  have := h.1
  rw [us_length] at this
  have e : n = (wd N).length := by simpa using this.symm
  subst e
  exact ⟨A2, c2, rfl, Rd.of_own h, hc2⟩
set_option maxRecDepth 100000 in
set_option maxHeartbeats 1100000 in
theorem up_any (v0 : Value) (N k : Nat) (w : World) (hv : Bn w w.heap.size v0 N) (hk : k ≤ 1100000) (hn : (wd N).length ≤ 400000) :
    Calls Tryz.prog 76 #[v0, .int .i64 (k : Int)] w (BnPost (N * 2 ^ k) w) := by
  obtain ⟨iv, hiv, hv0, hv1, hv2⟩ := info_parts infoW
  obtain ⟨A, cap, rfl, hr, hcap⟩ := hv
  by_cases h0 : N = 0
  · subst h0
    go_enter Tryz.func76, Tryz.ntmps76
    have e : (wd 0).length = 0 := rfl
    rw [e]
    clear hr hcap hn e
    go_wp2_with fail
    go_ret
    exact ⟨_, rfl, by rw [Nat.zero_mul]; exact Bn.zero _ _, Below.refl _ _⟩
  · have hlen : 0 < (wd N).length := by rw [wd_pos h0]; simp
    have HBn := Lib.hid (show Bn w w.heap.size (.slice A (wd N).length cap) N from ⟨A, cap, rfl, hr, hcap⟩)
    clear hr
    obtain ⟨L, hL⟩ : ∃ L, (wd N).length = L := ⟨_, rfl⟩
    have HL := Lib.hid hL
    rw [hL] at hlen hcap hn HBn ⊢
    clear hL
    have h0L : ((L : Int) == 0) = false := by simp; omega
    go_enter Tryz.func76, Tryz.ntmps76
    go_wp2_with (refine wpList_make_full _ rfl (.tmp 10) (.tmp 10) 83 rfl w.heap.size 100 iv _ 1 Tryz.underlying83 hiv hv0 hv1 .i64 .i64 ((k : Int) / 32) ((k : Int) / 32) (k / 32) rfl rfl (by simp) (by simp) (by rw [hv2]; omega) (by unfold maxLen; omega) (Nat.le_refl _) ?_; intro w6 hown6 hgrow6)
    have hF6 : w6.ownsRow w.heap.size 100 1 (.slice (some ⟨w.heap.size, 0, none⟩) (k / 32) (k / 32)) (k / 32) (us (List.replicate (k / 32) 0)) := by
      have := hown6
      rw [made_zero] at this
      exact this
    have HF6 := Lib.hid hF6
    have hs6 := hgrow6.size
    have hb6 : Below w.heap.size w w6 := (Below.refl _ _).grown hgrow6 (Nat.le_refl _) (fun k hk => by cases hk)
    have HB6 := Lib.hid hb6
    have HV6 := Lib.hid ((HBn.out.below hb6).more hs6)
    clear hown6 hF6 hgrow6 hb6 HBn
    have hsh := pow_u32 k
    have hp32 := pow_lt32 k
    rw [hsh]
    clear hsh
    refine (times_any _ N (2 ^ (k % 32)) 0 w6 HV6.out hp32 (by omega) (by rw [HL.out]; omega)).mono ?_
    rintro e w7 ⟨v7, rfl, hbn7, hb7⟩
    have HO7 := Lib.hid (HF6.out.kept (below_grown hb7) (by cases h : Value.ownBlock (.slice (some ⟨w.heap.size, 0, none⟩) (k / 32) (k / 32)) <;> simp))
    have HBl7 := Lib.hid (HB6.out.trans (hb7.mono hs6))
    have hs7 := hb7.size
    obtain ⟨A7, c7, rfl, hr7, hc7⟩ := hbn7
    have HR7 := Lib.hid hr7
    have HN7 := Lib.hid (rd_none hr7)
    clear hr7 hb7 HF6 HB6 HV6
    have hl7 : (wd (N * 2 ^ (k % 32) + 0)).length ≤ L + 1 := by
      have h1 := val_lt (wd N) (wds_wd N)
      rw [val_wd, HL.out] at h1
      refine wd_len_le ?_
      rw [Nat.pow_succ, Nat.add_zero]
      exact Nat.mul_lt_mul_of_lt_of_lt h1 hp32
    obtain ⟨M, hM⟩ : ∃ M, N * 2 ^ (k % 32) + 0 = M := ⟨_, rfl⟩
    have hfin := up_words N k h0
    rw [hM] at hl7 HR7 HN7 hc7 hfin ⊢
    clear hM
    obtain ⟨l, hl⟩ : ∃ l, wd M = l := ⟨_, rfl⟩
    rw [hl] at hl7 HR7 HN7 hc7 hfin ⊢
    have HFin := Lib.hid hfin
    clear hfin hl
    obtain ⟨L7, hL7⟩ : ∃ L7, l.length = L7 := ⟨_, rfl⟩
    rw [hL7] at hl7 HN7 hc7 ⊢
    have HL7 := Lib.hid hL7
    clear hL7 hp32
    go_wp2_with (at_builtin; go_must (refine wpList_app _ rfl (.tmp 18) (.tmp 19) _ rfl w.heap.size 100 iv (.int .u32 0) 1 4 Tryz.underlying83 hiv hv0 hv1 hv2 rfl (by omega) (.slice (some ⟨w.heap.size, 0, none⟩) (k / 32) (k / 32)) (k / 32) (us (List.replicate (k / 32) 0)) rfl HO7.out w7.heap.size A7 L7 c7 (us l) rfl (by rw [us_length, HL7.out]; simp) HR7.out HN7.out (us_one l) (by unfold maxLen; omega) (by omega) (by omega) ?_; intro v' w5 hown' hgrow' hat'; have HO' := Lib.hid hown'; have HG' := Lib.hid hgrow'; clear hown' hgrow' hat'))
    go_ret
    have hbf := below_app HBl7.out HO7.out (Nat.le_refl _) (by omega) HG'.out
    refine ⟨_, rfl, ?_, hbf⟩
    have ho := HO'.out
    rw [← us_app, HFin.out] at ho
    exact bn_own ho

/-- plus between two rounds -/
def PlSt (a b : List Nat) (w : World) (v : Value) (carry i : Nat) (wr : World) : Prop :=
  ∃ r : List Nat, wr.ownsRow w.heap.size 100 1 v i (us r) ∧ Below w.heap.size w wr ∧ r.length = i ∧ Wds r ∧ val r + 4294967296 ^ i * carry = val (a.take i) + val (b.take i)

theorem PlSt.step {a b r : List Nat} {w w5 : World} {v' : Value} {i s carry x y : Nat} (ho : w5.ownsRow w.heap.size 100 1 v' (i + 1) (us r ++ [.int .u32 ((s % 4294967296 : Nat) : Int)])) (hs : s = carry + x + y) (hb : Below w.heap.size w w5) (hl : r.length = i) (hw : Wds r)
    (h : val (r ++ [(carry + x + y) % 4294967296]) + 4294967296 ^ (i + 1) * ((carry + x + y) / 4294967296) = val (a.take (i + 1)) + val (b.take (i + 1))) : PlSt a b w v' (s / 4294967296) (i + 1) w5 := by
  subst hs
  refine ⟨r ++ [(carry + x + y) % 4294967296], ?_, hb, by rw [List.length_append, hl]; rfl, hw.app (by intro z hz; simp at hz; omega), h⟩
  rw [us_app]
  exact ho
theorem PlSt.step0 {a b r : List Nat} {w w5 : World} {v' : Value} {i carry x y : Nat} (ho : w5.ownsRow w.heap.size 100 1 v' (i + 1) (us r ++ [.int .u32 (carry : Int)])) (hs : carry < 4294967296 ∧ x = 0 ∧ y = 0) (hb : Below w.heap.size w w5) (hl : r.length = i) (hw : Wds r)
    (h : val (r ++ [(carry + x + y) % 4294967296]) + 4294967296 ^ (i + 1) * ((carry + x + y) / 4294967296) = val (a.take (i + 1)) + val (b.take (i + 1))) : PlSt a b w v' (carry / 4294967296) (i + 1) w5 := by
  obtain ⟨h1, rfl, rfl⟩ := hs
  exact PlSt.step (s := carry) (carry := carry) (x := 0) (y := 0) (by rw [Nat.mod_eq_of_lt h1]; exact ho) rfl hb hl hw h
theorem wds_get {l : List Nat} (h : Wds l) (k : Nat) : l.getD k 0 < 4294967296 := by
  rw [List.getD_eq_getElem?_getD]
  by_cases hk : k < l.length
  · rw [List.getElem?_eq_getElem hk]
    exact h _ (List.getElem_mem hk)
  · rw [List.getElem?_eq_none (by omega)]
    simp
set_option maxRecDepth 100000 in
set_option maxHeartbeats 2000000 in
theorem plus_any (v0 v1 : Value) (N M : Nat) (w : World) (hv0 : Bn w w.heap.size v0 N) (hv1 : Bn w w.heap.size v1 M) (hn : (wd N).length ≤ 900000) (hm : (wd M).length ≤ 900000) :
    Calls Tryz.prog 97 #[v0, v1] w (BnPost (N + M) w) := by
  obtain ⟨iv, hiv, hz0, hz1, hz2⟩ := info_parts infoW
  obtain ⟨A, cap, rfl, hr, hcap⟩ := hv0
  obtain ⟨A', cap', rfl, hr', hcap'⟩ := hv1
  have HWa := Lib.hid (wds_get (wds_wd N))
  have HWb := Lib.hid (wds_get (wds_wd M))
  have HVa := Lib.hid (val_wd N)
  have HVb := Lib.hid (val_wd M)
  have HR := Lib.hid hr
  have HR' := Lib.hid hr'
  clear hr hr'
  generalize wd N = a at *
  generalize wd M = b at *
  obtain ⟨L, hL⟩ : ∃ L, a.length = L := ⟨_, rfl⟩
  obtain ⟨L', hL'⟩ : ∃ L, b.length = L := ⟨_, rfl⟩
  rw [hL] at hn hcap ⊢
  rw [hL'] at hm hcap' ⊢
  have HL := Lib.hid hL
  have HL' := Lib.hid hL'
  clear hL hL'
  go_enter Tryz.func97, Tryz.ntmps97
  go_wp2_with fail
  go_loopw [5, 6, 7] (fun v5 v6 v7 wr => ∃ (i carry : Nat) (vv : Value), (i ≤ L ∨ i ≤ L' ∨ i ≤ max L L' + 1) ∧ carry < 4294967296 ∧ (max L L' < i → carry = 0) ∧ v7 = .int .i64 (i : Int) ∧ v6 = .int .u64 (carry : Int) ∧ vv = v5 ∧ Hid (PlSt a b w vv carry i wr)) (fun _ _ v7 _ => max L L' + 1 - (intOf v7).toNat)
  case atStart =>
    exact ⟨0, 0, _, .inl (Nat.zero_le _), by omega, fun _ => rfl, rfl, rfl, rfl, Lib.hid ⟨[], World.ownsRow_nil _ _ _ _, Below.refl _ _, rfl, (by intro x hx; simp at hx), by simp [val]⟩⟩
  case round =>
    obtain ⟨i, carry, vv, hiL, hcb, hcz, rfl, rfl, rfl, hst⟩ := hrel
    obtain ⟨r, hown, hb, hrl, hrw, hsum⟩ := hst.out
    have HO := Lib.hid hown
    have hbz := hb.size
    have HBl := Lib.hid hb
    have HRl := Lib.hid hrl
    have HRw := Lib.hid hrw
    have HS := Lib.hid hsum
    have HCz := Lib.hid hcz
    have hia : i ≤ max L L' + 1 := by omega
    clear hst hb hown hrl hrw hsum hcz hiL
    by_cases hgo : i < L ∨ i < L' ∨ 0 < carry
    · have hi2 : i ≤ max L L' := by
        by_cases h : max L L' < i
        · have := HCz.out h
          omega
        · omega
      have hxl := HWa.out i
      have hyl := HWb.out i
      obtain ⟨x, hx⟩ : ∃ x, a.getD i 0 = x := ⟨_, rfl⟩
      obtain ⟨y, hy⟩ : ∃ x, b.getD i 0 = x := ⟨_, rfl⟩
      have hxc : ¬ i < L → x = 0 := fun h => by rw [← hx, List.getD_eq_getElem?_getD, List.getElem?_eq_none (by rw [HL.out]; omega)]; rfl
      have hyc : ¬ i < L' → y = 0 := fun h => by rw [← hy, List.getD_eq_getElem?_getD, List.getElem?_eq_none (by rw [HL'.out]; omega)]; rfl
      have hcx : i < L → ∃ ad, A = some ad ∧ wr.cell? (ad.add i) = some (.int .u32 (x : Int)) := fun hi => by
        have hgx := us_get (l := a) (k := i) (by rw [HL.out]; exact hi)
        rw [hx] at hgx
        obtain ⟨ad, rfl, hab, hcell⟩ := HR.out i _ hgx
        exact ⟨ad, rfl, (HBl.out.cell (p := ad.add i) (by rw [add_block]; exact hab)).trans hcell⟩
      have hcy : i < L' → ∃ ad, A' = some ad ∧ wr.cell? (ad.add i) = some (.int .u32 (y : Int)) := fun hi => by
        have hgx := us_get (l := b) (k := i) (by rw [HL'.out]; exact hi)
        rw [hy] at hgx
        obtain ⟨ad, rfl, hab, hcell⟩ := HR'.out i _ hgx
        exact ⟨ad, rfl, (HBl.out.cell (p := ad.add i) (by rw [add_block]; exact hab)).trans hcell⟩
      rw [hx] at hxl
      rw [hy] at hyl
      have hst := plus_step (r := r) (a := a) (b := b) (i := i) (carry := carry) HRl.out HS.out
      rw [hx, hy] at hst
      have HSt := Lib.hid hst
      have HXc := Lib.hid hxc
      have HYc := Lib.hid hyc
      have HCx := Lib.hid hcx
      have HCy := Lib.hid hcy
      clear hst hx hy hxc hyc hcx hcy
      have hmx : max L L' ≤ 900000 := by omega
      obtain ⟨X, hX⟩ : ∃ X, max L L' = X := ⟨_, rfl⟩
      have HXm := Lib.hid hX
      have hLX : L ≤ X := by omega
      have hLX' : L' ≤ X := by omega
      rw [hX] at hmx hi2 hia
      rw [hX]
      clear hX
      by_cases h1 : i < L <;> by_cases h2 : i < L'
      · obtain ⟨ad, rfl, hcell⟩ := HCx.out h1
        obtain ⟨ad', rfl, hcell'⟩ := HCy.out h2
        clear hgo
        go_wp2_with (at_builtin; go_must (refine wpList_app _ rfl (.tmp 48) (.tmp 51) _ rfl w.heap.size 100 iv (.int .u32 0) 1 4 Tryz.underlying83 hiv hz0 hz1 hz2 rfl (by omega) vv i (us r) rfl (HO.out.alloc _) (wr.heap.size + 1) (some ⟨wr.heap.size, 0, none⟩) 1 1 [.int .u32 ((carry + x + y) % 4294967296 : Nat)] rfl rfl (Rd.new wr [.int .u32 ((carry + x + y) % 4294967296 : Nat)] 100) (by simp) (by intro u hu; simp at hu; subst hu; rfl) (by unfold maxLen; omega) (by omega) (by simp; omega) ?_; intro v' w5 hown' hgrow' hat'; have HO' := Lib.hid hown'; have HG' := Lib.hid hgrow'; clear hown' hgrow' hat'))
        exact ⟨⟨i + 1, (carry + x + y) / 4294967296, _, .inr (.inr (by omega)), by omega, fun h => by first | omega | (have := HXc.out (by omega); have := HYc.out (by omega); omega), by simp, by simp <;> omega, rfl, Lib.hid (PlSt.step (s := carry + x + y) (carry := carry) (x := _) (y := _) HO'.out (by omega) (below_app1 HBl.out HO.out (Nat.le_refl _) hbz HG'.out) HRl.out HRw.out HSt.out)⟩, by simp [intOf]; omega⟩
      · obtain ⟨ad, rfl, hcell⟩ := HCx.out h1
        have hy0 := HYc.out h2
        subst hy0
        clear hgo
        go_wp2_with (at_builtin; go_must (refine wpList_app _ rfl (.tmp 48) (.tmp 51) _ rfl w.heap.size 100 iv (.int .u32 0) 1 4 Tryz.underlying83 hiv hz0 hz1 hz2 rfl (by omega) vv i (us r) rfl (HO.out.alloc _) (wr.heap.size + 1) (some ⟨wr.heap.size, 0, none⟩) 1 1 [.int .u32 ((carry + x) % 4294967296 : Nat)] rfl rfl (Rd.new wr [.int .u32 ((carry + x) % 4294967296 : Nat)] 100) (by simp) (by intro u hu; simp at hu; subst hu; rfl) (by unfold maxLen; omega) (by omega) (by simp; omega) ?_; intro v' w5 hown' hgrow' hat'; have HO' := Lib.hid hown'; have HG' := Lib.hid hgrow'; clear hown' hgrow' hat'))
        exact ⟨⟨i + 1, (carry + x) / 4294967296, _, .inr (.inr (by omega)), by omega, fun h => by first | omega | (have := HXc.out (by omega); have := HYc.out (by omega); omega), by simp, by simp <;> omega, rfl, Lib.hid (PlSt.step (s := carry + x) (carry := carry) (x := _) (y := _) HO'.out (by omega) (below_app1 HBl.out HO.out (Nat.le_refl _) hbz HG'.out) HRl.out HRw.out HSt.out)⟩, by simp [intOf]; omega⟩
      · obtain ⟨ad', rfl, hcell'⟩ := HCy.out h2
        have hx0 := HXc.out h1
        subst hx0
        clear hgo
        go_wp2_with (at_builtin; go_must (refine wpList_app _ rfl (.tmp 48) (.tmp 51) _ rfl w.heap.size 100 iv (.int .u32 0) 1 4 Tryz.underlying83 hiv hz0 hz1 hz2 rfl (by omega) vv i (us r) rfl (HO.out.alloc _) (wr.heap.size + 1) (some ⟨wr.heap.size, 0, none⟩) 1 1 [.int .u32 ((carry + y) % 4294967296 : Nat)] rfl rfl (Rd.new wr [.int .u32 ((carry + y) % 4294967296 : Nat)] 100) (by simp) (by intro u hu; simp at hu; subst hu; rfl) (by unfold maxLen; omega) (by omega) (by simp; omega) ?_; intro v' w5 hown' hgrow' hat'; have HO' := Lib.hid hown'; have HG' := Lib.hid hgrow'; clear hown' hgrow' hat'))
        exact ⟨⟨i + 1, (carry + y) / 4294967296, _, .inr (.inr (by omega)), by omega, fun h => by first | omega | (have := HXc.out (by omega); have := HYc.out (by omega); omega), by simp, by simp <;> omega, rfl, Lib.hid (PlSt.step (s := carry + y) (carry := carry) (x := _) (y := _) HO'.out (by omega) (below_app1 HBl.out HO.out (Nat.le_refl _) hbz HG'.out) HRl.out HRw.out HSt.out)⟩, by simp [intOf]; omega⟩
      · have hy0 := HYc.out h2
        have hx0 := HXc.out h1
        subst hx0
        subst hy0
        have hc0 : 0 < carry := by omega
        have hc3 : (carry : Int) % 4294967296 = (carry : Int) := by omega
        have hc4 : (carry : Int) / 4294967296 = 0 := by omega
        clear hgo
        go_wp2_with (at_builtin; go_must (refine wpList_app _ rfl (.tmp 48) (.tmp 51) _ rfl w.heap.size 100 iv (.int .u32 0) 1 4 Tryz.underlying83 hiv hz0 hz1 hz2 rfl (by omega) vv i (us r) rfl (HO.out.alloc _) (wr.heap.size + 1) (some ⟨wr.heap.size, 0, none⟩) 1 1 [.int .u32 (carry : Nat)] rfl rfl (Rd.new wr [.int .u32 (carry : Nat)] 100) (by simp) (by intro u hu; simp at hu; subst hu; rfl) (by unfold maxLen; omega) (by omega) (by simp; omega) ?_; intro v' w5 hown' hgrow' hat'; have HO' := Lib.hid hown'; have HG' := Lib.hid hgrow'; clear hown' hgrow' hat'))
        exact ⟨⟨i + 1, (carry) / 4294967296, _, .inr (.inr (by omega)), by omega, fun h => by first | omega | (have := HXc.out (by omega); have := HYc.out (by omega); omega), by simp, by simp <;> omega, rfl, Lib.hid (PlSt.step0 (carry := carry) (x := _) (y := _) HO'.out (by omega) (below_app1 HBl.out HO.out (Nat.le_refl _) hbz HG'.out) HRl.out HRw.out HSt.out)⟩, by simp [intOf]; omega⟩
    · have hc0 : carry = 0 := by omega
      subst hc0
      have hend := plus_end (r := r) (a := a) (b := b) (i := i) (by rw [HL.out]; omega) (by rw [HL'.out]; omega) HS.out
      rw [HVa.out, HVb.out] at hend
      have HE1 := Lib.hid hend
      have h1 : ¬ i < L := by omega
      have h2 : ¬ i < L' := by omega
      clear hgo hend
      go_wp2_with fail
      refine (trim_own HO.out HRl.out HRw.out (by omega) HE1.out).mono ?_
      rintro e w' ⟨v3, rfl, hbn, rfl⟩
      have HBN := Lib.hid hbn
      clear hbn
      go_wp2_with fail
      go_ret
      exact ⟨_, rfl, HBN.out, HBl.out⟩
end Go.Proofs.YtjciflgnlldgbaaGreatDoor.big
end
section
namespace Go.Proofs.YtjciflgnlldgbaaGreatDoor.big
open Go.RowKit mem fl
set_option linter.unusedVariables false

theorem wd_len_mul {N m k : Nat} (h : (wd N).length ≤ k) (hm : m ≤ 4294967296) : (wd (N * m)).length ≤ k + 1 := by
  have h1 := val_lt (wd N) (wds_wd N)
  rw [val_wd] at h1
  refine wd_len_le ?_
  have h2 : N < 4294967296 ^ k := Nat.lt_of_lt_of_le h1 (Nat.pow_le_pow_right (by decide) h)
  rw [Nat.pow_succ]
  by_cases h0 : m = 0
  · subst h0; rw [Nat.mul_zero]; exact Nat.mul_pos (Nat.pow_pos (by decide)) (by decide)
  · exact Nat.lt_of_lt_of_le ((Nat.mul_lt_mul_right (by omega)).2 h2) (Nat.mul_le_mul_left _ hm)
theorem wide_sum (N m : Nat) : N * (m % 4294967296) + 0 + (N * (m / 4294967296) + 0) * 2 ^ 32 = N * m := by
  have e : (2 : Nat) ^ 32 = 4294967296 := rfl
  rw [e, Nat.add_zero, Nat.add_zero, Nat.mul_assoc, ← Nat.mul_add]
  congr 1
  omega

set_option maxRecDepth 100000 in
set_option maxHeartbeats 1100000 in
theorem wide_any (v0 : Value) (N m : Nat) (w : World) (hv : Bn w w.heap.size v0 N) (hm : m < 18446744073709551616) (hn : (wd N).length ≤ 300000) :
    Calls Tryz.prog 75 #[v0, .int .u64 (m : Int)] w (BnPost (N * m) w) := by
  have HV := Lib.hid hv
  clear hv
  have e1 : (m : Int) % 4294967296 = ((m % 4294967296 : Nat) : Int) := by simp
  have e2 : (m : Int) / 4294967296 = ((m / 4294967296 : Nat) : Int) := by simp
  have H1 := Lib.hid e1
  have H2 := Lib.hid e2
  have HW := Lib.hid (wide_sum N m)
  have hq1 : m % 4294967296 < 4294967296 := by omega
  have hq2 : m / 4294967296 < 4294967296 := by omega
  have hm' : (m : Int) / 4294967296 % 4294967296 = (m : Int) / 4294967296 := by omega
  clear e1 e2
  go_enter Tryz.func75, Tryz.ntmps75
  go_wp2_with fail
  rw [H1.out]
  refine (times_any v0 N (m % 4294967296) 0 w HV.out hq1 (by omega) (by omega)).mono ?_
  rintro e w1 ⟨v1, rfl, hbn1, hb1⟩
  have HB1 := Lib.hid hbn1
  have HBl1 := Lib.hid hb1
  have hs1 := hb1.size
  clear hbn1 hb1
  go_wp2_with fail
  rw [H2.out]
  refine (times_any v0 N (m / 4294967296) 0 w1 ((HV.out.below HBl1.out).more hs1) hq2 (by omega) (by omega)).mono ?_
  rintro e w2 ⟨v2, rfl, hbn2, hb2⟩
  have HB2 := Lib.hid hbn2
  have HBl2 := Lib.hid hb2
  have hs2 := hb2.size
  clear hbn2 hb2
  have hl1 : (wd (N * (m % 4294967296) + 0)).length ≤ 300001 := wd_len_mul hn (by omega)
  have hl2 : (wd (N * (m / 4294967296) + 0)).length ≤ 300001 := wd_len_mul hn (by omega)
  have hl3 : (wd ((N * (m / 4294967296) + 0) * 2 ^ 32)).length ≤ 300002 := wd_len_mul hl2 (by decide)
  clear hq1 hq2
  obtain ⟨P, hP⟩ : ∃ P, N * (m % 4294967296) + 0 = P := ⟨_, rfl⟩
  obtain ⟨Q, hQ⟩ : ∃ Q, N * (m / 4294967296) + 0 = Q := ⟨_, rfl⟩
  rw [hP, hQ] at HW
  rw [hP] at HB1 hl1
  rw [hQ] at HB2 hl2 hl3
  clear hP hQ
  go_wp2_with fail
  refine (up_any v2 Q 32 w2 HB2.out (by omega) (by omega)).mono ?_
  rintro e w3 ⟨v3, rfl, hbn3, hb3⟩
  have HB3 := Lib.hid hbn3
  have HBl3 := Lib.hid hb3
  have hs3 := hb3.size
  clear hbn3 hb3
  go_wp2_with fail
  refine (plus_any v1 v3 P (Q * 2 ^ 32) w3 ((((HB1.out.below HBl2.out).more hs2).below HBl3.out).more hs3) HB3.out (by omega) (by omega)).mono ?_
  rintro e w4 ⟨v4, rfl, hbn4, hb4⟩
  have HB4 := Lib.hid hbn4
  have HBl4 := Lib.hid hb4
  clear hbn4 hb4
  go_wp2_with fail
  go_ret
  refine ⟨_, rfl, by rw [← HW.out]; exact HB4.out, ?_⟩
  exact HBl1.out.trans ((HBl2.out.mono hs1).trans ((HBl3.out.mono (by omega)).trans (HBl4.out.mono (by omega))))

def ordN (N M : Nat) : Int := if N < M then -1 else if M < N then 1 else 0
def OrdPost (N M : Nat) (w : World) (e : Ending) (w' : World) : Prop := e = .returned (.int .i64 (ordN N M)) ∧ ∃ n, w' = w.drewN n
theorem drop_one {l : List Nat} {k : Nat} (h : k < l.length) : l.drop k = l.getD k 0 :: l.drop (k + 1) := by
  rw [List.getD_eq_getElem?_getD, List.getElem?_eq_getElem h]
  exact List.drop_eq_getElem_cons h
theorem drewN_add (w : World) (a b : Nat) : (w.drewN a).drewN b = w.drewN (a + b) := by
  induction b with
  | zero => rfl
  | succ b ih => show ((w.drewN a).drewN b).drew = _; rw [ih]; rfl
theorem drewN_add3 (w : World) (a b c : Nat) : ((w.drewN a).drewN b).drewN c = w.drewN (a + b + c) := by rw [drewN_add w a b, drewN_add]
theorem Below.drewN {B : Nat} {a w : World} (h : Below B a w) (n : Nat) : Below B a (w.drewN n) := ⟨h.os, h.tape, h.output, h.size, h.block⟩
set_option maxRecDepth 100000 in
set_option maxHeartbeats 2000000 in
theorem order_any (v0 v1 : Value) (N M : Nat) (w : World) (hv0 : Bn w w.heap.size v0 N) (hv1 : Bn w w.heap.size v1 M) (hn : (wd N).length ≤ 900000) (hm : (wd M).length ≤ 900000) :
    Calls Tryz.prog 77 #[v0, v1] w (OrdPost N M w) := by
  obtain ⟨A, cap, rfl, hr, hcap⟩ := hv0
  obtain ⟨A', cap', rfl, hr', hcap'⟩ := hv1
  by_cases hlen : (wd N).length = (wd M).length
  · rw [← hlen]
    have HWa := Lib.hid (wds_wd N)
    have HWb := Lib.hid (wds_wd M)
    have HVa := Lib.hid (val_wd N)
    have HVb := Lib.hid (val_wd M)
    have HR := Lib.hid hr
    have HR' := Lib.hid hr'
    clear hr hr' hm hcap hcap'
    generalize wd N = a at *
    generalize wd M = b at *
    obtain ⟨L, hL⟩ : ∃ L, a.length = L := ⟨_, rfl⟩
    rw [hL] at hn hlen ⊢
    have HL := Lib.hid hL
    have HLe := Lib.hid hlen
    clear hL hlen
    go_enter Tryz.func77, Tryz.ntmps77
    go_wp2_with fail
    go_loopw [5] (fun v5 wr => ∃ (j n : Nat), j ≤ L ∧ v5 = .int .i64 ((j : Int) - 1) ∧ wr = w.drewN n ∧ Hid (a.drop j = b.drop j)) (fun v5 _ => (intOf v5 + 1).toNat)
    case atStart => exact ⟨L, 0, Nat.le_refl _, rfl, rfl, Lib.hid (by rw [← HL.out, List.drop_length, HL.out, HLe.out, List.drop_length])⟩
    case round =>
      obtain ⟨j, n, hj, rfl, rfl, hd⟩ := hrel
      cases j with
      | zero =>
        have HD := Lib.hid hd.out
        clear hd
        go_wp2_with fail
        go_ret
        refine ⟨?_, n, rfl⟩
        have h1 : a = b := by have := HD.out; simpa using this
        have h2 : N = M := by rw [← HVa.out, ← HVb.out, h1]
        subst h2
        unfold ordN
        rw [if_neg (Nat.lt_irrefl _), if_neg (Nat.lt_irrefl _)]
        rfl
      | succ j =>
        have hgx := us_get (l := a) (k := j) (by rw [HL.out]; omega)
        have hgy := us_get (l := b) (k := j) (by rw [← HLe.out]; omega)
        obtain ⟨ad, rfl, hab, hcell⟩ := HR.out j _ hgx
        obtain ⟨ad', rfl, hab', hcell'⟩ := HR'.out j _ hgy
        obtain ⟨x, hx⟩ : ∃ x, a.getD j 0 = x := ⟨_, rfl⟩
        obtain ⟨y, hy⟩ : ∃ y, b.getD j 0 = y := ⟨_, rfl⟩
        have hlt1 : x < y → ordN N M = -1 := fun h => by
          have := cmp_at (a := a) (b := b) (i := j) (by rw [HL.out, HLe.out]) (by rw [HL.out]; omega) HWa.out hd.out (by rw [hx, hy]; exact h)
          rw [HVa.out, HVb.out] at this
          unfold ordN
          rw [if_pos this]
        have hlt2 : y < x → ordN N M = 1 := fun h => by
          have := cmp_at (a := b) (b := a) (i := j) (by rw [HL.out, HLe.out]) (by rw [← HLe.out]; omega) HWb.out hd.out.symm (by rw [hx, hy]; exact h)
          rw [HVa.out, HVb.out] at this
          unfold ordN
          rw [if_neg (by omega), if_pos this]
        have heq : x = y → a.drop j = b.drop j := fun h => by
          rw [drop_one (l := a) (by rw [HL.out]; omega), drop_one (l := b) (by rw [← HLe.out]; omega), hx, hy, h, hd.out]
        rw [hx] at hcell
        rw [hy] at hcell'
        have HE1 := Lib.hid hlt1
        have HE2 := Lib.hid hlt2
        have HE3 := Lib.hid heq
        clear hgx hgy hd hlt1 hlt2 heq hx hy
        have hji : ((j + 1 : Nat) : Int) - 1 = (j : Int) := by omega
        rw [hji]
        have hj2 : (j : Int) < (L : Int) := by omega
        clear hji
        by_cases h1 : x < y
        · have d1 : decide ((x : Int) < (y : Int)) = true := decide_eq_true (by omega)
          go_wp2_with fail
          go_quiet (fail)
          go_wp2_with fail
          go_ret
          refine ⟨by rw [HE1.out h1]; rfl, _, drewN_add _ _ _⟩
        · have d1 : decide ((x : Int) < (y : Int)) = false := decide_eq_false (by omega)
          by_cases h2 : y < x
          · have d2 : decide ((y : Int) < (x : Int)) = true := decide_eq_true (by omega)
            go_wp2_with fail
            go_quiet (fail)
            go_wp2_with fail
            go_quiet (fail)
            go_wp2_with fail
            go_ret
            refine ⟨by rw [HE2.out h2]; rfl, _, drewN_add3 _ _ _ _⟩
          · have d2 : decide ((y : Int) < (x : Int)) = false := decide_eq_false (by omega)
            have hxy : x = y := by omega
            go_wp2_with fail
            go_quiet (fail)
            go_wp2_with fail
            go_quiet (fail)
            go_wp2_with fail
            exact ⟨⟨j, n + _ + _, by omega, rfl, rfl, Lib.hid (HE3.out hxy)⟩, by simp [intOf]⟩
  · by_cases hlt : (wd N).length < (wd M).length
    · have HL := Lib.hid (lt_of_len hlt)
      clear hr hr'
      generalize (wd N).length = L at *
      generalize (wd M).length = L' at *
      have d1 : decide (L < L') = true := decide_eq_true (by omega)
      have d0 : ((L : Int) != (L' : Int)) = true := by simp; omega
      go_enter Tryz.func77, Tryz.ntmps77
      go_wp2_with fail
      go_ret
      refine ⟨?_, 0, rfl⟩
      unfold ordN
      rw [if_pos HL.out]
      rfl
    · have HL := Lib.hid (lt_of_len (N := M) (M := N) (by omega))
      clear hr hr'
      generalize (wd N).length = L at *
      generalize (wd M).length = L' at *
      have d1 : decide (L < L') = false := decide_eq_false (by omega)
      have d0 : ((L : Int) != (L' : Int)) = true := by simp; omega
      go_enter Tryz.func77, Tryz.ntmps77
      go_wp2_with fail
      go_ret
      refine ⟨?_, 0, rfl⟩
      unfold ordN
      rw [if_neg (by have := HL.out; omega), if_pos HL.out]
      rfl

/-! ### digits -/
/-- the value of decimal digits, as bytes -/
def dv (l : List UInt8) : Nat := l.foldl (fun n c => n * 10 + (c.toNat - 48)) 0
def Digs (l : List UInt8) : Prop := ∀ c ∈ l, 48 ≤ c.toNat ∧ c.toNat ≤ 57
theorem dv_snoc (l : List UInt8) (c : UInt8) : dv (l ++ [c]) = dv l * 10 + (c.toNat - 48) := by unfold dv; rw [List.foldl_append]; rfl
theorem dv_from (l : List UInt8) : ∀ n, l.foldl (fun n c => n * 10 + (c.toNat - 48)) n = n * 10 ^ l.length + dv l := by
  unfold dv
  induction l with
  | nil => intro n; simp
  | cons c l ih =>
    intro n
    simp only [List.foldl_cons, List.length_cons]
    rw [ih, ih (0 * 10 + (c.toNat - 48)), Nat.pow_succ, Nat.add_mul, Nat.zero_mul, Nat.zero_add, Nat.mul_assoc, Nat.mul_comm 10]
    omega
theorem dv_app (l r : List UInt8) : dv (l ++ r) = dv l * 10 ^ r.length + dv r := by
  unfold dv
  rw [List.foldl_append]
  exact dv_from r _
theorem dv_lt : ∀ (l : List UInt8), Digs l → dv l < 10 ^ l.length := by
  intro l
  induction l with
  | nil => intro _; simp [dv]
  | cons c l ih =>
    intro h
    have h1 := h c (by simp)
    have h2 := ih fun d hd => h d (by simp [hd])
    have : dv (c :: l) = (0 * 10 + (c.toNat - 48)) * 10 ^ l.length + dv l := dv_from l _
    rw [this, List.length_cons, Nat.pow_succ]
    have h3 : (0 * 10 + (c.toNat - 48)) * 10 ^ l.length ≤ 9 * 10 ^ l.length := Nat.mul_le_mul_right _ (by omega)
    omega
theorem Digs.take {l : List UInt8} (h : Digs l) (k : Nat) : Digs (l.take k) := fun c hc => h c (List.mem_of_mem_take hc)
theorem Digs.drop {l : List UInt8} (h : Digs l) (k : Nat) : Digs (l.drop k) := fun c hc => h c (List.mem_of_mem_drop hc)
/-- the value of c digits from place i on -/
def dvAt (l : List UInt8) (i c : Nat) : Nat := dv ((l.drop i).take c)
theorem dvAt_zero (l : List UInt8) (i : Nat) : dvAt l i 0 = 0 := by simp [dvAt, dv]
theorem dvAt_succ {l : List UInt8} {i c : Nat} (h : i + c < l.length) : dvAt l i (c + 1) = dvAt l i c * 10 + ((l[i + c]).toNat - 48) := by
  unfold dvAt
  rw [List.take_succ_eq_append_getElem (by rw [List.length_drop]; omega), dv_snoc, List.getElem_drop]
theorem dvAt_lt {l : List UInt8} (hd : Digs l) {i c : Nat} (h : i + c ≤ l.length) : dvAt l i c < 10 ^ c := by
  have := dv_lt _ ((hd.drop i).take c)
  rw [List.length_take, List.length_drop, Nat.min_eq_left (by omega)] at this
  exact this
theorem dv_take_add {l : List UInt8} {i c : Nat} (h : i + c ≤ l.length) : dv (l.take (i + c)) = dv (l.take i) * 10 ^ c + dvAt l i c := by
  rw [List.take_add, dv_app]
  unfold dvAt
  rw [List.length_take, List.length_drop, Nat.min_eq_left (by omega)]
theorem bts_get (s : ByteArray) (k : Nat) (h : k < s.size) : s.data.toList[k]'(by simpa using h) = s[k] := by simp; rfl

def OdSt (l : List UInt8) (w : World) (v : Value) (p : Nat) (wr : World) : Prop := Bn wr wr.heap.size v (dv (l.take p)) ∧ Below w.heap.size w wr
theorem pow9 {c : Nat} (h : c ≤ 9) : 10 ^ c ≤ 1000000000 := Nat.pow_le_pow_right (n := 10) (j := 9) (by decide) h
theorem pow8 {c : Nat} (h : c ≤ 8) : 10 ^ c ≤ 100000000 := Nat.pow_le_pow_right (n := 10) (j := 8) (by decide) h
theorem wd_len_dv {l : List UInt8} (h : Digs l) : (wd (dv l)).length ≤ l.length := by
  have := dv_lt l h
  exact wd_len_le (Nat.lt_of_lt_of_le this (Nat.pow_le_pow_left (by decide) _))

set_option maxRecDepth 100000 in
set_option maxHeartbeats 2000000 in
theorem ofDigits_any (s : ByteArray) (w : World) (hd : Digs s.data.toList) (hn : s.size ≤ 100000) :
    Calls Tryz.prog 58 #[.string s] w (BnPost (dv s.data.toList) w) := by
  have HD := Lib.hid hd
  obtain ⟨l, hl⟩ : ∃ l, s.data.toList = l := ⟨_, rfl⟩
  have hls : l.length = s.size := by rw [← hl]; simp
  have HLs := Lib.hid hls
  have HLl := Lib.hid hl
  rw [hl] at HD ⊢
  have hdig : ∀ k (h : k < s.size), 48 ≤ (s[k]).toNat ∧ (s[k]).toNat ≤ 57 := fun k h => by
    have h1 := bts_get s k h
    have h2 : s.data.toList[k]'(by simpa using h) ∈ l := by rw [← hl]; exact List.getElem_mem _
    rw [h1] at h2
    exact HD.out _ h2
  have HG := Lib.hid hdig
  clear hd hl hls hdig
  go_enter Tryz.func58, Tryz.ntmps58
  go_wp2_with fail
  go_loopw [3, 4] (fun v3 v4 wr => ∃ (i : Nat) (vv : Value), i ≤ s.size + 8 ∧ v4 = .int .i64 (i : Int) ∧ vv = v3 ∧ Hid (OdSt l w vv (min i s.size) wr)) (fun _ v4 _ => s.size + 9 - (intOf v4).toNat)
  case atStart => exact ⟨0, _, by omega, rfl, rfl, Lib.hid ⟨by rw [Nat.zero_min]; exact Bn.zero _ _, Below.refl _ _⟩⟩
  case round =>
    obtain ⟨i, vv, hi, rfl, rfl, hst⟩ := hrel
    obtain ⟨wo, rfl⟩ : ∃ wo : World, wo = wr := ⟨_, rfl⟩
    by_cases hlt : i < s.size
    · have hst2 := hst.out
      rw [Nat.min_eq_left (by omega)] at hst2
      have HS := Lib.hid hst2
      have hbz := hst2.2.size
      clear hst hst2
      go_wp2_with fail
      go_loop [5, 6, 7] (fun v5 v6 v7 => ∃ (j x y : Nat), i ≤ j ∧ j ≤ s.size ∧ j ≤ i + 9 ∧ x < 1000000000 ∧ y ≤ 1000000000 ∧ v7 = .int .i64 (j : Int) ∧ v5 = .int .u32 (x : Int) ∧ v6 = .int .u32 (y : Int) ∧ Hid (x = dvAt l i (j - i) ∧ y = 10 ^ (j - i))) (fun _ _ v7 => s.size - (intOf v7).toNat)
      case atStart => exact ⟨i, 0, 1, by omega, by omega, by omega, by omega, by omega, rfl, rfl, rfl, Lib.hid (by rw [Nat.sub_self]; exact ⟨(dvAt_zero _ _).symm, rfl⟩)⟩
      case round =>
        obtain ⟨j, x, y, hij, hjs, hj9, hx, hy, rfl, rfl, rfl, hxy⟩ := hrel
        by_cases hgo : j < s.size ∧ j < i + 9
        · obtain ⟨h1, h2⟩ := hgo
          obtain ⟨g1, g2⟩ := HG.out j h1
          have hx8 : x < 100000000 := by
            rw [hxy.out.1]
            exact Nat.lt_of_lt_of_le (dvAt_lt HD.out (by rw [HLs.out]; omega)) (pow8 (by omega))
          have hy8 : y ≤ 100000000 := by rw [hxy.out.2]; exact pow8 (by omega)
          have h2' : (j : Int) < (i : Int) + 9 := by omega
          have hnx : dvAt l i (j + 1 - i) = x * 10 + ((s[j]).toNat - 48) ∧ 10 ^ (j + 1 - i) = y * 10 := by
            have e : j + 1 - i = (j - i) + 1 := by omega
            rw [e, hxy.out.1, hxy.out.2, Nat.pow_succ, dvAt_succ (by rw [HLs.out]; omega)]
            refine ⟨?_, rfl⟩
            congr 2
            have e2 : i + (j - i) = j := by omega
            rw [← bts_get s j h1]
            simp only [e2, HLl.out]
          have HNx := Lib.hid hnx
          clear hnx
          have hb1 : 48 ≤ ((s[j]).toNat : Int) := by omega
          have hb2 : ((s[j]).toNat : Int) ≤ 57 := by omega
          go_wp2_with fail
          go_round
          case rel => exact ⟨j + 1, x * 10 + ((s[j]).toNat - 48), y * 10, by omega, by omega, by omega, by omega, by omega, by simp, by congr 1; omega, by congr 1 <;> omega, Lib.hid ⟨HNx.out.1.symm, HNx.out.2.symm⟩⟩
          case measure => simp [intOf]; omega
        · have hjm : min (i + 9) s.size = j := by omega
          have hnext : dv (l.take i) * y + x = dv (l.take j) := by
            have h1 := dv_take_add (l := l) (i := i) (c := j - i) (by rw [HLs.out]; omega)
            rw [show i + (j - i) = j by omega] at h1
            rw [h1, hxy.out.1, hxy.out.2]
          have hlen : (wd (dv (l.take i))).length ≤ 100000 := Nat.le_trans (wd_len_dv (HD.out.take i)) (by rw [List.length_take, HLs.out]; omega)
          have HN := Lib.hid hnext
          have HJ := Lib.hid hjm
          clear hnext hjm hxy
          go_wp2_with fail
          all_goals
            refine (times_any vv (dv (l.take i)) y x wo HS.out.1 (by omega) (by omega) (by omega)).mono ?_
            rintro e w2 ⟨v2, rfl, hbn2, hb2⟩
            rw [HN.out] at hbn2
            have HB2 := Lib.hid hbn2
            have HBl2 := Lib.hid (HS.out.2.trans (hb2.mono hbz))
            clear hbn2 hb2
            go_wp2_with fail
            exact ⟨⟨i + 9, v2, by omega, by simp, rfl, Lib.hid (by rw [HJ.out]; exact ⟨HB2.out, HBl2.out⟩)⟩, by simp [intOf]; omega⟩
    · have hst2 := hst.out
      unfold OdSt at hst2
      rw [Nat.min_eq_right (by omega), ← HLs.out, List.take_length] at hst2
      have HS := Lib.hid hst2
      clear hst hst2
      go_wp2_with fail
      go_ret
      exact ⟨_, rfl, HS.out.1, HS.out.2⟩
end Go.Proofs.YtjciflgnlldgbaaGreatDoor.big
end
