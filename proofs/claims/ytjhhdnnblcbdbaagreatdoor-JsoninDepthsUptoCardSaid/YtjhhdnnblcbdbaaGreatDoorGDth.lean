/- What the joined texts lack of Mem Val Own. PLAIN LEAN: small laws of the parsers: an answer taken apart; the kind of what was read. PLAIN LEAN: JsoninDepths' law: what is read at some depth is read alike at every depth from its own on, and at none below. PLAIN LEAN: what is read has no more parts than bytes, and its floats are floats. PLAIN LEAN: no fault has the number nought; what is read is no longer than the text. number.Same of one float with itself. A range over an iterator that reads memory of its own between two rounds, and may itself range over another: the caller's side. A range over an iterator that turns nothing of what its rounds leave: what a round lays may be told of behind the range. The iterator over a value's children, at every value. The law's alike at one value, read at two places. Printed by gen_alk.py. tree.kind, tree.children, tree.Depth of any value. One byte of a list that lies in memory. JsoninDepths, walked. What layer 2 answers: its kinds, and how wide its floats are. -/
import Derived.Test.YtjhhdnnblcbdbaaGreatDoorGVal
import Derived.Test.YtjhhdnnblcbdbaaGreatDoorGEt
import Derived.Test.YtjhhdnnblcbdbaaGreatDoorGJm
import Derived.RangeFuncNested
import Derived.RangeFuncBound
import Derived.RangeFuncCalls
import Derived.RangeFuncLeaves
import Derived.Shelf.Abstract
import Derived.OwnWalkIn
import Derived.TacticsInMore
import Derived.LoopNIn
import Derived.LoopIn
import Derived.Sort.CutIn
import Derived.Stop.RegionWithIn
import Derived.Test.YtjhhdnnblcbdbaaGreatDoorProg
import Derived.Handy
import Derived.WalkSpells
import Derived.WalkLawsBesides
import Derived.Deep.DeepMust
import Derived.Deep.RegionHeld3
import Derived.Test.YtjhhdnnblcbdbaaGreatDoorGJs
import Derived.Test.YtjhhdnnblcbdbaaGreatDoorGJw
section
set_option linter.unusedVariables false
section
namespace Go.Proofs.YtjhhdnnblcbdbaaGreatDoor.mem
open Go.RowKit
section
variable {P : Program} (w : World)
end
theorem own_lt {w : World} {base : Nat} {e : TypeId} {size n : Nat} {v : Value} {xs : List Value} (h : w.ownsRow base e size v n xs) : ∀ k, v.ownBlock = some k → base ≤ k ∧ k < w.heap.size := h.lt
/-- an empty composite literal, not nil -/
theorem own_empty (w : World) (base g : Nat) (e : TypeId) (size : Nat) (hg : w.heap.size = g) (hb : base ≤ g) : (w.alloc (.cells #[] e)).ownsRow base e size (.slice (some ⟨g, 0, none⟩) 0 0) 0 [] := by
  subst hg
  exact World.ownsRow_made w #[] 0 hb (Nat.zero_le _) (by simp)
theorem Rd.newAt (w : World) (g : Nat) (cs : List Value) (t : TypeId) (hg : w.heap.size = g) : Rd (w.alloc (.cells cs.toArray t)) (g + 1) (some ⟨g, 0, none⟩) cs := by
  subst hg
  exact Rd.new w cs t
/-- the first elements of a row of the call's own -/
theorem Rd.of_block {w : World} {g : Nat} {cur : Array Value} {e : TypeId} {xs ys : List Value} {k : Nat} (hg : w.heap[g]? = some (.cells cur e (0, 0))) (ht : cur.toList.take k = ys) (hp : ∃ zs, ys = xs ++ zs) : Rd w (g + 1) (some ⟨g, 0, none⟩) xs := by
  intro j u hu
  obtain ⟨zs, rfl⟩ := hp
  refine ⟨_, rfl, by simp, ?_⟩
  rw [add_zero_off, cell_of_row w g j cur e (0, 0) hg]
  have h1 : (xs ++ zs)[j]? = some u := by
    rw [List.getElem?_append_left (List.getElem?_eq_some_iff.1 hu).1]
    exact hu
  rw [← ht, List.getElem?_take] at h1
  split at h1
  · simpa using h1
  · cases h1
theorem box_cell {B g : Nat} {w w' : World} {cs : Array Value} {t : TypeId} (hb : Below B (w.alloc (.cells cs t)) w') (hg : w.heap.size = g) (hB : g < B) (j : Nat) : w'.cell? ⟨g, j, none⟩ = cs[j]? := by
  subst hg
  rw [hb.cell (p := ⟨w.heap.size, j, none⟩) hB]
  exact cell_of_row _ _ _ cs t (0, 0) (heap_alloc_new w _)
theorem Rd.of_cells {w : World} {g : Nat} {cur : Array Value} {e : TypeId} {xs : List Value} (hg : w.heap[g]? = some (.cells cur e (0, 0))) (h : ∀ (j : Nat) (u : Value), xs[j]? = some u → cur[j]? = some u) : Rd w (g + 1) (some ⟨g, 0, none⟩) xs := by
  intro j u hu
  refine ⟨_, rfl, by simp, ?_⟩
  rw [add_zero_off, cell_of_row w g j cur e (0, 0) hg]
  exact h j u hu
end Go.Proofs.YtjhhdnnblcbdbaaGreatDoor.mem
end
section
namespace Go.Proofs.YtjhhdnnblcbdbaaGreatDoor.val
open Go.RowKit mem
mutual
/-- how many parts -/
def sz : V → Nat
  | .mk _ _ _ _ _ _ is fs => 1 + szs is + szf fs
def szs : List V → Nat
  | [] => 0
  | v :: r => sz v + szs r
def szf : List (ByteArray × V) → Nat
  | [] => 0
  | (_, v) :: r => sz v + szf r
end
theorem sz_pos (v : V) : 0 < sz v := by cases v; simp only [sz]; omega
theorem szs_get {l : List V} {j : Nat} {v : V} (h : l[j]? = some v) : sz v ≤ szs l := by
  induction l generalizing j with
  | nil => simp at h
  | cons x r ih =>
    simp only [szs]
    cases j with
    | zero => simp at h; subst h; omega
    | succ j => have := ih (j := j) (by simpa using h); omega
theorem szf_get {l : List (ByteArray × V)} {j : Nat} {p : ByteArray × V} (h : l[j]? = some p) : sz p.2 ≤ szf l := by
  induction l generalizing j with
  | nil => simp at h
  | cons x r ih =>
    obtain ⟨s, x⟩ := x
    simp only [szf]
    cases j with
    | zero => simp at h; subst h; show sz x ≤ _; omega
    | succ j => have := ih (j := j) (by simpa using h); omega
theorem szs_len (l : List V) : l.length ≤ szs l := by
  induction l with
  | nil => simp [szs]
  | cons x r ih => have := sz_pos x; simp only [szs, List.length_cons]; omega
theorem szf_len (l : List (ByteArray × V)) : l.length ≤ szf l := by
  induction l with
  | nil => simp [szf]
  | cons x r ih => obtain ⟨s, x⟩ := x; have := sz_pos x; simp only [szf, List.length_cons]; omega
theorem pts_full {l : List V} {m n : Int} (h : m ≤ n) : pts l m n = n := by
  cases l with
  | nil => simp only [pts]
  | cons v r => simp only [pts]; rw [if_pos h]
theorem ptf_full {l : List (ByteArray × V)} {m n : Int} (h : m ≤ n) : ptf l m n = n := by
  cases l with
  | nil => simp only [ptf]
  | cons v r => obtain ⟨s, v⟩ := v; simp only [ptf]; rw [if_pos h]
mutual
theorem pt_bd : ∀ (v : V) (m : Int), 1 ≤ pt v m ∧ pt v m ≤ sz v
  | .mk _ _ _ _ _ _ is fs, m => by
    simp only [pt, sz]
    have h1 := pts_bd is m 1 (by omega)
    have h2 := ptf_bd fs m (pts is m 1) h1.1
    omega
theorem pts_bd : ∀ (l : List V) (m n : Int), 1 ≤ n → 1 ≤ pts l m n ∧ pts l m n ≤ n + szs l
  | [], m, n, h => by simp only [pts, szs]; omega
  | v :: r, m, n, h => by
    simp only [pts, szs]
    split
    · omega
    · have h1 := pt_bd v (m - n)
      have h2 := pts_bd r m (n + pt v (m - n)) (by omega)
      omega
theorem ptf_bd : ∀ (l : List (ByteArray × V)) (m n : Int), 1 ≤ n → 1 ≤ ptf l m n ∧ ptf l m n ≤ n + szf l
  | [], m, n, h => by simp only [ptf, szf]; omega
  | (s, v) :: r, m, n, h => by
    simp only [ptf, szf]
    split
    · omega
    · have h1 := pt_bd v (m - n)
      have h2 := ptf_bd r m (n + pt v (m - n)) (by omega)
      omega
end
theorem pts_drop {l : List V} {k : Nat} {v : V} (h : l[k]? = some v) (m n : Int) : pts (l.drop k) m n = if m ≤ n then n else pts (l.drop (k + 1)) m (n + pt v (m - n)) := by
  obtain ⟨hk, rfl⟩ := List.getElem?_eq_some_iff.1 h
  rw [List.drop_eq_getElem_cons hk]
  simp only [pts]
theorem ptf_drop {l : List (ByteArray × V)} {k : Nat} {p : ByteArray × V} (h : l[k]? = some p) (m n : Int) : ptf (l.drop k) m n = if m ≤ n then n else ptf (l.drop (k + 1)) m (n + pt p.2 (m - n)) := by
  obtain ⟨hk, rfl⟩ := List.getElem?_eq_some_iff.1 h
  rw [List.drop_eq_getElem_cons hk]
  cases l[k]
  simp only [ptf]
end Go.Proofs.YtjhhdnnblcbdbaaGreatDoor.val
end
section
namespace Go.Proofs.YtjhhdnnblcbdbaaGreatDoor.val
open Go.RowKit mem
theorem blk_below {w w' : World} {B g : Nat} {o : Obj} (h : w.heap[g]? = some o) (hb : Below B w w') (hg : g < B) : w'.heap[g]? = some o := (hb.block g hg).trans h
theorem own_below {w w' : World} {base : Nat} {e : TypeId} {size n : Nat} {v : Value} {xs : List Value} (h : w.ownsRow base e size v n xs) (hb : Below w.heap.size w w') : w'.ownsRow base e size v n xs :=
  h.kept (row := none) ⟨hb.os, hb.tape, hb.output, hb.size, fun k hk _ => hb.block k hk⟩ (by cases hv : v.ownBlock <;> simp)
theorem blk9 {w : World} {g : Nat} {t : TypeId} {s c0 c1 c2 c3 c4 c5 c6 c7 : Value} (h : w.heap[g]? = some (.cells #[s, c0, c1, c2, c3, c4, c5, c6, c7] t (0, 0))) :
    w.cell? ⟨g, 0, none⟩ = some s ∧ w.cell? ⟨g, 1, none⟩ = some c0 ∧ w.cell? ⟨g, 2, none⟩ = some c1 ∧ w.cell? ⟨g, 3, none⟩ = some c2 ∧ w.cell? ⟨g, 4, none⟩ = some c3 ∧ w.cell? ⟨g, 5, none⟩ = some c4 ∧ w.cell? ⟨g, 6, none⟩ = some c5 ∧ w.cell? ⟨g, 7, none⟩ = some c6 ∧ w.cell? ⟨g, 8, none⟩ = some c7 :=
  ⟨cell_of_row w g 0 _ t (0, 0) h, cell_of_row w g 1 _ t (0, 0) h, cell_of_row w g 2 _ t (0, 0) h, cell_of_row w g 3 _ t (0, 0) h, cell_of_row w g 4 _ t (0, 0) h, cell_of_row w g 5 _ t (0, 0) h, cell_of_row w g 6 _ t (0, 0) h, cell_of_row w g 7 _ t (0, 0) h, cell_of_row w g 8 _ t (0, 0) h⟩
theorem copy_end {w wl wr wz : World} {k : Int} {b : Bool} {i : Int} {f : Nat} {t y : ByteArray} {is : List V} {fs : List (ByteArray × V)} {A1 A9 : Option Addr} {c1 c9 : Nat} (hG : wr.grownBy wz (some (w.heap.size + 1)))
    (HV : IsVs wl (New (w.heap.size + 3) wl) is A1 0) (HM : Mid (w.heap.size + 3) wl.heap.size wl wr) (HF : IsFs wr (New wl.heap.size wr) fs A9 0) (hwl : w.heap.size + 3 ≤ wl.heap.size) (hsz : wl.heap.size ≤ wr.heap.size) (hb : Below w.heap.size w wr)
    (h1 : A1 = none → is.length = 0) (h9 : A9 = none → fs.length = 0) :
    IsV wz (New w.heap.size wz) (.mk k b i f t y is fs) [.int .i64 k, .bool b, .int .i64 i, .float .f64 f, .string t, .string y, .slice A1 is.length c1, .slice A9 fs.length c9] ∧ Below w.heap.size w wz := by
  have hs := hG.size
  refine ⟨?_, hb.grown hG (by omega) (fun q e => by injection e; omega)⟩
  simp only [IsV]
  refine ⟨A1, c1, A9, c9, rfl, h1, h9, HV.keep (fun p hp => ?_) (fun q hq => ⟨by have := hq.1; omega, by have := hq.2; omega⟩), HF.keep (fun p hp => ?_) (fun q hq => ⟨by have := hq.1; omega, by have := hq.2; omega⟩)⟩
  · have a := hp.1
    have b := hp.2
    rw [World.cell?_of_block (hG.block p.block (by omega) (by intro e; injection e; omega))]
    exact World.cell?_of_block (HM p.block a b)
  · have a := hp.1
    have b := hp.2
    exact World.cell?_of_block (hG.block p.block b (by intro e; injection e; omega))
end Go.Proofs.YtjhhdnnblcbdbaaGreatDoor.val
end
end
section
namespace Go.Proofs.YtjhhdnnblcbdbaaGreatDoor.jp
open Go.RowKit val
set_option linter.unusedVariables false

def knd : V → Int
  | .mk k _ _ _ _ _ _ _ => k
theorem bnd_inv {α β : Type} {f : Ps α} {g : α → Ps β} {l : List Nat} {b : β} {k : Nat} (h : bnd f g l = .ok b k) : ∃ a j i, f l = .ok a j ∧ g a (l.drop j) = .ok b i ∧ k = j + i := by
  unfold bnd at h
  cases hf : f l with
  | er k e => rw [hf] at h; cases h
  | ok a j =>
    rw [hf] at h
    simp only at h
    cases hg : g a (l.drop j) with
    | er k e => rw [hg] at h; cases h
    | ok b' i =>
      rw [hg] at h
      simp only [Rs.sh, Rs.ok.injEq] at h
      exact ⟨a, j, i, rfl, by rw [hg, h.1], h.2.symm⟩
theorem ret_inv {α : Type} {a b : α} {l : List Nat} {k : Nat} (h : ret a l = .ok b k) : b = a := by
  unfold ret at h
  injection h with h1 h2
  exact h1.symm
theorem bnd_ret {α β : Type} {f : Ps α} {c : α → β} {l : List Nat} {b : β} {k : Nat} (h : bnd f (fun a => ret (c a)) l = .ok b k) : ∃ a, b = c a := by
  obtain ⟨a, j, i, _, h2, _⟩ := bnd_inv h
  exact ⟨a, ret_inv h2⟩
theorem items_kind (F : Nf) : ∀ (n d : Nat) (acc : List V) (l : List Nat) (v : V) (k : Nat), items F n d acc l = .ok v k → knd v = 5
  | 0, d, acc, l, v, k => fun h => by unfold items at h; cases h
  | n + 1, d, acc, l, v, k => fun h => by
    unfold items at h
    obtain ⟨x, j, i, _, h2, _⟩ := bnd_inv h
    obtain ⟨b, j2, i2, _, h3, _⟩ := bnd_inv h2
    cases b with
    | true => exact items_kind F n d _ _ v i2 (by simpa using h3)
    | false =>
      have h4 : ret (listV (acc ++ [x])) ((l.drop j).drop j2) = .ok v i2 := by simpa using h3
      rw [ret_inv h4]; rfl
theorem chk_inv {α β : Type} {f : Ps α} {p : α → Bool} {g : α → Ps β} {l : List Nat} {b : β} {k : Nat} (h : chk f p g l = .ok b k) : ∃ a j i, f l = .ok a j ∧ p a = false ∧ g a (l.drop j) = .ok b i ∧ k = j + i := by
  unfold chk at h
  cases hf : f l with
  | er k e => rw [hf] at h; cases h
  | ok a j =>
    rw [hf] at h
    simp only at h
    cases hp : p a with
    | true => rw [hp] at h; cases h
    | false =>
      rw [hp] at h
      cases hg : g a (l.drop j) with
      | er k e => rw [hg] at h; cases h
      | ok b' i =>
        rw [hg] at h
        simp [Rs.sh] at h
        exact ⟨a, j, i, rfl, hp, by rw [hg, h.1], h.2.symm⟩
theorem members_kind (F : Nf) : ∀ (n d : Nat) (acc : List (ByteArray × V)) (l : List Nat) (v : V) (k : Nat), members F n d acc l = .ok v k → knd v = 6
  | 0, d, acc, l, v, k => fun h => by unfold members at h; cases h
  | n + 1, d, acc, l, v, k => fun h => by
    unfold members at h
    obtain ⟨key, _, _, _, _, h2, _⟩ := chk_inv h
    obtain ⟨_, _, _, _, h2, _⟩ := bnd_inv h2
    obtain ⟨_, _, _, _, h2, _⟩ := bnd_inv h2
    obtain ⟨_, _, _, _, h2, _⟩ := bnd_inv h2
    obtain ⟨x, _, _, _, h2, _⟩ := bnd_inv h2
    obtain ⟨b, _, i2, _, h3, _⟩ := bnd_inv h2
    cases b with
    | true => exact members_kind F n d _ _ v i2 (by simpa using h3)
    | false =>
      have h4 : ∃ z, ret (objV (acc ++ [(bt key, x)])) z = .ok v i2 := ⟨_, by simpa using h3⟩
      obtain ⟨z, h4⟩ := h4
      rw [ret_inv h4]; rfl
/-- a value of a number's kind was read by numP -/
theorem value_num {F : Nf} {n d : Nat} {l : List Nat} {v : V} {j : Nat} (h : value F n d l = .ok v j) (hk : knd v = 2 ∨ knd v = 3) : numP F l = .ok v j := by
  cases n with
  | zero => unfold value at h; cases h
  | succ n =>
    unfold value at h
    by_cases h1 : l.headD 0 = 110
    · rw [if_pos h1] at h; obtain ⟨_, rfl⟩ := bnd_ret h; rcases hk with hk | hk <;> cases hk
    rw [if_neg h1] at h
    by_cases h1 : l.headD 0 = 116
    · rw [if_pos h1] at h; obtain ⟨_, rfl⟩ := bnd_ret h; rcases hk with hk | hk <;> cases hk
    rw [if_neg h1] at h
    by_cases h1 : l.headD 0 = 102
    · rw [if_pos h1] at h; obtain ⟨_, rfl⟩ := bnd_ret h; rcases hk with hk | hk <;> cases hk
    rw [if_neg h1] at h
    by_cases h1 : l.headD 0 = 34
    · rw [if_pos h1] at h; obtain ⟨_, rfl⟩ := bnd_ret h; rcases hk with hk | hk <;> cases hk
    rw [if_neg h1] at h
    by_cases h1 : l.headD 0 = 91
    · rw [if_pos h1] at h
      obtain ⟨_, _, _, _, h2, _⟩ := bnd_inv h
      obtain ⟨_, j2, i2, _, h3, _⟩ := bnd_inv h2
      split at h3
      · obtain ⟨_, rfl⟩ := bnd_ret h3; rcases hk with hk | hk <;> cases hk
      · have := items_kind F _ _ _ _ _ _ h3; omega
    rw [if_neg h1] at h
    by_cases h1 : l.headD 0 = 123
    · rw [if_pos h1] at h
      obtain ⟨_, _, _, _, h2, _⟩ := bnd_inv h
      obtain ⟨_, j2, i2, _, h3, _⟩ := bnd_inv h2
      split at h3
      · obtain ⟨_, rfl⟩ := bnd_ret h3; rcases hk with hk | hk <;> cases hk
      · have := members_kind F _ _ _ _ _ _ h3; omega
    rw [if_neg h1] at h
    exact h
theorem cnt_head {l : List Nat} (h : bl (l.headD 0) = false) : cnt l = 0 := by
  cases l with
  | nil => rfl
  | cons x r => simp only [List.headD_cons] at h; simp [cnt, h]
theorem bl_num {x : Nat} (h : x = 45 ∨ (48 ≤ x ∧ x ≤ 57)) : bl x = false := by
  unfold bl
  simp
  omega
end Go.Proofs.YtjhhdnnblcbdbaaGreatDoor.jp
end
section
namespace Go.Proofs.YtjhhdnnblcbdbaaGreatDoor.jp
open Go.RowKit val
set_option linter.unusedVariables false

mutual
/-- how deep lists and objects are nested -/
def dpt : V → Nat
  | .mk k _ _ _ _ _ is fs => if k = 5 then dpts is + 1 else if k = 6 then dptf fs + 1 else 0
def dpts : List V → Nat
  | [] => 0
  | v :: r => max (dpt v) (dpts r)
def dptf : List (ByteArray × V) → Nat
  | [] => 0
  | (_, v) :: r => max (dpt v) (dptf r)
end
/-- a fault 71 at a bracket -/
def deepAt {α : Type} (l : List Nat) (r : Rs α) : Prop := ∃ j, r = .er j 71 ∧ j < l.length ∧ (l.getD j 0 = 91 ∨ l.getD j 0 = 123)
theorem deepAt.sh {α : Type} {l : List Nat} {j : Nat} {r : Rs α} (h : deepAt (l.drop j) r) : deepAt l (r.sh j) := by
  obtain ⟨i, rfl, hi, hb⟩ := h
  rw [List.length_drop] at hi
  refine ⟨j + i, rfl, by omega, ?_⟩
  have e : (l.drop j).getD i 0 = l.getD (j + i) 0 := by simp [List.getD_eq_getElem?_getD, List.getElem?_drop]
  rw [e] at hb
  exact hb
/-- a parser that is told a depth: what it answers has a depth of its own -/
def DpL {α : Type} (f : Nat → Ps α) (M : α → Nat → Prop) (l : List Nat) : Prop :=
  ∀ d a k, f d l = .ok a k → ∃ m, M a m ∧ m ≤ d ∧ ∀ d', (m ≤ d' → f d' l = .ok a k) ∧ (d' < m → deepAt l (f d' l))
def Dp {α : Type} (f : Nat → Ps α) (M : α → Nat → Prop) : Prop := ∀ l, DpL f M l
section
variable {α β : Type}
theorem DpL.congr {f g : Nat → Ps α} {M : α → Nat → Prop} {l : List Nat} (h : DpL g M l) (e : ∀ d, f d l = g d l) : DpL f M l := by
  intro d a k h1
  rw [e] at h1
  obtain ⟨m, hm, hd, h2⟩ := h d a k h1
  refine ⟨m, hm, hd, fun d' => ?_⟩
  rw [e]
  exact h2 d'
theorem Dp.flat (f : Ps α) : Dp (fun _ => f) (fun _ m => m = 0) := fun l d a k h => ⟨0, rfl, Nat.zero_le _, fun d' => ⟨fun _ => h, fun h => by omega⟩⟩
theorem DpL.weak {f : Nat → Ps α} {M R : α → Nat → Prop} {l : List Nat} (h : DpL f M l) (hR : ∀ d a k m, f d l = .ok a k → M a m → R a m) : DpL f R l := by
  intro d a k h1
  obtain ⟨m, hm, hd, h2⟩ := h d a k h1
  exact ⟨m, hR d a k m h1 hm, hd, h2⟩
theorem DpL.bnd {f : Nat → Ps α} {g : Nat → α → Ps β} {M : α → Nat → Prop} {N : α → β → Nat → Prop} {R : β → Nat → Prop} {l : List Nat} (hf : DpL f M l) (hg : ∀ a, Dp (fun d => g d a) (N a)) (hR : ∀ a b m n, M a m → N a b n → R b (max m n)) : DpL (fun d => jp.bnd (f d) (g d)) R l := by
  intro d b k h
  obtain ⟨a, j, i, h1, h2, rfl⟩ := bnd_inv h
  obtain ⟨m, hm, hmd, hm'⟩ := hf d a j h1
  obtain ⟨n, hn, hnd, hn'⟩ := hg a _ d b i h2
  refine ⟨max m n, hR a b m n hm hn, by omega, fun d' => ⟨fun hd => ?_, fun hd => ?_⟩⟩
  · show jp.bnd (f d') (g d') l = _
    rw [bnd_ok ((hm' d').1 (by omega)) ((hn' d').1 (by omega))]
    rfl
  · show deepAt l (jp.bnd (f d') (g d') l)
    by_cases h3 : d' < m
    · obtain ⟨q, e, hq⟩ := (hm' d').2 h3
      exact ⟨q, bnd_er' e, hq⟩
    · rw [bnd_ok ((hm' d').1 (by omega)) rfl]
      exact ((hn' d').2 (by omega)).sh
theorem Dp.bnd {f : Nat → Ps α} {g : Nat → α → Ps β} {M : α → Nat → Prop} {N : α → β → Nat → Prop} {R : β → Nat → Prop} (hf : Dp f M) (hg : ∀ a, Dp (fun d => g d a) (N a)) (hR : ∀ a b m n, M a m → N a b n → R b (max m n)) : Dp (fun d => jp.bnd (f d) (g d)) R := fun l => DpL.bnd (hf l) hg hR
theorem Dp.chk {f : Ps α} {p : α → Bool} {g : Nat → α → Ps β} {N : α → β → Nat → Prop} {R : β → Nat → Prop} (hg : ∀ a, Dp (fun d => g d a) (N a)) (hR : ∀ a b n, N a b n → R b n) : Dp (fun d => jp.chk f p (g d)) R := by
  intro l d b k h
  obtain ⟨a, j, i, h1, hp, h2, rfl⟩ := chk_inv h
  obtain ⟨n, hn, hnd, hn'⟩ := hg a _ d b i h2
  refine ⟨n, hR a b n hn, hnd, fun d' => ⟨fun hd => ?_, fun hd => ?_⟩⟩
  · show jp.chk f p (g d') l = _
    have e : g d' a (l.drop j) = .ok b i := (hn' d').1 hd
    rw [chk_ok h1 hp, e]
    rfl
  · show deepAt l (jp.chk f p (g d') l)
    rw [chk_ok h1 hp]
    exact ((hn' d').2 hd).sh
theorem DpL.brk {g : Nat → Ps α} {M R : α → Nat → Prop} {l : List Nat} (hl : l.headD 0 = 91 ∨ l.headD 0 = 123) (hg : Dp g M) (hR : ∀ a m, M a m → R a (m + 1)) : DpL (fun d => jp.bnd (opn d) fun _ => g (d - 1)) R l := by
  intro d a k h
  obtain ⟨u, j, i, h1, h2, rfl⟩ := bnd_inv h
  cases l with
  | nil => simp [opn] at h1
  | cons x r =>
    have hd : d ≠ 0 := by rintro rfl; simp [opn] at h1
    obtain rfl : j = 1 := by simp [opn, hd] at h1; omega
    obtain ⟨m, hm, hmd, hm'⟩ := hg _ _ a i h2
    refine ⟨m + 1, hR _ _ hm, by omega, fun d' => ⟨fun hd' => ?_, fun hd' => ?_⟩⟩
    · show jp.bnd (opn d') (fun _ => g (d' - 1)) (x :: r) = _
      have h0 : d' ≠ 0 := by omega
      rw [bnd_ok (a := ()) (j := 1) (by simp [opn, h0]) ((hm' (d' - 1)).1 (by omega))]
      rfl
    · show deepAt (x :: r) (jp.bnd (opn d') (fun _ => g (d' - 1)) (x :: r))
      by_cases h0 : d' = 0
      · subst h0
        exact ⟨0, bnd_er' (by simp [opn]), by simp, by simpa using hl⟩
      · rw [bnd_ok (a := ()) (j := 1) (by simp [opn, h0]) rfl]
        exact ((hm' (d' - 1)).2 (by omega)).sh
theorem Dp.ite {c : Nat} {a : Ps α} {f : Nat → Ps α} {M : α → Nat → Prop} (ha : Dp (fun _ => a) M) (hf : Dp f M) : Dp (fun d l => if l.headD 0 = c then a l else f d l) M := by
  intro l
  by_cases h : l.headD 0 = c
  · exact (ha l).congr fun d => by simp only [if_pos h]
  · exact (hf l).congr fun d => by simp only [if_neg h]
theorem Dp.done {f : Ps α} {M : α → Nat → Prop} (h : ∀ l a k, f l = .ok a k → M a 0) : Dp (fun _ => f) M := fun l => (Dp.flat f l).weak fun d a k m h1 h2 => by rw [h2]; exact h l a k h1
end
def MV (v : V) (m : Nat) : Prop := dpt v = m
def MI (acc : List V) (v : V) (m : Nat) : Prop := ∃ is, v = listV (acc ++ is) ∧ dpts is = m
def MF (acc : List (ByteArray × V)) (v : V) (m : Nat) : Prop := ∃ fs, v = objV (acc ++ fs) ∧ dptf fs = m
theorem items_succ (F : Nf) (n d : Nat) (acc : List V) : items F (n + 1) d acc = jp.bnd (value F n d) fun v => jp.bnd (more 93) fun b => if b = true then items F n d (acc ++ [v]) else ret (listV (acc ++ [v])) := by
  conv => lhs; unfold items
theorem members_succ (F : Nf) (n d : Nat) (acc : List (ByteArray × V)) : members F (n + 1) d acc = jp.chk (text n) (twice acc) fun key => jp.bnd blanks fun _ => jp.bnd (want 58) fun _ => jp.bnd blanks fun _ => jp.bnd (value F n d) fun v => jp.bnd (more 125) fun b => if b = true then members F n d (acc ++ [(bt key, v)]) else ret (objV (acc ++ [(bt key, v)])) := by
  conv => lhs; unfold members
theorem dp_all (F : Nf) (hF : ∀ l, (F l).1 ≠ 5 ∧ (F l).1 ≠ 6) : ∀ n, Dp (value F n) MV ∧ (∀ acc, Dp (fun d => items F n d acc) (MI acc)) ∧ ∀ acc, Dp (fun d => members F n d acc) (MF acc)
  | 0 => ⟨fun l d a k h => (by unfold value at h; cases h), fun acc l d a k h => (by simp only [items] at h; cases h), fun acc l d a k h => (by simp only [members] at h; cases h)⟩
  | n + 1 => by
    obtain ⟨hv, hi, hm⟩ := dp_all F hF n
    refine ⟨fun l => ?_, fun acc => ?_, fun acc => ?_⟩
    · by_cases h1 : l.headD 0 = 110
      · refine (Dp.done (f := jp.bnd (word [110, 117, 108, 108]) fun _ => ret nullV) (M := MV) (fun l a k h => ?_) l).congr fun d => ?_
        · obtain ⟨_, rfl⟩ := bnd_ret h; rfl
        · unfold value; rw [if_pos h1]
      by_cases h2 : l.headD 0 = 116
      · refine (Dp.done (f := jp.bnd (word [116, 114, 117, 101]) fun _ => ret (boolV true)) (M := MV) (fun l a k h => ?_) l).congr fun d => ?_
        · obtain ⟨_, rfl⟩ := bnd_ret h; rfl
        · unfold value; rw [if_neg h1, if_pos h2]
      by_cases h3 : l.headD 0 = 102
      · refine (Dp.done (f := jp.bnd (word [102, 97, 108, 115, 101]) fun _ => ret (boolV false)) (M := MV) (fun l a k h => ?_) l).congr fun d => ?_
        · obtain ⟨_, rfl⟩ := bnd_ret h; rfl
        · unfold value; rw [if_neg h1, if_neg h2, if_pos h3]
      by_cases h4 : l.headD 0 = 34
      · refine (Dp.done (f := jp.bnd (text n) fun b => ret (strV b)) (M := MV) (fun l a k h => ?_) l).congr fun d => ?_
        · obtain ⟨_, rfl⟩ := bnd_ret h; rfl
        · unfold value; rw [if_neg h1, if_neg h2, if_neg h3, if_pos h4]
      by_cases h5 : l.headD 0 = 91
      · refine (DpL.brk (g := fun d => jp.bnd blanks fun _ l => if l.headD 0 = 93 then (jp.bnd one fun _ => ret (listV [])) l else items F n d [] l) (M := MI []) (R := MV) (.inl h5) ?_ ?_).congr fun d => ?_
        · refine Dp.bnd (f := fun _ => blanks) (g := fun d _ l => if l.headD 0 = 93 then (jp.bnd one fun _ => ret (listV [])) l else items F n d [] l) (N := fun _ => MI []) (Dp.flat _) (fun _ => Dp.ite (Dp.done fun l a k h => ?_) (hi [])) ?_
          · obtain ⟨_, rfl⟩ := bnd_ret h; exact ⟨[], rfl, rfl⟩
          · rintro a b m n rfl h; rw [Nat.zero_max]; exact h
        · rintro a m ⟨is, rfl, rfl⟩
          show dpt (listV ([] ++ is)) = _
          simp [listV, dpt]
        · unfold value; rw [if_neg h1, if_neg h2, if_neg h3, if_neg h4, if_pos h5]
      by_cases h6 : l.headD 0 = 123
      · refine (DpL.brk (g := fun d => jp.bnd blanks fun _ l => if l.headD 0 = 125 then (jp.bnd one fun _ => ret (objV [])) l else members F n d [] l) (M := MF []) (R := MV) (.inr h6) ?_ ?_).congr fun d => ?_
        · refine Dp.bnd (f := fun _ => blanks) (g := fun d _ l => if l.headD 0 = 125 then (jp.bnd one fun _ => ret (objV [])) l else members F n d [] l) (N := fun _ => MF []) (Dp.flat _) (fun _ => Dp.ite (Dp.done fun l a k h => ?_) (hm [])) ?_
          · obtain ⟨_, rfl⟩ := bnd_ret h; exact ⟨[], rfl, rfl⟩
          · rintro a b m n rfl h; rw [Nat.zero_max]; exact h
        · rintro a m ⟨fs, rfl, rfl⟩
          show dpt (objV ([] ++ fs)) = _
          simp [objV, dpt]
        · unfold value; rw [if_neg h1, if_neg h2, if_neg h3, if_neg h4, if_neg h5, if_pos h6]
      · refine (Dp.done (f := numP F) (M := MV) (fun l a k h => ?_) l).congr fun d => ?_
        · unfold numP at h
          split at h
          · cases h
          · split at h
            · rename_i h0
              injection h with h7 _
              subst h7
              show dpt (numV _ _ _) = 0
              unfold numV
              simp only [dpt]
              rw [if_neg (hF _).1, if_neg (hF _).2]
            · cases h
        · unfold value; rw [if_neg h1, if_neg h2, if_neg h3, if_neg h4, if_neg h5, if_neg h6]
    · intro l
      refine (DpL.bnd (f := value F n) (g := fun d v => jp.bnd (more 93) fun b => if b = true then items F n d (acc ++ [v]) else ret (listV (acc ++ [v]))) (N := fun v => MI (acc ++ [v])) (R := MI acc) (hv l) (fun v => ?_) ?_).congr fun d => congrFun (items_succ F n d acc) l
      · refine Dp.bnd (f := fun _ => more 93) (g := fun d b => if b = true then items F n d (acc ++ [v]) else ret (listV (acc ++ [v]))) (N := fun _ => MI (acc ++ [v])) (Dp.flat _) (fun b => ?_) ?_
        · cases b with
          | true => exact hi (acc ++ [v])
          | false => exact Dp.done (f := ret (listV (acc ++ [v]))) fun l a k h => ⟨[], by rw [List.append_nil]; exact ret_inv h, rfl⟩
        · rintro a b m n rfl h; rw [Nat.zero_max]; exact h
      · rintro a b m n h1 ⟨is, rfl, rfl⟩
        refine ⟨a :: is, by rw [List.append_assoc]; rfl, ?_⟩
        simp only [dpts]
        rw [show dpt a = m from h1]
    · intro l
      have key := Dp.chk (f := text n) (p := twice acc) (g := fun d key => jp.bnd blanks fun _ => jp.bnd (want 58) fun _ => jp.bnd blanks fun _ => jp.bnd (value F n d) fun v => jp.bnd (more 125) fun b => if b = true then members F n d (acc ++ [(bt key, v)]) else ret (objV (acc ++ [(bt key, v)]))) (N := fun _ => MF acc) (R := MF acc) (fun key => ?_) (fun a b n h => h)
      · exact (key l).congr fun d => congrFun (members_succ F n d acc) l
      refine Dp.bnd (f := fun _ => blanks) (g := fun d _ => jp.bnd (want 58) fun _ => jp.bnd blanks fun _ => jp.bnd (value F n d) fun v => jp.bnd (more 125) fun b => if b = true then members F n d (acc ++ [(bt key, v)]) else ret (objV (acc ++ [(bt key, v)]))) (N := fun _ => MF acc) (Dp.flat _) (fun _ => ?_) (by rintro a b m n rfl h; rw [Nat.zero_max]; exact h)
      refine Dp.bnd (f := fun _ => want 58) (g := fun d _ => jp.bnd blanks fun _ => jp.bnd (value F n d) fun v => jp.bnd (more 125) fun b => if b = true then members F n d (acc ++ [(bt key, v)]) else ret (objV (acc ++ [(bt key, v)]))) (N := fun _ => MF acc) (Dp.flat _) (fun _ => ?_) (by rintro a b m n rfl h; rw [Nat.zero_max]; exact h)
      refine Dp.bnd (f := fun _ => blanks) (g := fun d _ => jp.bnd (value F n d) fun v => jp.bnd (more 125) fun b => if b = true then members F n d (acc ++ [(bt key, v)]) else ret (objV (acc ++ [(bt key, v)]))) (N := fun _ => MF acc) (Dp.flat _) (fun _ => ?_) (by rintro a b m n rfl h; rw [Nat.zero_max]; exact h)
      refine Dp.bnd (f := value F n) (g := fun d v => jp.bnd (more 125) fun b => if b = true then members F n d (acc ++ [(bt key, v)]) else ret (objV (acc ++ [(bt key, v)]))) (N := fun v => MF (acc ++ [(bt key, v)])) hv (fun v => ?_) ?_
      · refine Dp.bnd (f := fun _ => more 125) (g := fun d b => if b = true then members F n d (acc ++ [(bt key, v)]) else ret (objV (acc ++ [(bt key, v)]))) (N := fun _ => MF (acc ++ [(bt key, v)])) (Dp.flat _) (fun b => ?_) ?_
        · cases b with
          | true => exact hm (acc ++ [(bt key, v)])
          | false => exact Dp.done (f := ret (objV (acc ++ [(bt key, v)]))) fun l a k h => ⟨[], by rw [List.append_nil]; exact ret_inv h, rfl⟩
        · rintro a b m n rfl h; rw [Nat.zero_max]; exact h
      · rintro a b m n h1 ⟨fs, rfl, rfl⟩
        refine ⟨(bt key, a) :: fs, by rw [List.append_assoc]; rfl, ?_⟩
        simp only [dptf]
        rw [show dpt a = m from h1]
theorem rd_depth {F : Nf} (hF : ∀ l, (F l).1 ≠ 5 ∧ (F l).1 ≠ 6) {n d : Nat} {l : List Nat} {v : V} {k : Nat} (h : rd F n d l = .ok v k) : dpt v ≤ d ∧ ∀ d', (dpt v ≤ d' → rd F n d' l = .ok v k) ∧ (d' < dpt v → deepAt l (rd F n d' l)) := by
  have key : Dp (fun d => rd F n d) MV := by
    refine Dp.bnd (f := fun _ => blanks) (g := fun d _ => jp.bnd (value F n d) fun v => jp.bnd blanks fun _ l => if l = [] then .ok v 0 else .er 0 50) (N := fun _ => MV) (Dp.flat _) (fun _ => ?_) (by rintro a b m n rfl h; rw [Nat.zero_max]; exact h)
    refine Dp.bnd (f := value F n) (g := fun d v => jp.bnd blanks fun _ l => if l = [] then .ok v 0 else .er 0 50) (N := fun v w m => w = v ∧ m = 0) (dp_all F hF n).1 (fun v => ?_) (by rintro a b m n h1 ⟨rfl, rfl⟩; rw [Nat.max_zero]; exact h1)
    refine Dp.done (f := jp.bnd blanks fun _ l => if l = [] then .ok v 0 else .er 0 50) fun l a k h => ?_
    obtain ⟨_, _, _, _, h2, _⟩ := bnd_inv h
    split at h2
    · injection h2 with h3 _; exact ⟨h3.symm, rfl⟩
    · cases h2
  obtain ⟨m, hm, hd, h2⟩ := key l d v k h
  obtain rfl : dpt v = m := hm
  exact ⟨hd, h2⟩
end Go.Proofs.YtjhhdnnblcbdbaaGreatDoor.jp
end
section
namespace Go.Proofs.YtjhhdnnblcbdbaaGreatDoor.jp
open Go.RowKit val
set_option linter.unusedVariables false

mutual
/-- all floats are 64 bits wide -/
def flk : V → Prop
  | .mk _ _ _ f _ _ is fs => f < 18446744073709551616 ∧ flks is ∧ flkf fs
def flks : List V → Prop
  | [] => True
  | v :: r => flk v ∧ flks r
def flkf : List (ByteArray × V) → Prop
  | [] => True
  | (_, v) :: r => flk v ∧ flkf r
end
theorem flks_get {l : List V} {j : Nat} {v : V} (hl : flks l) (h : l[j]? = some v) : flk v := by
  induction l generalizing j with
  | nil => simp at h
  | cons x r ih =>
    simp only [flks] at hl
    cases j with
    | zero => simp at h; subst h; exact hl.1
    | succ j => exact ih hl.2 (j := j) (by simpa using h)
theorem flkf_get {l : List (ByteArray × V)} {j : Nat} {p : ByteArray × V} (hl : flkf l) (h : l[j]? = some p) : flk p.2 := by
  induction l generalizing j with
  | nil => simp at h
  | cons x r ih =>
    obtain ⟨s, x⟩ := x
    simp only [flkf] at hl
    cases j with
    | zero => simp at h; subst h; exact hl.1
    | succ j => exact ih hl.2 (j := j) (by simpa using h)
theorem flks_app {l r : List V} (h : flks l) (h' : flks r) : flks (l ++ r) := by
  induction l with
  | nil => exact h'
  | cons x l ih => simp only [flks, List.cons_append] at h ⊢; exact ⟨h.1, ih h.2⟩
theorem flkf_app {l r : List (ByteArray × V)} (h : flkf l) (h' : flkf r) : flkf (l ++ r) := by
  induction l with
  | nil => exact h'
  | cons x l ih =>
    obtain ⟨s, x⟩ := x
    simp only [flkf, List.cons_append] at h ⊢
    exact ⟨h.1, ih h.2⟩
theorem szs_app (l r : List V) : szs (l ++ r) = szs l + szs r := by
  induction l with
  | nil => simp [szs]
  | cons x l ih => simp only [szs, List.cons_append, ih]; omega
theorem szf_app (l r : List (ByteArray × V)) : szf (l ++ r) = szf l + szf r := by
  induction l with
  | nil => simp [szf]
  | cons x l ih =>
    obtain ⟨s, x⟩ := x
    simp only [szf, List.cons_append, ih]; omega
def SV (v : V) (k : Nat) : Prop := flk v ∧ sz v ≤ k
def SI (acc : List V) (v : V) (k : Nat) : Prop := ∃ is, v = listV (acc ++ is) ∧ flks is ∧ szs is ≤ k
def SF (acc : List (ByteArray × V)) (v : V) (k : Nat) : Prop := ∃ fs, v = objV (acc ++ fs) ∧ flkf fs ∧ szf fs ≤ k
theorem one_ok {l : List Nat} {u : Unit} {k : Nat} (h : one l = .ok u k) : k = 1 := by
  cases l with
  | nil => simp [one, sat] at h
  | cons x r => simp [one, sat] at h; omega
theorem opn_ok {d : Nat} {l : List Nat} {u : Unit} {k : Nat} (h : opn d l = .ok u k) : k = 1 := by
  cases l with
  | nil => simp [opn] at h
  | cons x r =>
    unfold opn at h
    simp only at h
    split at h
    · cases h
    · injection h with _ h; omega
theorem pos_of {f : Ps V} (he : Eats f) {l : List Nat} {v : V} {k : Nat} (h : f l = .ok v k) : 0 < k := by
  cases k with
  | zero => exact absurd h (he l v)
  | succ k => omega
theorem sv_all (F : Nf) (hF : ∀ l, (F l).2.2.1 < 18446744073709551616) : ∀ n, (∀ d l v k, value F n d l = .ok v k → SV v k) ∧ (∀ d acc l v k, items F n d acc l = .ok v k → SI acc v k) ∧ ∀ d acc l v k, members F n d acc l = .ok v k → SF acc v k
  | 0 => ⟨fun d l v k h => (by unfold value at h; cases h), fun d acc l v k h => (by unfold items at h; cases h), fun d acc l v k h => (by unfold members at h; cases h)⟩
  | n + 1 => by
    obtain ⟨hv, hi, hm⟩ := sv_all F hF n
    refine ⟨fun d l v k h => ?_, fun d acc l v k h => ?_, fun d acc l v k h => ?_⟩
    · have hp := pos_of (Eats.value F (n + 1) d) h
      unfold value at h
      by_cases h1 : l.headD 0 = 110
      · rw [if_pos h1] at h; obtain ⟨_, rfl⟩ := bnd_ret h; exact ⟨by simp [nullV, flk, flks, flkf], by simp [nullV, sz, szs, szf] <;> omega⟩
      rw [if_neg h1] at h
      by_cases h1 : l.headD 0 = 116
      · rw [if_pos h1] at h; obtain ⟨_, rfl⟩ := bnd_ret h; exact ⟨by simp [boolV, flk, flks, flkf], by simp [boolV, sz, szs, szf] <;> omega⟩
      rw [if_neg h1] at h
      by_cases h1 : l.headD 0 = 102
      · rw [if_pos h1] at h; obtain ⟨_, rfl⟩ := bnd_ret h; exact ⟨by simp [boolV, flk, flks, flkf], by simp [boolV, sz, szs, szf] <;> omega⟩
      rw [if_neg h1] at h
      by_cases h1 : l.headD 0 = 34
      · rw [if_pos h1] at h; obtain ⟨_, rfl⟩ := bnd_ret h; exact ⟨by simp [strV, flk, flks, flkf], by simp [strV, sz, szs, szf] <;> omega⟩
      rw [if_neg h1] at h
      by_cases h1 : l.headD 0 = 91
      · rw [if_pos h1] at h
        obtain ⟨_, j, i, h2, h3, rfl⟩ := bnd_inv h
        obtain rfl := opn_ok h2
        obtain ⟨_, j2, i2, _, h4, rfl⟩ := bnd_inv h3
        split at h4
        · obtain ⟨_, rfl⟩ := bnd_ret h4; exact ⟨by simp [listV, flk, flks, flkf], by simp [listV, sz, szs, szf] <;> omega⟩
        · obtain ⟨is, rfl, h5, h6⟩ := hi _ _ _ _ _ h4
          exact ⟨by simp [listV, flk, flkf, h5], by simp [listV, sz, szf] <;> omega⟩
      rw [if_neg h1] at h
      by_cases h1 : l.headD 0 = 123
      · rw [if_pos h1] at h
        obtain ⟨_, j, i, h2, h3, rfl⟩ := bnd_inv h
        obtain rfl := opn_ok h2
        obtain ⟨_, j2, i2, _, h4, rfl⟩ := bnd_inv h3
        split at h4
        · obtain ⟨_, rfl⟩ := bnd_ret h4; exact ⟨by simp [objV, flk, flks, flkf], by simp [objV, sz, szs, szf] <;> omega⟩
        · obtain ⟨is, rfl, h5, h6⟩ := hm _ _ _ _ _ h4
          exact ⟨by simp [objV, flk, flks, h5], by simp [objV, sz, szs] <;> omega⟩
      rw [if_neg h1] at h
      unfold numP at h
      split at h
      · cases h
      · split at h
        · injection h with h7 _
          subst h7
          exact ⟨by simp [numV, flk, flks, flkf]; exact hF _, by simp [numV, sz, szs, szf] <;> omega⟩
        · cases h
    · unfold items at h
      obtain ⟨x, j, i, h1, h2, rfl⟩ := bnd_inv h
      obtain ⟨b, j2, i2, _, h3, rfl⟩ := bnd_inv h2
      obtain ⟨hx1, hx2⟩ := hv _ _ _ _ h1
      cases b with
      | true =>
        obtain ⟨is, rfl, h5, h6⟩ := hi _ _ _ _ _ (by simpa using h3)
        exact ⟨x :: is, by rw [List.append_assoc]; rfl, ⟨hx1, h5⟩, by simp only [szs] <;> omega⟩
      | false =>
        have h4 : ret (listV (acc ++ [x])) ((l.drop j).drop j2) = .ok v i2 := by simpa using h3
        exact ⟨[x], ret_inv h4, ⟨hx1, trivial⟩, by simp only [szs] <;> omega⟩
    · unfold members at h
      obtain ⟨key, j, i, _, _, h2, rfl⟩ := chk_inv h
      obtain ⟨_, j3, i3, _, h22, rfl⟩ := bnd_inv h2
      obtain ⟨_, j4, i4, _, h23, rfl⟩ := bnd_inv h22
      obtain ⟨_, j5, i5, _, h24, rfl⟩ := bnd_inv h23
      obtain ⟨x, j6, i6, h1, h25, rfl⟩ := bnd_inv h24
      obtain ⟨b, j7, i7, _, h3, rfl⟩ := bnd_inv h25
      obtain ⟨hx1, hx2⟩ := hv _ _ _ _ h1
      cases b with
      | true =>
        obtain ⟨fs, rfl, h5, h6⟩ := hm _ _ _ _ _ (by simpa using h3)
        exact ⟨(bt key, x) :: fs, by rw [List.append_assoc]; rfl, ⟨hx1, h5⟩, by simp only [szf] <;> omega⟩
      | false =>
        have h4 : ∃ z, ret (objV (acc ++ [(bt key, x)])) z = .ok v i7 := ⟨_, by simpa using h3⟩
        obtain ⟨z, h4⟩ := h4
        exact ⟨[(bt key, x)], ret_inv h4, ⟨hx1, trivial⟩, by simp only [szf] <;> omega⟩
theorem rd_parts {F : Nf} (hF : ∀ l, (F l).2.2.1 < 18446744073709551616) {n d : Nat} {l : List Nat} {v : V} {k : Nat} (h : rd F n d l = .ok v k) : flk v ∧ sz v ≤ k := by
  unfold rd at h
  obtain ⟨_, j, i, _, h2, rfl⟩ := bnd_inv h
  obtain ⟨x, j2, i2, h1, h22, rfl⟩ := bnd_inv h2
  obtain ⟨_, j3, i3, _, h3, rfl⟩ := bnd_inv h22
  obtain ⟨hx1, hx2⟩ := (sv_all F hF n).1 _ _ _ _ h1
  split at h3
  · injection h3 with h4 _
    subst h4
    exact ⟨hx1, by omega⟩
  · cases h3
end Go.Proofs.YtjhhdnnblcbdbaaGreatDoor.jp
end
section
namespace Go.Proofs.YtjhhdnnblcbdbaaGreatDoor.jp
open Go.RowKit val
set_option linter.unusedVariables false

def NZ {α : Type} (f : Ps α) : Prop := ∀ l k e, f l = .er k e → e ≠ 0
section
variable {α β : Type}
theorem NZ.ret (a : α) : NZ (jp.ret a) := fun l k e h => by cases h
theorem NZ.er (k : Nat) {e : Int} (h : e ≠ 0) : NZ (fun _ => (.er k e : Rs α)) := fun l k' e' h' => by injection h' with _ h2; omega
theorem NZ.sat (t : Nat → Option α) : NZ (jp.sat t) := by
  intro l k e h
  rcases sat_cases t l with ⟨x, r, a, _, _, h1⟩ | ⟨h1, _⟩
  · rw [h1] at h; cases h
  · rw [h1] at h; injection h with _ h2; omega
theorem NZ.bnd {f : Ps α} {g : α → Ps β} (hf : NZ f) (hg : ∀ a, NZ (g a)) : NZ (jp.bnd f g) := by
  intro l k e h
  unfold jp.bnd at h
  cases hf1 : f l with
  | er k1 e1 => rw [hf1] at h; injection h with _ h2; exact h2 ▸ hf l k1 e1 hf1
  | ok a j =>
    rw [hf1] at h
    simp only at h
    cases hg1 : g a (l.drop j) with
    | ok b i => rw [hg1] at h; cases h
    | er k1 e1 => rw [hg1] at h; injection h with _ h2; exact h2 ▸ hg a _ k1 e1 hg1
theorem NZ.chk {f : Ps α} {p : α → Bool} {g : α → Ps β} (hf : NZ f) (hg : ∀ a, NZ (g a)) : NZ (jp.chk f p g) := by
  intro l k e h
  unfold jp.chk at h
  cases hf1 : f l with
  | er k1 e1 => rw [hf1] at h; injection h with _ h2; exact h2 ▸ hf l k1 e1 hf1
  | ok a j =>
    rw [hf1] at h
    simp only at h
    split at h
    · injection h with _ h2; omega
    · cases hg1 : g a (l.drop j) with
      | ok b i => rw [hg1] at h; cases h
      | er k1 e1 => rw [hg1] at h; injection h with _ h2; exact h2 ▸ hg a _ k1 e1 hg1
theorem NZ.at_ {f : Ps α} (g : List Nat → Ps α) (h : ∀ l, f l = g l l) (hg : ∀ l, NZ (g l)) : NZ f := fun l k e h1 => hg l l k e (by rw [← h]; exact h1)
end
theorem NZ.blanks : NZ blanks := fun l k e h => by cases h
theorem NZ.opn (d : Nat) : NZ (opn d) := by
  intro l k e h
  unfold jp.opn at h
  cases l with
  | nil => injection h with _ h2; omega
  | cons x r =>
    simp only at h
    split at h
    · injection h with _ h2; omega
    · cases h
theorem NZ.word : ∀ ws, NZ (word ws)
  | [] => NZ.ret ()
  | c :: r => NZ.bnd (NZ.sat _) fun _ => NZ.word r
theorem NZ.digK (m : Int → Int → Bool) : ∀ k a f, NZ (digK m k a f)
  | 0, a, _ => NZ.ret a
  | k + 1, a, f => NZ.bnd (NZ.sat _) fun _ => NZ.digK m k _ _
theorem NZ.escU : NZ escU := NZ.bnd (NZ.sat _) fun _ => NZ.bnd (NZ.digK _ 4 0 (-1)) fun n => by
  split
  · exact NZ.bnd (NZ.sat _) fun _ => NZ.bnd (NZ.sat _) fun _ => NZ.bnd (NZ.digK _ 4 0 (-1)) fun _ => NZ.ret _
  · exact NZ.ret _
theorem NZ.escP : NZ escP := by
  refine NZ.at_ (fun l => match mean (l.headD 0) with | some b => jp.bnd one fun _ => jp.ret [b] | none => jp.escU) (fun l => rfl) fun l => ?_
  cases mean (l.headD 0) with
  | some b => exact NZ.bnd (NZ.sat _) fun _ => NZ.ret _
  | none => exact NZ.escU
theorem NZ.conts : ∀ m lo hi, NZ (conts m lo hi)
  | 0, _, _ => NZ.ret _
  | m + 1, lo, hi => NZ.bnd (NZ.sat _) fun _ => NZ.bnd (NZ.conts m _ _) fun _ => NZ.ret _
theorem NZ.group : NZ group := NZ.bnd (NZ.sat _) fun _ => NZ.bnd (NZ.conts _ _ _) fun _ => NZ.ret _
theorem NZ.pieces : ∀ m acc, NZ (pieces m acc)
  | 0, acc => NZ.er 0 (by decide)
  | m + 1, acc => by
    intro l k e h
    unfold jp.pieces at h
    split at h
    · injection h with _ h2; omega
    · split at h
      · exact NZ.bnd (NZ.sat _) (fun _ => NZ.ret _) l k e h
      · split at h
        · exact NZ.bnd (NZ.sat _) (fun _ => NZ.bnd NZ.escP fun _ => NZ.pieces m _) l k e h
        · exact NZ.bnd NZ.group (fun _ => NZ.pieces m _) l k e h
theorem NZ.text (m : Nat) : NZ (text m) := NZ.bnd (NZ.sat _) fun _ => NZ.pieces m _
theorem NZ.numP (F : Nf) : NZ (numP F) := by
  intro l k e h
  unfold jp.numP at h
  split at h
  · injection h with _ h2; omega
  · split at h
    · cases h
    · rename_i h0
      injection h with _ h2
      exact h2 ▸ h0
theorem NZ.more (c : Nat) : NZ (more c) := NZ.bnd NZ.blanks fun _ l k e h => by
  split at h
  · exact NZ.bnd (NZ.sat _) (fun _ => NZ.ret _) l k e h
  · exact NZ.bnd (NZ.sat _) (fun _ => NZ.bnd NZ.blanks fun _ => NZ.ret _) l k e h
theorem nz_all (F : Nf) : ∀ n, (∀ d, NZ (value F n d)) ∧ (∀ d acc, NZ (items F n d acc)) ∧ ∀ d acc, NZ (members F n d acc)
  | 0 => ⟨fun d => NZ.er 0 (by decide), fun d acc => NZ.er 0 (by decide), fun d acc => NZ.er 0 (by decide)⟩
  | n + 1 => by
    obtain ⟨hv, hi, hm⟩ := nz_all F n
    refine ⟨fun d l k e h => ?_, fun d acc l k e h => ?_, fun d acc l k e h => ?_⟩
    · unfold value at h
      by_cases h1 : l.headD 0 = 110
      · rw [if_pos h1] at h; exact NZ.bnd (NZ.word _) (fun _ => NZ.ret _) l k e h
      rw [if_neg h1] at h
      by_cases h1 : l.headD 0 = 116
      · rw [if_pos h1] at h; exact NZ.bnd (NZ.word _) (fun _ => NZ.ret _) l k e h
      rw [if_neg h1] at h
      by_cases h1 : l.headD 0 = 102
      · rw [if_pos h1] at h; exact NZ.bnd (NZ.word _) (fun _ => NZ.ret _) l k e h
      rw [if_neg h1] at h
      by_cases h1 : l.headD 0 = 34
      · rw [if_pos h1] at h; exact NZ.bnd (NZ.text _) (fun _ => NZ.ret _) l k e h
      rw [if_neg h1] at h
      by_cases h1 : l.headD 0 = 91
      · rw [if_pos h1] at h
        refine NZ.bnd (NZ.opn d) (fun _ => NZ.bnd NZ.blanks fun _ l k e h => ?_) l k e h
        split at h
        · exact NZ.bnd (NZ.sat _) (fun _ => NZ.ret _) l k e h
        · exact hi _ _ l k e h
      rw [if_neg h1] at h
      by_cases h1 : l.headD 0 = 123
      · rw [if_pos h1] at h
        refine NZ.bnd (NZ.opn d) (fun _ => NZ.bnd NZ.blanks fun _ l k e h => ?_) l k e h
        split at h
        · exact NZ.bnd (NZ.sat _) (fun _ => NZ.ret _) l k e h
        · exact hm _ _ l k e h
      rw [if_neg h1] at h
      exact NZ.numP F l k e h
    · unfold items at h
      refine NZ.bnd (hv d) (fun v => NZ.bnd (NZ.more _) fun b => ?_) l k e h
      cases b
      · exact NZ.ret _
      · exact hi _ _
    · unfold members at h
      refine NZ.chk (NZ.text _) (fun key => NZ.bnd NZ.blanks fun _ => NZ.bnd (NZ.sat _) fun _ => NZ.bnd NZ.blanks fun _ => NZ.bnd (hv d) fun v => NZ.bnd (NZ.more _) fun b => ?_) l k e h
      cases b
      · exact NZ.ret _
      · exact hm _ _
theorem rd_nz {F : Nf} {n d : Nat} {l : List Nat} {k : Nat} {e : Int} (h : rd F n d l = .er k e) : e ≠ 0 := by
  refine NZ.bnd NZ.blanks (fun _ => NZ.bnd ((nz_all F n).1 d) fun v => NZ.bnd NZ.blanks fun _ l k e h => ?_) l k e h
  split at h
  · cases h
  · injection h with _ h2; omega
theorem rd_len {F : Nf} (hF : ∀ l, (F l).2.2.2 ≠ 50 ∧ (F l).2.2.2 ≠ 71) {n d : Nat} {l : List Nat} {v : V} {k : Nat} (h : rd F n d l = .ok v k) : k ≤ l.length := by
  unfold rd at h
  obtain ⟨_, j, i, h1, h2, rfl⟩ := bnd_inv h
  obtain ⟨x, j2, i2, h3, h22, rfl⟩ := bnd_inv h2
  obtain ⟨_, j3, i3, h4, h5, rfl⟩ := bnd_inv h22
  have e1 := Loc.blanks.okl _ _ _ h1
  have e2 := ((Loc.all hF n).1 d).okl _ _ _ h3
  have e3 := Loc.blanks.okl _ _ _ h4
  rw [List.length_drop] at e2 e3
  rw [List.length_drop] at e3
  split at h5
  · injection h5 with _ h6; omega
  · cases h5
theorem tok_le {src : List Nat} (h : src.length ≤ 1100000) (p : Nat) : pE (src.drop p) ≤ 1100000 := by
  have h1 := (pf_at (src.drop p)).1
  have h2 := (pf_at (src.drop p)).2.1
  rw [List.length_drop] at h1
  omega
end Go.Proofs.YtjhhdnnblcbdbaaGreatDoor.jp
end
section
namespace Go.Proofs.YtjhhdnnblcbdbaaGreatDoor.jw
open Go.RowKit mem val jp big pg
set_option linter.unusedVariables false

set_option maxRecDepth 100000 in
set_option maxHeartbeats 800000 in
theorem same_self (n : Bool) (a : Nat) (h : a < 9223372036854775808) (w : World) :
    Calls Tryz.prog 18 #[.float .f64 (a + sgn n), .float .f64 (a + sgn n)] w fun e w' => e = .returned (.bool true) ∧ w = w' := by
  have hbits := run_f64bits
  have hn := isNaN_any n a w h
  have HN := Lib.hid hn
  clear hn h
  generalize a + sgn n = b at *
  generalize decide (9218868437227405312 < a) = d at *
  cases d
  · go_enter Tryz.func18, Tryz.ntmps18
    go_wp2_with fail
    refine HN.out.mono ?_
    rintro e w' ⟨rfl, rfl⟩
    go_wp2_with fail
    refine HN.out.mono ?_
    rintro e w' ⟨rfl, rfl⟩
    go_wp2_with fail
    go_ret
    exact ⟨by simp, rfl⟩
  · go_enter Tryz.func18, Tryz.ntmps18
    go_wp2_with fail
    refine HN.out.mono ?_
    rintro e w' ⟨rfl, rfl⟩
    go_wp2_with fail
    refine HN.out.mono ?_
    rintro e w' ⟨rfl, rfl⟩
    go_wp2_with fail
    refine HN.out.mono ?_
    rintro e w' ⟨rfl, rfl⟩
    go_wp2_with fail
    go_ret
    exact ⟨rfl, rfl⟩
/-- number.Same of one float with itself -/
def SameOk : Prop := ∀ f : Nat, f < 18446744073709551616 → ∀ w : World, Calls Tryz.prog 18 #[.float .f64 f, .float .f64 f] w fun e w' => e = .returned (.bool true) ∧ w = w'
theorem same_bits (f : Nat) (h : f < 18446744073709551616) (w : World) : Calls Tryz.prog 18 #[.float .f64 f, .float .f64 f] w fun e w' => e = .returned (.bool true) ∧ w = w' := by
  by_cases hh : f < 9223372036854775808
  · have := same_self false f hh w
    simpa [sgn] using this
  · have e : f = (f - 9223372036854775808) + sgn true := by simp [sgn]; omega
    rw [e]
    exact same_self true _ (by omega) w
end Go.Proofs.YtjhhdnnblcbdbaaGreatDoor.jw
end
section
set_option linter.unusedVariables false
namespace Go.Proofs.YtjhhdnnblcbdbaaGreatDoor.val
open Go.RowKit mem

/-- what a round leaves of the memory below n and of what lay from B on -/
def Keep (n B : Nat) (W W' : World) : Prop := Below n W W' ∧ ∀ k, B ≤ k → k < W.heap.size → W'.heap[k]? = W.heap[k]?
theorem Keep.refl (n B : Nat) (W : World) : Keep n B W W := ⟨Below.refl _ _, fun _ _ _ => rfl⟩
theorem Keep.trans {n B : Nat} {W W' W'' : World} (h : Keep n B W W') (k : Keep n B W' W'') : Keep n B W W'' := ⟨h.1.trans k.1, fun j h1 h2 => (k.2 j h1 (Nat.lt_of_lt_of_le h2 h.1.size)).trans (h.2 j h1 h2)⟩
theorem Keep.of_below {n B : Nat} {W W' : World} (h : Below W.heap.size W W') (hn : n ≤ W.heap.size) : Keep n B W W' := ⟨h.mono hn, fun j _ h2 => h.block j h2⟩
theorem Keep.from {n B B' : Nat} {W W' : World} (h : Keep n B W W') (hB : B ≤ B') : Keep n B' W W' := ⟨h.1, fun j h1 h2 => h.2 j (by omega) h2⟩

section
variable {P : Program}
/-- THE CONTRACT OF AN ITERATOR: N rounds; what it hands to round q of them ('encs'); it turns nothing but blocks laid since its call began. -/
def SeqB (P : Program) (f : Nat) (lb : Array Value) (N : Nat) (encs : Nat → Nat → World → Array Value → Prop) (n : Nat) (Pre : World → Prop) : Prop :=
  ∀ (l : Nat) (W0 : World) (J : Nat → World → Prop) (Jx : World → Prop), Pre W0 → n ≤ W0.heap.size →
    (∀ q W W', J q W → Below W0.heap.size W W' → J q W') → (∀ W W', Jx W → Below W0.heap.size W W' → Jx W') →
    (∀ (m q : Nat) (W1 : World) (args : Array Value), q < N → J q W1 → encs W0.heap.size q W1 args → W0.heap.size ≤ W1.heap.size → Below n W0 W1 → YieldAt Fence.wide m P l args W1 fun e W' =>
      Keep n W0.heap.size W1 W' ∧ ((e = .returned (.bool true) ∧ J (q + 1) W') ∨ (e = .returned (.bool false) ∧ Jx W'))) →
    J 0 W0 → ∀ m, CallsIn Fence.wide m P f (#[.func (.yield l) #[] #[]] ++ lb) W0 fun e W' => (∃ v, e = .returned v) ∧ (J N W' ∨ Jx W')

/-- how the body of a round may be left -/
def postB (n B : Nat) (I : Nat → World → Prop) (Ix : Code → World → Prop) (q : Nat) (W : World) : Exit → Act → World → Prop
  | .normal, _, W' => Keep n B W W' ∧ I q W'
  | .ret, _, W' => Keep n B W W' ∧ Ix .ret W'
  | .exit id, _, W' => Keep n B W W' ∧ Ix (.exit id) W'
  | .goto t, _, W' => Keep n B W W' ∧ Ix (.goto t) W'
  | _, _, _ => False

/-- THE RANGE, outside every round. -/
theorem range_B {g : Operand} {ps : Array Tmp} {assign body : Code} {Q : Exit → Act → World → Prop} {a : Act} {w : World} {n m : Nat} {gf : Nat} {lb : Array Value} (hg : a.eval g = .func (.func gf) #[] lb) (eg : Enters P gf)
    {N : Nat} {encs : Nat → Nat → World → Array Value → Prop} {Pre : World → Prop} (hseq : SeqB P gf lb N encs n Pre) (hn0 : n ≤ w.heap.size) (hpre : ∀ W1, Below w.heap.size w W1 → Pre W1) (hps : ∀ B q W args, encs B q W args → args.size = ps.size)
    (I : Nat → World → Prop) (Ix : Code → World → Prop) (hI : ∀ q W W', I q W → Below w.heap.size W W' → I q W') (hIx : ∀ c W W', Ix c W → Below w.heap.size W W' → Ix c W') (h0 : I 0 w)
    (hround : ∀ (l k q B : Nat) (W : World) (args : Array Value), w.heap.size ≤ l → l < B → B ≤ W.heap.size → q < N → I q W → encs B q W args → Below n w W →
      assign.wpIn (Fence.wide.inRound l) k P (Exit.then (fun a' W' => Keep n w.heap.size W W' ∧ I q W' ∧ ∀ W2, W2.heap.size = W'.heap.size → (∀ j, j ≠ l → W2.heap[j]? = W'.heap[j]?) → Below w.heap.size W' W2 → (∃ r, W2.heap[l]? = some (.loop r)) → I q W2 →
        body.wpIn (Fence.wide.inRound l) k P (postB n w.heap.size I Ix (q + 1) W2) a' W2) (fun _ _ _ => False)) { tmps := (ps.zip args).foldl (fun t (p, v) => t.setIfInBounds p v) a.tmps, defers := [] } W)
    (hdone : ∀ (D : Nat) (W : World), w.heap.size ≤ D → I N W → W.heap[D]? = some (.deferred (some [])) → Q .normal { a with defers := { target := .collected D, args := #[] } :: a.defers } W)
    (hstop : ∀ (D : Nat) (c : Code) (W : World), w.heap.size ≤ D → Ix c W → W.heap[D]? = some (.deferred (some [])) → c.wpIn Fence.wide m P Q { a with defers := { target := .collected D, args := #[] } :: a.defers } W) :
    (Code.rangeFunc g ps assign body).wpIn Fence.wide m P Q a w := by
  refine wpIn_rangeFunc fun fn hfn => ?_
  obtain ⟨rec, hrec⟩ : ∃ rec : LoopState → Option Code → Loop, rec = fun st pe => { state := st, pending := pe, fn, tmps := a.tmps, params := ps, assign, body, defers := w.heap.size } := ⟨_, rfl⟩
  have hK1 : ((w.alloc (.deferred (some []))).alloc (.loop (rec .ready none))).heap[w.heap.size]? = some (.deferred (some [])) := (Below.heap_alloc _ _ _ (by simp)).trans (World.alloc_heap_new w _)
  have hL1 : ((w.alloc (.deferred (some []))).alloc (.loop (rec .ready none))).heap[w.heap.size + 1]? = some (.loop (rec .ready none)) := by simpa using World.alloc_heap_new (w.alloc (.deferred (some []))) (.loop (rec .ready none))
  have hb1 : Below w.heap.size w ((w.alloc (.deferred (some []))).alloc (.loop (rec .ready none))) := ((Below.refl _ w).alloc (Nat.le_refl _) _).alloc (by simp) _
  have hs1 : w.heap.size + 2 ≤ ((w.alloc (.deferred (some []))).alloc (.loop (rec .ready none))).heap.size := by simp
  have hE : (Instr.enterLoop fn a.tmps ps assign body none).run P w = .ok (w.heap.size + 1, [{ target := .collected w.heap.size, args := #[] }]) ((w.alloc (.deferred (some []))).alloc (.loop (rec .ready none))) := by rw [hrec]; exact run_enterLoop_outer _ _ _ _ _
  generalize ((w.alloc (.deferred (some []))).alloc (.loop (rec .ready none))) = W1 at *
  refine ⟨w.heap.size + 1, _, W1, { target := .fn (.func gf) lb, args := #[.func (.yield (w.heap.size + 1)) #[] #[]] }, W1, gf, #[.func (.yield (w.heap.size + 1)) #[] #[]] ++ lb, W1, hE, ?_, ?_, ?_, (fun h => by cases h), ?_⟩
  · simp only [resolve, hg]
    simp [go_sem]
  · intro f' _
    trivial
  · have eg' : ∀ (args : Array Value) (w : World), (callFunc gf args).run P w = .ok (.enter gf args) w := eg
    simp [invoke, go_sem, eg']
  · refine (hseq (w.heap.size + 1) W1
      (fun q W => I q W ∧ W.heap[w.heap.size + 1]? = some (.loop (rec .ready none)) ∧ W.heap[w.heap.size]? = some (.deferred (some [])))
      (fun W => ∃ c, Ix c W ∧ W.heap[w.heap.size + 1]? = some (.loop (rec .done (some c))) ∧ W.heap[w.heap.size]? = some (.deferred (some [])))
      (hpre W1 hb1) (by omega)
      (fun q W W' h hb => ⟨hI q W W' h.1 (hb.mono (by omega)), blk_below h.2.1 hb (by omega), blk_below h.2.2 hb (by omega)⟩)
      (fun W W' h hb => by
        obtain ⟨c, h1, h2, h3⟩ := h
        exact ⟨c, hIx c W W' h1 (hb.mono (by omega)), blk_below h2 hb (by omega), blk_below h3 hb (by omega)⟩)
      ?_ ⟨hI 0 w W1 h0 hb1, hL1, hK1⟩ _).mono ?_
    · rintro k q W args hq ⟨hi, hl, hk⟩ henc hsz hbw'
      have hbw : Below n w W := (hb1.mono hn0).trans hbw'
      have hlt : w.heap.size + 1 < W.heap.size := (Array.getElem?_eq_some_iff.1 hl).1
      have hy := run_yield (P := P) (args := args) hl (by rw [hrec]; exact hps _ q W args henc)
      rw [hrec] at hy
      refine ⟨fn, _, assign, body, hy, roundIn_of_wpIn hfn (wpIn_mono (hround (w.heap.size + 1) k q W1.heap.size W args (by omega) (by omega) hsz hq hi henc hbw) ?_)⟩
      clear hy
      rintro e a' Wa hp
      cases e with
      | normal =>
        obtain ⟨hka, hia, hbody⟩ := hp
        have hla := (hka.2 (w.heap.size + 1) (by omega) hlt).trans hl
        have hkda := (hka.2 w.heap.size (Nat.le_refl _) (by omega)).trans hk
        have hsa := hka.1.size
        refine ⟨_, run_beginRound hla (by rw [hrec]), ?_⟩
        have hl2 : (Wa.putObj (w.heap.size + 1) (.loop { rec .ready none with state := .busy })).heap[w.heap.size + 1]? = some (.loop { rec .ready none with state := .busy }) := World.putObj_heap_same (by omega)
        have hb2 : Below w.heap.size Wa (Wa.putObj (w.heap.size + 1) (.loop { rec .ready none with state := .busy })) := belowK_b (w := w) (Nat.le_refl _) Wa (w.heap.size + 1) _ _ (by omega) hla rfl rfl
        have ho2 : ∀ j, j ≠ w.heap.size + 1 → (Wa.putObj (w.heap.size + 1) (.loop { rec .ready none with state := .busy })).heap[j]? = Wa.heap[j]? := fun j hj => World.putObj_heap_other (by omega)
        have hz2 : (Wa.putObj (w.heap.size + 1) (.loop { rec .ready none with state := .busy })).heap.size = Wa.heap.size := by simp [World.putObj]
        generalize (Wa.putObj (w.heap.size + 1) (.loop { rec .ready none with state := .busy })) = W2 at *
        refine wpIn_mono (hbody W2 hz2 ho2 hb2 ⟨_, hl2⟩ (hI _ _ _ hia hb2)) ?_
        have hkd2 := (ho2 w.heap.size (by omega)).trans hkda
        have hkW : Keep n W1.heap.size W W2 := (hka.from (by omega)).trans ⟨hb2.mono hn0, fun j h1 _ => ho2 j (by omega)⟩
        have fin : ∀ (jump : Option Code) (W3 : World), Keep n w.heap.size W2 W3 →
            ∃ W4, (Instr.endRound (w.heap.size + 1) jump).run P W3 = .ok (.bool jump.isNone) W4 ∧ W4.heap[w.heap.size + 1]? = some (.loop (rec (if jump.isNone then .ready else .done) jump)) ∧ W4.heap[w.heap.size]? = some (.deferred (some [])) ∧ Below w.heap.size W3 W4 ∧ Keep n W1.heap.size W W4 := fun jump W3 hk3 => by
          have hs3 := hk3.1.size
          have hl3 := (hk3.2 (w.heap.size + 1) (by omega) (by omega)).trans hl2
          have hkd3 := (hk3.2 w.heap.size (Nat.le_refl _) (by omega)).trans hkd2
          have hrun := run_endRound (P := P) jump hl3
          rw [hrec] at hrun ⊢
          have hb3 : Below w.heap.size W3 (W3.putObj (w.heap.size + 1) (.loop { state := if jump.isNone then .ready else .done, pending := jump, fn, tmps := a.tmps, params := ps, assign, body, defers := w.heap.size })) := belowK_b (w := w) (Nat.le_refl _) W3 (w.heap.size + 1) _ _ (by omega) hl3 rfl rfl
          exact ⟨_, hrun, World.putObj_heap_same (by omega), (World.putObj_heap_other (by omega)).trans hkd3, hb3, (hkW.trans (hk3.from (by omega))).trans ⟨hb3.mono hn0, fun j h1 _ => World.putObj_heap_other (by omega)⟩⟩
        rintro e a3 W3 hp3
        cases e with
        | normal =>
          obtain ⟨hk3, hi3⟩ := hp3
          obtain ⟨W4, hr, hl4, hk4, hb4, hK4⟩ := fin none W3 hk3
          exact ⟨_, _, hr, hK4, .inl ⟨rfl, hI _ _ _ hi3 hb4, hl4, hk4⟩⟩
        | ret =>
          obtain ⟨hk3, hi3⟩ := hp3
          obtain ⟨W4, hr, hl4, hk4, hb4, hK4⟩ := fin (some .ret) W3 hk3
          exact ⟨_, _, hr, hK4, .inr ⟨rfl, .ret, hIx _ _ _ hi3 hb4, hl4, hk4⟩⟩
        | exit id =>
          obtain ⟨hk3, hi3⟩ := hp3
          obtain ⟨W4, hr, hl4, hk4, hb4, hK4⟩ := fin (some (.exit id)) W3 hk3
          exact ⟨_, _, hr, hK4, .inr ⟨rfl, .exit id, hIx _ _ _ hi3 hb4, hl4, hk4⟩⟩
        | goto t =>
          obtain ⟨hk3, hi3⟩ := hp3
          obtain ⟨W4, hr, hl4, hk4, hb4, hK4⟩ := fin (some (.goto t)) W3 hk3
          exact ⟨_, _, hr, hK4, .inr ⟨rfl, .goto t, hIx _ _ _ hi3 hb4, hl4, hk4⟩⟩
        | panic ch => exact hp3.elim
        | outgrown => exact hp3.elim
      | _ => exact hp.elim
    · rintro e W2 ⟨⟨v, rfl⟩, (⟨hi, hl, hk⟩ | ⟨c, hi, hl, hk⟩)⟩
      · have hend := run_endLoop (P := P) hl (by rw [hrec]; simp)
        have hp : (rec .ready none).pending = none := by rw [hrec]
        rw [hp] at hend
        have hlt := (Array.getElem?_eq_some_iff.1 hl).1
        exact ⟨none, _, hend, hdone w.heap.size _ (Nat.le_refl _) (hI _ _ _ hi (belowK_b (w := w) (Nat.le_refl _) W2 (w.heap.size + 1) _ _ (by omega) hl rfl rfl)) ((World.putObj_heap_other (by omega)).trans hk)⟩
      · have hend := run_endLoop (P := P) hl (by rw [hrec]; simp)
        have hp : (rec .done (some c)).pending = some c := by rw [hrec]
        rw [hp] at hend
        exact ⟨some c, _, hend, hstop w.heap.size c _ (Nat.le_refl _) (hIx _ _ _ hi (belowK_b (w := w) (Nat.le_refl _) W2 (w.heap.size + 1) _ _ (by omega) hl rfl rfl)) ((World.putObj_heap_other (by omega)).trans hk)⟩
/-- THE RANGE, within a round of loop l₀. -/
theorem range_N {g : Operand} {ps : Array Tmp} {assign body : Code} {Q : Exit → Act → World → Prop} {a : Act} {w : World} {n m : Nat} {l₀ : Nat} {r₀ : Loop} (hl₀ : w.heap[l₀]? = some (.loop r₀)) {gf : Nat} {lb : Array Value} (hg : a.eval g = .func (.func gf) #[] lb) (eg : Enters P gf)
    {N : Nat} {encs : Nat → Nat → World → Array Value → Prop} {Pre : World → Prop} (hseq : SeqB P gf lb N encs n Pre) (hn0 : n ≤ w.heap.size) (hpre : ∀ W1, Below w.heap.size w W1 → Pre W1) (hps : ∀ B q W args, encs B q W args → args.size = ps.size)
    (I : Nat → World → Prop) (Ix : Code → World → Prop) (hI : ∀ q W W', I q W → Below w.heap.size W W' → I q W') (hIx : ∀ c W W', Ix c W → Below w.heap.size W W' → Ix c W') (h0 : I 0 w)
    (hround : ∀ (l k q B : Nat) (W : World) (args : Array Value), w.heap.size ≤ l → l < B → B ≤ W.heap.size → q < N → I q W → encs B q W args → Below n w W →
      assign.wpIn (Fence.wide.inRound l) k P (Exit.then (fun a' W' => Keep n w.heap.size W W' ∧ I q W' ∧ ∀ W2, W2.heap.size = W'.heap.size → (∀ j, j ≠ l → W2.heap[j]? = W'.heap[j]?) → Below w.heap.size W' W2 → (∃ r, W2.heap[l]? = some (.loop r)) → I q W2 →
        body.wpIn (Fence.wide.inRound l) k P (postB n w.heap.size I Ix (q + 1) W2) a' W2) (fun _ _ _ => False)) { tmps := (ps.zip args).foldl (fun t (p, v) => t.setIfInBounds p v) a.tmps, defers := [] } W)
    (hdone : ∀ (W : World), I N W → Q .normal a W)
    (hstop : ∀ (c : Code) (W : World), Ix c W → c.wpIn (Fence.wide.inRound l₀) m P Q a W) :
    (Code.rangeFunc g ps assign body).wpIn (Fence.wide.inRound l₀) m P Q a w := by
  refine wpIn_rangeFunc fun fn hfn => ?_
  obtain ⟨rec, hrec⟩ : ∃ rec : LoopState → Option Code → Loop, rec = fun st pe => { state := st, pending := pe, fn, tmps := a.tmps, params := ps, assign, body, defers := r₀.defers } := ⟨_, rfl⟩
  have hL1 : (w.alloc (.loop (rec .ready none))).heap[w.heap.size]? = some (.loop (rec .ready none)) := World.alloc_heap_new w _
  have hb1 : Below w.heap.size w (w.alloc (.loop (rec .ready none))) := (Below.refl _ w).alloc (Nat.le_refl _) _
  have hs1 : w.heap.size + 1 ≤ (w.alloc (.loop (rec .ready none))).heap.size := by simp
  have hE : (Instr.enterLoop fn a.tmps ps assign body (some l₀)).run P w = .ok (w.heap.size, []) (w.alloc (.loop (rec .ready none))) := by rw [hrec]; exact run_enterLoop_inner hl₀ _ _ _ _ _
  generalize (w.alloc (.loop (rec .ready none))) = W1 at *
  refine ⟨w.heap.size, _, W1, { target := .fn (.func gf) lb, args := #[.func (.yield (w.heap.size)) #[] #[]] }, W1, gf, #[.func (.yield (w.heap.size)) #[] #[]] ++ lb, W1, hE, ?_, ?_, ?_, (fun h => by cases h), ?_⟩
  · simp only [resolve, hg]
    simp [go_sem]
  · intro f' _
    trivial
  · have eg' : ∀ (args : Array Value) (w : World), (callFunc gf args).run P w = .ok (.enter gf args) w := eg
    simp [invoke, go_sem, eg']
  · refine (hseq (w.heap.size) W1
      (fun q W => I q W ∧ W.heap[w.heap.size]? = some (.loop (rec .ready none)))
      (fun W => ∃ c, Ix c W ∧ W.heap[w.heap.size]? = some (.loop (rec .done (some c))))
      (hpre W1 hb1) (by omega)
      (fun q W W' h hb => ⟨hI q W W' h.1 (hb.mono (by omega)), blk_below h.2 hb (by omega)⟩)
      (fun W W' h hb => by
        obtain ⟨c, h1, h2⟩ := h
        exact ⟨c, hIx c W W' h1 (hb.mono (by omega)), blk_below h2 hb (by omega)⟩)
      ?_ ⟨hI 0 w W1 h0 hb1, hL1⟩ _).mono ?_
    · rintro k q W args hq ⟨hi, hl⟩ henc hsz hbw'
      have hbw : Below n w W := (hb1.mono hn0).trans hbw'
      have hlt : w.heap.size < W.heap.size := (Array.getElem?_eq_some_iff.1 hl).1
      have hy := run_yield (P := P) (args := args) hl (by rw [hrec]; exact hps _ q W args henc)
      rw [hrec] at hy
      refine ⟨fn, _, assign, body, hy, roundIn_of_wpIn hfn (wpIn_mono (hround w.heap.size k q W1.heap.size W args (by omega) (by omega) hsz hq hi henc hbw) ?_)⟩
      clear hy
      rintro e a' Wa hp
      cases e with
      | normal =>
        obtain ⟨hka, hia, hbody⟩ := hp
        have hla := (hka.2 (w.heap.size) (by omega) hlt).trans hl
        have hsa := hka.1.size
        refine ⟨_, run_beginRound hla (by rw [hrec]), ?_⟩
        have hl2 : (Wa.putObj (w.heap.size) (.loop { rec .ready none with state := .busy })).heap[w.heap.size]? = some (.loop { rec .ready none with state := .busy }) := World.putObj_heap_same (by omega)
        have hb2 : Below w.heap.size Wa (Wa.putObj (w.heap.size) (.loop { rec .ready none with state := .busy })) := belowK_b (w := w) (Nat.le_refl _) Wa (w.heap.size) _ _ (by omega) hla rfl rfl
        have ho2 : ∀ j, j ≠ w.heap.size → (Wa.putObj (w.heap.size) (.loop { rec .ready none with state := .busy })).heap[j]? = Wa.heap[j]? := fun j hj => World.putObj_heap_other (by omega)
        have hz2 : (Wa.putObj (w.heap.size) (.loop { rec .ready none with state := .busy })).heap.size = Wa.heap.size := by simp [World.putObj]
        generalize (Wa.putObj (w.heap.size) (.loop { rec .ready none with state := .busy })) = W2 at *
        refine wpIn_mono (hbody W2 hz2 ho2 hb2 ⟨_, hl2⟩ (hI _ _ _ hia hb2)) ?_
        have hkW : Keep n W1.heap.size W W2 := (hka.from (by omega)).trans ⟨hb2.mono hn0, fun j h1 _ => ho2 j (by omega)⟩
        have fin : ∀ (jump : Option Code) (W3 : World), Keep n w.heap.size W2 W3 →
            ∃ W4, (Instr.endRound (w.heap.size) jump).run P W3 = .ok (.bool jump.isNone) W4 ∧ W4.heap[w.heap.size]? = some (.loop (rec (if jump.isNone then .ready else .done) jump)) ∧ Below w.heap.size W3 W4 ∧ Keep n W1.heap.size W W4 := fun jump W3 hk3 => by
          have hs3 := hk3.1.size
          have hl3 := (hk3.2 (w.heap.size) (by omega) (by omega)).trans hl2
          have hrun := run_endRound (P := P) jump hl3
          rw [hrec] at hrun ⊢
          have hb3 : Below w.heap.size W3 (W3.putObj (w.heap.size) (.loop { state := if jump.isNone then .ready else .done, pending := jump, fn, tmps := a.tmps, params := ps, assign, body, defers := r₀.defers })) := belowK_b (w := w) (Nat.le_refl _) W3 (w.heap.size) _ _ (by omega) hl3 rfl rfl
          exact ⟨_, hrun, World.putObj_heap_same (by omega), hb3, (hkW.trans (hk3.from (by omega))).trans ⟨hb3.mono hn0, fun j h1 _ => World.putObj_heap_other (by omega)⟩⟩
        rintro e a3 W3 hp3
        cases e with
        | normal =>
          obtain ⟨hk3, hi3⟩ := hp3
          obtain ⟨W4, hr, hl4, hb4, hK4⟩ := fin none W3 hk3
          exact ⟨_, _, hr, hK4, .inl ⟨rfl, hI _ _ _ hi3 hb4, hl4⟩⟩
        | ret =>
          obtain ⟨hk3, hi3⟩ := hp3
          obtain ⟨W4, hr, hl4, hb4, hK4⟩ := fin (some .ret) W3 hk3
          exact ⟨_, _, hr, hK4, .inr ⟨rfl, .ret, hIx _ _ _ hi3 hb4, hl4⟩⟩
        | exit id =>
          obtain ⟨hk3, hi3⟩ := hp3
          obtain ⟨W4, hr, hl4, hb4, hK4⟩ := fin (some (.exit id)) W3 hk3
          exact ⟨_, _, hr, hK4, .inr ⟨rfl, .exit id, hIx _ _ _ hi3 hb4, hl4⟩⟩
        | goto t =>
          obtain ⟨hk3, hi3⟩ := hp3
          obtain ⟨W4, hr, hl4, hb4, hK4⟩ := fin (some (.goto t)) W3 hk3
          exact ⟨_, _, hr, hK4, .inr ⟨rfl, .goto t, hIx _ _ _ hi3 hb4, hl4⟩⟩
        | panic ch => exact hp3.elim
        | outgrown => exact hp3.elim
      | _ => exact hp.elim
    · rintro e W2 ⟨⟨v, rfl⟩, (⟨hi, hl⟩ | ⟨c, hi, hl⟩)⟩
      · have hend := run_endLoop (P := P) hl (by rw [hrec]; simp)
        have hp : (rec .ready none).pending = none := by rw [hrec]
        rw [hp] at hend
        have hlt := (Array.getElem?_eq_some_iff.1 hl).1
        exact ⟨none, _, hend, hdone _ (hI _ _ _ hi (belowK_b (w := w) (Nat.le_refl _) W2 (w.heap.size) _ _ (by omega) hl rfl rfl))⟩
      · have hend := run_endLoop (P := P) hl (by rw [hrec]; simp)
        have hp : (rec .done (some c)).pending = some c := by rw [hrec]
        rw [hp] at hend
        exact ⟨some c, _, hend, hstop c _ (hIx _ _ _ hi (belowK_b (w := w) (Nat.le_refl _) W2 (w.heap.size) _ _ (by omega) hl rfl rfl))⟩
end
end Go.Proofs.YtjhhdnnblcbdbaaGreatDoor.val
end
section
namespace Go.Proofs.YtjhhdnnblcbdbaaGreatDoor.val
open Go.RowKit mem
set_option linter.unusedVariables false

/-- every block of cells stands -/
structure Ext (W W' : World) : Prop where
  os : W'.os = W.os
  tape : W'.tape = W.tape
  output : W'.output = W.output
  size : W.heap.size ≤ W'.heap.size
  cells : ∀ (k : Nat) (cs : Array Value) (t : TypeId) (z : Nat × Nat), W.heap[k]? = some (.cells cs t z) → W'.heap[k]? = some (.cells cs t z)
theorem Ext.of_below {W W' : World} (h : Below W.heap.size W W') : Ext W W' := ⟨h.os, h.tape, h.output, h.size, fun k cs t z hk => (h.block k (blk_lt hk)).trans hk⟩
theorem Ext.put {W : World} {l : Nat} {o : Obj} (h : W.heap[l]? = some o) (ho : ∀ cs t z, o ≠ .cells cs t z) (o' : Obj) : Ext W (W.putObj l o') :=
  ⟨rfl, rfl, rfl, by simp [World.putObj], fun k cs t z hk => (World.putObj_heap_other (by intro e; subst e; rw [h] at hk; injection hk with hk; exact ho _ _ _ hk)).trans hk⟩
theorem Ext.trans {W W' W'' : World} (h : Ext W W') (k : Ext W' W'') : Ext W W'' := ⟨k.os.trans h.os, k.tape.trans h.tape, k.output.trans h.output, Nat.le_trans h.size k.size, fun j cs t z hj => k.cells j cs t z (h.cells j cs t z hj)⟩

section
variable {P : Program}
/-- THE CONTRACT OF AN ITERATOR: N rounds; what it hands to round q of them ('encs'); it turns nothing that lay before it yields, but by laying new blocks. -/
def SeqC (P : Program) (f : Nat) (lb : Array Value) (N : Nat) (encs : Nat → Nat → World → Array Value → Prop) (n : Nat) (Pre : World → Prop) : Prop :=
  ∀ (l : Nat) (W0 : World) (J : Nat → World → Prop) (Jx : World → Prop), Pre W0 → n ≤ W0.heap.size →
    (∀ q W W', J q W → Below W.heap.size W W' → J q W') → (∀ W W', Jx W → Below W.heap.size W W' → Jx W') →
    (∀ (m q : Nat) (W1 : World) (args : Array Value), q < N → J q W1 → encs W0.heap.size q W1 args → W0.heap.size ≤ W1.heap.size → Below n W0 W1 → YieldAt Fence.wide m P l args W1 fun e W' =>
      Keep n W0.heap.size W1 W' ∧ ((e = .returned (.bool true) ∧ J (q + 1) W') ∨ (e = .returned (.bool false) ∧ Jx W'))) →
    J 0 W0 → ∀ m, CallsIn Fence.wide m P f (#[.func (.yield l) #[] #[]] ++ lb) W0 fun e W' => (∃ v, e = .returned v) ∧ (J N W' ∨ Jx W')

/-- THE RANGE, outside every round. -/
theorem range_C {g : Operand} {ps : Array Tmp} {assign body : Code} {Q : Exit → Act → World → Prop} {a : Act} {w : World} {n m : Nat} {gf : Nat} {lb : Array Value} (hg : a.eval g = .func (.func gf) #[] lb) (eg : Enters P gf)
    {N : Nat} {encs : Nat → Nat → World → Array Value → Prop} {Pre : World → Prop} (hseq : SeqC P gf lb N encs n Pre) (hn0 : n ≤ w.heap.size) (hpre : ∀ W1, Below w.heap.size w W1 → Pre W1) (hps : ∀ B q W args, encs B q W args → args.size = ps.size)
    (I : Nat → World → Prop) (Ix : Code → World → Prop) (hI : ∀ q W W', I q W → Below w.heap.size W W' → Ext W W' → I q W') (hIx : ∀ c W W', Ix c W → Below w.heap.size W W' → Ext W W' → Ix c W') (h0 : I 0 w)
    (hround : ∀ (l k q B : Nat) (W : World) (args : Array Value), w.heap.size ≤ l → l < B → B ≤ W.heap.size → q < N → I q W → encs B q W args → Below n w W →
      assign.wpIn (Fence.wide.inRound l) k P (Exit.then (fun a' W' => Keep n w.heap.size W W' ∧ I q W' ∧ ∀ W2, W2.heap.size = W'.heap.size → (∀ j, j ≠ l → W2.heap[j]? = W'.heap[j]?) → Below w.heap.size W' W2 → (∃ r, W2.heap[l]? = some (.loop r)) → I q W2 →
        body.wpIn (Fence.wide.inRound l) k P (postB n w.heap.size I Ix (q + 1) W2) a' W2) (fun _ _ _ => False)) { tmps := (ps.zip args).foldl (fun t (p, v) => t.setIfInBounds p v) a.tmps, defers := [] } W)
    (hdone : ∀ (D : Nat) (W : World), w.heap.size ≤ D → I N W → W.heap[D]? = some (.deferred (some [])) → Q .normal { a with defers := { target := .collected D, args := #[] } :: a.defers } W)
    (hstop : ∀ (D : Nat) (c : Code) (W : World), w.heap.size ≤ D → Ix c W → W.heap[D]? = some (.deferred (some [])) → c.wpIn Fence.wide m P Q { a with defers := { target := .collected D, args := #[] } :: a.defers } W) :
    (Code.rangeFunc g ps assign body).wpIn Fence.wide m P Q a w := by
  refine wpIn_rangeFunc fun fn hfn => ?_
  obtain ⟨rec, hrec⟩ : ∃ rec : LoopState → Option Code → Loop, rec = fun st pe => { state := st, pending := pe, fn, tmps := a.tmps, params := ps, assign, body, defers := w.heap.size } := ⟨_, rfl⟩
  have hK1 : ((w.alloc (.deferred (some []))).alloc (.loop (rec .ready none))).heap[w.heap.size]? = some (.deferred (some [])) := (Below.heap_alloc _ _ _ (by simp)).trans (World.alloc_heap_new w _)
  have hL1 : ((w.alloc (.deferred (some []))).alloc (.loop (rec .ready none))).heap[w.heap.size + 1]? = some (.loop (rec .ready none)) := by simpa using World.alloc_heap_new (w.alloc (.deferred (some []))) (.loop (rec .ready none))
  have hb1 : Below w.heap.size w ((w.alloc (.deferred (some []))).alloc (.loop (rec .ready none))) := ((Below.refl _ w).alloc (Nat.le_refl _) _).alloc (by simp) _
  have hs1 : w.heap.size + 2 ≤ ((w.alloc (.deferred (some []))).alloc (.loop (rec .ready none))).heap.size := by simp
  have hE : (Instr.enterLoop fn a.tmps ps assign body none).run P w = .ok (w.heap.size + 1, [{ target := .collected w.heap.size, args := #[] }]) ((w.alloc (.deferred (some []))).alloc (.loop (rec .ready none))) := by rw [hrec]; exact run_enterLoop_outer _ _ _ _ _
  generalize ((w.alloc (.deferred (some []))).alloc (.loop (rec .ready none))) = W1 at *
  refine ⟨w.heap.size + 1, _, W1, { target := .fn (.func gf) lb, args := #[.func (.yield (w.heap.size + 1)) #[] #[]] }, W1, gf, #[.func (.yield (w.heap.size + 1)) #[] #[]] ++ lb, W1, hE, ?_, ?_, ?_, (fun h => by cases h), ?_⟩
  · simp only [resolve, hg]
    simp [go_sem]
  · intro f' _
    trivial
  · have eg' : ∀ (args : Array Value) (w : World), (callFunc gf args).run P w = .ok (.enter gf args) w := eg
    simp [invoke, go_sem, eg']
  · refine (hseq (w.heap.size + 1) W1
      (fun q W => I q W ∧ W.heap[w.heap.size + 1]? = some (.loop (rec .ready none)) ∧ W.heap[w.heap.size]? = some (.deferred (some [])))
      (fun W => ∃ c, Ix c W ∧ W.heap[w.heap.size + 1]? = some (.loop (rec .done (some c))) ∧ W.heap[w.heap.size]? = some (.deferred (some [])))
      (hpre W1 hb1) (by omega)
      (fun q W W' h hb => ⟨hI q W W' h.1 (hb.mono (Nat.le_of_lt (blk_lt h.2.2))) (Ext.of_below hb), blk_below h.2.1 hb (blk_lt h.2.1), blk_below h.2.2 hb (blk_lt h.2.2)⟩)
      (fun W W' h hb => by
        obtain ⟨c, h1, h2, h3⟩ := h
        exact ⟨c, hIx c W W' h1 (hb.mono (Nat.le_of_lt (blk_lt h3))) (Ext.of_below hb), blk_below h2 hb (blk_lt h2), blk_below h3 hb (blk_lt h3)⟩)
      ?_ ⟨hI 0 w W1 h0 hb1 (Ext.of_below hb1), hL1, hK1⟩ _).mono ?_
    · rintro k q W args hq ⟨hi, hl, hk⟩ henc hsz hbw'
      have hbw : Below n w W := (hb1.mono hn0).trans hbw'
      have hlt : w.heap.size + 1 < W.heap.size := (Array.getElem?_eq_some_iff.1 hl).1
      have hy := run_yield (P := P) (args := args) hl (by rw [hrec]; exact hps _ q W args henc)
      rw [hrec] at hy
      refine ⟨fn, _, assign, body, hy, roundIn_of_wpIn hfn (wpIn_mono (hround (w.heap.size + 1) k q W1.heap.size W args (by omega) (by omega) hsz hq hi henc hbw) ?_)⟩
      clear hy
      rintro e a' Wa hp
      cases e with
      | normal =>
        obtain ⟨hka, hia, hbody⟩ := hp
        have hla := (hka.2 (w.heap.size + 1) (by omega) hlt).trans hl
        have hkda := (hka.2 w.heap.size (Nat.le_refl _) (by omega)).trans hk
        have hsa := hka.1.size
        refine ⟨_, run_beginRound hla (by rw [hrec]), ?_⟩
        have hl2 : (Wa.putObj (w.heap.size + 1) (.loop { rec .ready none with state := .busy })).heap[w.heap.size + 1]? = some (.loop { rec .ready none with state := .busy }) := World.putObj_heap_same (by omega)
        have hb2 : Below w.heap.size Wa (Wa.putObj (w.heap.size + 1) (.loop { rec .ready none with state := .busy })) := belowK_b (w := w) (Nat.le_refl _) Wa (w.heap.size + 1) _ _ (by omega) hla rfl rfl
        have hx2 : Ext Wa (Wa.putObj (w.heap.size + 1) (.loop { rec .ready none with state := .busy })) := Ext.put hla (fun _ _ _ e => by cases e) _
        have ho2 : ∀ j, j ≠ w.heap.size + 1 → (Wa.putObj (w.heap.size + 1) (.loop { rec .ready none with state := .busy })).heap[j]? = Wa.heap[j]? := fun j hj => World.putObj_heap_other (by omega)
        have hz2 : (Wa.putObj (w.heap.size + 1) (.loop { rec .ready none with state := .busy })).heap.size = Wa.heap.size := by simp [World.putObj]
        generalize (Wa.putObj (w.heap.size + 1) (.loop { rec .ready none with state := .busy })) = W2 at *
        refine wpIn_mono (hbody W2 hz2 ho2 hb2 ⟨_, hl2⟩ (hI _ _ _ hia hb2 hx2)) ?_
        have hkd2 := (ho2 w.heap.size (by omega)).trans hkda
        have hkW : Keep n W1.heap.size W W2 := (hka.from (by omega)).trans ⟨hb2.mono hn0, fun j h1 _ => ho2 j (by omega)⟩
        have fin : ∀ (jump : Option Code) (W3 : World), Keep n w.heap.size W2 W3 →
            ∃ W4, (Instr.endRound (w.heap.size + 1) jump).run P W3 = .ok (.bool jump.isNone) W4 ∧ W4.heap[w.heap.size + 1]? = some (.loop (rec (if jump.isNone then .ready else .done) jump)) ∧ W4.heap[w.heap.size]? = some (.deferred (some [])) ∧ (Below w.heap.size W3 W4 ∧ Ext W3 W4) ∧ Keep n W1.heap.size W W4 := fun jump W3 hk3 => by
          have hs3 := hk3.1.size
          have hl3 := (hk3.2 (w.heap.size + 1) (by omega) (by omega)).trans hl2
          have hkd3 := (hk3.2 w.heap.size (Nat.le_refl _) (by omega)).trans hkd2
          have hrun := run_endRound (P := P) jump hl3
          rw [hrec] at hrun ⊢
          have hb3 : Below w.heap.size W3 (W3.putObj (w.heap.size + 1) (.loop { state := if jump.isNone then .ready else .done, pending := jump, fn, tmps := a.tmps, params := ps, assign, body, defers := w.heap.size })) := belowK_b (w := w) (Nat.le_refl _) W3 (w.heap.size + 1) _ _ (by omega) hl3 rfl rfl
          exact ⟨_, hrun, World.putObj_heap_same (by omega), (World.putObj_heap_other (by omega)).trans hkd3, ⟨hb3, Ext.put hl3 (fun _ _ _ e => by cases e) _⟩, (hkW.trans (hk3.from (by omega))).trans ⟨hb3.mono hn0, fun j h1 _ => World.putObj_heap_other (by omega)⟩⟩
        rintro e a3 W3 hp3
        cases e with
        | normal =>
          obtain ⟨hk3, hi3⟩ := hp3
          obtain ⟨W4, hr, hl4, hk4, hb4, hK4⟩ := fin none W3 hk3
          exact ⟨_, _, hr, hK4, .inl ⟨rfl, hI _ _ _ hi3 hb4.1 hb4.2, hl4, hk4⟩⟩
        | ret =>
          obtain ⟨hk3, hi3⟩ := hp3
          obtain ⟨W4, hr, hl4, hk4, hb4, hK4⟩ := fin (some .ret) W3 hk3
          exact ⟨_, _, hr, hK4, .inr ⟨rfl, .ret, hIx _ _ _ hi3 hb4.1 hb4.2, hl4, hk4⟩⟩
        | exit id =>
          obtain ⟨hk3, hi3⟩ := hp3
          obtain ⟨W4, hr, hl4, hk4, hb4, hK4⟩ := fin (some (.exit id)) W3 hk3
          exact ⟨_, _, hr, hK4, .inr ⟨rfl, .exit id, hIx _ _ _ hi3 hb4.1 hb4.2, hl4, hk4⟩⟩
        | goto t =>
          obtain ⟨hk3, hi3⟩ := hp3
          obtain ⟨W4, hr, hl4, hk4, hb4, hK4⟩ := fin (some (.goto t)) W3 hk3
          exact ⟨_, _, hr, hK4, .inr ⟨rfl, .goto t, hIx _ _ _ hi3 hb4.1 hb4.2, hl4, hk4⟩⟩
        | panic ch => exact hp3.elim
        | outgrown => exact hp3.elim
      | _ => exact hp.elim
    · rintro e W2 ⟨⟨v, rfl⟩, (⟨hi, hl, hk⟩ | ⟨c, hi, hl, hk⟩)⟩
      · have hend := run_endLoop (P := P) hl (by rw [hrec]; simp)
        have hp : (rec .ready none).pending = none := by rw [hrec]
        rw [hp] at hend
        have hlt := (Array.getElem?_eq_some_iff.1 hl).1
        exact ⟨none, _, hend, hdone w.heap.size _ (Nat.le_refl _) (hI _ _ _ hi (belowK_b (w := w) (Nat.le_refl _) W2 (w.heap.size + 1) _ _ (by omega) hl rfl rfl) (Ext.put hl (fun _ _ _ e => by cases e) _)) ((World.putObj_heap_other (by omega)).trans hk)⟩
      · have hend := run_endLoop (P := P) hl (by rw [hrec]; simp)
        have hp : (rec .done (some c)).pending = some c := by rw [hrec]
        rw [hp] at hend
        exact ⟨some c, _, hend, hstop w.heap.size c _ (Nat.le_refl _) (hIx _ _ _ hi (belowK_b (w := w) (Nat.le_refl _) W2 (w.heap.size + 1) _ _ (by omega) hl rfl rfl) (Ext.put hl (fun _ _ _ e => by cases e) _)) ((World.putObj_heap_other (by omega)).trans hk)⟩
end
end Go.Proofs.YtjhhdnnblcbdbaaGreatDoor.val
end
section
namespace Go.Proofs.YtjhhdnnblcbdbaaGreatDoor.val
open Go.RowKit mem
attribute [local go_sem] run_store_float Oper.semAt_some
set_option linter.unusedVariables false

/-- what is handed to round q: some step, the child -/
def encK (S : Nat → Prop) (kids : List V) (q : Nat) (W : World) (args : Array Value) : Prop := ∃ (s : ByteArray) (j : Int) (bo : Bool) (x : V) (cs : List Value), kids[q]? = some x ∧ args = #[.agg #[.string s, .int .i64 j, .bool bo], .agg cs.toArray] ∧ IsV W S x cs
section
variable (b : Bool) (i : Int) (f : Nat) (t y : ByteArray) (A A' : Option Addr) (n m c c' : Nat) (S : Nat → Prop)
set_option maxRecDepth 100000 in
set_option maxHeartbeats 4000000 in
theorem kidseq_none (k r : Int) (h5 : r ≠ 5) (h6 : r ≠ 6) (g nn : Nat) (hK : ∀ W : World, Calls Tryz.prog 40 #[.agg #[.int .i64 k, .bool b, .int .i64 i, .float .f64 f, .string t, .string y, .slice A n c, .slice A' m c']] W fun e w' => e = .returned (.int .i64 r) ∧ Below W.heap.size W w') :
    SeqC Tryz.prog 70 #[.pointer (some ⟨g, 0, none⟩)] 0 (fun _ => encK S []) nn (fun W => W.heap[g]? = some (.cells #[.int .i64 k, .bool b, .int .i64 i, .float .f64 f, .string t, .string y, .slice A n c, .slice A' m c'] 29 (0, 0))) := by
  intro l W J Jx hpre hnW hJ hJx hY h0 m0
  have q5 : (r == 5) = false := beq_false_of_ne h5
  have q6 : (r == 6) = false := beq_false_of_ne h6
  have HK := Lib.hid hK
  have HJ0 := Lib.hid (fun W' (hb : Below W.heap.size W W') => hJ 0 W W' h0 hb)
  clear hK hJ hJx hY h0 h5 h6 hnW
  obtain ⟨m0, m1, m2, m3, m4, m5, m6, m7⟩ := blk8 hpre
  clear hpre
  refine callsIn_wide.2 ((callsIn_wide (n := 4)).1 ?_)
  show CallsIn Fence.wide 4 Tryz.prog 70 #[.func (.yield l) #[] #[], .pointer (some ⟨g, 0, none⟩)] W _
  refine callsIn_of_wp Tryz.func70 rfl trivial ?_ rfl
  simp only [Tryz.ntmps70, List.size_toArray, List.length_cons, List.length_nil, Nat.reduceAdd, Nat.reduceSub, Array.replicate_succ, Array.replicate_zero, List.push_toArray, List.append_toArray, List.nil_append, List.cons_append]
  gi_wp2_with fail
  refine ⟨trivial, (callsIn_wide.2 (HK.out _)).mono ?_⟩
  rintro e w2 ⟨rfl, hb⟩
  have HJ1 := Lib.hid (HJ0.out w2 hb)
  clear m0 m1 m2 m3 m4 m5 m6 m7 HJ0 HK hb
  gi_wp2_with fail
  go_end0
  exact ⟨⟨_, rfl⟩, .inl HJ1.out⟩
set_option maxRecDepth 100000 in
set_option maxHeartbeats 4000000 in
theorem kidseq_list (is : List V) (w : World) (g nn : Nat) (hl : is.length = n) (hn2 : n ≤ 26000000) (hI : IsVs w S is A 0) (hS : Bel S w.heap.size) (hwn : w.heap.size ≤ nn) (hK : ∀ W : World, Calls Tryz.prog 40 #[.agg #[.int .i64 5, .bool b, .int .i64 i, .float .f64 f, .string t, .string y, .slice A n c, .slice A' m c']] W fun e w' => e = .returned (.int .i64 5) ∧ Below W.heap.size W w') :
    SeqC Tryz.prog 70 #[.pointer (some ⟨g, 0, none⟩)] n (fun _ => encK S is) nn (fun W => W.heap[g]? = some (.cells #[.int .i64 5, .bool b, .int .i64 i, .float .f64 f, .string t, .string y, .slice A n c, .slice A' m c'] 29 (0, 0)) ∧ Below w.heap.size w W) := by
  rintro l W J Jx ⟨hpre, hW⟩ hnW hJ hJx hY h0 m0
  have HK := Lib.hid hK
  have HY := Lib.hid hY
  have HI := Lib.hid hI
  have HS := Lib.hid hS
  have HN := Lib.hid hl
  have HW := Lib.hid hW
  have hsw := hW.size
  clear hK hY hI hS hl hW
  have hgl := blk_lt hpre
  obtain ⟨m0, m1, m2, m3, m4, m5, m6, m7⟩ := blk8 hpre
  refine callsIn_wide.2 ((callsIn_wide (n := 4)).1 ?_)
  show CallsIn Fence.wide 4 Tryz.prog 70 #[.func (.yield l) #[] #[], .pointer (some ⟨g, 0, none⟩)] W _
  refine callsIn_of_wp Tryz.func70 rfl trivial ?_ rfl
  simp only [Tryz.ntmps70, List.size_toArray, List.length_cons, List.length_nil, Nat.reduceAdd, Nat.reduceSub, Array.replicate_succ, Array.replicate_zero, List.push_toArray, List.append_toArray, List.nil_append, List.cons_append]
  gi_wp2_with fail
  refine ⟨trivial, (callsIn_wide.2 (HK.out _)).mono ?_⟩
  rintro e w2 ⟨rfl, hb⟩
  have hJ0 := Lib.hid (hJ 0 W w2 h0 hb)
  have HB2 := Lib.hid hb
  have HG2 := blk_below hpre hb hgl
  have hz2 := hb.size
  clear m0 m1 m2 m3 m4 m5 m6 m7 HK hb h0 hpre
  obtain ⟨m0, m1, m2, m3, m4, m5, m6, m7⟩ := blk8 HG2
  clear HG2
  gi_wp2_with fail
  clear m0 m1 m2 m3 m4 m5 m6 m7
  gi_loopw [14] (fun vi wr => ∃ q : Nat, q ≤ n ∧ vi = .int .i64 (q : Int) ∧ Hid (J q wr) ∧ Hid (Keep nn W.heap.size w2 wr)) (fun i _ => n - (intOf i).toNat)
  case atStart => exact ⟨0, Nat.zero_le _, rfl, hJ0, Lib.hid (Keep.refl _ _ _)⟩
  case round =>
    obtain ⟨q, hq, rfl, HJ, hkp⟩ := hrel
    clear hJ0
    have hszr := hkp.out.1.size
    have HBR : Hid (Below w.heap.size w wr) := Lib.hid ((HW.out.trans (HB2.out.mono hsw)).trans (hkp.out.1.mono hwn))
    by_cases hlt : q < n
    · obtain ⟨x, hx⟩ : ∃ p, is[q]? = some p := ⟨_, List.getElem?_eq_getElem (by rw [HN.out]; exact hlt)⟩
      obtain ⟨ad, cs, rfl, hadB, hcs, hvx⟩ := HI.out.at_ hx
      rw [Nat.zero_add] at hcs
      have hadw : ad.block < w.heap.size := HS.out _ hadB
      have HX := Lib.hid hx
      have HVX := Lib.hid hvx
      obtain ⟨k2, b2, i2, f2, t2, y2, is2, fs2⟩ := x
      simp only [IsV] at hvx
      obtain ⟨A2, c2, A2', c2', rfl, _⟩ := hvx
      obtain ⟨d0, d1, d2, d3, d4, d5, d6, d7⟩ := (hcs.keep (S := fun b => b < w.heap.size) (by rw [add_block]; exact hadw) (fun p hp => HBR.out.cell hp)).eight
      clear hcs hx
      have hq0 : (0 : Int) ≤ (q : Int) := by omega
      have hqn : (q : Int) < (n : Int) := by omega
      have hnr : nn ≤ wr.heap.size := by omega
      have hbx : Below wr.heap.size wr (wr.alloc (.cells #[.int .i64 k2, .bool b2, .int .i64 i2, .float .f64 f2, .string t2, .string y2, .slice A2 is2.length c2, .slice A2' fs2.length c2'] 29)) := (Below.refl _ _).alloc (Nat.le_refl _) _
      have HKX := Lib.hid (hkp.out.trans (Keep.of_below (B := W.heap.size) hbx hnr))
      obtain ⟨fn, tmps, assign, body, hy, hR⟩ := HY.out 3 q (wr.alloc (.cells #[.int .i64 k2, .bool b2, .int .i64 i2, .float .f64 f2, .string t2, .string y2, .slice A2 is2.length c2, .slice A2' fs2.length c2'] 29)) #[.agg #[.string ⟨#[]⟩, .int .i64 (q : Int), .bool true], .agg #[.int .i64 k2, .bool b2, .int .i64 i2, .float .f64 f2, .string t2, .string y2, .slice A2 is2.length c2, .slice A2' fs2.length c2']] hlt (hJ q wr _ HJ.out hbx)
        ⟨⟨#[]⟩, (q : Int), true, .mk k2 b2 i2 f2 t2 y2 is2 fs2, _, HX.out, rfl, HVX.out.below HS.out (HBR.out.trans (hbx.mono (by omega)))⟩ (by have := hbx.size; omega) ((HB2.out.mono hnW).trans HKX.out.1)
      have HR := Lib.hid (RoundIn.mono hR (R' := fun e W' => ∃ bb : Bool, e = .returned (.bool bb) ∧ Keep nn W.heap.size (wr.alloc (.cells #[.int .i64 k2, .bool b2, .int .i64 i2, .float .f64 f2, .string t2, .string y2, .slice A2 is2.length c2, .slice A2' fs2.length c2'] 29)) W' ∧ (bb = true → J (q + 1) W') ∧ (bb = false → Jx W')) (fun e W' h => by
        obtain ⟨hk, (⟨rfl, hJ'⟩ | ⟨rfl, hJx'⟩)⟩ := h
        · exact ⟨true, rfl, hk, (fun _ => hJ'), (fun h => by cases h)⟩
        · exact ⟨false, rfl, hk, (fun h => by cases h), (fun _ => hJx')⟩))
      clear hR hbx
      gi_wp2_with fail
      refine HR.out.mono ?_
      rintro e W' ⟨bb, rfl, hk, hJ1, hJ2⟩
      have HKN := Lib.hid (HKX.out.trans hk)
      have HJ1 := Lib.hid hJ1
      have HJ2 := Lib.hid hJ2
      clear hJ1 hJ2 hk hy HR HKX d0 d1 d2 d3 d4 d5 d6 d7
      cases bb with
      | true =>
        gi_wp2_with fail
        exact ⟨⟨q + 1, by omega, by go_num, Lib.hid (HJ1.out (by trivial)), HKN⟩, by simp [intOf]; omega⟩
      | false =>
        gi_wp2_with fail
        first
          | exact bodyPost_ret (results_none rfl _ _ _) rfl ⟨⟨_, rfl⟩, .inr (HJ2.out (by trivial))⟩
          | exact ⟨⟨_, rfl⟩, .inr (HJ2.out (by trivial))⟩
          | (go_end0; exact ⟨⟨_, rfl⟩, .inr (HJ2.out (by trivial))⟩)
    · obtain rfl : q = n := by omega
      gi_wp2_with fail
      go_end0
      exact ⟨⟨_, rfl⟩, .inl HJ.out⟩
set_option maxRecDepth 100000 in
set_option maxHeartbeats 4000000 in
theorem kidseq_obj (fs : List (ByteArray × V)) (w : World) (g nn : Nat) (hl : fs.length = m) (hn2 : m ≤ 26000000) (hI : IsFs w S fs A' 0) (hS : Bel S w.heap.size) (hwn : w.heap.size ≤ nn) (hK : ∀ W : World, Calls Tryz.prog 40 #[.agg #[.int .i64 6, .bool b, .int .i64 i, .float .f64 f, .string t, .string y, .slice A n c, .slice A' m c']] W fun e w' => e = .returned (.int .i64 6) ∧ Below W.heap.size W w') :
    SeqC Tryz.prog 70 #[.pointer (some ⟨g, 0, none⟩)] m (fun _ => encK S (fs.map (·.2))) nn (fun W => W.heap[g]? = some (.cells #[.int .i64 6, .bool b, .int .i64 i, .float .f64 f, .string t, .string y, .slice A n c, .slice A' m c'] 29 (0, 0)) ∧ Below w.heap.size w W) := by
  rintro l W J Jx ⟨hpre, hW⟩ hnW hJ hJx hY h0 m0
  have HK := Lib.hid hK
  have HY := Lib.hid hY
  have HI := Lib.hid hI
  have HS := Lib.hid hS
  have HN := Lib.hid hl
  have HW := Lib.hid hW
  have hsw := hW.size
  clear hK hY hI hS hl hW
  have hgl := blk_lt hpre
  obtain ⟨m0, m1, m2, m3, m4, m5, m6, m7⟩ := blk8 hpre
  refine callsIn_wide.2 ((callsIn_wide (n := 4)).1 ?_)
  show CallsIn Fence.wide 4 Tryz.prog 70 #[.func (.yield l) #[] #[], .pointer (some ⟨g, 0, none⟩)] W _
  refine callsIn_of_wp Tryz.func70 rfl trivial ?_ rfl
  simp only [Tryz.ntmps70, List.size_toArray, List.length_cons, List.length_nil, Nat.reduceAdd, Nat.reduceSub, Array.replicate_succ, Array.replicate_zero, List.push_toArray, List.append_toArray, List.nil_append, List.cons_append]
  gi_wp2_with fail
  refine ⟨trivial, (callsIn_wide.2 (HK.out _)).mono ?_⟩
  rintro e w2 ⟨rfl, hb⟩
  have hJ0 := Lib.hid (hJ 0 W w2 h0 hb)
  have HB2 := Lib.hid hb
  have HG2 := blk_below hpre hb hgl
  have hz2 := hb.size
  clear m0 m1 m2 m3 m4 m5 m6 m7 HK hb h0 hpre
  obtain ⟨m0, m1, m2, m3, m4, m5, m6, m7⟩ := blk8 HG2
  clear HG2
  gi_wp2_with fail
  clear m0 m1 m2 m3 m4 m5 m6 m7
  gi_loopw [31] (fun vi wr => ∃ q : Nat, q ≤ m ∧ vi = .int .i64 (q : Int) ∧ Hid (J q wr) ∧ Hid (Keep nn W.heap.size w2 wr)) (fun i _ => m - (intOf i).toNat)
  case atStart => exact ⟨0, Nat.zero_le _, rfl, hJ0, Lib.hid (Keep.refl _ _ _)⟩
  case round =>
    obtain ⟨q, hq, rfl, HJ, hkp⟩ := hrel
    clear hJ0
    have hszr := hkp.out.1.size
    have HBR : Hid (Below w.heap.size w wr) := Lib.hid ((HW.out.trans (HB2.out.mono hsw)).trans (hkp.out.1.mono hwn))
    by_cases hlt : q < m
    · obtain ⟨x, hx⟩ : ∃ p, fs[q]? = some p := ⟨_, List.getElem?_eq_getElem (by rw [HN.out]; exact hlt)⟩
      obtain ⟨sn, x⟩ := x
      obtain ⟨ad, cs, rfl, hadB, hcs, hvx⟩ := HI.out.at_ hx
      rw [Nat.zero_add] at hcs
      simp only at hcs hvx
      have hadw : ad.block < w.heap.size := HS.out _ hadB
      have HX : Hid ((fs.map (·.2))[q]? = some x) := Lib.hid (by rw [List.getElem?_map, hx]; rfl)
      have HVX := Lib.hid hvx
      obtain ⟨k2, b2, i2, f2, t2, y2, is2, fs2⟩ := x
      simp only [IsV] at hvx
      obtain ⟨A2, c2, A2', c2', rfl, _⟩ := hvx
      obtain ⟨d0, d1, d2, d3, d4, d5, d6, d7, d8⟩ := (hcs.keep (S := fun b => b < w.heap.size) (by rw [add_block]; exact hadw) (fun p hp => HBR.out.cell hp)).nine
      clear hcs hx
      have hq0 : (0 : Int) ≤ (q : Int) := by omega
      have hqn : (q : Int) < (m : Int) := by omega
      have hnr : nn ≤ wr.heap.size := by omega
      have hbx : Below wr.heap.size wr (wr.alloc (.cells #[.string sn, .int .i64 k2, .bool b2, .int .i64 i2, .float .f64 f2, .string t2, .string y2, .slice A2 is2.length c2, .slice A2' fs2.length c2'] 54)) := (Below.refl _ _).alloc (Nat.le_refl _) _
      have HKX := Lib.hid (hkp.out.trans (Keep.of_below (B := W.heap.size) hbx hnr))
      obtain ⟨fn, tmps, assign, body, hy, hR⟩ := HY.out 3 q (wr.alloc (.cells #[.string sn, .int .i64 k2, .bool b2, .int .i64 i2, .float .f64 f2, .string t2, .string y2, .slice A2 is2.length c2, .slice A2' fs2.length c2'] 54)) #[.agg #[.string sn, .int .i64 0, .bool false], .agg #[.int .i64 k2, .bool b2, .int .i64 i2, .float .f64 f2, .string t2, .string y2, .slice A2 is2.length c2, .slice A2' fs2.length c2']] hlt (hJ q wr _ HJ.out hbx)
        ⟨sn, 0, false, .mk k2 b2 i2 f2 t2 y2 is2 fs2, _, HX.out, rfl, HVX.out.below HS.out (HBR.out.trans (hbx.mono (by omega)))⟩ (by have := hbx.size; omega) ((HB2.out.mono hnW).trans HKX.out.1)
      have HR := Lib.hid (RoundIn.mono hR (R' := fun e W' => ∃ bb : Bool, e = .returned (.bool bb) ∧ Keep nn W.heap.size (wr.alloc (.cells #[.string sn, .int .i64 k2, .bool b2, .int .i64 i2, .float .f64 f2, .string t2, .string y2, .slice A2 is2.length c2, .slice A2' fs2.length c2'] 54)) W' ∧ (bb = true → J (q + 1) W') ∧ (bb = false → Jx W')) (fun e W' h => by
        obtain ⟨hk, (⟨rfl, hJ'⟩ | ⟨rfl, hJx'⟩)⟩ := h
        · exact ⟨true, rfl, hk, (fun _ => hJ'), (fun h => by cases h)⟩
        · exact ⟨false, rfl, hk, (fun h => by cases h), (fun _ => hJx')⟩))
      clear hR hbx
      gi_wp2_with fail
      refine HR.out.mono ?_
      rintro e W' ⟨bb, rfl, hk, hJ1, hJ2⟩
      have HKN := Lib.hid (HKX.out.trans hk)
      have HJ1 := Lib.hid hJ1
      have HJ2 := Lib.hid hJ2
      clear hJ1 hJ2 hk hy HR HKX d0 d1 d2 d3 d4 d5 d6 d7 d8
      cases bb with
      | true =>
        gi_wp2_with fail
        exact ⟨⟨q + 1, by omega, by go_num, Lib.hid (HJ1.out (by trivial)), HKN⟩, by simp [intOf]; omega⟩
      | false =>
        gi_wp2_with fail
        first
          | exact bodyPost_ret (results_none rfl _ _ _) rfl ⟨⟨_, rfl⟩, .inr (HJ2.out (by trivial))⟩
          | exact ⟨⟨_, rfl⟩, .inr (HJ2.out (by trivial))⟩
          | (go_end0; exact ⟨⟨_, rfl⟩, .inr (HJ2.out (by trivial))⟩)
    · obtain rfl : q = m := by omega
      gi_wp2_with fail
      go_end0
      exact ⟨⟨_, rfl⟩, .inl HJ.out⟩
end
end Go.Proofs.YtjhhdnnblcbdbaaGreatDoor.val
end
section
namespace Go.Proofs.YtjhhdnnblcbdbaaGreatDoor.jw
open Go.RowKit mem val jp
attribute [local go_sem] run_store_float
set_option linter.unusedVariables false

/-- same at one value, read at two places -/
def AlkPost (w : World) (e : Ending) (w' : World) : Prop := e = .returned (.bool true) ∧ Below w.heap.size w w'

set_option maxRecDepth 100000 in
set_option maxHeartbeats 4000000 in
theorem alike_refl (hsame : SameOk) : ∀ (N : Nat) (v : V), sz v ≤ N → N ≤ 26000000 → flk v → ∀ (cs ds : List Value) (w : World) (S S' : Nat → Prop), IsV w S v cs → IsV w S' v ds → Bel S w.heap.size → Bel S' w.heap.size →
    Calls Tryz.prog 15 #[.agg cs.toArray, .agg ds.toArray] w (AlkPost w) := by
  have HSM := Lib.hid hsame
  clear hsame
  intro N
  induction N with
  | zero => intro v hv; have := sz_pos v; omega
  | succ N ih =>
    intro v hv hN hok cs ds w S S' hV hV' hB hB'
    obtain ⟨k, b, i, f, t, y, is, fs⟩ := v
    simp only [IsV] at hV hV'
    obtain ⟨A, c, A', c', rfl, hA, hA', his, hfs⟩ := hV
    obtain ⟨C, d, C', d', rfl, hC, hC', jis, jfs⟩ := hV'
    simp only [sz] at hv
    simp only [flk] at hok
    obtain ⟨hfb, hos, hof⟩ := hok
    have HOS := Lib.hid hos
    have HOF := Lib.hid hof
    clear hos hof
    have hl1 := szs_len is
    have hl2 := szf_len fs
    have IH := Lib.hid ih
    have HB := Lib.hid hB
    have HB' := Lib.hid hB'
    have HI := Lib.hid his
    have HF := Lib.hid hfs
    have HJ := Lib.hid jis
    have HG := Lib.hid jfs
    clear ih hB hB' his hfs jis jfs hA hA' hC hC'
    go_enter Tryz.func15, Tryz.ntmps15
    go_wp2_with (go_at_call 18; refine (HSM.out _ hfb _).mono ?_; rintro e w' ⟨rfl, rfl⟩)
    have g1 : ((w.alloc (.cells #[.int .i64 k, .bool b, .int .i64 i, .float .f64 f, .string t, .string y, .slice A is.length c, .slice A' fs.length c'] 29)).alloc (.cells #[.int .i64 k, .bool b, .int .i64 i, .float .f64 f, .string t, .string y, .slice C is.length d, .slice C' fs.length d'] 29)).heap[w.heap.size]? = some (.cells #[.int .i64 k, .bool b, .int .i64 i, .float .f64 f, .string t, .string y, .slice A is.length c, .slice A' fs.length c'] 29) := blk_alloc (heap_alloc_new _ _) _
    have g2 : ((w.alloc (.cells #[.int .i64 k, .bool b, .int .i64 i, .float .f64 f, .string t, .string y, .slice A is.length c, .slice A' fs.length c'] 29)).alloc (.cells #[.int .i64 k, .bool b, .int .i64 i, .float .f64 f, .string t, .string y, .slice C is.length d, .slice C' fs.length d'] 29)).heap[w.heap.size + 1]? = some (.cells #[.int .i64 k, .bool b, .int .i64 i, .float .f64 f, .string t, .string y, .slice C is.length d, .slice C' fs.length d'] 29) := by
      have := heap_alloc_new (w.alloc (.cells #[.int .i64 k, .bool b, .int .i64 i, .float .f64 f, .string t, .string y, .slice A is.length c, .slice A' fs.length c'] 29)) (.cells #[.int .i64 k, .bool b, .int .i64 i, .float .f64 f, .string t, .string y, .slice C is.length d, .slice C' fs.length d'] 29)
      simpa using this
    have gb : Below w.heap.size w ((w.alloc (.cells #[.int .i64 k, .bool b, .int .i64 i, .float .f64 f, .string t, .string y, .slice A is.length c, .slice A' fs.length c'] 29)).alloc (.cells #[.int .i64 k, .bool b, .int .i64 i, .float .f64 f, .string t, .string y, .slice C is.length d, .slice C' fs.length d'] 29)) := ((Below.refl _ _).alloc (Nat.le_refl _) _).alloc (by simp) _
    have gs : ((w.alloc (.cells #[.int .i64 k, .bool b, .int .i64 i, .float .f64 f, .string t, .string y, .slice A is.length c, .slice A' fs.length c'] 29)).alloc (.cells #[.int .i64 k, .bool b, .int .i64 i, .float .f64 f, .string t, .string y, .slice C is.length d, .slice C' fs.length d'] 29)).heap.size = w.heap.size + 2 := by simp
    generalize ((w.alloc (.cells #[.int .i64 k, .bool b, .int .i64 i, .float .f64 f, .string t, .string y, .slice A is.length c, .slice A' fs.length c'] 29)).alloc (.cells #[.int .i64 k, .bool b, .int .i64 i, .float .f64 f, .string t, .string y, .slice C is.length d, .slice C' fs.length d'] 29)) = w0 at *
    have G1 := Lib.hid g1
    have G2 := Lib.hid g2
    have gs' : w.heap.size + 2 ≤ w0.heap.size := by omega
    clear g1 g2 gs
    go_loopw [5] (fun vi W => ∃ q : Nat, q ≤ is.length ∧ vi = .int .i64 (q : Int) ∧ Below (w.heap.size + 2) w0 W) (fun i _ => is.length - (intOf i).toNat)
    case atStart => exact ⟨0, Nat.zero_le _, rfl, Below.refl _ _⟩
    case round =>
      obtain ⟨q, hq, rfl, hb⟩ := hrel
      have hbw : Below w.heap.size w wr := gb.trans (hb.mono (by omega))
      have hszr := hb.size
      have R1 := Lib.hid (blk_below G1.out hb (by omega))
      have R2 := Lib.hid (blk_below G2.out hb (by omega))
      by_cases hlt : q < is.length
      · have hx : is[q]? = some is[q] := List.getElem?_eq_getElem hlt
        obtain ⟨ad, cs, rfl, hadB, hcs, hvx⟩ := (HI.out.below HB.out hbw).at_ hx
        obtain ⟨ae, ds, rfl, haeB, hds, hvy⟩ := (HJ.out.below HB'.out hbw).at_ hx
        have hszx := szs_get hx
        have hoky := flks_get HOS.out hx
        generalize is[q] = x at *
        have hvx2 := Lib.hid hvx
        have hvy2 := Lib.hid hvy
        obtain ⟨k2, b2, i2, f2, t2, y2, is2, fs2⟩ := x
        simp only [IsV] at hvx hvy
        obtain ⟨A2, c2, A2', c2', rfl, _⟩ := hvx
        obtain ⟨C2, e2, C2', e2', rfl, _⟩ := hvy
        obtain ⟨d0, d1, d2, d3, d4, d5, d6, d7⟩ := hcs.eight
        obtain ⟨n0, n1, n2, n3, n4, n5, n6, n7⟩ := hds.eight
        rw [Nat.zero_add] at d0 d1 d2 d3 d4 d5 d6 d7 n0 n1 n2 n3 n4 n5 n6 n7
        have HC := Lib.hid (fun (W : World) (hW : Below w.heap.size wr W) (hWB : w.heap.size ≤ W.heap.size) => IH.out _ (by omega) (by omega) hoky _ _ W S S' (hvx2.out.below HB.out hW) (hvy2.out.below HB'.out hW) (HB.out.mono hWB) (HB'.out.mono hWB))
        clear hcs hds hx hvx2 hvy2 IH
        have a6 := (blk8 R1.out).2.2.2.2.2.2.1
        have b6 := (blk8 R2.out).2.2.2.2.2.2.1
        have hlq : (q : Int) < (is.length : Int) := by omega
        have h0q : (0 : Int) ≤ (q : Int) := by omega
        have hrefl : Below w.heap.size wr wr.drew := (Below.refl _ _).drew
        go_wp2_with fail
        go_region_held3 (fun w' => w'.cell? ⟨w.heap.size, 6, none⟩ = some (.slice (some ad) is.length c) ∧ w'.cell? ⟨w.heap.size + 1, 6, none⟩ = some (.slice (some ae) is.length d) ∧
            w'.cell? (ad.add (q * 8)) = some (.int .i64 k2) ∧ w'.cell? ⟨(ad.add (q * 8)).block, (ad.add (q * 8)).off + 1, none⟩ = some (.bool b2) ∧ w'.cell? ⟨(ad.add (q * 8)).block, (ad.add (q * 8)).off + 2, none⟩ = some (.int .i64 i2) ∧ w'.cell? ⟨(ad.add (q * 8)).block, (ad.add (q * 8)).off + 3, none⟩ = some (.float .f64 f2) ∧ w'.cell? ⟨(ad.add (q * 8)).block, (ad.add (q * 8)).off + 4, none⟩ = some (.string t2) ∧ w'.cell? ⟨(ad.add (q * 8)).block, (ad.add (q * 8)).off + 5, none⟩ = some (.string y2) ∧ w'.cell? ⟨(ad.add (q * 8)).block, (ad.add (q * 8)).off + 6, none⟩ = some (.slice A2 is2.length c2) ∧ w'.cell? ⟨(ad.add (q * 8)).block, (ad.add (q * 8)).off + 7, none⟩ = some (.slice A2' fs2.length c2') ∧
            w'.cell? (ae.add (q * 8)) = some (.int .i64 k2) ∧ w'.cell? ⟨(ae.add (q * 8)).block, (ae.add (q * 8)).off + 1, none⟩ = some (.bool b2) ∧ w'.cell? ⟨(ae.add (q * 8)).block, (ae.add (q * 8)).off + 2, none⟩ = some (.int .i64 i2) ∧ w'.cell? ⟨(ae.add (q * 8)).block, (ae.add (q * 8)).off + 3, none⟩ = some (.float .f64 f2) ∧ w'.cell? ⟨(ae.add (q * 8)).block, (ae.add (q * 8)).off + 4, none⟩ = some (.string t2) ∧ w'.cell? ⟨(ae.add (q * 8)).block, (ae.add (q * 8)).off + 5, none⟩ = some (.string y2) ∧ w'.cell? ⟨(ae.add (q * 8)).block, (ae.add (q * 8)).off + 6, none⟩ = some (.slice C2 is2.length e2) ∧ w'.cell? ⟨(ae.add (q * 8)).block, (ae.add (q * 8)).off + 7, none⟩ = some (.slice C2' fs2.length e2'))
          (first | exact ⟨a6, b6, d0, d1, d2, d3, d4, d5, d6, d7, n0, n1, n2, n3, n4, n5, n6, n7⟩ | (have kk := fun (a : Addr) (u : Value) (hh : wr.cell? a = some u) => (hb3.cell (p := a) (World.block_lt_of_cell? wr a hh)).trans hh; exact ⟨kk _ _ a6, kk _ _ b6, kk _ _ d0, kk _ _ d1, kk _ _ d2, kk _ _ d3, kk _ _ d4, kk _ _ d5, kk _ _ d6, kk _ _ d7, kk _ _ n0, kk _ _ n1, kk _ _ n2, kk _ _ n3, kk _ _ n4, kk _ _ n5, kk _ _ n6, kk _ _ n7⟩))
          (first | (go_at_call 15; go_must (refine (HC.out _ hrefl (by simp; omega)).mono ?_; rintro e wc ⟨rfl, hb3⟩)))
        clear d0 d1 d2 d3 d4 d5 d6 d7 n0 n1 n2 n3 n4 n5 n6 n7 HC
        go_wp2_with fail
        exact ⟨⟨q + 1, by omega, by go_num, hb.drew.trans (hb3.mono (by simp; omega))⟩, by simp [intOf]; omega⟩
      · obtain rfl : q = is.length := by omega
        have a6 := (blk8 R1.out).2.2.2.2.2.2.1
        clear HI HJ
        go_wp2_with fail
        clear a6 R1 R2 hbw hszr
        go_loopw [6] (fun vi W => ∃ q : Nat, q ≤ fs.length ∧ vi = .int .i64 (q : Int) ∧ Below (w.heap.size + 2) w0 W) (fun i _ => fs.length - (intOf i).toNat)
        case atStart => exact ⟨0, Nat.zero_le _, rfl, hb⟩
        case round =>
          clear hb
          obtain ⟨q, hq, rfl, hb⟩ := hrel
          have hbw : Below w.heap.size w wr := gb.trans (hb.mono (by omega))
          have hszr := hb.size
          have R1 := Lib.hid (blk_below G1.out hb (by omega))
          have R2 := Lib.hid (blk_below G2.out hb (by omega))
          by_cases hlt : q < fs.length
          · have hx : fs[q]? = some fs[q] := List.getElem?_eq_getElem hlt
            obtain ⟨ad, cs, rfl, hadB, hcs, hvx⟩ := (HF.out.below HB.out hbw).at_ hx
            obtain ⟨ae, ds, rfl, haeB, hds, hvy⟩ := (HG.out.below HB'.out hbw).at_ hx
            have hszx := szf_get hx
            have hoky := flkf_get HOF.out hx
            generalize fs[q] = x at *
            have hvx2 := Lib.hid hvx
            have hvy2 := Lib.hid hvy
            obtain ⟨s2, k2, b2, i2, f2, t2, y2, is2, fs2⟩ := x
            simp only [IsV] at hvx hvy
            obtain ⟨A2, c2, A2', c2', rfl, _⟩ := hvx
            obtain ⟨C2, e2, C2', e2', rfl, _⟩ := hvy
            obtain ⟨d0, d1, d2, d3, d4, d5, d6, d7, d8⟩ := hcs.nine
            obtain ⟨n0, n1, n2, n3, n4, n5, n6, n7, n8⟩ := hds.nine
            rw [Nat.zero_add] at d0 d1 d2 d3 d4 d5 d6 d7 d8 n0 n1 n2 n3 n4 n5 n6 n7 n8
            have HC := Lib.hid (fun (W : World) (hW : Below w.heap.size wr W) (hWB : w.heap.size ≤ W.heap.size) => IH.out _ (by omega) (by omega) hoky _ _ W S S' (hvx2.out.below HB.out hW) (hvy2.out.below HB'.out hW) (HB.out.mono hWB) (HB'.out.mono hWB))
            clear hcs hds hx hvx2 hvy2 IH
            have a7 := (blk8 R1.out).2.2.2.2.2.2.2
            have b7 := (blk8 R2.out).2.2.2.2.2.2.2
            have hlq : (q : Int) < (fs.length : Int) := by omega
            have h0q : (0 : Int) ≤ (q : Int) := by omega
            have hrefl : Below w.heap.size wr wr.drew := (Below.refl _ _).drew
            go_wp2_with fail
            go_region_held3 (fun w' => w'.cell? ⟨w.heap.size, 7, none⟩ = some (.slice (some ad) fs.length c') ∧ w'.cell? ⟨w.heap.size + 1, 7, none⟩ = some (.slice (some ae) fs.length d') ∧
                w'.cell? (ad.add (q * 9)) = some (.string s2) ∧ w'.cell? ⟨(ad.add (q * 9)).block, (ad.add (q * 9)).off + 1, none⟩ = some (.int .i64 k2) ∧ w'.cell? ⟨(ad.add (q * 9)).block, (ad.add (q * 9)).off + 1 + 1, none⟩ = some (.bool b2) ∧ w'.cell? ⟨(ad.add (q * 9)).block, (ad.add (q * 9)).off + 1 + 2, none⟩ = some (.int .i64 i2) ∧ w'.cell? ⟨(ad.add (q * 9)).block, (ad.add (q * 9)).off + 1 + 3, none⟩ = some (.float .f64 f2) ∧ w'.cell? ⟨(ad.add (q * 9)).block, (ad.add (q * 9)).off + 1 + 4, none⟩ = some (.string t2) ∧ w'.cell? ⟨(ad.add (q * 9)).block, (ad.add (q * 9)).off + 1 + 5, none⟩ = some (.string y2) ∧ w'.cell? ⟨(ad.add (q * 9)).block, (ad.add (q * 9)).off + 1 + 6, none⟩ = some (.slice A2 is2.length c2) ∧ w'.cell? ⟨(ad.add (q * 9)).block, (ad.add (q * 9)).off + 1 + 7, none⟩ = some (.slice A2' fs2.length c2') ∧
                w'.cell? (ae.add (q * 9)) = some (.string s2) ∧ w'.cell? ⟨(ae.add (q * 9)).block, (ae.add (q * 9)).off + 1, none⟩ = some (.int .i64 k2) ∧ w'.cell? ⟨(ae.add (q * 9)).block, (ae.add (q * 9)).off + 1 + 1, none⟩ = some (.bool b2) ∧ w'.cell? ⟨(ae.add (q * 9)).block, (ae.add (q * 9)).off + 1 + 2, none⟩ = some (.int .i64 i2) ∧ w'.cell? ⟨(ae.add (q * 9)).block, (ae.add (q * 9)).off + 1 + 3, none⟩ = some (.float .f64 f2) ∧ w'.cell? ⟨(ae.add (q * 9)).block, (ae.add (q * 9)).off + 1 + 4, none⟩ = some (.string t2) ∧ w'.cell? ⟨(ae.add (q * 9)).block, (ae.add (q * 9)).off + 1 + 5, none⟩ = some (.string y2) ∧ w'.cell? ⟨(ae.add (q * 9)).block, (ae.add (q * 9)).off + 1 + 6, none⟩ = some (.slice C2 is2.length e2) ∧ w'.cell? ⟨(ae.add (q * 9)).block, (ae.add (q * 9)).off + 1 + 7, none⟩ = some (.slice C2' fs2.length e2'))
              (first | exact ⟨a7, b7, d0, d1, d2, d3, d4, d5, d6, d7, d8, n0, n1, n2, n3, n4, n5, n6, n7, n8⟩ | (have kk := fun (a : Addr) (u : Value) (hh : wr.cell? a = some u) => (hb3.cell (p := a) (World.block_lt_of_cell? wr a hh)).trans hh; exact ⟨kk _ _ a7, kk _ _ b7, kk _ _ d0, kk _ _ d1, kk _ _ d2, kk _ _ d3, kk _ _ d4, kk _ _ d5, kk _ _ d6, kk _ _ d7, kk _ _ d8, kk _ _ n0, kk _ _ n1, kk _ _ n2, kk _ _ n3, kk _ _ n4, kk _ _ n5, kk _ _ n6, kk _ _ n7, kk _ _ n8⟩))
              (first | (go_at_call 15; go_must (refine (HC.out _ hrefl (by simp; omega)).mono ?_; rintro e wc ⟨rfl, hb3⟩)))
            clear d0 d1 d2 d3 d4 d5 d6 d7 d8 n0 n1 n2 n3 n4 n5 n6 n7 n8 HC
            go_wp2_with fail
            exact ⟨⟨q + 1, by omega, by go_num, hb.drew.trans (hb3.mono (by simp; omega))⟩, by simp [intOf]; omega⟩
          · obtain rfl : q = fs.length := by omega
            have a7 := (blk8 R1.out).2.2.2.2.2.2.2
            go_wp2_with fail
            go_ret
            exact ⟨rfl, hbw⟩
end Go.Proofs.YtjhhdnnblcbdbaaGreatDoor.jw
end
section
namespace Go.Proofs.YtjhhdnnblcbdbaaGreatDoor.jw
open Go.RowKit mem val jp
attribute [local go_sem] run_store_float Oper.semAt_some
set_option linter.unusedVariables false

def kdn (k : Int) : Int := if k < 0 ∨ 7 < k then 0 else k
theorem dptf_kids : ∀ fs : List (ByteArray × V), dptf fs = dpts (fs.map (·.2))
  | [] => rfl
  | (s, v) :: r => by simp only [dptf, dpts, List.map_cons, dptf_kids r]
mutual
theorem dpt_le : ∀ v : V, dpt v ≤ sz v
  | .mk k b i f t y is fs => by
    have h1 := dpts_le is
    have h2 := dptf_le fs
    simp only [dpt, sz]
    split
    · omega
    · split <;> omega
theorem dpts_le : ∀ l : List V, dpts l ≤ szs l
  | [] => by simp [dpts]
  | v :: r => by
    have h1 := dpt_le v
    have h2 := dpts_le r
    simp only [dpts, szs]
    omega
theorem dptf_le : ∀ l : List (ByteArray × V), dptf l ≤ szf l
  | [] => by simp [dptf]
  | (s, v) :: r => by
    have h1 := dpt_le v
    have h2 := dptf_le r
    simp only [dptf, szf]
    omega
end
theorem dpts_take {l : List V} {q : Nat} {x : V} (h : l[q]? = some x) : dpts (l.take (q + 1)) = max (dpts (l.take q)) (dpt x) := by
  induction l generalizing q with
  | nil => simp at h
  | cons a r ih =>
    cases q with
    | zero => simp at h; subst h; simp [dpts]
    | succ q =>
      have := ih (q := q) (by simpa using h)
      simp only [List.take_succ_cons, dpts]
      rw [this, Nat.max_assoc]
theorem dpts_take_le (l : List V) (q : Nat) : dpts (l.take q) ≤ dpts l := by
  induction l generalizing q with
  | nil => simp [dpts]
  | cons a r ih =>
    cases q with
    | zero => simp [dpts]
    | succ q =>
      have := ih q
      simp only [List.take_succ_cons, dpts]
      omega
section
variable (b : Bool) (i : Int) (f : Nat) (t y : ByteArray) (A A' : Option Addr) (n m c c' : Nat) (w : World)
set_option maxRecDepth 100000 in
theorem tkind_any (k : Int) : Calls Tryz.prog 40 #[.agg #[.int .i64 k, .bool b, .int .i64 i, .float .f64 f, .string t, .string y, .slice A n c, .slice A' m c']] w fun e w' => e = .returned (.int .i64 (kdn k)) ∧ Below w.heap.size w w' := by
  by_cases h : k < 0 ∨ 7 < k
  · have hk : kdn k = 0 := if_pos h
    rw [hk]
    clear hk
    rcases h with h | h
    all_goals
      go_enter Tryz.func40, Tryz.ntmps40
      go_wp2_with fail
      first | (exfalso; omega) | skip
      all_goals first
        | (exfalso; omega)
        | (go_ret; exact ⟨rfl, (Below.refl _ _).alloc (Nat.le_refl _) _⟩)
  · have hk : kdn k = k := if_neg h
    rw [hk]
    clear hk
    have h1 : ¬ k < 0 := fun e => h (.inl e)
    have h2 : ¬ 7 < k := fun e => h (.inr e)
    clear h
    go_enter Tryz.func40, Tryz.ntmps40
    go_wp2_with fail
    go_ret
    exact ⟨rfl, (Below.refl _ _).alloc (Nat.le_refl _) _⟩
theorem children_any (k : Int) : Calls Tryz.prog 41 #[.agg #[.int .i64 k, .bool b, .int .i64 i, .float .f64 f, .string t, .string y, .slice A n c, .slice A' m c']] w fun e w' => e = .returned (.func (.func 70) #[] #[.pointer (some ⟨w.heap.size, 0, none⟩)]) ∧ w' = w.alloc (.cells #[.int .i64 k, .bool b, .int .i64 i, .float .f64 f, .string t, .string y, .slice A n c, .slice A' m c'] 29) := by
  go_enter Tryz.func41, Tryz.ntmps41
  go_wp2_with fail
  go_ret
  exact ⟨rfl, rfl⟩
end
def TpPost (x : Nat) (w : World) (e : Ending) (w' : World) : Prop := e = .returned (.int .i64 (x : Int)) ∧ Below w.heap.size w w'
/-- while the range runs -/
structure DpSt (w : World) (g : Nat) (kids : List V) (q : Nat) (wr : World) : Prop where
  be : Below w.heap.size w wr
  c : wr.heap[g]? = some (.cells #[.int .i64 ((dpts (kids.take q) : Nat) : Int)] 3 (0, 0))
section
variable (b : Bool) (i : Int) (f : Nat) (t y : ByteArray) (A A' : Option Addr) (n m c c' : Nat) (w : World)
theorem DpSt.keep {g : Nat} {kids : List V} {q B : Nat} {W W' : World} (h : DpSt w g kids q W) (hB : w.heap.size ≤ B) (hg : g < B) (hb : Below B W W') : DpSt w g kids q W' :=
  ⟨h.be.trans (hb.mono hB), blk_below h.c hb hg⟩
set_option maxRecDepth 100000 in
set_option maxHeartbeats 4000000 in
theorem tdepth_flat (k r : Int) (h5 : r ≠ 5) (h6 : r ≠ 6) (hK : ∀ W : World, Calls Tryz.prog 40 #[.agg #[.int .i64 k, .bool b, .int .i64 i, .float .f64 f, .string t, .string y, .slice A n c, .slice A' m c']] W fun e w' => e = .returned (.int .i64 r) ∧ Below W.heap.size W w') : Calls Tryz.prog 21 #[.agg #[.int .i64 k, .bool b, .int .i64 i, .float .f64 f, .string t, .string y, .slice A n c, .slice A' m c']] w (TpPost 0 w) := by
  have q5 : (r != 5) = true := by simp [h5]
  have q6 : (r != 6) = true := by simp [h6]
  have HK := Lib.hid hK
  clear hK h5 h6
  refine (callsIn_wide (n := 6)).1 ?_
  refine callsIn_of_wp Tryz.func21 rfl trivial ?_ rfl
  simp only [Tryz.ntmps21, List.size_toArray, List.length_cons, List.length_nil, Nat.reduceAdd, Nat.reduceSub, Array.replicate_succ, Array.replicate_zero, List.push_toArray, List.append_toArray, List.nil_append, List.cons_append]
  gi_wp2_with fail
  refine ⟨trivial, (callsIn_wide.2 (HK.out _)).mono ?_⟩
  rintro e w2 ⟨rfl, hb⟩
  have hb2 := ((Below.refl w.heap.size w).alloc (Nat.le_refl _) (.cells #[.int .i64 k, .bool b, .int .i64 i, .float .f64 f, .string t, .string y, .slice A n c, .slice A' m c'] 29)).trans (hb.mono (by simp))
  clear HK hb
  gi_wp2_with fail
  go_ret
  exact ⟨rfl, hb2⟩
set_option maxRecDepth 100000 in
set_option maxHeartbeats 4000000 in
theorem tdepth_kids (k : Int) (hk : k = 5 ∨ k = 6) (S : Nat → Prop) (kids : List V) (hd : dpts kids ≤ 26000000) (hS : Bel S w.heap.size) (hK : ∀ W : World, Calls Tryz.prog 40 #[.agg #[.int .i64 k, .bool b, .int .i64 i, .float .f64 f, .string t, .string y, .slice A n c, .slice A' m c']] W fun e w' => e = .returned (.int .i64 k) ∧ Below W.heap.size W w')
    (hseq : ∀ g, SeqC Tryz.prog 70 #[.pointer (some ⟨g, 0, none⟩)] kids.length (fun _ => encK S kids) w.heap.size (fun W => W.heap[g]? = some (.cells #[.int .i64 k, .bool b, .int .i64 i, .float .f64 f, .string t, .string y, .slice A n c, .slice A' m c'] 29 (0, 0)) ∧ Below w.heap.size w W))
    (hR : ∀ W x cs, Below w.heap.size w W → x ∈ kids → IsV W S x cs → Calls Tryz.prog 21 #[.agg cs.toArray] W (TpPost (dpt x) W)) : Calls Tryz.prog 21 #[.agg #[.int .i64 k, .bool b, .int .i64 i, .float .f64 f, .string t, .string y, .slice A n c, .slice A' m c']] w (TpPost (dpts kids + 1) w) := by
  have q56 : ((k != 5) = true ∧ (k != 6) = false) ∨ (k != 5) = false := by rcases hk with rfl | rfl <;> simp
  have HK := Lib.hid hK
  have HQ := Lib.hid hseq
  have HR := Lib.hid hR
  have HS := Lib.hid hS
  clear hK hseq hR hS hk
  obtain ⟨W1, hW1⟩ : ∃ W1, w.alloc (.cells #[.int .i64 k, .bool b, .int .i64 i, .float .f64 f, .string t, .string y, .slice A n c, .slice A' m c'] 29) = W1 := ⟨_, rfl⟩
  have hz1 : W1.heap[w.heap.size]? = some (.cells #[.int .i64 k, .bool b, .int .i64 i, .float .f64 f, .string t, .string y, .slice A n c, .slice A' m c'] 29 (0, 0)) := by rw [← hW1]; exact heap_alloc_new _ _
  have hb0 : Below w.heap.size w W1 := by rw [← hW1]; exact (Below.refl _ _).alloc (Nat.le_refl _) _
  have hs1 : W1.heap.size = w.heap.size + 1 := by rw [← hW1]; simp
  obtain ⟨m0, m1, m2, m3, m4, m5, m6, m7⟩ := blk8 hz1
  refine (callsIn_wide (n := 6)).1 ?_
  refine callsIn_of_wp_marks Tryz.func21 rfl trivial ?_ rfl
  simp only [Tryz.ntmps21, List.size_toArray, List.length_cons, List.length_nil, Nat.reduceAdd, Nat.reduceSub, Array.replicate_succ, Array.replicate_zero, List.push_toArray, List.append_toArray, List.nil_append, List.cons_append]
  gi_wp2_with fail
  refine ⟨trivial, (callsIn_wide.2 (HK.out _)).mono ?_⟩
  rintro e w1 ⟨rfl, hb1⟩
  have hs2 := hb1.size
  have g1 := blk_below hz1 hb1 (by omega)
  have HB1 := Lib.hid (hb0.trans (hb1.mono (by omega)))
  clear m0 m1 m2 m3 m4 m5 m6 m7 hz1 HK hW1 hb1 hb0
  obtain ⟨m0, m1, m2, m3, m4, m5, m6, m7⟩ := blk8 g1
  rcases q56 with ⟨q5, q6⟩ | q5
  all_goals
    gi_upto_region 5 with (fail)
    have hA : (w1.alloc (.cells #[.int .i64 0] 3)).heap[w1.heap.size]? = some (.cells #[.int .i64 0] 3 (0, 0)) := heap_alloc_new _ _
    have hbA : Below w1.heap.size w1 (w1.alloc (.cells #[.int .i64 0] 3)) := (Below.refl _ _).alloc (Nat.le_refl _) _
    have hsA : (w1.alloc (.cells #[.int .i64 0] 3)).heap.size = w1.heap.size + 1 := by simp
    have gA := blk_below g1 hbA (by omega)
    replace hsA := Nat.le_of_eq hsA.symm
    generalize (w1.alloc (.cells #[.int .i64 0] 3)) = wA at *
    clear m0 m1 m2 m3 m4 m5 m6 m7 g1
    obtain ⟨m0, m1, m2, m3, m4, m5, m6, m7⟩ := blk8 gA
    clear gA
    have HBA := Lib.hid (HB1.out.trans (hbA.mono (by omega)))
    have HA := Lib.hid hA
    clear hA hbA
    have hsA2 : w1.heap.size < wA.heap.size := hsA
    clear hsA
    gi_wp2_with fail
    refine ⟨trivial, (callsIn_wide.2 (children_any b i f t y A A' n m c c' wA k)).mono ?_⟩
    rintro e w2 ⟨rfl, hw2⟩
    have hbox : w2.heap[wA.heap.size]? = some (.cells #[.int .i64 k, .bool b, .int .i64 i, .float .f64 f, .string t, .string y, .slice A n c, .slice A' m c'] 29 (0, 0)) := by rw [hw2]; exact heap_alloc_new _ _
    have hb12 : Below wA.heap.size wA w2 := by rw [hw2]; exact (Below.refl _ _).alloc (Nat.le_refl _) _
    have hz2 : w2.heap.size = wA.heap.size + 1 := by rw [hw2]; simp
    clear hw2 m0 m1 m2 m3 m4 m5 m6 m7
    have hST : DpSt w w1.heap.size kids 0 w2 := ⟨HBA.out.trans (hb12.mono (by omega)), blk_below HA.out hb12 (by omega)⟩
    clear HA
    gi_wp2_with fail
    refine range_C (n := w.heap.size) (gf := 70) (lb := #[.pointer (some ⟨wA.heap.size, 0, none⟩)]) rfl (enters_of Tryz.func70 (by kernel_rfl) rfl)
      (HQ.out wA.heap.size) (by omega) (fun W1 hb => ⟨blk_below hbox hb (by omega), hST.be.trans (hb.mono (by omega))⟩)
      (fun B q W args h => by obtain ⟨s, j, bo, x, cs, _, rfl, _⟩ := h; rfl)
      (fun q W => DpSt w w1.heap.size kids q W) (fun cd W => False)
      (fun q W W' h hb he => h.keep _ (by omega) (by omega) hb) (fun cd W W' h hb he => h) hST ?round ?done ?stop
    case round =>
      rintro l' k9 q B W1 args hl hl2 hBW hq HI1 ⟨s, j, bo, x, cs, hx, rfl, hV⟩ hbw
      obtain ⟨k2, b2, i2, f2, t2, y2, is2, fs2⟩ := x
      have HV := Lib.hid hV
      simp only [IsV] at hV
      obtain ⟨A2, c2, A2', c2', rfl, _⟩ := hV
      have hnW1 : w.heap.size ≤ W1.heap.size := HI1.be.size
      have hbv : Below W1.heap.size W1 (W1.alloc (.cells #[.int .i64 k2, .bool b2, .int .i64 i2, .float .f64 f2, .string t2, .string y2, .slice A2 is2.length c2, .slice A2' fs2.length c2'] 29)) := (Below.refl _ _).alloc (Nat.le_refl _) _
      gi_wp2_with fail
      refine ⟨Keep.of_below hbv hnW1, HI1.keep _ (by omega) (by omega) (hbv.mono (by omega)), ?_⟩
      intro W2 hz2' ho2 hb2 _ hI2
      have gV : W2.heap[W1.heap.size]? = some (.cells #[.int .i64 k2, .bool b2, .int .i64 i2, .float .f64 f2, .string t2, .string y2, .slice A2 is2.length c2, .slice A2' fs2.length c2'] 29) := (ho2 W1.heap.size (by omega)).trans (heap_alloc_new W1 (.cells #[.int .i64 k2, .bool b2, .int .i64 i2, .float .f64 f2, .string t2, .string y2, .slice A2 is2.length c2, .slice A2' fs2.length c2'] 29))
      have hb12' : Below w.heap.size W1 W2 := (hbv.mono hnW1).trans (hb2.mono (by omega))
      have hVW2 : IsV W2 S (.mk k2 b2 i2 f2 t2 y2 is2 fs2) [.int .i64 k2, .bool b2, .int .i64 i2, .float .f64 f2, .string t2, .string y2, .slice A2 is2.length c2, .slice A2' fs2.length c2'] := recV.keep (fun p hp => hb12'.cell (HS.out _ hp)) (fun _ h => h) HV.out
      have HRX := Lib.hid (fun W (hb : Below w.heap.size W2 W) => HR.out W _ _ (hI2.be.trans hb) (List.mem_of_getElem? hx) (recV.keep (fun p hp => hb.cell (HS.out _ hp)) (fun _ h => h) hVW2))
      obtain ⟨e0, e1, e2, e3, e4, e5, e6, e7⟩ := blk8 gV
      have hdr := dpts_take hx
      have hle := dpts_take_le kids q
      have hle2 := dpts_take_le kids (q + 1)
      have HDR := Lib.hid hdr
      have hcM := cell_of_row W2 w1.heap.size 0 _ _ (0, 0) hI2.c
      have hfz := blk_frozen hI2.c 0
      have hs2' : W1.heap.size < W2.heap.size := blk_lt gV
      clear hVW2 HV hx gV hbv hb2 hz2' ho2 HI1 hdr
      gi_upto_region 7 with (fail)
      have hrd : Below w.heap.size W2 W2.drew := (Below.refl _ _).drew
      have HC := Lib.hid (HRX.out _ hrd)
      clear HRX
      generalize dpt (.mk k2 b2 i2 f2 t2 y2 is2 fs2) = D at *
      gi_region_with (refine ⟨trivial, (fun h => by cases h), (CallsIn.inRound l' (callsIn_wide.2 HC.out)).mono ?_⟩; rintro e W3 ⟨rfl, hb3⟩; replace hb3 : Below W2.heap.size W2 W3 := ((Below.refl W2.heap.size W2).drew).trans hb3; have hM3 := blk_below hI2.c hb3 (by omega); replace hcM := cell_of_row W3 w1.heap.size 0 _ _ (0, 0) hM3; replace hfz := blk_frozen hM3 0)
      all_goals
        have hs3 := hb3.size
        have hset : ∀ u, Below w.heap.size W3 (W3.setCell ⟨w1.heap.size, 0, none⟩ u) := fun u => (Below.refl _ _).setCell (show w.heap.size ≤ w1.heap.size by omega) _
        have hoth : ∀ u k, k ≠ w1.heap.size → (W3.setCell ⟨w1.heap.size, 0, none⟩ u).heap[k]? = W3.heap[k]? := fun u k hk => Below.heap_setCell _ _ _ k hk
        have hnew : ∀ u, (W3.setCell ⟨w1.heap.size, 0, none⟩ u).heap[w1.heap.size]? = some (.cells #[u] 3 (0, 0)) := fun u => by simpa using blk_set hM3 0 u
        have HF := Lib.hid (And.intro hset (And.intro hoth (And.intro hnew (And.intro hb3 hI2.be))))
        clear hset hoth hnew hM3 hb3 hI2 HC
        gi_wp2_with fail
        all_goals
          obtain ⟨hset, hoth, hnew, hb3, hbe⟩ := HF.out
          refine ⟨⟨(hb3.mono (by omega)).trans (hset _), fun k h1 h2 => (hoth _ k (by omega)).trans (hb3.block k h2)⟩, ⟨hbe.trans ((hb3.mono (by omega)).trans (hset _)), ?_⟩⟩
          rw [hnew, HDR.out]
          first
            | (rw [show ((max (dpts (kids.take q)) D : Nat) : Int) = max ((dpts (kids.take q) : Nat) : Int) (D : Int) by omega]; done)
            | rw [show max (dpts (kids.take q)) D = D by omega]
            | rw [show max (dpts (kids.take q)) D = dpts (kids.take q) by omega]
    case done =>
      rintro D W4 hD hI hK3
      have hl4 := blk_lt hK3
      have hc := hI.c
      rw [List.take_length] at hc
      have hcM := cell_of_row W4 w1.heap.size 0 _ _ (0, 0) hc
      have hbe := hI.be
      generalize dpts kids = M at *
      clear hI HQ HR hST hbox hc
      gi_wp2_with fail
      refine ⟨by simp, .inl ⟨_, _, rfl, run_takeDeferred hK3, ?_⟩⟩
      have hbp := hbe.trans (belowK_b (w := w) (Nat.le_refl _) W4 D _ (.deferred none) (by omega) hK3 rfl rfl)
      generalize (W4.putObj D (.deferred none)) = wp at *
      refine ⟨.int .i64 ((M : Int) + 1), ?_, by simp, hbp⟩
      simp [results, Tryz.f21, go_sem]
    case stop =>
      rintro D cd W4 hD hI hK3
      exact hI.elim
end
theorem tdepth_any : ∀ (N : Nat) (v : V), sz v ≤ N → N ≤ 26000000 → ∀ (cs : List Value) (w : World) (S : Nat → Prop), IsV w S v cs → Bel S w.heap.size → Calls Tryz.prog 21 #[.agg cs.toArray] w (TpPost (dpt v) w) := by
  intro N
  induction N with
  | zero => intro v hv; have := sz_pos v; omega
  | succ N ih =>
    intro v hv hN cs w S hV hS
    have hV0 := hV
    obtain ⟨k, b, i, f, t, y, is, fs⟩ := v
    simp only [IsV] at hV
    obtain ⟨A, c, A', c', rfl, _, _, hI, hF⟩ := hV
    simp only [sz] at hv
    have hK := fun W => tkind_any b i f t y A A' is.length fs.length c c' W k
    have hl1 := szs_len is
    have hl2 := szf_len fs
    have hd1 := dpts_le is
    have hd2 := dptf_le fs
    by_cases h5 : k = 5
    · subst h5
      have hd : dpt (.mk 5 b i f t y is fs) = dpts is + 1 := by simp [dpt]
      rw [hd]
      refine tdepth_kids b i f t y A A' is.length fs.length c c' w 5 (.inl rfl) S is (by omega) hS hK (fun g => kidseq_list b i f t y A A' is.length fs.length c c' S is w g w.heap.size rfl (by omega) hI hS (Nat.le_refl _) hK) fun W x cs hb hx hIV => ?_
      obtain ⟨j, hj⟩ := List.mem_iff_getElem?.1 hx
      have := szs_get hj
      exact ih x (by omega) (by omega) cs W S hIV (hS.mono hb.size)
    by_cases h6 : k = 6
    · subst h6
      have hd : dpt (.mk 6 b i f t y is fs) = dpts (fs.map (·.2)) + 1 := by simp [dpt, dptf_kids]
      rw [hd]
      refine tdepth_kids b i f t y A A' is.length fs.length c c' w 6 (.inr rfl) S (fs.map (·.2)) (by rw [← dptf_kids]; omega) hS hK (fun g => by
        have := kidseq_obj b i f t y A A' is.length fs.length c c' S fs w g w.heap.size rfl (by omega) hF hS (Nat.le_refl _) hK
        rw [List.length_map]
        exact this) fun W x cs hb hx hIV => ?_
      obtain ⟨p, hp, rfl⟩ := List.mem_map.1 hx
      obtain ⟨j, hj⟩ := List.mem_iff_getElem?.1 hp
      have := szf_get hj
      exact ih p.2 (by omega) (by omega) cs W S hIV (hS.mono hb.size)
    · have hd : dpt (.mk k b i f t y is fs) = 0 := by simp [dpt, h5, h6]
      rw [hd]
      refine tdepth_flat b i f t y A A' is.length fs.length c c' w k (kdn k) ?_ ?_ hK
      · unfold kdn; split <;> omega
      · unfold kdn; split <;> omega
end Go.Proofs.YtjhhdnnblcbdbaaGreatDoor.jw
end
section
namespace Go.Proofs.YtjhhdnnblcbdbaaGreatDoor.jw
open Go.RowKit mem val jp
set_option linter.unusedVariables false
theorem us_at {w : World} {B : Nat} {A : Option Addr} {l : List Nat} (h : Rd w B A (us l)) {j : Nat} (hj : j < l.length) : ∃ ad : Addr, A = some ad ∧ w.cell? (ad.add j) = some (.int .u8 ((l.getD j 0 : Nat) : Int)) := by
  have hu : (us l)[j]? = some (.int .u8 ((l.getD j 0 : Nat) : Int)) := by
    rw [us_get, List.getD_eq_getElem?_getD, List.getElem?_eq_getElem hj]
    rfl
  obtain ⟨ad, h1, h2⟩ := h j _ hu
  exact ⟨ad, h1, h2.2⟩
end Go.Proofs.YtjhhdnnblcbdbaaGreatDoor.jw
end
section
namespace Go.Proofs.YtjhhdnnblcbdbaaGreatDoor.jw
open Go.RowKit mem val jp
set_option linter.unusedVariables false
attribute [local go_sem] run_store_float

set_option maxRecDepth 100000 in
set_option maxHeartbeats 4000000 in
theorem depths_any {F : Nf} (A : Option Addr) (n c : Nat) (src : List Nat) (d o : Int) (w : World) (hl : src.length = n) (hn : n ≤ 1099000) (hby : ∀ x ∈ src, x < 256) (hrd : Rd w w.heap.size A (us src)) (hnc : n ≤ c) (hcm : c ≤ maxLen)
    (hnum : NumOf F w) (hnf : ∀ l, (F l).2.2.2 ≠ 50 ∧ (F l).2.2.2 ≠ 71) (hfix : Calls Tryz.prog 12 #[] w fun e w' => e = .returned (.bool true) ∧ Below w.heap.size w w') (hF64 : ∀ l, (F l).2.2.1 < 18446744073709551616) (hKd : ∀ l, (F l).1 ≠ 5 ∧ (F l).1 ≠ 6) (hsame : SameOk) :
    Calls Tryz.prog 8 #[.slice A n c, .int .i64 d, .int .i64 o] w fun e w' => e = .returned (.bool true) ∧ Below w.heap.size w w' := by
  have HFx := Lib.hid hfix
  obtain ⟨N, hNe⟩ : ∃ N, N = 2 * n + 10 := ⟨_, rfl⟩
  have HR := Lib.hid (fun (d : Int) (W : World) (hW : Below w.heap.size w W) => read_any (F := F) A n c src d N W hl (by omega) (tok_le (by omega)) hby ((hrd.below hW).more hW.size) (fun s hs W' hW' => hnum s hs W' (hW.trans (hW'.mono hW.size))) hnf hnc hcm (by omega))
  have HLaw := Lib.hid (fun v k (h : rd F N (dep d) src = .ok v k) => rd_depth hKd h)
  have HPt := Lib.hid (fun v k (h : rd F N (dep d) src = .ok v k) => And.intro (rd_parts hF64 h) (rd_len hnf h))
  have HNz := Lib.hid (fun k e (h : rd F N (dep d) src = .er k e) => rd_nz h)
  have HUs := Lib.hid (fun (W : World) (hW : Below w.heap.size w W) (j : Nat) (hj : j < n) => us_at ((hrd.below hW).more hW.size) (l := src) (j := j) (by omega))
  have HSm := Lib.hid hsame
  have hl' := Lib.hid hl
  clear hrd hnum hnf hfix hF64 hKd hsame hl hby
  go_enter Tryz.func8, Tryz.ntmps8
  go_wp2_with fail
  refine HFx.out.mono ?_
  rintro e w1 ⟨rfl, hb1⟩
  have HB1 := Lib.hid hb1
  clear hb1 HFx
  go_wp2_with fail
  refine (HR.out d w1 HB1.out).mono ?_
  rintro e w2 hQ
  cases hD : rd F N (dep d) src with
  | er k e0 =>
    rw [hD] at hQ
    obtain ⟨hb2, rfl⟩ := hQ
    have hne : (e0 != 0) = true := by have := HNz.out k e0 hD; simp [this]
    have HB2 := Lib.hid (HB1.out.trans (hb2.mono HB1.out.size))
    clear hb2 hD HR HLaw HPt HNz HUs HB1
    go_wp2_with fail
    go_ret
    exact ⟨rfl, HB2.out.alloc HB2.out.size _⟩
  | ok v k =>
  rw [hD] at hQ
  obtain ⟨hb2, cs, rfl, hv⟩ := hQ
  obtain ⟨hdp, hLw⟩ := HLaw.out v k hD
  obtain ⟨⟨hfl, hsz⟩, hkn⟩ := HPt.out v k hD
  rw [hl'.out] at hkn
  have hd200 : dpt v ≤ 200 := by have : dep d ≤ 200 := by unfold dep; omega
                                 omega
  have hszv : sz v ≤ 1099000 := by omega
  have HT := Lib.hid (fun (W : World) (hW : Below w2.heap.size w2 W) => tdepth_any (sz v) v (Nat.le_refl _) (by omega) cs W _ (hv.below (fun _ h => h.2) hW) (fun b h => Nat.lt_of_lt_of_le h.2 hW.size))
  have HA := Lib.hid (fun (ds : List Value) (S' : Nat → Prop) (W : World) (hW : Below w2.heap.size w2 W) (hV : IsV W S' v ds) (hS : Bel S' W.heap.size) => alike_refl HSm.out (sz v) v (Nat.le_refl _) (by omega) hfl cs ds W _ S' (hv.below (fun _ h => h.2) hW) hV (fun b h => Nat.lt_of_lt_of_le h.2 hW.size) hS)
  clear hsz hszv hfl hkn HLaw HPt HNz HSm
  generalize dpt v = D at *
  have HL := Lib.hid hLw
  have HB2 := Lib.hid (HB1.out.trans (hb2.mono HB1.out.size))
  obtain ⟨k2, b2, i2, f2, t2, y2, is2, fs2⟩ := v
  simp only [IsV] at hv
  obtain ⟨A3, c3, A3', c3', rfl, _⟩ := hv
  clear hb2 hD HB1 hLw
  have hwr : IntKind.i64.wrap ((D : Int) - 1) = (D : Int) - 1 := by rw [IntKind.wrap_i64]; omega
  go_wp2_with fail
  have g2 : (w2.alloc (.cells #[.int .i64 k2, .bool b2, .int .i64 i2, .float .f64 f2, .string t2, .string y2, .slice A3 is2.length c3, .slice A3' fs2.length c3'] 29)).heap[w2.heap.size]? = some (.cells #[.int .i64 k2, .bool b2, .int .i64 i2, .float .f64 f2, .string t2, .string y2, .slice A3 is2.length c3, .slice A3' fs2.length c3'] 29) := heap_alloc_new _ _
  have hb23 : Below w2.heap.size w2 (w2.alloc (.cells #[.int .i64 k2, .bool b2, .int .i64 i2, .float .f64 f2, .string t2, .string y2, .slice A3 is2.length c3, .slice A3' fs2.length c3'] 29)) := (Below.refl _ _).alloc (Nat.le_refl _) _
  generalize (w2.alloc (.cells #[.int .i64 k2, .bool b2, .int .i64 i2, .float .f64 f2, .string t2, .string y2, .slice A3 is2.length c3, .slice A3' fs2.length c3'] 29)) = w3 at *
  refine (HT.out w3 hb23).mono ?_
  rintro e w4 ⟨rfl, hb4⟩
  have hs3 := hb23.size
  have hs4 := hb4.size
  have g4 := blk_below g2 hb4 (blk_lt g2)
  have HB24 := Lib.hid (hb23.trans (hb4.mono hs3))
  have HB4 := Lib.hid (HB2.out.trans (HB24.out.mono HB2.out.size))
  have hw2 := HB2.out.size
  clear g2 hb23 hb4 HT
  go_wp2_with fail
  refine (HR.out o w4 HB4.out).mono ?_
  rintro e w5 hQ5
  by_cases hDo : D ≤ dep o
  · rw [(HL.out (dep o)).1 hDo] at hQ5
    obtain ⟨hb5, ds, rfl, hv5⟩ := hQ5
    have HV5 := Lib.hid hv5
    simp only [IsV] at hv5
    obtain ⟨A4, c4, A4', c4', rfl, _⟩ := hv5
    have HB5 := Lib.hid (HB4.out.trans (hb5.mono HB4.out.size))
    have HB25 := Lib.hid (HB24.out.trans (hb5.mono (by omega)))
    have g5 := blk_below g4 hb5 (blk_lt g4)
    have hs5 := hb5.size
    clear hb5 g4 HB4 HB24
    go_wp2_with fail
    have e5 : (w5.alloc (.cells #[.int .i64 k2, .bool b2, .int .i64 i2, .float .f64 f2, .string t2, .string y2, .slice A4 is2.length c4, .slice A4' fs2.length c4'] 29)).heap[w5.heap.size]? = some (.cells #[.int .i64 k2, .bool b2, .int .i64 i2, .float .f64 f2, .string t2, .string y2, .slice A4 is2.length c4, .slice A4' fs2.length c4'] 29) := heap_alloc_new _ _
    have hb56 : Below w5.heap.size w5 (w5.alloc (.cells #[.int .i64 k2, .bool b2, .int .i64 i2, .float .f64 f2, .string t2, .string y2, .slice A4 is2.length c4, .slice A4' fs2.length c4'] 29)) := (Below.refl _ _).alloc (Nat.le_refl _) _
    generalize (w5.alloc (.cells #[.int .i64 k2, .bool b2, .int .i64 i2, .float .f64 f2, .string t2, .string y2, .slice A4 is2.length c4, .slice A4' fs2.length c4'] 29)) = w6 at *
    have hs6 := hb56.size
    have HB6 := Lib.hid (HB5.out.trans (hb56.mono HB5.out.size))
    have HB26 := Lib.hid (HB25.out.trans (hb56.mono (by omega)))
    have HV6 := Lib.hid (HV5.out.below (B := w5.heap.size) (fun _ h => h.2) hb56)
    have g6 := blk_below g5 hb56 (blk_lt g5)
    clear hb56 g5 HB5 HB25 HV5
    refine (HR.out ((D : Int) - 1) w6 HB6.out).mono ?_
    rintro e w7 hQ7
    have hdpd : (D : Int) ≤ max d 0 ∧ (D : Int) ≤ max o 0 := by unfold dep at hdp hDo; omega
    obtain ⟨hdpd, hdpo⟩ := hdpd
    by_cases hD0 : D = 0
    · have hz : dep ((D : Int) - 1) = 0 := by unfold dep; omega
      rw [hz, (HL.out 0).1 (by omega)] at hQ7
      obtain ⟨hb7, es, rfl, hv7⟩ := hQ7
      simp only [IsV] at hv7
      obtain ⟨A5, c5, A5', c5', rfl, _⟩ := hv7
      have HB7 := Lib.hid (HB6.out.trans (hb7.mono HB6.out.size))
      have HB27 := Lib.hid (HB26.out.trans (hb7.mono (by omega)))
      have HV7 := Lib.hid (HV6.out.below (B := w6.heap.size) (fun _ h => Nat.lt_of_lt_of_le h.2 (by omega)) hb7)
      have g7 := blk_below g6 hb7 (blk_lt g6)
      have e7 := blk_below e5 hb7 (blk_lt e5)
      have hs7 := hb7.size
      clear hb7 g6 e5 HB6 HB26 HV6 HR HL
      go_upto_region 9 with fail
      have hb78 : Below w7.heap.size w7 (w7.alloc (.cells #[.int .i64 k2, .bool b2, .int .i64 i2, .float .f64 f2, .string t2, .string y2, .slice A5 is2.length c5, .slice A5' fs2.length c5'] 29)) := (Below.refl _ _).alloc (Nat.le_refl _) _
      generalize (w7.alloc (.cells #[.int .i64 k2, .bool b2, .int .i64 i2, .float .f64 f2, .string t2, .string y2, .slice A5 is2.length c5, .slice A5' fs2.length c5'] 29)) = w8 at *
      have HB8 := Lib.hid (HB7.out.trans (hb78.mono HB7.out.size))
      have HB28 := Lib.hid (HB27.out.trans (hb78.mono (by omega)))
      have HV8 := Lib.hid (HV7.out.below (B := w7.heap.size) (fun _ h => Nat.lt_of_lt_of_le h.2 (by omega)) hb78)
      obtain ⟨a0, a1, a2, a3, a4, a5, a6, a7⟩ := blk8 (blk_below g7 hb78 (blk_lt g7))
      obtain ⟨b0, b1, b2', b3, b4, b5, b6, b7⟩ := blk8 (blk_below e7 hb78 (blk_lt e7))
      have HAl := Lib.hid (HA.out _ _ w8 HB28.out HV8.out (fun b h => Nat.lt_of_lt_of_le h.2 (by have := hb78.size; omega)))
      clear hb78 g7 e7 HB7 HB27 HV7 HUs HA
      subst hD0
      go_wp2_with fail
      refine HAl.out.mono ?_
      rintro e w9 ⟨rfl, hb9⟩
      have HB9 := Lib.hid (HB8.out.trans (hb9.mono HB8.out.size))
      clear a0 a1 a2 a3 a4 a5 a6 a7 b0 b1 b2' b3 b4 b5 b6 b7 hb9 HAl HB8 HB28 HV8
      go_wp2_with fail
      go_ret
      exact ⟨rfl, HB9.out⟩
    · have hdl : dep ((D : Int) - 1) < D := by unfold dep; omega
      obtain ⟨j, hj, hjl, hjb⟩ := (HL.out (dep ((D : Int) - 1))).2 hdl
      rw [hj] at hQ7
      obtain ⟨hb7, rfl⟩ := hQ7
      rw [hl'.out] at hjl
      have HB7 := Lib.hid (HB6.out.trans (hb7.mono HB6.out.size))
      have HB27 := Lib.hid (HB26.out.trans (hb7.mono (by omega)))
      have HV7 := Lib.hid (HV6.out.below (B := w6.heap.size) (fun _ h => Nat.lt_of_lt_of_le h.2 (by omega)) hb7)
      have g7 := blk_below g6 hb7 (blk_lt g6)
      have e7 := blk_below e5 hb7 (blk_lt e5)
      have hs7 := hb7.size
      clear hb7 g6 e5 HB6 HB26 HV6 HR HL hj
      go_upto_region 9 with fail
      have hb78 : Below w7.heap.size w7 (w7.alloc (.cells #[.int .i64 0, .bool false, .int .i64 0, .float .f64 0, .string { data := #[] }, .string { data := #[] }, .slice none 0 0, .slice none 0 0] 29)) := (Below.refl _ _).alloc (Nat.le_refl _) _
      generalize (w7.alloc (.cells #[.int .i64 0, .bool false, .int .i64 0, .float .f64 0, .string { data := #[] }, .string { data := #[] }, .slice none 0 0, .slice none 0 0] 29)) = w8 at *
      have HB8 := Lib.hid (HB7.out.trans (hb78.mono HB7.out.size))
      have HB28 := Lib.hid (HB27.out.trans (hb78.mono (by omega)))
      have HV8 := Lib.hid (HV7.out.below (B := w7.heap.size) (fun _ h => Nat.lt_of_lt_of_le h.2 (by omega)) hb78)
      obtain ⟨a0, a1, a2, a3, a4, a5, a6, a7⟩ := blk8 (blk_below g7 hb78 (blk_lt g7))
      obtain ⟨b0, b1, b2', b3, b4, b5, b6, b7⟩ := blk8 (blk_below e7 hb78 (blk_lt e7))
      obtain ⟨ad, hA0, hcell⟩ := HUs.out w8 HB8.out j hjl
      subst hA0
      have HAl := Lib.hid (HA.out _ _ w8 HB28.out HV8.out (fun b h => Nat.lt_of_lt_of_le h.2 (by have := hb78.size; omega)))
      clear hb78 g7 e7 HB7 HB27 HV7 HUs HA
      have hjn : (j : Int) < (n : Int) := by omega
      have hj0 : (0 : Int) ≤ (j : Int) := by omega
      generalize src.getD j 0 = x at *
      rcases hjb with rfl | rfl
      all_goals
        go_wp2_with fail
        refine HAl.out.mono ?_
        rintro e w9 ⟨rfl, hb9⟩
        replace hcell := (hb9.cell (World.block_lt_of_cell? w8 _ hcell)).trans hcell
        have HB9 := Lib.hid (HB8.out.trans (hb9.mono HB8.out.size))
        clear a0 a1 a2 a3 a4 a5 a6 a7 b0 b1 b2' b3 b4 b5 b6 b7 hb9 HAl HB8 HB28 HV8
        go_wp2_with fail
        go_ret
        exact ⟨rfl, HB9.out⟩
  · obtain ⟨j5, hj5, _, _⟩ := (HL.out (dep o)).2 (by omega)
    rw [hj5] at hQ5
    obtain ⟨hb5, rfl⟩ := hQ5
    have HB5 := Lib.hid (HB4.out.trans (hb5.mono HB4.out.size))
    have hs5 := hb5.size
    clear hb5 g4 HB4 HB24 hj5 HA
    go_wp2_with fail
    have hb56 : Below w5.heap.size w5 (w5.alloc (.cells #[.int .i64 0, .bool false, .int .i64 0, .float .f64 0, .string { data := #[] }, .string { data := #[] }, .slice none 0 0, .slice none 0 0] 29)) := (Below.refl _ _).alloc (Nat.le_refl _) _
    generalize (w5.alloc (.cells #[.int .i64 0, .bool false, .int .i64 0, .float .f64 0, .string { data := #[] }, .string { data := #[] }, .slice none 0 0, .slice none 0 0] 29)) = w6 at *
    have HB6 := Lib.hid (HB5.out.trans (hb56.mono HB5.out.size))
    clear hb56 HB5
    refine (HR.out ((D : Int) - 1) w6 HB6.out).mono ?_
    rintro e w7 hQ7
    have hdpd : (D : Int) ≤ max d 0 ∧ max o 0 < (D : Int) := by unfold dep at hdp hDo; omega
    obtain ⟨hdpd, hdpo⟩ := hdpd
    have hD0 : D ≠ 0 := by omega
    have hdl : dep ((D : Int) - 1) < D := by unfold dep; omega
    obtain ⟨j, hj, hjl, hjb⟩ := (HL.out (dep ((D : Int) - 1))).2 hdl
    rw [hj] at hQ7
    obtain ⟨hb7, rfl⟩ := hQ7
    rw [hl'.out] at hjl
    have HB7 := Lib.hid (HB6.out.trans (hb7.mono HB6.out.size))
    clear hb7 HB6 HR HL hj
    go_upto_region 9 with fail
    have hb78 : Below w7.heap.size w7 (w7.alloc (.cells #[.int .i64 0, .bool false, .int .i64 0, .float .f64 0, .string { data := #[] }, .string { data := #[] }, .slice none 0 0, .slice none 0 0] 29)) := (Below.refl _ _).alloc (Nat.le_refl _) _
    generalize (w7.alloc (.cells #[.int .i64 0, .bool false, .int .i64 0, .float .f64 0, .string { data := #[] }, .string { data := #[] }, .slice none 0 0, .slice none 0 0] 29)) = w8 at *
    have HB8 := Lib.hid (HB7.out.trans (hb78.mono HB7.out.size))
    obtain ⟨ad, hA0, hcell⟩ := HUs.out w8 HB8.out j hjl
    subst hA0
    clear hb78 HB7 HUs
    have hjn : (j : Int) < (n : Int) := by omega
    have hj0 : (0 : Int) ≤ (j : Int) := by omega
    generalize src.getD j 0 = x at *
    rcases hjb with rfl | rfl
    all_goals
      go_wp2_with fail
      go_ret
      exact ⟨rfl, HB8.out⟩
end Go.Proofs.YtjhhdnnblcbdbaaGreatDoor.jw
end
section
namespace Go.Proofs.YtjhhdnnblcbdbaaGreatDoor.jw
open Go.RowKit mem fl big us uw pg dcm
set_option linter.unusedVariables false

theorem nm_kd {P : Nat} {l : List Nat} {k v : Int} {b : Nat} {er : Int} (h : Nm P l k v b er) : (k ≠ 5 ∧ k ≠ 6) ∧ b < 18446744073709551616 := by
  obtain ⟨R, hR, h⟩ := h
  unfold ans fltV at h
  split at h
  · have := numV_inj h; omega
  · rename_i h0
    split at h
    · have := numV_inj h; omega
    · rename_i h1
      split at h
      · have := numV_inj h; omega
      · have h2 := numV_inj h
        have ha : asks l := by
          unfold asks
          rcases fm_range (pfx.adv 0 l) with h3 | h3 | h3
          · exact absurd h3 h0
          · exact .inr ⟨h3, fun hf => h1 ⟨h3, hf⟩⟩
          · exact .inl h3
        have hr := (hR ha).2
        have hb := h2.2.2.1
        refine ⟨by omega, ?_⟩
        rw [← hb]
        unfold sgn
        split <;> omega
theorem fn_kd (P : Nat) (l : List Nat) : (Fn P l).1 ≠ 5 ∧ (Fn P l).1 ≠ 6 := by
  by_cases hx : ∃ x : Int × Int × Nat × Int, Nm P l x.1 x.2.1 x.2.2.1 x.2.2.2
  · obtain ⟨x, hx⟩ := hx
    rw [fn_of hx]
    exact (nm_kd hx).1
  · unfold Fn
    rw [dif_neg hx]
    decide
theorem fn_f64 (P : Nat) (l : List Nat) : (Fn P l).2.2.1 < 18446744073709551616 := by
  by_cases hx : ∃ x : Int × Int × Nat × Int, Nm P l x.1 x.2.1 x.2.2.1 x.2.2.2
  · obtain ⟨x, hx⟩ := hx
    rw [fn_of hx]
    exact (nm_kd hx).2
  · unfold Fn
    rw [dif_neg hx]
    decide
end Go.Proofs.YtjhhdnnblcbdbaaGreatDoor.jw
end
