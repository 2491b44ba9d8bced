/- What the joined texts lack of Mem Val Own. PLAIN LEAN: small laws of the parsers: an answer taken apart; the kind of what was read. PLAIN LEAN: no fault has the number nought; what is read is no longer than the text. number.Same of one float with itself. JsoninNumbers, walked. PLAIN LEAN: what a number's prefix tells, by the forms of whole texts alone. PLAIN LEAN: JsoninNumbers' law: a text without blanks at its ends is read as a number just if layer 2 reads it. What layer 2 answers: its kinds, and how wide its floats are. JsoninNumbers: the law put to the walk. -/
import Derived.Test.YtjhhdnnblcbdbaaGreatDoorGVal
import Derived.Test.YtjhhdnnblcbdbaaGreatDoorGEt
import Derived.Test.YtjhhdnnblcbdbaaGreatDoorGJm
import Derived.Test.YtjhhdnnblcbdbaaGreatDoorGJs
import Derived.Deep.CutBlock
import Derived.Lib.SlBytesConst
import Derived.Test.YtjhhdnnblcbdbaaGreatDoorYNr
import Derived.Test.YtjhhdnnblcbdbaaGreatDoorGJw
section
set_option linter.unusedVariables false
section
namespace Go.Proofs.YtjhhdnnblcbdbaaGreatDoor.mem
open Go.RowKit
section
variable {P : Program} (w : World)
end
theorem own_lt {w : World} {base : Nat} {e : TypeId} {size n : Nat} {v : Value} {xs : List Value} (h : w.ownsRow base e size v n xs) : ∀ k, v.ownBlock = some k → base ≤ k ∧ k < w.heap.size := h.lt
/-- an empty composite literal, not nil -/
theorem own_empty (w : World) (base g : Nat) (e : TypeId) (size : Nat) (hg : w.heap.size = g) (hb : base ≤ g) : (w.alloc (.cells #[] e)).ownsRow base e size (.slice (some ⟨g, 0, none⟩) 0 0) 0 [] := by
  subst hg
  exact World.ownsRow_made w #[] 0 hb (Nat.zero_le _) (by simp)
theorem Rd.newAt (w : World) (g : Nat) (cs : List Value) (t : TypeId) (hg : w.heap.size = g) : Rd (w.alloc (.cells cs.toArray t)) (g + 1) (some ⟨g, 0, none⟩) cs := by
  subst hg
  exact Rd.new w cs t
/-- the first elements of a row of the call's own -/
theorem Rd.of_block {w : World} {g : Nat} {cur : Array Value} {e : TypeId} {xs ys : List Value} {k : Nat} (hg : w.heap[g]? = some (.cells cur e (0, 0))) (ht : cur.toList.take k = ys) (hp : ∃ zs, ys = xs ++ zs) : Rd w (g + 1) (some ⟨g, 0, none⟩) xs := by
  intro j u hu
  obtain ⟨zs, rfl⟩ := hp
  refine ⟨_, rfl, by simp, ?_⟩
  rw [add_zero_off, cell_of_row w g j cur e (0, 0) hg]
  have h1 : (xs ++ zs)[j]? = some u := by
    rw [List.getElem?_append_left (List.getElem?_eq_some_iff.1 hu).1]
    exact hu
  rw [← ht, List.getElem?_take] at h1
  split at h1
  · simpa using h1
  · cases h1
theorem box_cell {B g : Nat} {w w' : World} {cs : Array Value} {t : TypeId} (hb : Below B (w.alloc (.cells cs t)) w') (hg : w.heap.size = g) (hB : g < B) (j : Nat) : w'.cell? ⟨g, j, none⟩ = cs[j]? := by
  subst hg
  rw [hb.cell (p := ⟨w.heap.size, j, none⟩) hB]
  exact cell_of_row _ _ _ cs t (0, 0) (heap_alloc_new w _)
theorem Rd.of_cells {w : World} {g : Nat} {cur : Array Value} {e : TypeId} {xs : List Value} (hg : w.heap[g]? = some (.cells cur e (0, 0))) (h : ∀ (j : Nat) (u : Value), xs[j]? = some u → cur[j]? = some u) : Rd w (g + 1) (some ⟨g, 0, none⟩) xs := by
  intro j u hu
  refine ⟨_, rfl, by simp, ?_⟩
  rw [add_zero_off, cell_of_row w g j cur e (0, 0) hg]
  exact h j u hu
end Go.Proofs.YtjhhdnnblcbdbaaGreatDoor.mem
end
section
namespace Go.Proofs.YtjhhdnnblcbdbaaGreatDoor.val
open Go.RowKit mem
mutual
/-- how many parts -/
def sz : V → Nat
  | .mk _ _ _ _ _ _ is fs => 1 + szs is + szf fs
def szs : List V → Nat
  | [] => 0
  | v :: r => sz v + szs r
def szf : List (ByteArray × V) → Nat
  | [] => 0
  | (_, v) :: r => sz v + szf r
end
theorem sz_pos (v : V) : 0 < sz v := by cases v; simp only [sz]; omega
theorem szs_get {l : List V} {j : Nat} {v : V} (h : l[j]? = some v) : sz v ≤ szs l := by
  induction l generalizing j with
  | nil => simp at h
  | cons x r ih =>
    simp only [szs]
    cases j with
    | zero => simp at h; subst h; omega
    | succ j => have := ih (j := j) (by simpa using h); omega
theorem szf_get {l : List (ByteArray × V)} {j : Nat} {p : ByteArray × V} (h : l[j]? = some p) : sz p.2 ≤ szf l := by
  induction l generalizing j with
  | nil => simp at h
  | cons x r ih =>
    obtain ⟨s, x⟩ := x
    simp only [szf]
    cases j with
    | zero => simp at h; subst h; show sz x ≤ _; omega
    | succ j => have := ih (j := j) (by simpa using h); omega
theorem szs_len (l : List V) : l.length ≤ szs l := by
  induction l with
  | nil => simp [szs]
  | cons x r ih => have := sz_pos x; simp only [szs, List.length_cons]; omega
theorem szf_len (l : List (ByteArray × V)) : l.length ≤ szf l := by
  induction l with
  | nil => simp [szf]
  | cons x r ih => obtain ⟨s, x⟩ := x; have := sz_pos x; simp only [szf, List.length_cons]; omega
theorem pts_full {l : List V} {m n : Int} (h : m ≤ n) : pts l m n = n := by
  cases l with
  | nil => simp only [pts]
  | cons v r => simp only [pts]; rw [if_pos h]
theorem ptf_full {l : List (ByteArray × V)} {m n : Int} (h : m ≤ n) : ptf l m n = n := by
  cases l with
  | nil => simp only [ptf]
  | cons v r => obtain ⟨s, v⟩ := v; simp only [ptf]; rw [if_pos h]
mutual
theorem pt_bd : ∀ (v : V) (m : Int), 1 ≤ pt v m ∧ pt v m ≤ sz v
  | .mk _ _ _ _ _ _ is fs, m => by
    simp only [pt, sz]
    have h1 := pts_bd is m 1 (by omega)
    have h2 := ptf_bd fs m (pts is m 1) h1.1
    omega
theorem pts_bd : ∀ (l : List V) (m n : Int), 1 ≤ n → 1 ≤ pts l m n ∧ pts l m n ≤ n + szs l
  | [], m, n, h => by simp only [pts, szs]; omega
  | v :: r, m, n, h => by
    simp only [pts, szs]
    split
    · omega
    · have h1 := pt_bd v (m - n)
      have h2 := pts_bd r m (n + pt v (m - n)) (by omega)
      omega
theorem ptf_bd : ∀ (l : List (ByteArray × V)) (m n : Int), 1 ≤ n → 1 ≤ ptf l m n ∧ ptf l m n ≤ n + szf l
  | [], m, n, h => by simp only [ptf, szf]; omega
  | (s, v) :: r, m, n, h => by
    simp only [ptf, szf]
    split
    · omega
    · have h1 := pt_bd v (m - n)
      have h2 := ptf_bd r m (n + pt v (m - n)) (by omega)
      omega
end
theorem pts_drop {l : List V} {k : Nat} {v : V} (h : l[k]? = some v) (m n : Int) : pts (l.drop k) m n = if m ≤ n then n else pts (l.drop (k + 1)) m (n + pt v (m - n)) := by
  obtain ⟨hk, rfl⟩ := List.getElem?_eq_some_iff.1 h
  rw [List.drop_eq_getElem_cons hk]
  simp only [pts]
theorem ptf_drop {l : List (ByteArray × V)} {k : Nat} {p : ByteArray × V} (h : l[k]? = some p) (m n : Int) : ptf (l.drop k) m n = if m ≤ n then n else ptf (l.drop (k + 1)) m (n + pt p.2 (m - n)) := by
  obtain ⟨hk, rfl⟩ := List.getElem?_eq_some_iff.1 h
  rw [List.drop_eq_getElem_cons hk]
  cases l[k]
  simp only [ptf]
end Go.Proofs.YtjhhdnnblcbdbaaGreatDoor.val
end
section
namespace Go.Proofs.YtjhhdnnblcbdbaaGreatDoor.val
open Go.RowKit mem
theorem blk_below {w w' : World} {B g : Nat} {o : Obj} (h : w.heap[g]? = some o) (hb : Below B w w') (hg : g < B) : w'.heap[g]? = some o := (hb.block g hg).trans h
theorem own_below {w w' : World} {base : Nat} {e : TypeId} {size n : Nat} {v : Value} {xs : List Value} (h : w.ownsRow base e size v n xs) (hb : Below w.heap.size w w') : w'.ownsRow base e size v n xs :=
  h.kept (row := none) ⟨hb.os, hb.tape, hb.output, hb.size, fun k hk _ => hb.block k hk⟩ (by cases hv : v.ownBlock <;> simp)
theorem blk9 {w : World} {g : Nat} {t : TypeId} {s c0 c1 c2 c3 c4 c5 c6 c7 : Value} (h : w.heap[g]? = some (.cells #[s, c0, c1, c2, c3, c4, c5, c6, c7] t (0, 0))) :
    w.cell? ⟨g, 0, none⟩ = some s ∧ w.cell? ⟨g, 1, none⟩ = some c0 ∧ w.cell? ⟨g, 2, none⟩ = some c1 ∧ w.cell? ⟨g, 3, none⟩ = some c2 ∧ w.cell? ⟨g, 4, none⟩ = some c3 ∧ w.cell? ⟨g, 5, none⟩ = some c4 ∧ w.cell? ⟨g, 6, none⟩ = some c5 ∧ w.cell? ⟨g, 7, none⟩ = some c6 ∧ w.cell? ⟨g, 8, none⟩ = some c7 :=
  ⟨cell_of_row w g 0 _ t (0, 0) h, cell_of_row w g 1 _ t (0, 0) h, cell_of_row w g 2 _ t (0, 0) h, cell_of_row w g 3 _ t (0, 0) h, cell_of_row w g 4 _ t (0, 0) h, cell_of_row w g 5 _ t (0, 0) h, cell_of_row w g 6 _ t (0, 0) h, cell_of_row w g 7 _ t (0, 0) h, cell_of_row w g 8 _ t (0, 0) h⟩
theorem copy_end {w wl wr wz : World} {k : Int} {b : Bool} {i : Int} {f : Nat} {t y : ByteArray} {is : List V} {fs : List (ByteArray × V)} {A1 A9 : Option Addr} {c1 c9 : Nat} (hG : wr.grownBy wz (some (w.heap.size + 1)))
    (HV : IsVs wl (New (w.heap.size + 3) wl) is A1 0) (HM : Mid (w.heap.size + 3) wl.heap.size wl wr) (HF : IsFs wr (New wl.heap.size wr) fs A9 0) (hwl : w.heap.size + 3 ≤ wl.heap.size) (hsz : wl.heap.size ≤ wr.heap.size) (hb : Below w.heap.size w wr)
    (h1 : A1 = none → is.length = 0) (h9 : A9 = none → fs.length = 0) :
    IsV wz (New w.heap.size wz) (.mk k b i f t y is fs) [.int .i64 k, .bool b, .int .i64 i, .float .f64 f, .string t, .string y, .slice A1 is.length c1, .slice A9 fs.length c9] ∧ Below w.heap.size w wz := by
  have hs := hG.size
  refine ⟨?_, hb.grown hG (by omega) (fun q e => by injection e; omega)⟩
  simp only [IsV]
  refine ⟨A1, c1, A9, c9, rfl, h1, h9, HV.keep (fun p hp => ?_) (fun q hq => ⟨by have := hq.1; omega, by have := hq.2; omega⟩), HF.keep (fun p hp => ?_) (fun q hq => ⟨by have := hq.1; omega, by have := hq.2; omega⟩)⟩
  · have a := hp.1
    have b := hp.2
    rw [World.cell?_of_block (hG.block p.block (by omega) (by intro e; injection e; omega))]
    exact World.cell?_of_block (HM p.block a b)
  · have a := hp.1
    have b := hp.2
    exact World.cell?_of_block (hG.block p.block b (by intro e; injection e; omega))
end Go.Proofs.YtjhhdnnblcbdbaaGreatDoor.val
end
end
section
namespace Go.Proofs.YtjhhdnnblcbdbaaGreatDoor.jp
open Go.RowKit val
set_option linter.unusedVariables false

def knd : V → Int
  | .mk k _ _ _ _ _ _ _ => k
theorem bnd_inv {α β : Type} {f : Ps α} {g : α → Ps β} {l : List Nat} {b : β} {k : Nat} (h : bnd f g l = .ok b k) : ∃ a j i, f l = .ok a j ∧ g a (l.drop j) = .ok b i ∧ k = j + i := by
  unfold bnd at h
  cases hf : f l with
  | er k e => rw [hf] at h; cases h
  | ok a j =>
    rw [hf] at h
    simp only at h
    cases hg : g a (l.drop j) with
    | er k e => rw [hg] at h; cases h
    | ok b' i =>
      rw [hg] at h
      simp only [Rs.sh, Rs.ok.injEq] at h
      exact ⟨a, j, i, rfl, by rw [hg, h.1], h.2.symm⟩
theorem ret_inv {α : Type} {a b : α} {l : List Nat} {k : Nat} (h : ret a l = .ok b k) : b = a := by
  unfold ret at h
  injection h with h1 h2
  exact h1.symm
theorem bnd_ret {α β : Type} {f : Ps α} {c : α → β} {l : List Nat} {b : β} {k : Nat} (h : bnd f (fun a => ret (c a)) l = .ok b k) : ∃ a, b = c a := by
  obtain ⟨a, j, i, _, h2, _⟩ := bnd_inv h
  exact ⟨a, ret_inv h2⟩
theorem items_kind (F : Nf) : ∀ (n d : Nat) (acc : List V) (l : List Nat) (v : V) (k : Nat), items F n d acc l = .ok v k → knd v = 5
  | 0, d, acc, l, v, k => fun h => by unfold items at h; cases h
  | n + 1, d, acc, l, v, k => fun h => by
    unfold items at h
    obtain ⟨x, j, i, _, h2, _⟩ := bnd_inv h
    obtain ⟨b, j2, i2, _, h3, _⟩ := bnd_inv h2
    cases b with
    | true => exact items_kind F n d _ _ v i2 (by simpa using h3)
    | false =>
      have h4 : ret (listV (acc ++ [x])) ((l.drop j).drop j2) = .ok v i2 := by simpa using h3
      rw [ret_inv h4]; rfl
theorem chk_inv {α β : Type} {f : Ps α} {p : α → Bool} {g : α → Ps β} {l : List Nat} {b : β} {k : Nat} (h : chk f p g l = .ok b k) : ∃ a j i, f l = .ok a j ∧ p a = false ∧ g a (l.drop j) = .ok b i ∧ k = j + i := by
  unfold chk at h
  cases hf : f l with
  | er k e => rw [hf] at h; cases h
  | ok a j =>
    rw [hf] at h
    simp only at h
    cases hp : p a with
    | true => rw [hp] at h; cases h
    | false =>
      rw [hp] at h
      cases hg : g a (l.drop j) with
      | er k e => rw [hg] at h; cases h
      | ok b' i =>
        rw [hg] at h
        simp [Rs.sh] at h
        exact ⟨a, j, i, rfl, hp, by rw [hg, h.1], h.2.symm⟩
theorem members_kind (F : Nf) : ∀ (n d : Nat) (acc : List (ByteArray × V)) (l : List Nat) (v : V) (k : Nat), members F n d acc l = .ok v k → knd v = 6
  | 0, d, acc, l, v, k => fun h => by unfold members at h; cases h
  | n + 1, d, acc, l, v, k => fun h => by
    unfold members at h
    obtain ⟨key, _, _, _, _, h2, _⟩ := chk_inv h
    obtain ⟨_, _, _, _, h2, _⟩ := bnd_inv h2
    obtain ⟨_, _, _, _, h2, _⟩ := bnd_inv h2
    obtain ⟨_, _, _, _, h2, _⟩ := bnd_inv h2
    obtain ⟨x, _, _, _, h2, _⟩ := bnd_inv h2
    obtain ⟨b, _, i2, _, h3, _⟩ := bnd_inv h2
    cases b with
    | true => exact members_kind F n d _ _ v i2 (by simpa using h3)
    | false =>
      have h4 : ∃ z, ret (objV (acc ++ [(bt key, x)])) z = .ok v i2 := ⟨_, by simpa using h3⟩
      obtain ⟨z, h4⟩ := h4
      rw [ret_inv h4]; rfl
/-- a value of a number's kind was read by numP -/
theorem value_num {F : Nf} {n d : Nat} {l : List Nat} {v : V} {j : Nat} (h : value F n d l = .ok v j) (hk : knd v = 2 ∨ knd v = 3) : numP F l = .ok v j := by
  cases n with
  | zero => unfold value at h; cases h
  | succ n =>
    unfold value at h
    by_cases h1 : l.headD 0 = 110
    · rw [if_pos h1] at h; obtain ⟨_, rfl⟩ := bnd_ret h; rcases hk with hk | hk <;> cases hk
    rw [if_neg h1] at h
    by_cases h1 : l.headD 0 = 116
    · rw [if_pos h1] at h; obtain ⟨_, rfl⟩ := bnd_ret h; rcases hk with hk | hk <;> cases hk
    rw [if_neg h1] at h
    by_cases h1 : l.headD 0 = 102
    · rw [if_pos h1] at h; obtain ⟨_, rfl⟩ := bnd_ret h; rcases hk with hk | hk <;> cases hk
    rw [if_neg h1] at h
    by_cases h1 : l.headD 0 = 34
    · rw [if_pos h1] at h; obtain ⟨_, rfl⟩ := bnd_ret h; rcases hk with hk | hk <;> cases hk
    rw [if_neg h1] at h
    by_cases h1 : l.headD 0 = 91
    · rw [if_pos h1] at h
      obtain ⟨_, _, _, _, h2, _⟩ := bnd_inv h
      obtain ⟨_, j2, i2, _, h3, _⟩ := bnd_inv h2
      split at h3
      · obtain ⟨_, rfl⟩ := bnd_ret h3; rcases hk with hk | hk <;> cases hk
      · have := items_kind F _ _ _ _ _ _ h3; omega
    rw [if_neg h1] at h
    by_cases h1 : l.headD 0 = 123
    · rw [if_pos h1] at h
      obtain ⟨_, _, _, _, h2, _⟩ := bnd_inv h
      obtain ⟨_, j2, i2, _, h3, _⟩ := bnd_inv h2
      split at h3
      · obtain ⟨_, rfl⟩ := bnd_ret h3; rcases hk with hk | hk <;> cases hk
      · have := members_kind F _ _ _ _ _ _ h3; omega
    rw [if_neg h1] at h
    exact h
theorem cnt_head {l : List Nat} (h : bl (l.headD 0) = false) : cnt l = 0 := by
  cases l with
  | nil => rfl
  | cons x r => simp only [List.headD_cons] at h; simp [cnt, h]
theorem bl_num {x : Nat} (h : x = 45 ∨ (48 ≤ x ∧ x ≤ 57)) : bl x = false := by
  unfold bl
  simp
  omega
end Go.Proofs.YtjhhdnnblcbdbaaGreatDoor.jp
end
section
namespace Go.Proofs.YtjhhdnnblcbdbaaGreatDoor.jp
open Go.RowKit val
set_option linter.unusedVariables false

def NZ {α : Type} (f : Ps α) : Prop := ∀ l k e, f l = .er k e → e ≠ 0
section
variable {α β : Type}
theorem NZ.ret (a : α) : NZ (jp.ret a) := fun l k e h => by cases h
theorem NZ.er (k : Nat) {e : Int} (h : e ≠ 0) : NZ (fun _ => (.er k e : Rs α)) := fun l k' e' h' => by injection h' with _ h2; omega
theorem NZ.sat (t : Nat → Option α) : NZ (jp.sat t) := by
  intro l k e h
  rcases sat_cases t l with ⟨x, r, a, _, _, h1⟩ | ⟨h1, _⟩
  · rw [h1] at h; cases h
  · rw [h1] at h; injection h with _ h2; omega
theorem NZ.bnd {f : Ps α} {g : α → Ps β} (hf : NZ f) (hg : ∀ a, NZ (g a)) : NZ (jp.bnd f g) := by
  intro l k e h
  unfold jp.bnd at h
  cases hf1 : f l with
  | er k1 e1 => rw [hf1] at h; injection h with _ h2; exact h2 ▸ hf l k1 e1 hf1
  | ok a j =>
    rw [hf1] at h
    simp only at h
    cases hg1 : g a (l.drop j) with
    | ok b i => rw [hg1] at h; cases h
    | er k1 e1 => rw [hg1] at h; injection h with _ h2; exact h2 ▸ hg a _ k1 e1 hg1
theorem NZ.chk {f : Ps α} {p : α → Bool} {g : α → Ps β} (hf : NZ f) (hg : ∀ a, NZ (g a)) : NZ (jp.chk f p g) := by
  intro l k e h
  unfold jp.chk at h
  cases hf1 : f l with
  | er k1 e1 => rw [hf1] at h; injection h with _ h2; exact h2 ▸ hf l k1 e1 hf1
  | ok a j =>
    rw [hf1] at h
    simp only at h
    split at h
    · injection h with _ h2; omega
    · cases hg1 : g a (l.drop j) with
      | ok b i => rw [hg1] at h; cases h
      | er k1 e1 => rw [hg1] at h; injection h with _ h2; exact h2 ▸ hg a _ k1 e1 hg1
theorem NZ.at_ {f : Ps α} (g : List Nat → Ps α) (h : ∀ l, f l = g l l) (hg : ∀ l, NZ (g l)) : NZ f := fun l k e h1 => hg l l k e (by rw [← h]; exact h1)
end
theorem NZ.blanks : NZ blanks := fun l k e h => by cases h
theorem NZ.opn (d : Nat) : NZ (opn d) := by
  intro l k e h
  unfold jp.opn at h
  cases l with
  | nil => injection h with _ h2; omega
  | cons x r =>
    simp only at h
    split at h
    · injection h with _ h2; omega
    · cases h
theorem NZ.word : ∀ ws, NZ (word ws)
  | [] => NZ.ret ()
  | c :: r => NZ.bnd (NZ.sat _) fun _ => NZ.word r
theorem NZ.digK (m : Int → Int → Bool) : ∀ k a f, NZ (digK m k a f)
  | 0, a, _ => NZ.ret a
  | k + 1, a, f => NZ.bnd (NZ.sat _) fun _ => NZ.digK m k _ _
theorem NZ.escU : NZ escU := NZ.bnd (NZ.sat _) fun _ => NZ.bnd (NZ.digK _ 4 0 (-1)) fun n => by
  split
  · exact NZ.bnd (NZ.sat _) fun _ => NZ.bnd (NZ.sat _) fun _ => NZ.bnd (NZ.digK _ 4 0 (-1)) fun _ => NZ.ret _
  · exact NZ.ret _
theorem NZ.escP : NZ escP := by
  refine NZ.at_ (fun l => match mean (l.headD 0) with | some b => jp.bnd one fun _ => jp.ret [b] | none => jp.escU) (fun l => rfl) fun l => ?_
  cases mean (l.headD 0) with
  | some b => exact NZ.bnd (NZ.sat _) fun _ => NZ.ret _
  | none => exact NZ.escU
theorem NZ.conts : ∀ m lo hi, NZ (conts m lo hi)
  | 0, _, _ => NZ.ret _
  | m + 1, lo, hi => NZ.bnd (NZ.sat _) fun _ => NZ.bnd (NZ.conts m _ _) fun _ => NZ.ret _
theorem NZ.group : NZ group := NZ.bnd (NZ.sat _) fun _ => NZ.bnd (NZ.conts _ _ _) fun _ => NZ.ret _
theorem NZ.pieces : ∀ m acc, NZ (pieces m acc)
  | 0, acc => NZ.er 0 (by decide)
  | m + 1, acc => by
    intro l k e h
    unfold jp.pieces at h
    split at h
    · injection h with _ h2; omega
    · split at h
      · exact NZ.bnd (NZ.sat _) (fun _ => NZ.ret _) l k e h
      · split at h
        · exact NZ.bnd (NZ.sat _) (fun _ => NZ.bnd NZ.escP fun _ => NZ.pieces m _) l k e h
        · exact NZ.bnd NZ.group (fun _ => NZ.pieces m _) l k e h
theorem NZ.text (m : Nat) : NZ (text m) := NZ.bnd (NZ.sat _) fun _ => NZ.pieces m _
theorem NZ.numP (F : Nf) : NZ (numP F) := by
  intro l k e h
  unfold jp.numP at h
  split at h
  · injection h with _ h2; omega
  · split at h
    · cases h
    · rename_i h0
      injection h with _ h2
      exact h2 ▸ h0
theorem NZ.more (c : Nat) : NZ (more c) := NZ.bnd NZ.blanks fun _ l k e h => by
  split at h
  · exact NZ.bnd (NZ.sat _) (fun _ => NZ.ret _) l k e h
  · exact NZ.bnd (NZ.sat _) (fun _ => NZ.bnd NZ.blanks fun _ => NZ.ret _) l k e h
theorem nz_all (F : Nf) : ∀ n, (∀ d, NZ (value F n d)) ∧ (∀ d acc, NZ (items F n d acc)) ∧ ∀ d acc, NZ (members F n d acc)
  | 0 => ⟨fun d => NZ.er 0 (by decide), fun d acc => NZ.er 0 (by decide), fun d acc => NZ.er 0 (by decide)⟩
  | n + 1 => by
    obtain ⟨hv, hi, hm⟩ := nz_all F n
    refine ⟨fun d l k e h => ?_, fun d acc l k e h => ?_, fun d acc l k e h => ?_⟩
    · unfold value at h
      by_cases h1 : l.headD 0 = 110
      · rw [if_pos h1] at h; exact NZ.bnd (NZ.word _) (fun _ => NZ.ret _) l k e h
      rw [if_neg h1] at h
      by_cases h1 : l.headD 0 = 116
      · rw [if_pos h1] at h; exact NZ.bnd (NZ.word _) (fun _ => NZ.ret _) l k e h
      rw [if_neg h1] at h
      by_cases h1 : l.headD 0 = 102
      · rw [if_pos h1] at h; exact NZ.bnd (NZ.word _) (fun _ => NZ.ret _) l k e h
      rw [if_neg h1] at h
      by_cases h1 : l.headD 0 = 34
      · rw [if_pos h1] at h; exact NZ.bnd (NZ.text _) (fun _ => NZ.ret _) l k e h
      rw [if_neg h1] at h
      by_cases h1 : l.headD 0 = 91
      · rw [if_pos h1] at h
        refine NZ.bnd (NZ.opn d) (fun _ => NZ.bnd NZ.blanks fun _ l k e h => ?_) l k e h
        split at h
        · exact NZ.bnd (NZ.sat _) (fun _ => NZ.ret _) l k e h
        · exact hi _ _ l k e h
      rw [if_neg h1] at h
      by_cases h1 : l.headD 0 = 123
      · rw [if_pos h1] at h
        refine NZ.bnd (NZ.opn d) (fun _ => NZ.bnd NZ.blanks fun _ l k e h => ?_) l k e h
        split at h
        · exact NZ.bnd (NZ.sat _) (fun _ => NZ.ret _) l k e h
        · exact hm _ _ l k e h
      rw [if_neg h1] at h
      exact NZ.numP F l k e h
    · unfold items at h
      refine NZ.bnd (hv d) (fun v => NZ.bnd (NZ.more _) fun b => ?_) l k e h
      cases b
      · exact NZ.ret _
      · exact hi _ _
    · unfold members at h
      refine NZ.chk (NZ.text _) (fun key => NZ.bnd NZ.blanks fun _ => NZ.bnd (NZ.sat _) fun _ => NZ.bnd NZ.blanks fun _ => NZ.bnd (hv d) fun v => NZ.bnd (NZ.more _) fun b => ?_) l k e h
      cases b
      · exact NZ.ret _
      · exact hm _ _
theorem rd_nz {F : Nf} {n d : Nat} {l : List Nat} {k : Nat} {e : Int} (h : rd F n d l = .er k e) : e ≠ 0 := by
  refine NZ.bnd NZ.blanks (fun _ => NZ.bnd ((nz_all F n).1 d) fun v => NZ.bnd NZ.blanks fun _ l k e h => ?_) l k e h
  split at h
  · cases h
  · injection h with _ h2; omega
theorem rd_len {F : Nf} (hF : ∀ l, (F l).2.2.2 ≠ 50 ∧ (F l).2.2.2 ≠ 71) {n d : Nat} {l : List Nat} {v : V} {k : Nat} (h : rd F n d l = .ok v k) : k ≤ l.length := by
  unfold rd at h
  obtain ⟨_, j, i, h1, h2, rfl⟩ := bnd_inv h
  obtain ⟨x, j2, i2, h3, h22, rfl⟩ := bnd_inv h2
  obtain ⟨_, j3, i3, h4, h5, rfl⟩ := bnd_inv h22
  have e1 := Loc.blanks.okl _ _ _ h1
  have e2 := ((Loc.all hF n).1 d).okl _ _ _ h3
  have e3 := Loc.blanks.okl _ _ _ h4
  rw [List.length_drop] at e2 e3
  rw [List.length_drop] at e3
  split at h5
  · injection h5 with _ h6; omega
  · cases h5
theorem tok_le {src : List Nat} (h : src.length ≤ 1100000) (p : Nat) : pE (src.drop p) ≤ 1100000 := by
  have h1 := (pf_at (src.drop p)).1
  have h2 := (pf_at (src.drop p)).2.1
  rw [List.length_drop] at h1
  omega
end Go.Proofs.YtjhhdnnblcbdbaaGreatDoor.jp
end
section
namespace Go.Proofs.YtjhhdnnblcbdbaaGreatDoor.jw
open Go.RowKit mem val jp big pg
set_option linter.unusedVariables false

set_option maxRecDepth 100000 in
set_option maxHeartbeats 800000 in
theorem same_self (n : Bool) (a : Nat) (h : a < 9223372036854775808) (w : World) :
    Calls Tryz.prog 18 #[.float .f64 (a + sgn n), .float .f64 (a + sgn n)] w fun e w' => e = .returned (.bool true) ∧ w = w' := by
  have hbits := run_f64bits
  have hn := isNaN_any n a w h
  have HN := Lib.hid hn
  clear hn h
  generalize a + sgn n = b at *
  generalize decide (9218868437227405312 < a) = d at *
  cases d
  · go_enter Tryz.func18, Tryz.ntmps18
    go_wp2_with fail
    refine HN.out.mono ?_
    rintro e w' ⟨rfl, rfl⟩
    go_wp2_with fail
    refine HN.out.mono ?_
    rintro e w' ⟨rfl, rfl⟩
    go_wp2_with fail
    go_ret
    exact ⟨by simp, rfl⟩
  · go_enter Tryz.func18, Tryz.ntmps18
    go_wp2_with fail
    refine HN.out.mono ?_
    rintro e w' ⟨rfl, rfl⟩
    go_wp2_with fail
    refine HN.out.mono ?_
    rintro e w' ⟨rfl, rfl⟩
    go_wp2_with fail
    refine HN.out.mono ?_
    rintro e w' ⟨rfl, rfl⟩
    go_wp2_with fail
    go_ret
    exact ⟨rfl, rfl⟩
/-- number.Same of one float with itself -/
def SameOk : Prop := ∀ f : Nat, f < 18446744073709551616 → ∀ w : World, Calls Tryz.prog 18 #[.float .f64 f, .float .f64 f] w fun e w' => e = .returned (.bool true) ∧ w = w'
theorem same_bits (f : Nat) (h : f < 18446744073709551616) (w : World) : Calls Tryz.prog 18 #[.float .f64 f, .float .f64 f] w fun e w' => e = .returned (.bool true) ∧ w = w' := by
  by_cases hh : f < 9223372036854775808
  · have := same_self false f hh w
    simpa [sgn] using this
  · have e : f = (f - 9223372036854775808) + sgn true := by simp [sgn]; omega
    rw [e]
    exact same_self true _ (by omega) w
end Go.Proofs.YtjhhdnnblcbdbaaGreatDoor.jw
end
section
namespace Go.Proofs.YtjhhdnnblcbdbaaGreatDoor.jw
open Go.RowKit mem val jp
set_option linter.unusedVariables false
attribute [local go_sem] run_store_float

/-- what Read makes of a text without blanks at its ends, told by layer 2's answer -/
def NumLaw (F : Nf) (r : Rs V) (l : List Nat) : Prop := ((F l).2.2.2 = 7 → r = .er 0 7) ∧ ((F l).2.2.2 ≠ 7 → (F l).2.2.2 ≠ 0 → (∃ k e, r = .er k e ∧ e ≠ 0) ∨ ∃ v k, r = .ok v k ∧ knd v ≠ 2 ∧ knd v ≠ 3) ∧ ((F l).2.2.2 = 0 → ∃ k, r = .ok (numV (F l).1 (F l).2.1 (F l).2.2.1) k) ∧ (F l).2.2.1 < 18446744073709551616
theorem bt_get {l : List Nat} {i x : Nat} (hx : x < 256) (h : l[i]? = some x) : ∃ h' : i < (bt l).size, ((bt l)[i]'h').toNat = x := by
  have hl : i < l.length := (List.getElem?_eq_some_iff.1 h).1
  have hs : i < (bt l).size := by rw [bt_size]; exact hl
  refine ⟨hs, ?_⟩
  have e1 : (bt l)[i]'hs = (bt l).data[i]'hs := rfl
  rw [e1]
  have e2 : (bt l).data[i]'hs = UInt8.ofNat (l[i]'hl) := by simp [bt, strOf]
  rw [e2, (List.getElem?_eq_some_iff.1 h).2, UInt8.toNat_ofNat']
  omega
theorem bt_ext (l : List Nat) (i j : Nat) : (bt l).extract i j = bt ((l.drop i).take (j - i)) := by
  apply ByteArray.ext
  rw [ByteArray.data_extract]
  simp only [bt, strOf, List.extract_toArray, List.extract_eq_take_drop, List.map_take, List.map_drop]
theorem snoc_cases (M : List Nat) : M = [] ∨ ∃ r x, M = r ++ [x] := by
  rcases List.eq_nil_or_concat M with h | ⟨r, x, h⟩
  · exact .inl h
  · exact .inr ⟨r, x, by rw [h, List.concat_eq_append]⟩
def strLen : Value → Nat
  | .string b => b.size
  | _ => 0
set_option maxRecDepth 100000 in
set_option maxHeartbeats 4000000 in
theorem numbers_walk {F : Nf} (FO : List Nat → Prop) (s : List Nat) (N : Nat) (w : World) (hn : s.length ≤ 1099000) (hby : ∀ x ∈ s, x < 256)
    (hfix : Calls Tryz.prog 12 #[] w fun e w' => e = .returned (.bool true) ∧ Below w.heap.size w w')
    (hnum : ∀ l : List Nat, l.length ≤ 1100000 → (∀ x ∈ l, x < 256) → ∀ W, Below w.heap.size w W → Calls Tryz.prog 17 #[.string (bt l)] W fun e w' => e = .returned (.tuple #[.agg #[.int .i64 (F l).1, .int .i64 (F l).2.1, .float .f64 (F l).2.2.1], .int .i64 (F l).2.2.2]) ∧ Below W.heap.size W w' ∧ FO l)
    (hread : ∀ l : List Nat, l.length ≤ 1100000 → (∀ x ∈ l, x < 256) → 2 * l.length < N → ∀ W, Below w.heap.size w W → Calls Tryz.prog 13 #[.slice (some ⟨W.heap.size, 0, none⟩) (bt l).size (grownCap W (bt l).size 0 5), .int .i64 0] (Lib.bytesWorld W 5 (bt l)) (RdQ (rd F N 0 l) (Lib.bytesWorld W 5 (bt l))))
    (hN : 2 * s.length < N) (hlaw : ∀ l : List Nat, l.length ≤ s.length → bl (l.headD 0) = false → bl (l.getLastD 0) = false → FO l → NumLaw F (rd F N 0 l) l) (hsame : SameOk) :
    Calls Tryz.prog 5 #[.string (bt s)] w fun e w' => e = .returned (.bool true) ∧ Below w.heap.size w w' := by
  have HFx := Lib.hid hfix
  have HNm := Lib.hid hnum
  have HRd := Lib.hid hread
  have HLw := Lib.hid hlaw
  have HSm := Lib.hid hsame
  have HBy := Lib.hid hby
  clear hfix hnum hread hlaw hsame hby
  go_enter Tryz.func5, Tryz.ntmps5
  go_wp2_with fail
  refine HFx.out.mono ?_
  rintro e w1 ⟨rfl, hb1⟩
  have HB1 := Lib.hid hb1
  clear hb1 HFx
  go_upto_block 0 with fail
  go_cut [0] from 10 to 34 (fun u0 wx => ∃ M : List Nat, u0 = .string (bt M) ∧ M.length ≤ s.length ∧ Hid (∀ x ∈ M, x < 256) ∧ bl (M.headD 0) = false ∧ Hid (Below w.heap.size w wx))
  case first =>
    go_wp2_with fail
    go_loopw [0] (fun u0 wr => ∃ M : List Nat, u0 = .string (bt M) ∧ M.length ≤ s.length ∧ Hid (∀ x ∈ M, x < 256) ∧ Hid (Below w.heap.size w wr)) (fun u0 _ => strLen u0)
    case atStart => exact ⟨s, rfl, Nat.le_refl _, HBy, HB1⟩
    case round =>
      obtain ⟨M, rfl, hM, HMb, HMw⟩ := hrel
      cases M with
      | nil =>
        have hz : (bt []).size = 0 := by rw [bt_size]; rfl
        have hz2 : ((bt []).size : Int) = 0 := by omega
        go_wp2_with fail
        go_meet
        case rel => exact ⟨[], rfl, hM, HMb, rfl, HMw⟩
      | cons x r =>
        have hx : x < 256 := HMb.out x (by simp)
        obtain ⟨h0, hx0⟩ := bt_get (l := x :: r) (i := 0) hx rfl
        have hsz : (bt (x :: r)).size = r.length + 1 := by rw [bt_size]; rfl
        have hex : (bt (x :: r)).extract 1 (r.length + 1) = bt r := by rw [bt_ext]; simp
        have hpos : (0 : Int) < ((bt (x :: r)).size : Int) := by omega
        have HMr : Hid (∀ y ∈ r, y < 256) := Lib.hid fun y hy => HMb.out y (by simp [hy])
        generalize hS : bt (x :: r) = S at h0 hx0 hsz hex hpos ⊢
        have HS := Lib.hid hS
        clear hS
        by_cases hb : bl x = true
        · have hx4 : x = 32 ∨ x = 9 ∨ x = 10 ∨ x = 13 := by simpa [bl, or_assoc] using hb
          rcases hx4 with rfl | rfl | rfl | rfl
          all_goals
            go_wp2_with fail
            exact ⟨⟨r, rfl, by simp at hM; omega, HMr, HMw⟩, by simp only [strLen]; rw [bt_size]; omega⟩
        · obtain ⟨⟨⟨n1, n2⟩, n3⟩, n4⟩ : ((¬x = 32 ∧ ¬x = 9) ∧ ¬x = 10) ∧ ¬x = 13 := by simpa [bl] using hb
          have b1 : ((x : Int) == 32) = false := by simp; omega
          have b2 : ((x : Int) == 9) = false := by simp; omega
          have b3 : ((x : Int) == 10) = false := by simp; omega
          have b4 : ((x : Int) == 13) = false := by simp; omega
          go_wp2_with fail
          go_meet
          case rel => exact ⟨x :: r, by rw [HS.out], hM, HMb, by simpa using hb, HMw⟩
  case rest =>
    obtain ⟨M, rfl, hM, HMb, hh, HMw⟩ := hcut
    go_upto_block 2 with fail
    go_cut [0] from 35 to 74 (fun u0 wx => ∃ M : List Nat, u0 = .string (bt M) ∧ M.length ≤ s.length ∧ Hid (∀ x ∈ M, x < 256) ∧ Hid (bl (M.headD 0) = false ∧ bl (M.getLastD 0) = false) ∧ Hid (Below w.heap.size w wx))
    case first =>
      go_wp2_with fail
      go_loopw [0] (fun u0 wr => ∃ M : List Nat, u0 = .string (bt M) ∧ M.length ≤ s.length ∧ Hid (∀ x ∈ M, x < 256) ∧ Hid (bl (M.headD 0) = false) ∧ Hid (Below w.heap.size w wr)) (fun u0 _ => strLen u0)
      case atStart => exact ⟨M, rfl, hM, HMb, Lib.hid hh, HMw⟩
      case round =>
        clear HMb HMw hh hM
        obtain ⟨M, rfl, hM, HMb, HH, HMw⟩ := hrel
        rcases snoc_cases M with rfl | ⟨r, x, rfl⟩
        · have hz : (bt []).size = 0 := by rw [bt_size]; rfl
          have hz2 : ((bt []).size : Int) = 0 := by omega
          go_wp2_with fail
          go_meet
          case rel => exact ⟨[], rfl, hM, HMb, Lib.hid ⟨HH.out, rfl⟩, HMw⟩
        · have hx : x < 256 := HMb.out x (by simp)
          obtain ⟨k, hk⟩ : ∃ k, r.length = k := ⟨_, rfl⟩
          obtain ⟨h0, hx0⟩ := bt_get (l := r ++ [x]) (i := k) hx (by subst hk; simp)
          have hsz : (bt (r ++ [x])).size = k + 1 := by rw [bt_size]; simp [hk]
          have hex : (bt (r ++ [x])).extract 0 k = bt r := by rw [bt_ext]; simp [← hk]
          have hkn : k ≤ 1099000 := by simp at hM; omega
          have hwr : wrap64 (((bt (r ++ [x])).size : Int) - 1) = (k : Int) := by unfold wrap64; omega
          have hpos : (0 : Int) < ((bt (r ++ [x])).size : Int) := by omega
          have HMr : Hid (∀ y ∈ r, y < 256) := Lib.hid fun y hy => HMb.out y (by simp [hy])
          have HHr : Hid (bl (r.headD 0) = false) := Lib.hid (by
            have := HH.out
            cases r with
            | nil => rfl
            | cons a b => exact this)
          generalize hS : bt (r ++ [x]) = S at h0 hx0 hsz hex hpos hwr ⊢
          have HS := Lib.hid hS
          clear hS
          by_cases hb : bl x = true
          · have hx4 : x = 32 ∨ x = 9 ∨ x = 10 ∨ x = 13 := by simpa [bl, or_assoc] using hb
            rcases hx4 with rfl | rfl | rfl | rfl
            all_goals
              go_wp2_with fail
              exact ⟨⟨r, rfl, by simp at hM; omega, HMr, HHr, HMw⟩, by simp only [strLen]; rw [bt_size]; omega⟩
          · obtain ⟨⟨⟨n1, n2⟩, n3⟩, n4⟩ : ((¬x = 32 ∧ ¬x = 9) ∧ ¬x = 10) ∧ ¬x = 13 := by simpa [bl] using hb
            have b1 : ((x : Int) == 32) = false := by simp; omega
            have b2 : ((x : Int) == 9) = false := by simp; omega
            have b3 : ((x : Int) == 10) = false := by simp; omega
            have b4 : ((x : Int) == 13) = false := by simp; omega
            go_wp2_with fail
            go_meet
            case rel => exact ⟨r ++ [x], by rw [HS.out], hM, HMb, Lib.hid ⟨HH.out, by simpa using hb⟩, HMw⟩
    case rest =>
      clear HMb HMw hh hM
      obtain ⟨M, rfl, hM, HMb, HH, HMw⟩ := hcut
      have HLaw' := Lib.hid (HLw.out M hM HH.out.1 HH.out.2)
      have hM2 : M.length ≤ 1100000 := by omega
      have HX := Lib.hid (fun W hW => HRd.out M hM2 HMb.out (by omega) W hW)
      have HN2 := Lib.hid (HNm.out M hM2 HMb.out wc HMw.out)
      clear HNm HRd HLw HMb HH HBy
      unfold NumLaw at HLaw'
      generalize (F M).1 = nk at *
      generalize (F M).2.1 = nv at *
      generalize (F M).2.2.1 = nb at *
      generalize (F M).2.2.2 = ne at *
      go_wp2_with fail
      refine HN2.out.mono ?_
      rintro e w3 ⟨rfl, hb3, hfo⟩
      have HLaw := Lib.hid (HLaw'.out hfo)
      clear HLaw' hfo
      have HB3 := Lib.hid (HMw.out.trans (hb3.mono HMw.out.size))
      clear HN2 hb3
      go_upto_region 8 with fail
      have g4 : (w3.alloc (.cells #[.int .i64 nk, .int .i64 nv, .float .f64 nb] 41)).heap[w3.heap.size]? = some (.cells #[.int .i64 nk, .int .i64 nv, .float .f64 nb] 41) := heap_alloc_new _ _
      have hb34 : Below w3.heap.size w3 (w3.alloc (.cells #[.int .i64 nk, .int .i64 nv, .float .f64 nb] 41)) := (Below.refl _ _).alloc (Nat.le_refl _) _
      generalize (w3.alloc (.cells #[.int .i64 nk, .int .i64 nv, .float .f64 nb] 41)) = w4 at *
      have HB4 := Lib.hid (HB3.out.trans (hb34.mono HB3.out.size))
      have hcs := conv_strJ (bt M) w4
      have hbw := below_bytesW w4 (bt M)
      have HB5 := Lib.hid (HB4.out.trans (hbw.mono HB4.out.size))
      have g5 := blk_below g4 hbw (blk_lt g4)
      have hg3 := blk_lt g5
      have HX2 := Lib.hid (HX.out w4 HB4.out)
      clear hb34 hbw g4 HX
      go_wp2_with fail
      refine HX2.out.mono ?_
      rintro e w6 hQ
      generalize Lib.bytesWorld w4 5 (bt M) = w5 at *
      clear hcs HX2
      by_cases h7 : ne = 7
      · have hr := HLaw.out.1 h7
        rw [hr] at hQ
        obtain ⟨hb6, rfl⟩ := hQ
        subst h7
        have HB6 := Lib.hid (HB5.out.trans (hb6.mono HB5.out.size))
        clear hb6 g5 hr HLaw
        go_wp2_with fail
        go_ret
        exact ⟨rfl, HB6.out.alloc HB6.out.size _⟩
      have b7 : (ne == 7) = false := by simp [h7]
      by_cases h0 : ne = 0
      · obtain ⟨k, hr⟩ := HLaw.out.2.2.1 h0
        have hnb := HLaw.out.2.2.2
        rw [hr] at hQ
        subst h0
        obtain ⟨hb6, ds, rfl, hv6⟩ := hQ
        unfold numV at hv6
        simp only [IsV] at hv6
        obtain ⟨A4, c4, A4', c4', rfl, _⟩ := hv6
        have g6 := blk_below g5 hb6 hg3
        have HB6 := Lib.hid (HB5.out.trans (hb6.mono HB5.out.size))
        have HS2 := Lib.hid (fun W => HSm.out nb hnb W)
        clear hb6 g5 hr HLaw HSm
        go_upto_region 9 with fail
        have e7 : (w6.alloc (.cells #[.int .i64 nk, .bool false, .int .i64 nv, .float .f64 nb, .string ByteArray.empty, .string ByteArray.empty, .slice A4 0 c4, .slice A4' 0 c4'] 29)).heap[w6.heap.size]? = some (.cells #[.int .i64 nk, .bool false, .int .i64 nv, .float .f64 nb, .string ByteArray.empty, .string ByteArray.empty, .slice A4 0 c4, .slice A4' 0 c4'] 29) := heap_alloc_new _ _
        have hb67 : Below w6.heap.size w6 (w6.alloc (.cells #[.int .i64 nk, .bool false, .int .i64 nv, .float .f64 nb, .string ByteArray.empty, .string ByteArray.empty, .slice A4 0 c4, .slice A4' 0 c4'] 29)) := (Below.refl _ _).alloc (Nat.le_refl _) _
        have g7 := blk_below g6 hb67 (blk_lt g6)
        generalize (w6.alloc (.cells #[.int .i64 nk, .bool false, .int .i64 nv, .float .f64 nb, .string ByteArray.empty, .string ByteArray.empty, .slice A4 0 c4, .slice A4' 0 c4'] 29)) = w7 at *
        have HB7 := Lib.hid (HB6.out.trans (hb67.mono HB6.out.size))
        obtain ⟨a0, a1, a2, a3, a4, a5, a6, a7⟩ := blk8 e7
        have n0 := cell_of_row w7 w3.heap.size 0 _ _ (0, 0) g7
        have n1 := cell_of_row w7 w3.heap.size 1 _ _ (0, 0) g7
        have n2 := cell_of_row w7 w3.heap.size 2 _ _ (0, 0) g7
        clear hb67 g6 g7 e7
        go_wp2_with fail
        refine (HS2.out _).mono ?_
        rintro e w8 ⟨rfl, rfl⟩
        go_wp2_with fail
        go_ret
        exact ⟨rfl, HB7.out⟩
      · rcases HLaw.out.2.1 h7 h0 with ⟨k, e0, hr, he0⟩ | ⟨v, k, hr, hk2, hk3⟩
        · rw [hr] at hQ
          obtain ⟨hb6, rfl⟩ := hQ
          have HB6 := Lib.hid (HB5.out.trans (hb6.mono HB5.out.size))
          have b0 : (ne != 0) = true := by simp [h0]
          have be : (e0 != 0) = true := by simp [he0]
          clear hb6 g5 hr HLaw
          go_wp2_with fail
          go_ret
          exact ⟨rfl, HB6.out.alloc HB6.out.size _⟩
        · rw [hr] at hQ
          obtain ⟨hb6, ds, rfl, hv6⟩ := hQ
          obtain ⟨k2, b2, i2, f2, t2, y2, is2, fs2⟩ := v
          simp only [IsV] at hv6
          obtain ⟨A4, c4, A4', c4', rfl, _⟩ := hv6
          simp only [knd] at hk2 hk3
          have HB6 := Lib.hid (HB5.out.trans (hb6.mono HB5.out.size))
          have b0 : (ne != 0) = true := by simp [h0]
          have e2 : (k2 != 2) = true := by simp [hk2]
          have e3 : (k2 != 3) = true := by simp [hk3]
          clear hb6 g5 hr HLaw
          go_wp2_with fail
          go_ret
          exact ⟨rfl, HB6.out.alloc HB6.out.size _⟩
end Go.Proofs.YtjhhdnnblcbdbaaGreatDoor.jw
end
section
namespace Go.Proofs.YtjhhdnnblcbdbaaGreatDoor.dcm
open Go.RowKit mem fl big us uw pg sh
set_option linter.unusedVariables false

/-- what 'run' answers over a list read from a state on -/
def Rn (st e f : Int) (i : Nat) (M : List Nat) (x : Int × Int × Int) : Prop := ∃ t : Nat, t ≤ M.length ∧ x.2.1 = ((i + t : Nat) : Int) ∧ (st ≠ 9 → pfx.adv st (M.take t) ≠ 9) ∧ (t < M.length → pfx.adv st (M.take (t + 1)) = 9) ∧
  ((x.1 = e ∧ x.2.2 = f ∧ ∀ k, 1 ≤ k → k ≤ t → pfx.fm (pfx.adv st (M.take k)) = 0) ∨
   ∃ u : Nat, 1 ≤ u ∧ u ≤ t ∧ x.1 = ((i + u : Nat) : Int) ∧ x.2.2 = pfx.fm (pfx.adv st (M.take u)) ∧ pfx.fm (pfx.adv st (M.take u)) ≠ 0 ∧ ∀ k, u < k → k ≤ t → pfx.fm (pfx.adv st (M.take k)) = 0)
theorem run_spec : ∀ (M : List Nat) (st e f : Int) (i : Nat), Rn st e f i M (pfx.run st e f i (M.map fun n : Nat => (n : Int)))
  | [], st, e, f, i => ⟨0, Nat.le_refl _, by simp [pfx.run], fun h => h, fun h => absurd h (by simp), .inl ⟨rfl, rfl, fun k h1 h2 => by omega⟩⟩
  | c :: r, st, e, f, i => by
    rw [List.map_cons]
    show Rn st e f i (c :: r) (if pfx.nx st (c : Int) = 9 then (e, (i : Int), f) else if pfx.fm (pfx.nx st (c : Int)) = 0 then pfx.run (pfx.nx st (c : Int)) e f (i + 1) (r.map fun n : Nat => (n : Int)) else pfx.run (pfx.nx st (c : Int)) ((i : Int) + 1) (pfx.fm (pfx.nx st (c : Int))) (i + 1) (r.map fun n : Nat => (n : Int)))
    have hk1 : ∀ k, 1 ≤ k → pfx.adv st ((c :: r).take k) = pfx.adv (pfx.nx st (c : Int)) (r.take (k - 1)) := fun k hk => by
      obtain ⟨j, rfl⟩ : ∃ j, k = j + 1 := ⟨k - 1, by omega⟩
      rw [List.take_succ_cons, pfx.adv_cons, Nat.add_sub_cancel]
    by_cases h9 : pfx.nx st (c : Int) = 9
    · rw [if_pos h9]
      refine ⟨0, Nat.zero_le _, by simp, fun h => h, fun _ => ?_, .inl ⟨rfl, rfl, fun k h1 h2 => by omega⟩⟩
      rw [hk1 _ (by omega), h9]
      exact pfx.adv9 _
    · rw [if_neg h9]
      by_cases h0 : pfx.fm (pfx.nx st (c : Int)) = 0
      · rw [if_pos h0]
        obtain ⟨t, ht, hs, ha, hb, hc⟩ := run_spec r (pfx.nx st (c : Int)) e f (i + 1)
        refine ⟨t + 1, by simp only [List.length_cons]; omega, by rw [hs]; omega, fun _ => ?_, fun hlt => ?_, ?_⟩
        · rw [hk1 _ (by omega)]; exact ha h9
        · rw [hk1 _ (by omega)]; exact hb (by simp only [List.length_cons] at hlt; omega)
        · rcases hc with ⟨h1, h2, h3⟩ | ⟨u, hu1, hu2, h1, h2, h3, h4⟩
          · refine .inl ⟨h1, h2, fun k hk hkt => ?_⟩
            rw [hk1 k hk]
            rcases Nat.lt_or_ge (k - 1) 1 with hh | hh
            · rw [show k - 1 = 0 by omega]; exact h0
            · exact h3 _ hh (by omega)
          · refine .inr ⟨u + 1, by omega, by omega, by rw [h1]; omega, ?_, ?_, fun k hk hkt => ?_⟩
            · rw [hk1 _ (by omega)]; exact h2
            · rw [hk1 _ (by omega)]; exact h3
            · rw [hk1 _ (by omega)]; exact h4 _ (by omega) (by omega)
      · rw [if_neg h0]
        obtain ⟨t, ht, hs, ha, hb, hc⟩ := run_spec r (pfx.nx st (c : Int)) ((i : Int) + 1) (pfx.fm (pfx.nx st (c : Int))) (i + 1)
        refine ⟨t + 1, by simp only [List.length_cons]; omega, by rw [hs]; omega, fun _ => ?_, fun hlt => ?_, ?_⟩
        · rw [hk1 _ (by omega)]; exact ha h9
        · rw [hk1 _ (by omega)]; exact hb (by simp only [List.length_cons] at hlt; omega)
        · rcases hc with ⟨h1, h2, h3⟩ | ⟨u, hu1, hu2, h1, h2, h3, h4⟩
          · refine .inr ⟨1, by omega, by omega, by rw [h1]; omega, ?_, ?_, fun k hk hkt => ?_⟩
            · rw [hk1 _ (by omega)]; exact h2
            · rw [hk1 _ (by omega)]; exact h0
            · rw [hk1 _ (by omega)]; exact h3 _ (by omega) (by omega)
          · refine .inr ⟨u + 1, by omega, by omega, by rw [h1]; omega, ?_, ?_, fun k hk hkt => ?_⟩
            · rw [hk1 _ (by omega)]; exact h2
            · rw [hk1 _ (by omega)]; exact h3
            · rw [hk1 _ (by omega)]; exact h4 _ (by omega) (by omega)
theorem adv_range (M : List Nat) : ∀ st : Int, 0 ≤ st → st ≤ 9 → 0 ≤ pfx.adv st M ∧ pfx.adv st M ≤ 9 := by
  induction M with
  | nil => intro st h1 h2; exact ⟨h1, h2⟩
  | cons c r ih =>
    intro st h1 h2
    rw [pfx.adv_cons]
    have := pfx.nx_range st (c : Int)
    exact ih _ this.1 this.2
theorem form_app48 (M : List Nat) : form (M ++ [48]) = pfx.fm (pfx.nx (pfx.adv 0 M) 48) := by
  unfold form
  rw [pfx.adv_app]
  rfl
/-- what 'Prefix' tells of the texts that begin at a place -/
theorem pf_spec (L : List Nat) (a : Nat) (ha : a ≤ L.length) : ∃ u t : Nat, u ≤ t ∧ a + t ≤ L.length ∧ pfx.pf (L.map fun n : Nat => (n : Int)) a = (((a + u : Nat) : Int), ((a + t : Nat) : Int), form ((L.drop a).take u)) ∧ (u = 0 → form ((L.drop a).take u) = 0) ∧ (0 < u → form ((L.drop a).take u) ≠ 0) ∧ (∀ k, u < k → k ≤ t → form ((L.drop a).take k) = 0) ∧
    (form ((L.drop a).take t) = 0 → form ((L.drop a).take t ++ [48]) ≠ 0) ∧ (a + t < L.length → form ((L.drop a).take (t + 1)) = 0 ∧ form ((L.drop a).take (t + 1) ++ [48]) = 0) := by
  have hp : pfx.pf (L.map fun n : Nat => (n : Int)) a = pfx.run 0 (a : Int) 0 a ((L.drop a).map fun n : Nat => (n : Int)) := by
    unfold pfx.pf
    rw [if_neg (by rw [List.length_map]; omega), Int.toNat_natCast, ← List.map_drop]
  obtain ⟨t, ht, hs, h9, hlt, hc⟩ := run_spec (L.drop a) 0 (a : Int) 0 a
  rw [← hp] at hs hc
  rw [List.length_drop] at ht hlt
  have h4 : form ((L.drop a).take t) = 0 → form ((L.drop a).take t ++ [48]) ≠ 0 := by
    rw [form_app48]
    unfold form
    have h1 := adv_range ((L.drop a).take t) 0 (by omega) (by omega)
    have h2 := h9 (by omega)
    obtain ⟨s, hs⟩ : ∃ s, pfx.adv 0 ((L.drop a).take t) = s := ⟨_, rfl⟩
    rw [hs] at h1 h2 ⊢
    have h3 : s = 0 ∨ s = 1 ∨ s = 2 ∨ s = 3 ∨ s = 4 ∨ s = 5 ∨ s = 6 ∨ s = 7 ∨ s = 8 := by omega
    rcases h3 with rfl | rfl | rfl | rfl | rfl | rfl | rfl | rfl | rfl <;> decide
  have h5 : a + t < L.length → form ((L.drop a).take (t + 1)) = 0 ∧ form ((L.drop a).take (t + 1) ++ [48]) = 0 := fun h => by
    have h6 := hlt (Nat.lt_sub_of_add_lt (by rw [Nat.add_comm]; exact h))
    rw [form_app48]
    unfold form
    rw [h6]
    exact ⟨by decide, by decide⟩
  rcases hc with ⟨e1, e2, e3⟩ | ⟨u, hu1, hu2, e1, e2, e3, e4⟩
  · refine ⟨0, t, Nat.zero_le _, by omega, ?_, fun _ => rfl, fun h => absurd h (by omega), fun k hk hkt => e3 k hk hkt, h4, h5⟩
    refine Prod.ext (by rw [e1]; simp) (Prod.ext hs (by rw [e2]; rfl))
  · refine ⟨u, t, hu2, by omega, Prod.ext e1 (Prod.ext hs e2), fun h => absurd h (by omega), fun _ => e3, e4, h4, h5⟩
theorem nm_form {P : Nat} {l : List Nat} {k v : Int} {b : Nat} {er : Int} (h : Nm P l k v b er) : (form l = 0 → er = 20) ∧ (form l ≠ 0 → er ≠ 20) ∧ (form l = 1 → k = 2 ∨ k = 3 ∨ er = 7) := by
  obtain ⟨R, _, h⟩ := h
  unfold ans fltV at h
  by_cases h0 : form l = 0
  · rw [if_pos h0] at h
    injection h with h
    simp at h
    exact ⟨fun _ => by omega, fun hh => absurd h0 hh, fun hh => by omega⟩
  · rw [if_neg h0] at h
    by_cases h1 : form l = 1 ∧ fits l
    · rw [if_pos h1] at h
      injection h with h
      simp at h
      exact ⟨fun hh => absurd hh h0, fun _ => by omega, fun _ => by omega⟩
    · rw [if_neg h1] at h
      split at h
      · injection h with h
        simp at h
        exact ⟨fun hh => absurd hh h0, fun _ => by omega, fun _ => by omega⟩
      · injection h with h
        simp at h
        exact ⟨fun hh => absurd hh h0, fun _ => by omega, fun _ => by omega⟩
end Go.Proofs.YtjhhdnnblcbdbaaGreatDoor.dcm
end
section
namespace Go.Proofs.YtjhhdnnblcbdbaaGreatDoor.jp
open Go.RowKit val dcm
set_option linter.unusedVariables false

/-- a text of a number's form is taken whole -/
theorem num_whole {F : Nf} {l : List Nat} (hf : form l ≠ 0) : pE l = l.length ∧ pS l = l.length ∧ 0 < l.length ∧ (l.headD 0 = 45 ∨ (48 ≤ l.headD 0 ∧ l.headD 0 ≤ 57)) := by
  cases l with
  | nil => exact absurd (by decide) hf
  | cons x r =>
    have h := pfx.pf_all (x :: r) (by simp) hf
    refine ⟨by unfold pE; rw [h]; rfl, by unfold pS; rw [h]; rfl, by simp, ?_⟩
    show x = 45 ∨ (48 ≤ x ∧ x ≤ 57)
    refine Classical.byContradiction fun hn => hf ?_
    unfold form
    rw [pfx.adv_cons]
    have : pfx.nx 0 (x : Int) = 9 := by
      unfold pfx.nx
      rw [if_pos (.inl rfl), if_neg (by omega), if_neg (by omega), if_neg (by unfold pfx.dig; simp; omega)]
    rw [this, pfx.adv9]
    decide
theorem rd_num {F : Nf} {n d : Nat} {l : List Nat} (hf : form l ≠ 0) : rd F (n + 1) d l = if (F l).2.2.2 = 0 then .ok (numV (F l).1 (F l).2.1 (F l).2.2.1) l.length else .er 0 (F l).2.2.2 := by
  obtain ⟨h1, h2, h3, h4⟩ := num_whole (F := F) hf
  have hb : cnt l = 0 := cnt_head (bl_num h4)
  have hn : numP F l = if (F l).2.2.2 = 0 then .ok (numV (F l).1 (F l).2.1 (F l).2.2.1) l.length else .er 0 (F l).2.2.2 := by
    unfold numP
    rw [if_neg (by rw [h1, h2]; omega), h1, List.take_length]
  have hv := val_num (F := F) n d hn (by omega) (by omega) (by omega) (by omega) (by omega) (by omega)
  unfold rd
  have hbl : blanks l = .ok () 0 := by unfold blanks; rw [hb]
  by_cases he : (F l).2.2.2 = 0
  · rw [if_pos he] at hv ⊢
    have e3 : bnd blanks (fun (_ : Unit) (m : List Nat) => if m = [] then (Rs.ok (numV (F l).1 (F l).2.1 (F l).2.2.1) 0 : Rs V) else .er 0 50) ((l.drop 0).drop l.length) = .ok (numV (F l).1 (F l).2.1 (F l).2.2.1) 0 := by
      rw [List.drop_zero, List.drop_length]
      rfl
    exact (bnd_ok hbl (bnd_ok (f := value F (n + 1) d) (by rw [List.drop_zero]; exact hv) e3)).trans (by simp [Rs.sh])
  · rw [if_neg he] at hv ⊢
    rw [bnd_ok hbl (bnd_er' (by rw [List.drop_zero]; exact hv))]
    simp [Rs.sh]
/-- what is read as a number has a number's form -/
theorem rd_form {F : Nf} {n d : Nat} {l : List Nat} {v : V} {k : Nat} (h : rd F n d l = .ok v k) (hk : knd v = 2 ∨ knd v = 3) (h0 : bl (l.headD 0) = false) (h1 : bl (l.getLastD 0) = false) : form l ≠ 0 := by
  unfold rd at h
  obtain ⟨_, j, i, hb, h2, _⟩ := bnd_inv h
  have hj : j = 0 := by
    unfold blanks at hb
    injection hb with _ hb
    rw [← hb, cnt_head h0]
  subst hj
  rw [List.drop_zero] at h2
  obtain ⟨x, j2, i2, hv, h3, _⟩ := bnd_inv h2
  obtain ⟨_, j3, i3, hb3, h4, _⟩ := bnd_inv h3
  split at h4
  · rename_i hnil
    injection h4 with hx _
    subst hx
    have hn := value_num hv hk
    unfold numP at hn
    split at hn
    · cases hn
    · rename_i hc
      split at hn
      · injection hn with _ hj2
        obtain ⟨u, t, hut, htl, hpf, hu0, hu1, _⟩ := pf_spec l 0 (Nat.zero_le _)
        simp only [List.drop_zero, Nat.zero_add, Int.ofNat_zero] at hpf htl hu1
        have hE : pE l = u := by unfold pE; rw [hpf]; simp
        have hS : pS l = t := by unfold pS; rw [hpf]; simp
        have hpos : 0 < u := by omega
        have hfu := hu1 hpos
        -- what is left is blank; the last byte is none
        have hcn : cnt (l.drop u) = (l.drop u).length := by
          unfold blanks at hb3
          injection hb3 with _ hb3
          rw [← hj2, hE] at hb3 hnil
          have h5 := cnt_le (l.drop u)
          have h6 : ((l.drop u).drop j3).length = 0 := by rw [hnil]; rfl
          rw [List.length_drop] at h6
          omega
        have hul : u = l.length := by
          refine Classical.byContradiction fun hne => ?_
          have hlt : u < l.length := by omega
          have hall : ∀ m : List Nat, cnt m = m.length → ∀ y ∈ m, bl y = true := by
            intro m
            induction m with
            | nil => intro _ y hy; cases hy
            | cons y r ih =>
              intro hm z hz
              unfold cnt at hm
              by_cases hy : bl y = true
              · rw [if_pos hy] at hm
                rcases List.mem_cons.1 hz with rfl | hz
                · exact hy
                · exact ih (by simpa using hm) z hz
              · rw [if_neg hy] at hm
                simp at hm
          have hm : l.getLastD 0 ∈ l.drop u := by
            have hne : l ≠ [] := by intro h; subst h; simp at hlt
            have : l.getLastD 0 = l.getLast hne := by rw [List.getLastD_eq_getLast?, List.getLast?_eq_some_getLast hne]; rfl
            rw [this, List.getLast_eq_getElem]
            have : l[l.length - 1] = (l.drop u)[l.length - 1 - u]'(by rw [List.length_drop]; omega) := by
              rw [List.getElem_drop]
              congr 1
              omega
            rw [this]
            exact List.getElem_mem _
          have := hall _ hcn _ hm
          rw [h1] at this
          cases this
        rw [hul, List.take_length] at hfu
        exact hfu
      · cases hn
  · cases h4
end Go.Proofs.YtjhhdnnblcbdbaaGreatDoor.jp
end
section
namespace Go.Proofs.YtjhhdnnblcbdbaaGreatDoor.jw
open Go.RowKit mem fl big us uw pg dcm
set_option linter.unusedVariables false

theorem nm_kd {P : Nat} {l : List Nat} {k v : Int} {b : Nat} {er : Int} (h : Nm P l k v b er) : (k ≠ 5 ∧ k ≠ 6) ∧ b < 18446744073709551616 := by
  obtain ⟨R, hR, h⟩ := h
  unfold ans fltV at h
  split at h
  · have := numV_inj h; omega
  · rename_i h0
    split at h
    · have := numV_inj h; omega
    · rename_i h1
      split at h
      · have := numV_inj h; omega
      · have h2 := numV_inj h
        have ha : asks l := by
          unfold asks
          rcases fm_range (pfx.adv 0 l) with h3 | h3 | h3
          · exact absurd h3 h0
          · exact .inr ⟨h3, fun hf => h1 ⟨h3, hf⟩⟩
          · exact .inl h3
        have hr := (hR ha).2
        have hb := h2.2.2.1
        refine ⟨by omega, ?_⟩
        rw [← hb]
        unfold sgn
        split <;> omega
theorem fn_kd (P : Nat) (l : List Nat) : (Fn P l).1 ≠ 5 ∧ (Fn P l).1 ≠ 6 := by
  by_cases hx : ∃ x : Int × Int × Nat × Int, Nm P l x.1 x.2.1 x.2.2.1 x.2.2.2
  · obtain ⟨x, hx⟩ := hx
    rw [fn_of hx]
    exact (nm_kd hx).1
  · unfold Fn
    rw [dif_neg hx]
    decide
theorem fn_f64 (P : Nat) (l : List Nat) : (Fn P l).2.2.1 < 18446744073709551616 := by
  by_cases hx : ∃ x : Int × Int × Nat × Int, Nm P l x.1 x.2.1 x.2.2.1 x.2.2.2
  · obtain ⟨x, hx⟩ := hx
    rw [fn_of hx]
    exact (nm_kd hx).2
  · unfold Fn
    rw [dif_neg hx]
    decide
end Go.Proofs.YtjhhdnnblcbdbaaGreatDoor.jw
end
section
namespace Go.Proofs.YtjhhdnnblcbdbaaGreatDoor.jw
open Go.RowKit mem val jp big dcm pg
set_option linter.unusedVariables false

/-- what layer 2 reads, and what its answer tells of the text's form -/
def FormOk (x : Int × Int × Nat × Int) (l : List Nat) : Prop := (form l = 0 → x.2.2.2 = 20) ∧ (form l ≠ 0 → x.2.2.2 = 0 ∨ x.2.2.2 = 7) ∧ ∃ (n : Bool) (a : Nat), a < 9223372036854775808 ∧ x.2.2.1 = a + sgn n
theorem nm_ok {P : Nat} {l : List Nat} {k v : Int} {b : Nat} {er : Int} (h : Nm P l k v b er) : FormOk (k, v, b, er) l := by
  have hf := nm_form h
  have he := nm_err h
  refine ⟨hf.1, fun h0 => ?_, ?_⟩
  · have := hf.2.1 h0
    show er = 0 ∨ er = 7
    omega
  obtain ⟨R, hR, h⟩ := h
  unfold ans fltV at h
  split at h
  · have := numV_inj h
    exact ⟨false, 0, by omega, by simp [sgn]; omega⟩
  · rename_i h0
    split at h
    · have := numV_inj h
      exact ⟨false, 0, by omega, by simp [sgn]; omega⟩
    · rename_i h1
      split at h
      · have := numV_inj h
        exact ⟨false, 0, by omega, by simp [sgn]; omega⟩
      · have h2 := numV_inj h
        have ha : asks l := by
          unfold asks
          rcases fm_range (pfx.adv 0 l) with h3 | h3 | h3
          · exact absurd h3 h0
          · exact .inr ⟨h3, fun hf => h1 ⟨h3, hf⟩⟩
          · exact .inl h3
        have := (hR ha).2
        exact ⟨_, R, by omega, h2.2.2.1.symm⟩
theorem natsOf_lt {s : ByteArray} : ∀ x ∈ natsOf s, x < 256 := by
  intro x hx
  unfold natsOf at hx
  obtain ⟨y, _, rfl⟩ := List.mem_map.1 hx
  exact y.toNat_lt
theorem bt_nats (s : ByteArray) : bt (natsOf s) = s := by
  apply ByteArray.ext
  apply Array.toList_inj.1
  rw [bt_data]
  unfold natsOf
  rw [List.map_map]
  refine (List.map_congr_left (g := id) fun x _ => ?_).trans (List.map_id _)
  simp [Function.comp]
theorem numlaw_of {P : Nat} {N d : Nat} {l : List Nat} (h0 : bl (l.headD 0) = false) (h1 : bl (l.getLastD 0) = false) (hfo : FormOk (Fn P l) l) : NumLaw (Fn P) (rd (Fn P) (N + 1) d l) l := by
  obtain ⟨f0, f1, n, a, ha, hb⟩ := hfo
  refine ⟨fun h7 => ?_, fun h7 hn0 => ?_, fun hz => ?_, fn_f64 P l⟩
  · have hf : form l ≠ 0 := fun h => by have := f0 h; omega
    rw [rd_num hf, if_neg (by omega), h7]
  · have hf : form l = 0 := Classical.byContradiction fun h => by rcases f1 h with h | h <;> omega
    cases hr : rd (Fn P) (N + 1) d l with
    | er k e => exact .inl ⟨k, e, rfl, rd_nz hr⟩
    | ok v k =>
      refine .inr ⟨v, k, rfl, ?_⟩
      have := fun hk => rd_form hr hk h0 h1 hf
      exact ⟨fun h => this (.inl h), fun h => this (.inr h)⟩
  · have hf : form l ≠ 0 := fun h => by have := f0 h; omega
    rw [rd_num hf, if_pos hz]
    exact ⟨_, rfl⟩
theorem numbers_any {P z : Nat} (hz : z = 1074) (hP : P = 2 ^ z) (s : List Nat) (w : World) (hn : s.length ≤ 1099000) (hby : ∀ x ∈ s, x < 256) (hE : REnv w) :
    Calls Tryz.prog 5 #[.string (bt s)] w fun e w' => e = .returned (.bool true) ∧ Below w.heap.size w w' := by
  have hnum := num_of hz hP hE
  refine numbers_walk (F := Fn P) (fun l => FormOk (Fn P l) l) s (2 * s.length + 1) w hn hby (fixed_all w hnum (fn_nf P) (fn15 hz hP) (fn1 P)) (fun l hl hb W hW => ?_) (fun l hl hb h2 W hW => ?_) (by omega) (fun l _ h0 h1 hfo => numlaw_of h0 h1 hfo) same_bits
  · have hs : (bt l).size ≤ 1100000 := by rw [bt_size]; exact hl
    refine (read_parts' hz hP (bt l) hs W (hE.below hW)).mono ?_
    rintro e w' ⟨k, v, b, er, HN, he, hbw⟩
    have hN := HN.out
    rw [show nats (bt l) = l from nats_bt hb] at hN
    have : Fn P l = (k, v, b, er) := fn_of hN
    rw [this]
    exact ⟨he, hbw, nm_ok hN⟩
  · have := read_made w W l 0 (2 * s.length + 1) hl hb hnum (fn_nf P) hW h2
    exact this
end Go.Proofs.YtjhhdnnblcbdbaaGreatDoor.jw
end
