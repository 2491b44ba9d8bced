/- What the joined texts lack of Mem Val Own. PLAIN LEAN: small laws of the parsers: an answer taken apart; the kind of what was read. PLAIN LEAN: JsoninDepths' law: what is read at some depth is read alike at every depth from its own on, and at none below. PLAIN LEAN: what is read has no more parts than bytes, and its floats are floats. PLAIN LEAN: no fault has the number nought; what is read is no longer than the text. PLAIN LEAN: more fuel turns no answer; what stands behind a value's end turns none, if it is a blank, a comma or a closing bracket. PLAIN LEAN: JsoninShifts' law: blanks ahead and behind; what is read stands as well in a list and as a member, one level deeper. number.Same of one float with itself. A range over an iterator that reads memory of its own between two rounds, and may itself range over another: the caller's side. A range over an iterator that turns nothing of what its rounds leave: what a round lays may be told of behind the range. The iterator over a value's children, at every value. The law's alike at one value, read at two places. Printed by gen_alk.py. tree.kind, tree.children, tree.Depth of any value. One byte of a list that lies in memory. JsoninShifts, walked: the blanks' loop; the rest over contracts. What layer 2 answers: its kinds, and how wide its floats are. -/
import Derived.Test.YtjhhdnnblcbdbaaGreatDoorGVal
import Derived.Test.YtjhhdnnblcbdbaaGreatDoorGEt
import Derived.Test.YtjhhdnnblcbdbaaGreatDoorGJm
import Derived.RangeFuncNested
import Derived.RangeFuncBound
import Derived.RangeFuncCalls
import Derived.RangeFuncLeaves
import Derived.Shelf.Abstract
import Derived.OwnWalkIn
import Derived.TacticsInMore
import Derived.LoopNIn
import Derived.LoopIn
import Derived.Sort.CutIn
import Derived.Stop.RegionWithIn
import Derived.Test.YtjhhdnnblcbdbaaGreatDoorProg
import Derived.Handy
import Derived.WalkSpells
import Derived.WalkLawsBesides
import Derived.Deep.DeepMust
import Derived.Deep.RegionHeld3
import Derived.Test.YtjhhdnnblcbdbaaGreatDoorGJs
import Derived.Test.YtjhhdnnblcbdbaaGreatDoorGJw
set_option linter.unusedVariables false
section
section
namespace Go.Proofs.YtjhhdnnblcbdbaaGreatDoor.mem
open Go.RowKit
section
variable {P : Program} (w : World)
end
end Go.Proofs.YtjhhdnnblcbdbaaGreatDoor.mem
end
section
namespace Go.Proofs.YtjhhdnnblcbdbaaGreatDoor.val
open Go.RowKit mem
mutual
/-- how many parts -/
def sz : V → Nat
  | .mk _ _ _ _ _ _ is fs => 1 + szs is + szf fs
def szs : List V → Nat
  | [] => 0
  | v :: r => sz v + szs r
def szf : List (ByteArray × V) → Nat
  | [] => 0
  | (_, v) :: r => sz v + szf r
end
theorem sz_pos (v : V) : 0 < sz v := by cases v; simp only [sz]; omega
theorem szs_get {l : List V} {j : Nat} {v : V} (h : l[j]? = some v) : sz v ≤ szs l := by
  induction l generalizing j with
  | nil => simp at h
  | cons x r ih =>
    simp only [szs]
    cases j with
    | zero => simp at h; subst h; omega
    | succ j => have := ih (j := j) (by simpa using h); omega
theorem szf_get {l : List (ByteArray × V)} {j : Nat} {p : ByteArray × V} (h : l[j]? = some p) : sz p.2 ≤ szf l := by
  induction l generalizing j with
  | nil => simp at h
  | cons x r ih =>
    obtain ⟨s, x⟩ := x
    simp only [szf]
    cases j with
    | zero => simp at h; subst h; show sz x ≤ _; omega
    | succ j => have := ih (j := j) (by simpa using h); omega
theorem szs_len (l : List V) : l.length ≤ szs l := by
  induction l with
  | nil => simp [szs]
  | cons x r ih => have := sz_pos x; simp only [szs, List.length_cons]; omega
theorem szf_len (l : List (ByteArray × V)) : l.length ≤ szf l := by
  induction l with
  | nil => simp [szf]
  | cons x r ih => obtain ⟨s, x⟩ := x; have := sz_pos x; simp only [szf, List.length_cons]; omega
end Go.Proofs.YtjhhdnnblcbdbaaGreatDoor.val
end
section
namespace Go.Proofs.YtjhhdnnblcbdbaaGreatDoor.val
open Go.RowKit mem
theorem blk_below {w w' : World} {B g : Nat} {o : Obj} (h : w.heap[g]? = some o) (hb : Below B w w') (hg : g < B) : w'.heap[g]? = some o := (hb.block g hg).trans h
end Go.Proofs.YtjhhdnnblcbdbaaGreatDoor.val
end
end
section
namespace Go.Proofs.YtjhhdnnblcbdbaaGreatDoor.jp
open Go.RowKit val
theorem bnd_inv {α β : Type} {f : Ps α} {g : α → Ps β} {l : List Nat} {b : β} {k : Nat} (h : bnd f g l = .ok b k) : ∃ a j i, f l = .ok a j ∧ g a (l.drop j) = .ok b i ∧ k = j + i := by
  unfold bnd at h
  cases hf : f l with
  | er k e => rw [hf] at h; cases h
  | ok a j =>
    rw [hf] at h
    simp only at h
    cases hg : g a (l.drop j) with
    | er k e => rw [hg] at h; cases h
    | ok b' i =>
      rw [hg] at h
      simp only [Rs.sh, Rs.ok.injEq] at h
      exact ⟨a, j, i, rfl, by rw [hg, h.1], h.2.symm⟩
theorem ret_inv {α : Type} {a b : α} {l : List Nat} {k : Nat} (h : ret a l = .ok b k) : b = a := by
  unfold ret at h
  injection h with h1 h2
  exact h1.symm
theorem bnd_ret {α β : Type} {f : Ps α} {c : α → β} {l : List Nat} {b : β} {k : Nat} (h : bnd f (fun a => ret (c a)) l = .ok b k) : ∃ a, b = c a := by
  obtain ⟨a, j, i, _, h2, _⟩ := bnd_inv h
  exact ⟨a, ret_inv h2⟩
theorem chk_inv {α β : Type} {f : Ps α} {p : α → Bool} {g : α → Ps β} {l : List Nat} {b : β} {k : Nat} (h : chk f p g l = .ok b k) : ∃ a j i, f l = .ok a j ∧ p a = false ∧ g a (l.drop j) = .ok b i ∧ k = j + i := by
  unfold chk at h
  cases hf : f l with
  | er k e => rw [hf] at h; cases h
  | ok a j =>
    rw [hf] at h
    simp only at h
    cases hp : p a with
    | true => rw [hp] at h; cases h
    | false =>
      rw [hp] at h
      cases hg : g a (l.drop j) with
      | er k e => rw [hg] at h; cases h
      | ok b' i =>
        rw [hg] at h
        simp [Rs.sh] at h
        exact ⟨a, j, i, rfl, hp, by rw [hg, h.1], h.2.symm⟩
end Go.Proofs.YtjhhdnnblcbdbaaGreatDoor.jp
end
section
namespace Go.Proofs.YtjhhdnnblcbdbaaGreatDoor.jp
open Go.RowKit val
mutual
/-- how deep lists and objects are nested -/
def dpt : V → Nat
  | .mk k _ _ _ _ _ is fs => if k = 5 then dpts is + 1 else if k = 6 then dptf fs + 1 else 0
def dpts : List V → Nat
  | [] => 0
  | v :: r => max (dpt v) (dpts r)
def dptf : List (ByteArray × V) → Nat
  | [] => 0
  | (_, v) :: r => max (dpt v) (dptf r)
end
/-- a fault 71 at a bracket -/
def deepAt {α : Type} (l : List Nat) (r : Rs α) : Prop := ∃ j, r = .er j 71 ∧ j < l.length ∧ (l.getD j 0 = 91 ∨ l.getD j 0 = 123)
theorem deepAt.sh {α : Type} {l : List Nat} {j : Nat} {r : Rs α} (h : deepAt (l.drop j) r) : deepAt l (r.sh j) := by
  obtain ⟨i, rfl, hi, hb⟩ := h
  rw [List.length_drop] at hi
  refine ⟨j + i, rfl, by omega, ?_⟩
  have e : (l.drop j).getD i 0 = l.getD (j + i) 0 := by simp [List.getD_eq_getElem?_getD, List.getElem?_drop]
  rw [e] at hb
  exact hb
/-- a parser that is told a depth: what it answers has a depth of its own -/
def DpL {α : Type} (f : Nat → Ps α) (M : α → Nat → Prop) (l : List Nat) : Prop :=
  ∀ d a k, f d l = .ok a k → ∃ m, M a m ∧ m ≤ d ∧ ∀ d', (m ≤ d' → f d' l = .ok a k) ∧ (d' < m → deepAt l (f d' l))
def Dp {α : Type} (f : Nat → Ps α) (M : α → Nat → Prop) : Prop := ∀ l, DpL f M l
section
variable {α β : Type}
theorem DpL.congr {f g : Nat → Ps α} {M : α → Nat → Prop} {l : List Nat} (h : DpL g M l) (e : ∀ d, f d l = g d l) : DpL f M l := by
  intro d a k h1
  rw [e] at h1
  obtain ⟨m, hm, hd, h2⟩ := h d a k h1
  refine ⟨m, hm, hd, fun d' => ?_⟩
  rw [e]
  exact h2 d'
theorem Dp.flat (f : Ps α) : Dp (fun _ => f) (fun _ m => m = 0) := fun l d a k h => ⟨0, rfl, Nat.zero_le _, fun d' => ⟨fun _ => h, fun h => by omega⟩⟩
theorem DpL.weak {f : Nat → Ps α} {M R : α → Nat → Prop} {l : List Nat} (h : DpL f M l) (hR : ∀ d a k m, f d l = .ok a k → M a m → R a m) : DpL f R l := by
  intro d a k h1
  obtain ⟨m, hm, hd, h2⟩ := h d a k h1
  exact ⟨m, hR d a k m h1 hm, hd, h2⟩
theorem DpL.bnd {f : Nat → Ps α} {g : Nat → α → Ps β} {M : α → Nat → Prop} {N : α → β → Nat → Prop} {R : β → Nat → Prop} {l : List Nat} (hf : DpL f M l) (hg : ∀ a, Dp (fun d => g d a) (N a)) (hR : ∀ a b m n, M a m → N a b n → R b (max m n)) : DpL (fun d => jp.bnd (f d) (g d)) R l := by
  intro d b k h
  obtain ⟨a, j, i, h1, h2, rfl⟩ := bnd_inv h
  obtain ⟨m, hm, hmd, hm'⟩ := hf d a j h1
  obtain ⟨n, hn, hnd, hn'⟩ := hg a _ d b i h2
  refine ⟨max m n, hR a b m n hm hn, by omega, fun d' => ⟨fun hd => ?_, fun hd => ?_⟩⟩
  · show jp.bnd (f d') (g d') l = _
    rw [bnd_ok ((hm' d').1 (by omega)) ((hn' d').1 (by omega))]
    rfl
  · show deepAt l (jp.bnd (f d') (g d') l)
    by_cases h3 : d' < m
    · obtain ⟨q, e, hq⟩ := (hm' d').2 h3
      exact ⟨q, bnd_er' e, hq⟩
    · rw [bnd_ok ((hm' d').1 (by omega)) rfl]
      exact ((hn' d').2 (by omega)).sh
theorem Dp.bnd {f : Nat → Ps α} {g : Nat → α → Ps β} {M : α → Nat → Prop} {N : α → β → Nat → Prop} {R : β → Nat → Prop} (hf : Dp f M) (hg : ∀ a, Dp (fun d => g d a) (N a)) (hR : ∀ a b m n, M a m → N a b n → R b (max m n)) : Dp (fun d => jp.bnd (f d) (g d)) R := fun l => DpL.bnd (hf l) hg hR
theorem Dp.chk {f : Ps α} {p : α → Bool} {g : Nat → α → Ps β} {N : α → β → Nat → Prop} {R : β → Nat → Prop} (hg : ∀ a, Dp (fun d => g d a) (N a)) (hR : ∀ a b n, N a b n → R b n) : Dp (fun d => jp.chk f p (g d)) R := by
  intro l d b k h
  obtain ⟨a, j, i, h1, hp, h2, rfl⟩ := chk_inv h
  obtain ⟨n, hn, hnd, hn'⟩ := hg a _ d b i h2
  refine ⟨n, hR a b n hn, hnd, fun d' => ⟨fun hd => ?_, fun hd => ?_⟩⟩
  · show jp.chk f p (g d') l = _
    have e : g d' a (l.drop j) = .ok b i := (hn' d').1 hd
    rw [chk_ok h1 hp, e]
    rfl
  · show deepAt l (jp.chk f p (g d') l)
    rw [chk_ok h1 hp]
    exact ((hn' d').2 hd).sh
theorem DpL.brk {g : Nat → Ps α} {M R : α → Nat → Prop} {l : List Nat} (hl : l.headD 0 = 91 ∨ l.headD 0 = 123) (hg : Dp g M) (hR : ∀ a m, M a m → R a (m + 1)) : DpL (fun d => jp.bnd (opn d) fun _ => g (d - 1)) R l := by
  intro d a k h
  obtain ⟨u, j, i, h1, h2, rfl⟩ := bnd_inv h
  cases l with
  | nil => simp [opn] at h1
  | cons x r =>
    have hd : d ≠ 0 := by rintro rfl; simp [opn] at h1
    obtain rfl : j = 1 := by simp [opn, hd] at h1; omega
    obtain ⟨m, hm, hmd, hm'⟩ := hg _ _ a i h2
    refine ⟨m + 1, hR _ _ hm, by omega, fun d' => ⟨fun hd' => ?_, fun hd' => ?_⟩⟩
    · show jp.bnd (opn d') (fun _ => g (d' - 1)) (x :: r) = _
      have h0 : d' ≠ 0 := by omega
      rw [bnd_ok (a := ()) (j := 1) (by simp [opn, h0]) ((hm' (d' - 1)).1 (by omega))]
      rfl
    · show deepAt (x :: r) (jp.bnd (opn d') (fun _ => g (d' - 1)) (x :: r))
      by_cases h0 : d' = 0
      · subst h0
        exact ⟨0, bnd_er' (by simp [opn]), by simp, by simpa using hl⟩
      · rw [bnd_ok (a := ()) (j := 1) (by simp [opn, h0]) rfl]
        exact ((hm' (d' - 1)).2 (by omega)).sh
theorem Dp.ite {c : Nat} {a : Ps α} {f : Nat → Ps α} {M : α → Nat → Prop} (ha : Dp (fun _ => a) M) (hf : Dp f M) : Dp (fun d l => if l.headD 0 = c then a l else f d l) M := by
  intro l
  by_cases h : l.headD 0 = c
  · exact (ha l).congr fun d => by simp only [if_pos h]
  · exact (hf l).congr fun d => by simp only [if_neg h]
theorem Dp.done {f : Ps α} {M : α → Nat → Prop} (h : ∀ l a k, f l = .ok a k → M a 0) : Dp (fun _ => f) M := fun l => (Dp.flat f l).weak fun d a k m h1 h2 => by rw [h2]; exact h l a k h1
end
def MV (v : V) (m : Nat) : Prop := dpt v = m
def MI (acc : List V) (v : V) (m : Nat) : Prop := ∃ is, v = listV (acc ++ is) ∧ dpts is = m
def MF (acc : List (ByteArray × V)) (v : V) (m : Nat) : Prop := ∃ fs, v = objV (acc ++ fs) ∧ dptf fs = m
theorem items_succ (F : Nf) (n d : Nat) (acc : List V) : items F (n + 1) d acc = jp.bnd (value F n d) fun v => jp.bnd (more 93) fun b => if b = true then items F n d (acc ++ [v]) else ret (listV (acc ++ [v])) := by
  conv => lhs; unfold items
theorem members_succ (F : Nf) (n d : Nat) (acc : List (ByteArray × V)) : members F (n + 1) d acc = jp.chk (text n) (twice acc) fun key => jp.bnd blanks fun _ => jp.bnd (want 58) fun _ => jp.bnd blanks fun _ => jp.bnd (value F n d) fun v => jp.bnd (more 125) fun b => if b = true then members F n d (acc ++ [(bt key, v)]) else ret (objV (acc ++ [(bt key, v)])) := by
  conv => lhs; unfold members
theorem dp_all (F : Nf) (hF : ∀ l, (F l).1 ≠ 5 ∧ (F l).1 ≠ 6) : ∀ n, Dp (value F n) MV ∧ (∀ acc, Dp (fun d => items F n d acc) (MI acc)) ∧ ∀ acc, Dp (fun d => members F n d acc) (MF acc)
  | 0 => ⟨fun l d a k h => (by unfold value at h; cases h), fun acc l d a k h => (by simp only [items] at h; cases h), fun acc l d a k h => (by simp only [members] at h; cases h)⟩
  | n + 1 => by
    obtain ⟨hv, hi, hm⟩ := dp_all F hF n
    refine ⟨fun l => ?_, fun acc => ?_, fun acc => ?_⟩
    · by_cases h1 : l.headD 0 = 110
      · refine (Dp.done (f := jp.bnd (word [110, 117, 108, 108]) fun _ => ret nullV) (M := MV) (fun l a k h => ?_) l).congr fun d => ?_
        · obtain ⟨_, rfl⟩ := bnd_ret h; rfl
        · unfold value; rw [if_pos h1]
      by_cases h2 : l.headD 0 = 116
      · refine (Dp.done (f := jp.bnd (word [116, 114, 117, 101]) fun _ => ret (boolV true)) (M := MV) (fun l a k h => ?_) l).congr fun d => ?_
        · obtain ⟨_, rfl⟩ := bnd_ret h; rfl
        · unfold value; rw [if_neg h1, if_pos h2]
      by_cases h3 : l.headD 0 = 102
      · refine (Dp.done (f := jp.bnd (word [102, 97, 108, 115, 101]) fun _ => ret (boolV false)) (M := MV) (fun l a k h => ?_) l).congr fun d => ?_
        · obtain ⟨_, rfl⟩ := bnd_ret h; rfl
        · unfold value; rw [if_neg h1, if_neg h2, if_pos h3]
      by_cases h4 : l.headD 0 = 34
      · refine (Dp.done (f := jp.bnd (text n) fun b => ret (strV b)) (M := MV) (fun l a k h => ?_) l).congr fun d => ?_
        · obtain ⟨_, rfl⟩ := bnd_ret h; rfl
        · unfold value; rw [if_neg h1, if_neg h2, if_neg h3, if_pos h4]
      by_cases h5 : l.headD 0 = 91
      · refine (DpL.brk (g := fun d => jp.bnd blanks fun _ l => if l.headD 0 = 93 then (jp.bnd one fun _ => ret (listV [])) l else items F n d [] l) (M := MI []) (R := MV) (.inl h5) ?_ ?_).congr fun d => ?_
        · refine Dp.bnd (f := fun _ => blanks) (g := fun d _ l => if l.headD 0 = 93 then (jp.bnd one fun _ => ret (listV [])) l else items F n d [] l) (N := fun _ => MI []) (Dp.flat _) (fun _ => Dp.ite (Dp.done fun l a k h => ?_) (hi [])) ?_
          · obtain ⟨_, rfl⟩ := bnd_ret h; exact ⟨[], rfl, rfl⟩
          · rintro a b m n rfl h; rw [Nat.zero_max]; exact h
        · rintro a m ⟨is, rfl, rfl⟩
          show dpt (listV ([] ++ is)) = _
          simp [listV, dpt]
        · unfold value; rw [if_neg h1, if_neg h2, if_neg h3, if_neg h4, if_pos h5]
      by_cases h6 : l.headD 0 = 123
      · refine (DpL.brk (g := fun d => jp.bnd blanks fun _ l => if l.headD 0 = 125 then (jp.bnd one fun _ => ret (objV [])) l else members F n d [] l) (M := MF []) (R := MV) (.inr h6) ?_ ?_).congr fun d => ?_
        · refine Dp.bnd (f := fun _ => blanks) (g := fun d _ l => if l.headD 0 = 125 then (jp.bnd one fun _ => ret (objV [])) l else members F n d [] l) (N := fun _ => MF []) (Dp.flat _) (fun _ => Dp.ite (Dp.done fun l a k h => ?_) (hm [])) ?_
          · obtain ⟨_, rfl⟩ := bnd_ret h; exact ⟨[], rfl, rfl⟩
          · rintro a b m n rfl h; rw [Nat.zero_max]; exact h
        · rintro a m ⟨fs, rfl, rfl⟩
          show dpt (objV ([] ++ fs)) = _
          simp [objV, dpt]
        · unfold value; rw [if_neg h1, if_neg h2, if_neg h3, if_neg h4, if_neg h5, if_pos h6]
      · refine (Dp.done (f := numP F) (M := MV) (fun l a k h => ?_) l).congr fun d => ?_
        · unfold numP at h
          split at h
          · cases h
          · split at h
            · rename_i h0
              injection h with h7 _
              subst h7
              show dpt (numV _ _ _) = 0
              unfold numV
              simp only [dpt]
              rw [if_neg (hF _).1, if_neg (hF _).2]
            · cases h
        · unfold value; rw [if_neg h1, if_neg h2, if_neg h3, if_neg h4, if_neg h5, if_neg h6]
    · intro l
      refine (DpL.bnd (f := value F n) (g := fun d v => jp.bnd (more 93) fun b => if b = true then items F n d (acc ++ [v]) else ret (listV (acc ++ [v]))) (N := fun v => MI (acc ++ [v])) (R := MI acc) (hv l) (fun v => ?_) ?_).congr fun d => congrFun (items_succ F n d acc) l
      · refine Dp.bnd (f := fun _ => more 93) (g := fun d b => if b = true then items F n d (acc ++ [v]) else ret (listV (acc ++ [v]))) (N := fun _ => MI (acc ++ [v])) (Dp.flat _) (fun b => ?_) ?_
        · cases b with
          | true => exact hi (acc ++ [v])
          | false => exact Dp.done (f := ret (listV (acc ++ [v]))) fun l a k h => ⟨[], by rw [List.append_nil]; exact ret_inv h, rfl⟩
        · rintro a b m n rfl h; rw [Nat.zero_max]; exact h
      · rintro a b m n h1 ⟨is, rfl, rfl⟩
        refine ⟨a :: is, by rw [List.append_assoc]; rfl, ?_⟩
        simp only [dpts]
        rw [show dpt a = m from h1]
    · intro l
      have key := Dp.chk (f := text n) (p := twice acc) (g := fun d key => jp.bnd blanks fun _ => jp.bnd (want 58) fun _ => jp.bnd blanks fun _ => jp.bnd (value F n d) fun v => jp.bnd (more 125) fun b => if b = true then members F n d (acc ++ [(bt key, v)]) else ret (objV (acc ++ [(bt key, v)]))) (N := fun _ => MF acc) (R := MF acc) (fun key => ?_) (fun a b n h => h)
      · exact (key l).congr fun d => congrFun (members_succ F n d acc) l
      refine Dp.bnd (f := fun _ => blanks) (g := fun d _ => jp.bnd (want 58) fun _ => jp.bnd blanks fun _ => jp.bnd (value F n d) fun v => jp.bnd (more 125) fun b => if b = true then members F n d (acc ++ [(bt key, v)]) else ret (objV (acc ++ [(bt key, v)]))) (N := fun _ => MF acc) (Dp.flat _) (fun _ => ?_) (by rintro a b m n rfl h; rw [Nat.zero_max]; exact h)
      refine Dp.bnd (f := fun _ => want 58) (g := fun d _ => jp.bnd blanks fun _ => jp.bnd (value F n d) fun v => jp.bnd (more 125) fun b => if b = true then members F n d (acc ++ [(bt key, v)]) else ret (objV (acc ++ [(bt key, v)]))) (N := fun _ => MF acc) (Dp.flat _) (fun _ => ?_) (by rintro a b m n rfl h; rw [Nat.zero_max]; exact h)
      refine Dp.bnd (f := fun _ => blanks) (g := fun d _ => jp.bnd (value F n d) fun v => jp.bnd (more 125) fun b => if b = true then members F n d (acc ++ [(bt key, v)]) else ret (objV (acc ++ [(bt key, v)]))) (N := fun _ => MF acc) (Dp.flat _) (fun _ => ?_) (by rintro a b m n rfl h; rw [Nat.zero_max]; exact h)
      refine Dp.bnd (f := value F n) (g := fun d v => jp.bnd (more 125) fun b => if b = true then members F n d (acc ++ [(bt key, v)]) else ret (objV (acc ++ [(bt key, v)]))) (N := fun v => MF (acc ++ [(bt key, v)])) hv (fun v => ?_) ?_
      · refine Dp.bnd (f := fun _ => more 125) (g := fun d b => if b = true then members F n d (acc ++ [(bt key, v)]) else ret (objV (acc ++ [(bt key, v)]))) (N := fun _ => MF (acc ++ [(bt key, v)])) (Dp.flat _) (fun b => ?_) ?_
        · cases b with
          | true => exact hm (acc ++ [(bt key, v)])
          | false => exact Dp.done (f := ret (objV (acc ++ [(bt key, v)]))) fun l a k h => ⟨[], by rw [List.append_nil]; exact ret_inv h, rfl⟩
        · rintro a b m n rfl h; rw [Nat.zero_max]; exact h
      · rintro a b m n h1 ⟨fs, rfl, rfl⟩
        refine ⟨(bt key, a) :: fs, by rw [List.append_assoc]; rfl, ?_⟩
        simp only [dptf]
        rw [show dpt a = m from h1]
theorem rd_depth {F : Nf} (hF : ∀ l, (F l).1 ≠ 5 ∧ (F l).1 ≠ 6) {n d : Nat} {l : List Nat} {v : V} {k : Nat} (h : rd F n d l = .ok v k) : dpt v ≤ d ∧ ∀ d', (dpt v ≤ d' → rd F n d' l = .ok v k) ∧ (d' < dpt v → deepAt l (rd F n d' l)) := by
  have key : Dp (fun d => rd F n d) MV := by
    refine Dp.bnd (f := fun _ => blanks) (g := fun d _ => jp.bnd (value F n d) fun v => jp.bnd blanks fun _ l => if l = [] then .ok v 0 else .er 0 50) (N := fun _ => MV) (Dp.flat _) (fun _ => ?_) (by rintro a b m n rfl h; rw [Nat.zero_max]; exact h)
    refine Dp.bnd (f := value F n) (g := fun d v => jp.bnd blanks fun _ l => if l = [] then .ok v 0 else .er 0 50) (N := fun v w m => w = v ∧ m = 0) (dp_all F hF n).1 (fun v => ?_) (by rintro a b m n h1 ⟨rfl, rfl⟩; rw [Nat.max_zero]; exact h1)
    refine Dp.done (f := jp.bnd blanks fun _ l => if l = [] then .ok v 0 else .er 0 50) fun l a k h => ?_
    obtain ⟨_, _, _, _, h2, _⟩ := bnd_inv h
    split at h2
    · injection h2 with h3 _; exact ⟨h3.symm, rfl⟩
    · cases h2
  obtain ⟨m, hm, hd, h2⟩ := key l d v k h
  obtain rfl : dpt v = m := hm
  exact ⟨hd, h2⟩
end Go.Proofs.YtjhhdnnblcbdbaaGreatDoor.jp
end
section
namespace Go.Proofs.YtjhhdnnblcbdbaaGreatDoor.jp
open Go.RowKit val
mutual
/-- all floats are 64 bits wide -/
def flk : V → Prop
  | .mk _ _ _ f _ _ is fs => f < 18446744073709551616 ∧ flks is ∧ flkf fs
def flks : List V → Prop
  | [] => True
  | v :: r => flk v ∧ flks r
def flkf : List (ByteArray × V) → Prop
  | [] => True
  | (_, v) :: r => flk v ∧ flkf r
end
theorem flks_get {l : List V} {j : Nat} {v : V} (hl : flks l) (h : l[j]? = some v) : flk v := by
  induction l generalizing j with
  | nil => simp at h
  | cons x r ih =>
    simp only [flks] at hl
    cases j with
    | zero => simp at h; subst h; exact hl.1
    | succ j => exact ih hl.2 (j := j) (by simpa using h)
theorem flkf_get {l : List (ByteArray × V)} {j : Nat} {p : ByteArray × V} (hl : flkf l) (h : l[j]? = some p) : flk p.2 := by
  induction l generalizing j with
  | nil => simp at h
  | cons x r ih =>
    obtain ⟨s, x⟩ := x
    simp only [flkf] at hl
    cases j with
    | zero => simp at h; subst h; exact hl.1
    | succ j => exact ih hl.2 (j := j) (by simpa using h)
def SV (v : V) (k : Nat) : Prop := flk v ∧ sz v ≤ k
def SI (acc : List V) (v : V) (k : Nat) : Prop := ∃ is, v = listV (acc ++ is) ∧ flks is ∧ szs is ≤ k
def SF (acc : List (ByteArray × V)) (v : V) (k : Nat) : Prop := ∃ fs, v = objV (acc ++ fs) ∧ flkf fs ∧ szf fs ≤ k
theorem opn_ok {d : Nat} {l : List Nat} {u : Unit} {k : Nat} (h : opn d l = .ok u k) : k = 1 := by
  cases l with
  | nil => simp [opn] at h
  | cons x r =>
    unfold opn at h
    simp only at h
    split at h
    · cases h
    · injection h with _ h; omega
theorem pos_of {f : Ps V} (he : Eats f) {l : List Nat} {v : V} {k : Nat} (h : f l = .ok v k) : 0 < k := by
  cases k with
  | zero => exact absurd h (he l v)
  | succ k => omega
theorem sv_all (F : Nf) (hF : ∀ l, (F l).2.2.1 < 18446744073709551616) : ∀ n, (∀ d l v k, value F n d l = .ok v k → SV v k) ∧ (∀ d acc l v k, items F n d acc l = .ok v k → SI acc v k) ∧ ∀ d acc l v k, members F n d acc l = .ok v k → SF acc v k
  | 0 => ⟨fun d l v k h => (by unfold value at h; cases h), fun d acc l v k h => (by unfold items at h; cases h), fun d acc l v k h => (by unfold members at h; cases h)⟩
  | n + 1 => by
    obtain ⟨hv, hi, hm⟩ := sv_all F hF n
    refine ⟨fun d l v k h => ?_, fun d acc l v k h => ?_, fun d acc l v k h => ?_⟩
    · have hp := pos_of (Eats.value F (n + 1) d) h
      unfold value at h
      by_cases h1 : l.headD 0 = 110
      · rw [if_pos h1] at h; obtain ⟨_, rfl⟩ := bnd_ret h; exact ⟨by simp [nullV, flk, flks, flkf], by simp [nullV, sz, szs, szf] <;> omega⟩
      rw [if_neg h1] at h
      by_cases h1 : l.headD 0 = 116
      · rw [if_pos h1] at h; obtain ⟨_, rfl⟩ := bnd_ret h; exact ⟨by simp [boolV, flk, flks, flkf], by simp [boolV, sz, szs, szf] <;> omega⟩
      rw [if_neg h1] at h
      by_cases h1 : l.headD 0 = 102
      · rw [if_pos h1] at h; obtain ⟨_, rfl⟩ := bnd_ret h; exact ⟨by simp [boolV, flk, flks, flkf], by simp [boolV, sz, szs, szf] <;> omega⟩
      rw [if_neg h1] at h
      by_cases h1 : l.headD 0 = 34
      · rw [if_pos h1] at h; obtain ⟨_, rfl⟩ := bnd_ret h; exact ⟨by simp [strV, flk, flks, flkf], by simp [strV, sz, szs, szf] <;> omega⟩
      rw [if_neg h1] at h
      by_cases h1 : l.headD 0 = 91
      · rw [if_pos h1] at h
        obtain ⟨_, j, i, h2, h3, rfl⟩ := bnd_inv h
        obtain rfl := opn_ok h2
        obtain ⟨_, j2, i2, _, h4, rfl⟩ := bnd_inv h3
        split at h4
        · obtain ⟨_, rfl⟩ := bnd_ret h4; exact ⟨by simp [listV, flk, flks, flkf], by simp [listV, sz, szs, szf] <;> omega⟩
        · obtain ⟨is, rfl, h5, h6⟩ := hi _ _ _ _ _ h4
          exact ⟨by simp [listV, flk, flkf, h5], by simp [listV, sz, szf] <;> omega⟩
      rw [if_neg h1] at h
      by_cases h1 : l.headD 0 = 123
      · rw [if_pos h1] at h
        obtain ⟨_, j, i, h2, h3, rfl⟩ := bnd_inv h
        obtain rfl := opn_ok h2
        obtain ⟨_, j2, i2, _, h4, rfl⟩ := bnd_inv h3
        split at h4
        · obtain ⟨_, rfl⟩ := bnd_ret h4; exact ⟨by simp [objV, flk, flks, flkf], by simp [objV, sz, szs, szf] <;> omega⟩
        · obtain ⟨is, rfl, h5, h6⟩ := hm _ _ _ _ _ h4
          exact ⟨by simp [objV, flk, flks, h5], by simp [objV, sz, szs] <;> omega⟩
      rw [if_neg h1] at h
      unfold numP at h
      split at h
      · cases h
      · split at h
        · injection h with h7 _
          subst h7
          exact ⟨by simp [numV, flk, flks, flkf]; exact hF _, by simp [numV, sz, szs, szf] <;> omega⟩
        · cases h
    · unfold items at h
      obtain ⟨x, j, i, h1, h2, rfl⟩ := bnd_inv h
      obtain ⟨b, j2, i2, _, h3, rfl⟩ := bnd_inv h2
      obtain ⟨hx1, hx2⟩ := hv _ _ _ _ h1
      cases b with
      | true =>
        obtain ⟨is, rfl, h5, h6⟩ := hi _ _ _ _ _ (by simpa using h3)
        exact ⟨x :: is, by rw [List.append_assoc]; rfl, ⟨hx1, h5⟩, by simp only [szs] <;> omega⟩
      | false =>
        have h4 : ret (listV (acc ++ [x])) ((l.drop j).drop j2) = .ok v i2 := by simpa using h3
        exact ⟨[x], ret_inv h4, ⟨hx1, trivial⟩, by simp only [szs] <;> omega⟩
    · unfold members at h
      obtain ⟨key, j, i, _, _, h2, rfl⟩ := chk_inv h
      obtain ⟨_, j3, i3, _, h22, rfl⟩ := bnd_inv h2
      obtain ⟨_, j4, i4, _, h23, rfl⟩ := bnd_inv h22
      obtain ⟨_, j5, i5, _, h24, rfl⟩ := bnd_inv h23
      obtain ⟨x, j6, i6, h1, h25, rfl⟩ := bnd_inv h24
      obtain ⟨b, j7, i7, _, h3, rfl⟩ := bnd_inv h25
      obtain ⟨hx1, hx2⟩ := hv _ _ _ _ h1
      cases b with
      | true =>
        obtain ⟨fs, rfl, h5, h6⟩ := hm _ _ _ _ _ (by simpa using h3)
        exact ⟨(bt key, x) :: fs, by rw [List.append_assoc]; rfl, ⟨hx1, h5⟩, by simp only [szf] <;> omega⟩
      | false =>
        have h4 : ∃ z, ret (objV (acc ++ [(bt key, x)])) z = .ok v i7 := ⟨_, by simpa using h3⟩
        obtain ⟨z, h4⟩ := h4
        exact ⟨[(bt key, x)], ret_inv h4, ⟨hx1, trivial⟩, by simp only [szf] <;> omega⟩
theorem rd_parts {F : Nf} (hF : ∀ l, (F l).2.2.1 < 18446744073709551616) {n d : Nat} {l : List Nat} {v : V} {k : Nat} (h : rd F n d l = .ok v k) : flk v ∧ sz v ≤ k := by
  unfold rd at h
  obtain ⟨_, j, i, _, h2, rfl⟩ := bnd_inv h
  obtain ⟨x, j2, i2, h1, h22, rfl⟩ := bnd_inv h2
  obtain ⟨_, j3, i3, _, h3, rfl⟩ := bnd_inv h22
  obtain ⟨hx1, hx2⟩ := (sv_all F hF n).1 _ _ _ _ h1
  split at h3
  · injection h3 with h4 _
    subst h4
    exact ⟨hx1, by omega⟩
  · cases h3
end Go.Proofs.YtjhhdnnblcbdbaaGreatDoor.jp
end
section
namespace Go.Proofs.YtjhhdnnblcbdbaaGreatDoor.jp
open Go.RowKit val
def NZ {α : Type} (f : Ps α) : Prop := ∀ l k e, f l = .er k e → e ≠ 0
section
variable {α β : Type}
theorem NZ.ret (a : α) : NZ (jp.ret a) := fun l k e h => by cases h
theorem NZ.er (k : Nat) {e : Int} (h : e ≠ 0) : NZ (fun _ => (.er k e : Rs α)) := fun l k' e' h' => by injection h' with _ h2; omega
theorem NZ.sat (t : Nat → Option α) : NZ (jp.sat t) := by
  intro l k e h
  rcases sat_cases t l with ⟨x, r, a, _, _, h1⟩ | ⟨h1, _⟩
  · rw [h1] at h; cases h
  · rw [h1] at h; injection h with _ h2; omega
theorem NZ.bnd {f : Ps α} {g : α → Ps β} (hf : NZ f) (hg : ∀ a, NZ (g a)) : NZ (jp.bnd f g) := by
  intro l k e h
  unfold jp.bnd at h
  cases hf1 : f l with
  | er k1 e1 => rw [hf1] at h; injection h with _ h2; exact h2 ▸ hf l k1 e1 hf1
  | ok a j =>
    rw [hf1] at h
    simp only at h
    cases hg1 : g a (l.drop j) with
    | ok b i => rw [hg1] at h; cases h
    | er k1 e1 => rw [hg1] at h; injection h with _ h2; exact h2 ▸ hg a _ k1 e1 hg1
theorem NZ.chk {f : Ps α} {p : α → Bool} {g : α → Ps β} (hf : NZ f) (hg : ∀ a, NZ (g a)) : NZ (jp.chk f p g) := by
  intro l k e h
  unfold jp.chk at h
  cases hf1 : f l with
  | er k1 e1 => rw [hf1] at h; injection h with _ h2; exact h2 ▸ hf l k1 e1 hf1
  | ok a j =>
    rw [hf1] at h
    simp only at h
    split at h
    · injection h with _ h2; omega
    · cases hg1 : g a (l.drop j) with
      | ok b i => rw [hg1] at h; cases h
      | er k1 e1 => rw [hg1] at h; injection h with _ h2; exact h2 ▸ hg a _ k1 e1 hg1
theorem NZ.at_ {f : Ps α} (g : List Nat → Ps α) (h : ∀ l, f l = g l l) (hg : ∀ l, NZ (g l)) : NZ f := fun l k e h1 => hg l l k e (by rw [← h]; exact h1)
end
theorem NZ.blanks : NZ blanks := fun l k e h => by cases h
theorem NZ.opn (d : Nat) : NZ (opn d) := by
  intro l k e h
  unfold jp.opn at h
  cases l with
  | nil => injection h with _ h2; omega
  | cons x r =>
    simp only at h
    split at h
    · injection h with _ h2; omega
    · cases h
theorem NZ.word : ∀ ws, NZ (word ws)
  | [] => NZ.ret ()
  | c :: r => NZ.bnd (NZ.sat _) fun _ => NZ.word r
theorem NZ.digK (m : Int → Int → Bool) : ∀ k a f, NZ (digK m k a f)
  | 0, a, _ => NZ.ret a
  | k + 1, a, f => NZ.bnd (NZ.sat _) fun _ => NZ.digK m k _ _
theorem NZ.escU : NZ escU := NZ.bnd (NZ.sat _) fun _ => NZ.bnd (NZ.digK _ 4 0 (-1)) fun n => by
  split
  · exact NZ.bnd (NZ.sat _) fun _ => NZ.bnd (NZ.sat _) fun _ => NZ.bnd (NZ.digK _ 4 0 (-1)) fun _ => NZ.ret _
  · exact NZ.ret _
theorem NZ.escP : NZ escP := by
  refine NZ.at_ (fun l => match mean (l.headD 0) with | some b => jp.bnd one fun _ => jp.ret [b] | none => jp.escU) (fun l => rfl) fun l => ?_
  cases mean (l.headD 0) with
  | some b => exact NZ.bnd (NZ.sat _) fun _ => NZ.ret _
  | none => exact NZ.escU
theorem NZ.conts : ∀ m lo hi, NZ (conts m lo hi)
  | 0, _, _ => NZ.ret _
  | m + 1, lo, hi => NZ.bnd (NZ.sat _) fun _ => NZ.bnd (NZ.conts m _ _) fun _ => NZ.ret _
theorem NZ.group : NZ group := NZ.bnd (NZ.sat _) fun _ => NZ.bnd (NZ.conts _ _ _) fun _ => NZ.ret _
theorem NZ.pieces : ∀ m acc, NZ (pieces m acc)
  | 0, acc => NZ.er 0 (by decide)
  | m + 1, acc => by
    intro l k e h
    unfold jp.pieces at h
    split at h
    · injection h with _ h2; omega
    · split at h
      · exact NZ.bnd (NZ.sat _) (fun _ => NZ.ret _) l k e h
      · split at h
        · exact NZ.bnd (NZ.sat _) (fun _ => NZ.bnd NZ.escP fun _ => NZ.pieces m _) l k e h
        · exact NZ.bnd NZ.group (fun _ => NZ.pieces m _) l k e h
theorem NZ.text (m : Nat) : NZ (text m) := NZ.bnd (NZ.sat _) fun _ => NZ.pieces m _
theorem NZ.numP (F : Nf) : NZ (numP F) := by
  intro l k e h
  unfold jp.numP at h
  split at h
  · injection h with _ h2; omega
  · split at h
    · cases h
    · rename_i h0
      injection h with _ h2
      exact h2 ▸ h0
theorem NZ.more (c : Nat) : NZ (more c) := NZ.bnd NZ.blanks fun _ l k e h => by
  split at h
  · exact NZ.bnd (NZ.sat _) (fun _ => NZ.ret _) l k e h
  · exact NZ.bnd (NZ.sat _) (fun _ => NZ.bnd NZ.blanks fun _ => NZ.ret _) l k e h
theorem nz_all (F : Nf) : ∀ n, (∀ d, NZ (value F n d)) ∧ (∀ d acc, NZ (items F n d acc)) ∧ ∀ d acc, NZ (members F n d acc)
  | 0 => ⟨fun d => NZ.er 0 (by decide), fun d acc => NZ.er 0 (by decide), fun d acc => NZ.er 0 (by decide)⟩
  | n + 1 => by
    obtain ⟨hv, hi, hm⟩ := nz_all F n
    refine ⟨fun d l k e h => ?_, fun d acc l k e h => ?_, fun d acc l k e h => ?_⟩
    · unfold value at h
      by_cases h1 : l.headD 0 = 110
      · rw [if_pos h1] at h; exact NZ.bnd (NZ.word _) (fun _ => NZ.ret _) l k e h
      rw [if_neg h1] at h
      by_cases h1 : l.headD 0 = 116
      · rw [if_pos h1] at h; exact NZ.bnd (NZ.word _) (fun _ => NZ.ret _) l k e h
      rw [if_neg h1] at h
      by_cases h1 : l.headD 0 = 102
      · rw [if_pos h1] at h; exact NZ.bnd (NZ.word _) (fun _ => NZ.ret _) l k e h
      rw [if_neg h1] at h
      by_cases h1 : l.headD 0 = 34
      · rw [if_pos h1] at h; exact NZ.bnd (NZ.text _) (fun _ => NZ.ret _) l k e h
      rw [if_neg h1] at h
      by_cases h1 : l.headD 0 = 91
      · rw [if_pos h1] at h
        refine NZ.bnd (NZ.opn d) (fun _ => NZ.bnd NZ.blanks fun _ l k e h => ?_) l k e h
        split at h
        · exact NZ.bnd (NZ.sat _) (fun _ => NZ.ret _) l k e h
        · exact hi _ _ l k e h
      rw [if_neg h1] at h
      by_cases h1 : l.headD 0 = 123
      · rw [if_pos h1] at h
        refine NZ.bnd (NZ.opn d) (fun _ => NZ.bnd NZ.blanks fun _ l k e h => ?_) l k e h
        split at h
        · exact NZ.bnd (NZ.sat _) (fun _ => NZ.ret _) l k e h
        · exact hm _ _ l k e h
      rw [if_neg h1] at h
      exact NZ.numP F l k e h
    · unfold items at h
      refine NZ.bnd (hv d) (fun v => NZ.bnd (NZ.more _) fun b => ?_) l k e h
      cases b
      · exact NZ.ret _
      · exact hi _ _
    · unfold members at h
      refine NZ.chk (NZ.text _) (fun key => NZ.bnd NZ.blanks fun _ => NZ.bnd (NZ.sat _) fun _ => NZ.bnd NZ.blanks fun _ => NZ.bnd (hv d) fun v => NZ.bnd (NZ.more _) fun b => ?_) l k e h
      cases b
      · exact NZ.ret _
      · exact hm _ _
theorem rd_nz {F : Nf} {n d : Nat} {l : List Nat} {k : Nat} {e : Int} (h : rd F n d l = .er k e) : e ≠ 0 := by
  refine NZ.bnd NZ.blanks (fun _ => NZ.bnd ((nz_all F n).1 d) fun v => NZ.bnd NZ.blanks fun _ l k e h => ?_) l k e h
  split at h
  · cases h
  · injection h with _ h2; omega
theorem rd_len {F : Nf} (hF : ∀ l, (F l).2.2.2 ≠ 50 ∧ (F l).2.2.2 ≠ 71) {n d : Nat} {l : List Nat} {v : V} {k : Nat} (h : rd F n d l = .ok v k) : k ≤ l.length := by
  unfold rd at h
  obtain ⟨_, j, i, h1, h2, rfl⟩ := bnd_inv h
  obtain ⟨x, j2, i2, h3, h22, rfl⟩ := bnd_inv h2
  obtain ⟨_, j3, i3, h4, h5, rfl⟩ := bnd_inv h22
  have e1 := Loc.blanks.okl _ _ _ h1
  have e2 := ((Loc.all hF n).1 d).okl _ _ _ h3
  have e3 := Loc.blanks.okl _ _ _ h4
  rw [List.length_drop] at e2 e3
  rw [List.length_drop] at e3
  split at h5
  · injection h5 with _ h6; omega
  · cases h5
theorem tok_le {src : List Nat} (h : src.length ≤ 1100000) (p : Nat) : pE (src.drop p) ≤ 1100000 := by
  have h1 := (pf_at (src.drop p)).1
  have h2 := (pf_at (src.drop p)).2.1
  rw [List.length_drop] at h1
  omega
end Go.Proofs.YtjhhdnnblcbdbaaGreatDoor.jp
end
section
namespace Go.Proofs.YtjhhdnnblcbdbaaGreatDoor.jp
open Go.RowKit val
def Up {α : Type} (f g : Ps α) : Prop := ∀ l a k, f l = .ok a k → g l = .ok a k
section
variable {α β : Type}
theorem Up.refl (f : Ps α) : Up f f := fun _ _ _ h => h
theorem Up.bnd {f f' : Ps α} {g g' : α → Ps β} (hf : Up f f') (hg : ∀ a, Up (g a) (g' a)) : Up (jp.bnd f g) (jp.bnd f' g') := by
  intro l b k h
  obtain ⟨a, j, i, h1, h2, rfl⟩ := bnd_inv h
  exact bnd_ok (hf _ _ _ h1) (hg a _ _ _ h2)
theorem Up.chk {f f' : Ps α} {p : α → Bool} {g g' : α → Ps β} (hf : Up f f') (hg : ∀ a, Up (g a) (g' a)) : Up (jp.chk f p g) (jp.chk f' p g') := by
  intro l b k h
  obtain ⟨a, j, i, h1, hp, h2, rfl⟩ := chk_inv h
  rw [chk_ok (hf _ _ _ h1) hp, hg a _ _ _ h2]
  rfl
theorem Up.ite {c : Nat} {a : Ps α} {f f' : Ps α} (hf : Up f f') : Up (fun l => if l.headD 0 = c then a l else f l) (fun l => if l.headD 0 = c then a l else f' l) := by
  intro l b k h
  simp only at h ⊢
  by_cases h1 : l.headD 0 = c
  · rw [if_pos h1] at h ⊢; exact h
  · rw [if_neg h1] at h ⊢; exact hf _ _ _ h
theorem Up.ifb {b : Bool} {f f' g : Ps α} (hf : Up f f') : Up (if b = true then f else g) (if b = true then f' else g) := by
  cases b
  · exact Up.refl _
  · exact hf
end
theorem up_pieces : ∀ m acc, Up (pieces m acc) (pieces (m + 1) acc)
  | 0, acc => fun l a k h => by unfold pieces at h; cases h
  | m + 1, acc => by
    intro l b k h
    unfold pieces at h ⊢
    by_cases h1 : l.headD 0 < 32
    · rw [if_pos h1] at h; cases h
    rw [if_neg h1] at h ⊢
    by_cases h1 : l.headD 0 = 34
    · rw [if_pos h1] at h ⊢; exact h
    rw [if_neg h1] at h ⊢
    by_cases h1 : l.headD 0 = 92
    · rw [if_pos h1] at h ⊢
      exact Up.bnd (Up.refl one) (fun _ => Up.bnd (Up.refl escP) fun b => up_pieces m (acc ++ b)) _ _ _ h
    rw [if_neg h1] at h ⊢
    exact Up.bnd (Up.refl group) (fun b => up_pieces m (acc ++ b)) _ _ _ h
theorem up_text (m : Nat) : Up (text m) (text (m + 1)) := Up.bnd (Up.refl _) fun _ => up_pieces m []
theorem up_all (F : Nf) : ∀ n, (∀ d, Up (value F n d) (value F (n + 1) d)) ∧ (∀ d acc, Up (items F n d acc) (items F (n + 1) d acc)) ∧ ∀ d acc, Up (members F n d acc) (members F (n + 1) d acc)
  | 0 => ⟨fun d l v k h => (by unfold value at h; cases h), fun d acc l v k h => (by unfold items at h; cases h), fun d acc l v k h => (by unfold members at h; cases h)⟩
  | n + 1 => by
    obtain ⟨hv, hi, hm⟩ := up_all F n
    refine ⟨fun d l v k h => ?_, fun d acc l v k h => ?_, fun d acc l v k h => ?_⟩
    · unfold value at h ⊢
      by_cases h1 : l.headD 0 = 110
      · rw [if_pos h1] at h ⊢; exact h
      rw [if_neg h1] at h ⊢
      by_cases h1 : l.headD 0 = 116
      · rw [if_pos h1] at h ⊢; exact h
      rw [if_neg h1] at h ⊢
      by_cases h1 : l.headD 0 = 102
      · rw [if_pos h1] at h ⊢; exact h
      rw [if_neg h1] at h ⊢
      by_cases h1 : l.headD 0 = 34
      · rw [if_pos h1] at h ⊢
        exact Up.bnd (up_text n) (fun _ => Up.refl _) _ _ _ h
      rw [if_neg h1] at h ⊢
      by_cases h1 : l.headD 0 = 91
      · rw [if_pos h1] at h ⊢
        exact Up.bnd (Up.refl _) (fun _ => Up.bnd (Up.refl _) fun _ => Up.ite (hi _ _)) _ _ _ h
      rw [if_neg h1] at h ⊢
      by_cases h1 : l.headD 0 = 123
      · rw [if_pos h1] at h ⊢
        exact Up.bnd (Up.refl _) (fun _ => Up.bnd (Up.refl _) fun _ => Up.ite (hm _ _)) _ _ _ h
      rw [if_neg h1] at h ⊢
      exact h
    · unfold items at h ⊢
      exact Up.bnd (hv d) (fun v => Up.bnd (Up.refl _) fun b => Up.ifb (hi _ _)) _ _ _ h
    · unfold members at h ⊢
      exact Up.chk (up_text n) (fun key => Up.bnd (Up.refl _) fun _ => Up.bnd (Up.refl _) fun _ => Up.bnd (Up.refl _) fun _ => Up.bnd (hv d) fun v => Up.bnd (Up.refl _) fun b => Up.ifb (hm _ _)) _ _ _ h
theorem value_up {F : Nf} {n m d : Nat} (h : n ≤ m) : Up (value F n d) (value F m d) := by
  obtain ⟨k, rfl⟩ : ∃ k, m = n + k := ⟨m - n, by omega⟩
  clear h
  induction k with
  | zero => exact Up.refl _
  | succ k ih => exact fun l a j h1 => (up_all F (n + k)).1 d l a j (ih l a j h1)
/-! ### behind the end -/
def sep (t : List Nat) : Prop := t = [] ∨ ∃ c r, t = c :: r ∧ (bl c = true ∨ c = 44 ∨ c = 93 ∨ c = 125)
def EndAt {α : Type} (f : Ps α) (a : α) : Prop := ∀ l, f l = .ok a l.length → ∀ t, sep t → f (l ++ t) = .ok a l.length
def End {α : Type} (f : Ps α) : Prop := ∀ a, EndAt f a
section
variable {α β : Type}
theorem take_app {l t : List Nat} {j : Nat} (h : j < l.length) : (l ++ t).take (j + 1) = l.take (j + 1) := List.take_append_of_le_length (by omega)
theorem ext_of {f : Ps α} (hl : Loc f) {a : α} (he : EndAt f a) {l : List Nat} {j : Nat} (h : f l = .ok a j) {t : List Nat} (ht : sep t) : f (l ++ t) = .ok a j := by
  have h1 := hl.okl _ _ _ h
  by_cases h2 : j < l.length
  · exact hl.oka l a j h h2 _ (take_app h2)
  · obtain rfl : j = l.length := by omega
    exact he l h t ht
theorem End.ret (a : α) : End (jp.ret a) := by
  intro b l h t _
  unfold jp.ret at h ⊢
  injection h with h1 h2
  rw [h1, h2]
theorem End.sat (f : Nat → Option α) : End (jp.sat f) := by
  intro b l h t _
  cases l with
  | nil => simp [jp.sat] at h
  | cons x r =>
    simp only [jp.sat, List.cons_append] at h ⊢
    exact h
theorem EndAt.bnd {f : Ps α} {g : α → Ps β} {b : β} (hf : Loc f) (hgl : ∀ a, Loc (g a)) (hg : ∀ a, EndAt (g a) b) (h : ∀ a, Eats (g a) ∨ EndAt f a) : EndAt (jp.bnd f g) b := by
  intro l h0 t ht
  obtain ⟨a, j, i, h1, h2, h3⟩ := bnd_inv h0
  have hj := hf.okl _ _ _ h1
  have hi : i = (l.drop j).length := by rw [List.length_drop]; omega
  subst hi
  have h4 := hg a _ h2 t ht
  have h5 : f (l ++ t) = .ok a j := by
    by_cases hlt : j < l.length
    · exact hf.oka l a j h1 hlt _ (take_app hlt)
    · obtain rfl : j = l.length := by omega
      rcases h a with h | h
      · rw [List.drop_length] at h2
        exact absurd h2 (h [] b)
      · exact h l h1 t ht
  rw [bnd_ok (g := g) h5 (r := .ok b (l.drop j).length) (by rw [List.drop_append_of_le_length hj]; exact h4), h3]
  rfl
theorem End.bnd {f : Ps α} {g : α → Ps β} (hf : Loc f) (hgl : ∀ a, Loc (g a)) (hg : ∀ a, End (g a)) (h : ∀ a, Eats (g a) ∨ EndAt f a) : End (jp.bnd f g) := fun b => EndAt.bnd hf hgl (fun a => hg a b) h
theorem EndAt.chk {f : Ps α} {p : α → Bool} {g : α → Ps β} {b : β} (hf : Loc f) (hgl : ∀ a, Loc (g a)) (hg : ∀ a, EndAt (g a) b) (h : ∀ a, Eats (g a) ∨ EndAt f a) : EndAt (jp.chk f p g) b := by
  intro l h0 t ht
  obtain ⟨a, j, i, h1, hp, h2, h3⟩ := chk_inv h0
  have hj := hf.okl _ _ _ h1
  have hi : i = (l.drop j).length := by rw [List.length_drop]; omega
  subst hi
  have h4 := hg a _ h2 t ht
  have h5 : f (l ++ t) = .ok a j := by
    by_cases hlt : j < l.length
    · exact hf.oka l a j h1 hlt _ (take_app hlt)
    · obtain rfl : j = l.length := by omega
      rcases h a with h | h
      · rw [List.drop_length] at h2
        exact absurd h2 (h [] b)
      · exact h l h1 t ht
  rw [chk_ok h5 hp, List.drop_append_of_le_length hj, h4, h3]
  rfl
end
theorem nx_sep (st : Int) {c : Nat} (h : bl c = true ∨ c = 44 ∨ c = 93 ∨ c = 125) : pfx.nx st (c : Int) = 9 := by
  have hc : (c : Int) ≠ 45 ∧ (c : Int) ≠ 48 ∧ (c : Int) ≠ 46 ∧ (c : Int) ≠ 101 ∧ (c : Int) ≠ 69 ∧ (c : Int) ≠ 43 ∧ pfx.dig (c : Int) = false := by
    have : c = 32 ∨ c = 9 ∨ c = 10 ∨ c = 13 ∨ c = 44 ∨ c = 93 ∨ c = 125 := by
      rcases h with h | h
      · unfold bl at h
        simp at h
        omega
      · omega
    rcases this with rfl | rfl | rfl | rfl | rfl | rfl | rfl <;> decide
  obtain ⟨c1, c2, c3, c4, c5, c6, c7⟩ := hc
  unfold pfx.nx
  simp [c1, c2, c3, c4, c5, c6, c7]
theorem run_sep {t : List Nat} (ht : sep t) : ∀ (l : List Nat) (st e f : Int) (i : Nat), pfx.run st e f i ((l ++ t).map fun n : Nat => (n : Int)) = pfx.run st e f i (l.map fun n : Nat => (n : Int))
  | [], st, e, f, i => by
    rcases ht with rfl | ⟨c, r, rfl, h⟩
    · rfl
    · simp only [List.nil_append, List.map_cons, List.map_nil, pfx.run]
      rw [if_pos (nx_sep st h)]
  | x :: l, st, e, f, i => by
    simp only [List.cons_append, List.map_cons, pfx.run]
    rw [run_sep ht l, run_sep ht l]
theorem End.numP {F : Nf} : End (jp.numP F) := by
  intro a l h t ht
  have hS : pS (l ++ t) = pS l := by unfold pS; rw [pf_run, pf_run, run_sep ht]
  have hE : pE (l ++ t) = pE l := by unfold pE; rw [pf_run, pf_run, run_sep ht]
  have hle : pE l ≤ l.length := Nat.le_trans (pf_at l).2.1 (pf_at l).1
  unfold jp.numP at h ⊢
  rw [hS, hE, List.take_append_of_le_length hle]
  exact h
theorem End.one : End one := End.sat _
theorem End.want (c : Nat) : End (want c) := End.sat _
theorem End.word : ∀ ws, End (word ws)
  | [] => End.ret ()
  | c :: r => End.bnd (Loc.want c) (fun _ => Loc.word r) (fun _ => End.word r) fun _ => .inr (End.want c _)
theorem End.head {α : Type} {f : Ps α} (g : Nat → Ps α) (h : ∀ l, f l = g (l.headD 0) l) (hg : ∀ c, End (g c)) (h0 : Eats f) : End f := by
  intro a l h1 t ht
  have hne : l ≠ [] := by rintro rfl; exact h0 _ _ h1
  have hh : (l ++ t).headD 0 = l.headD 0 := by
    cases l with
    | nil => exact absurd rfl hne
    | cons x r => rfl
  rw [h] at h1 ⊢
  rw [hh]
  exact hg _ a l h1 t ht
theorem End.er {α : Type} (k : Nat) (e : Int) : End (fun _ => (.er k e : Rs α)) := fun a l h => by cases h
theorem End.digK (m : Int → Int → Bool) : ∀ k a f, End (digK m k a f)
  | 0, a, f => End.ret a
  | k + 1, a, f => End.bnd (Loc.sat _) (fun _ => Loc.digK m k _ _) (fun _ => End.digK m k _ _) fun _ => .inr (End.sat _ _)
theorem End.escU : End escU := by
  refine End.bnd (Loc.want _) (fun _ => Loc.bnd (Loc.digs _) fun n => ?_) (fun _ => End.bnd (Loc.digs _) (fun n => ?_) (fun n => ?_) fun _ => .inr (End.digK _ 4 0 (-1) _)) fun _ => .inr (End.want _ _)
  · split
    · exact Loc.bnd (Loc.want _) fun _ => Loc.bnd (Loc.want _) fun _ => Loc.bnd (Loc.digs _) fun _ => Loc.ret _
    · exact Loc.ret _
  · split
    · exact Loc.bnd (Loc.want _) fun _ => Loc.bnd (Loc.want _) fun _ => Loc.bnd (Loc.digs _) fun _ => Loc.ret _
    · exact Loc.ret _
  · split
    · exact End.bnd (Loc.want _) (fun _ => Loc.bnd (Loc.want _) fun _ => Loc.bnd (Loc.digs _) fun _ => Loc.ret _) (fun _ => End.bnd (Loc.want _) (fun _ => Loc.bnd (Loc.digs _) fun _ => Loc.ret _) (fun _ => End.bnd (Loc.digs _) (fun _ => Loc.ret _) (fun _ => End.ret _) fun _ => .inr (End.digK _ 4 0 (-1) _)) fun _ => .inr (End.want _ _)) fun _ => .inr (End.want _ _)
    · exact End.ret _
theorem Eats.escP : Eats jp.escP := by
  intro l v
  unfold jp.escP
  cases h : mean (l.headD 0) with
  | some b => exact Eats.bnd Eats.one l v
  | none => exact Eats.escU l v
theorem End.escP : End jp.escP := by
  refine End.head (fun c => match mean c with | some b => jp.bnd jp.one fun _ => jp.ret [b] | none => jp.escU) (fun l => rfl) (fun c => ?_) Eats.escP
  cases mean c with
  | some b => exact End.bnd Loc.one (fun _ => Loc.ret _) (fun _ => End.ret _) fun _ => .inr (End.one _)
  | none => exact End.escU
theorem End.conts : ∀ m lo hi, End (jp.conts m lo hi)
  | 0, lo, hi => End.ret []
  | m + 1, lo, hi => End.bnd (Loc.sat _) (fun _ => Loc.bnd (Loc.conts _ _ _) fun _ => Loc.ret _) (fun _ => End.bnd (Loc.conts _ _ _) (fun _ => Loc.ret _) (fun _ => End.ret _) fun _ => .inr (End.conts m _ _ _)) fun _ => .inr (End.sat _ _)
theorem End.group : End jp.group := End.bnd (Loc.sat _) (fun _ => Loc.bnd (Loc.conts _ _ _) fun _ => Loc.ret _) (fun _ => End.bnd (Loc.conts _ _ _) (fun _ => Loc.ret _) (fun _ => End.ret _) fun _ => .inr (End.conts _ _ _ _)) fun _ => .inr (End.sat _ _)
theorem Eats.pieces : ∀ m acc, Eats (pieces m acc)
  | 0, acc => fun l v h => by unfold jp.pieces at h; cases h
  | m + 1, acc => by
    intro l v h
    unfold jp.pieces at h
    split at h
    · cases h
    · split at h
      · exact Eats.bnd Eats.one l v h
      · split at h
        · exact Eats.bnd Eats.one l v h
        · exact Eats.bnd Eats.group l v h
theorem End.pieces : ∀ m acc, End (pieces m acc)
  | 0, acc => End.er 0 99
  | m + 1, acc => by
    refine End.head (fun c => if c < 32 then (fun _ => .er 0 50) else if c = 34 then (jp.bnd jp.one fun _ => jp.ret acc) else if c = 92 then (jp.bnd jp.one fun _ => jp.bnd jp.escP fun b => jp.pieces m (acc ++ b)) else (jp.bnd jp.group fun b => jp.pieces m (acc ++ b))) (fun l => by
      conv => lhs; unfold jp.pieces
      by_cases h1 : l.headD 0 < 32
      · rw [if_pos h1, if_pos h1]
      rw [if_neg h1, if_neg h1]
      by_cases h2 : l.headD 0 = 34
      · rw [if_pos h2, if_pos h2]
      rw [if_neg h2, if_neg h2]
      by_cases h3 : l.headD 0 = 92
      · rw [if_pos h3, if_pos h3]
      rw [if_neg h3, if_neg h3]) (fun c => ?_) (Eats.pieces _ _)
    split
    · exact End.er 0 50
    · split
      · exact End.bnd Loc.one (fun _ => Loc.ret _) (fun _ => End.ret _) fun _ => .inr (End.one _)
      · split
        · exact End.bnd Loc.one (fun _ => Loc.bnd Loc.escP fun _ => Loc.pieces _ _) (fun _ => End.bnd Loc.escP (fun _ => Loc.pieces _ _) (fun b => End.pieces m _) fun _ => .inl (Eats.pieces _ _)) fun _ => .inr (End.one _)
        · exact End.bnd Loc.group (fun _ => Loc.pieces _ _) (fun b => End.pieces m _) fun _ => .inl (Eats.pieces _ _)
theorem End.text (m : Nat) : End (jp.text m) := End.bnd (Loc.want _) (fun _ => Loc.pieces _ _) (fun _ => End.pieces m []) fun _ => .inl (Eats.pieces _ _)
theorem Eats.brk (c : Nat) : Eats (fun l : List Nat => if l.headD 0 = c then (jp.bnd jp.one fun _ => jp.ret false) l else (jp.bnd (jp.want 44) fun _ => jp.bnd jp.blanks fun _ => jp.ret true) l) := by
  intro l v h
  simp only at h
  split at h
  · exact Eats.bnd Eats.one l v h
  · exact Eats.bnd (Eats.want 44) l v h
theorem Loc.brk {c : Nat} (hc : c ≠ 0) : Loc (fun l : List Nat => if l.headD 0 = c then (jp.bnd jp.one fun _ => jp.ret false) l else (jp.bnd (jp.want 44) fun _ => jp.bnd jp.blanks fun _ => jp.ret true) l) := by
  refine Loc.head (fun x => if x = c then (jp.bnd jp.one fun _ => jp.ret false) else (jp.bnd (jp.want 44) fun _ => jp.bnd jp.blanks fun _ => jp.ret true)) (fun l => ?_) (fun x => ?_) (Eats.brk c) (fun l e h he => ?_)
  · split <;> rfl
  · split
    · exact Loc.bnd Loc.one fun _ => Loc.ret _
    · exact Loc.bnd (Loc.want _) fun _ => Loc.bnd Loc.blanks fun _ => Loc.ret _
  · show (if _ then _ else _) = _
    rw [if_neg (by simp; omega)]
    rfl
theorem more_end {c : Nat} (hc : c ≠ 0) : EndAt (jp.more c) false := by
  refine EndAt.bnd Loc.blanks (fun _ => Loc.brk hc) (fun _ => ?_) fun _ => .inl (Eats.brk c)
  intro l h t ht
  have hne : l ≠ [] := by rintro rfl; exact Eats.brk c _ _ h
  have hh : (l ++ t).headD 0 = l.headD 0 := by
    cases l with
    | nil => exact absurd rfl hne
    | cons x r => rfl
  simp only at h ⊢
  rw [hh]
  split at h
  · rename_i h1
    rw [if_pos h1]
    exact End.bnd Loc.one (fun _ => Loc.ret _) (fun _ => End.ret _) (fun _ => .inr (End.one _)) _ _ h t ht
  · obtain ⟨_, _, _, _, h2, _⟩ := bnd_inv h
    obtain ⟨_, _, _, _, h3, _⟩ := bnd_inv h2
    exact absurd (ret_inv h3) (by decide)
theorem End.opn (d : Nat) : End (jp.opn d) := by
  intro a l h t ht
  cases l with
  | nil => simp [jp.opn] at h
  | cons x r =>
    simp only [jp.opn, List.cons_append] at h ⊢
    exact h
theorem Eats.inner {c : Nat} {a : V} {f : Ps V} (hf : Eats f) : Eats (fun l : List Nat => if l.headD 0 = c then (jp.bnd jp.one fun _ => jp.ret a) l else f l) := by
  intro l v h
  simp only at h
  split at h
  · exact Eats.bnd Eats.one l v h
  · exact hf l v h
theorem End.inner {c : Nat} {a : V} {f : Ps V} (hf : Eats f) (he : End f) : End (fun l : List Nat => if l.headD 0 = c then (jp.bnd jp.one fun _ => jp.ret a) l else f l) := by
  refine End.head (fun x => if x = c then (jp.bnd jp.one fun _ => jp.ret a) else f) (fun l => by split <;> rfl) (fun x => ?_) (Eats.inner hf)
  split
  · exact End.bnd Loc.one (fun _ => Loc.ret _) (fun _ => End.ret _) fun _ => .inr (End.one _)
  · exact he
theorem end_all {F : Nf} (hF : ∀ l, (F l).2.2.2 ≠ 50 ∧ (F l).2.2.2 ≠ 71) : ∀ n, (∀ d, End (jp.value F n d)) ∧ (∀ d acc, End (jp.items F n d acc)) ∧ ∀ d acc, End (jp.members F n d acc)
  | 0 => ⟨fun d => End.er 0 99, fun d acc => End.er 0 99, fun d acc => End.er 0 99⟩
  | n + 1 => by
    obtain ⟨hv, hi, hm⟩ := end_all hF n
    obtain ⟨lv, li, lm⟩ := Loc.all hF n
    refine ⟨fun d => ?_, fun d acc => ?_, fun d acc => ?_⟩
    · refine End.head (fun c => if c = 110 then (jp.bnd (jp.word [110, 117, 108, 108]) fun _ => jp.ret nullV)
        else if c = 116 then (jp.bnd (jp.word [116, 114, 117, 101]) fun _ => jp.ret (boolV true))
        else if c = 102 then (jp.bnd (jp.word [102, 97, 108, 115, 101]) fun _ => jp.ret (boolV false))
        else if c = 34 then (jp.bnd (jp.text n) fun b => jp.ret (strV b))
        else if c = 91 then (jp.bnd (jp.opn d) fun _ => jp.bnd jp.blanks fun _ l => if l.headD 0 = 93 then (jp.bnd jp.one fun _ => jp.ret (listV [])) l else jp.items F n (d - 1) [] l)
        else if c = 123 then (jp.bnd (jp.opn d) fun _ => jp.bnd jp.blanks fun _ l => if l.headD 0 = 125 then (jp.bnd jp.one fun _ => jp.ret (objV [])) l else jp.members F n (d - 1) [] l)
        else jp.numP F) (fun l => ?_) (fun c => ?_) (Eats.value F (n + 1) d)
      · conv => lhs; unfold jp.value
        by_cases h1 : l.headD 0 = 110
        · rw [if_pos h1, if_pos h1]
        rw [if_neg h1, if_neg h1]
        by_cases h1 : l.headD 0 = 116
        · rw [if_pos h1, if_pos h1]
        rw [if_neg h1, if_neg h1]
        by_cases h1 : l.headD 0 = 102
        · rw [if_pos h1, if_pos h1]
        rw [if_neg h1, if_neg h1]
        by_cases h1 : l.headD 0 = 34
        · rw [if_pos h1, if_pos h1]
        rw [if_neg h1, if_neg h1]
        by_cases h1 : l.headD 0 = 91
        · rw [if_pos h1, if_pos h1]
        rw [if_neg h1, if_neg h1]
        by_cases h1 : l.headD 0 = 123
        · rw [if_pos h1, if_pos h1]
        rw [if_neg h1, if_neg h1]
      · split
        · exact End.bnd (Loc.word _) (fun _ => Loc.ret _) (fun _ => End.ret _) fun _ => .inr (End.word _ _)
        · split
          · exact End.bnd (Loc.word _) (fun _ => Loc.ret _) (fun _ => End.ret _) fun _ => .inr (End.word _ _)
          · split
            · exact End.bnd (Loc.word _) (fun _ => Loc.ret _) (fun _ => End.ret _) fun _ => .inr (End.word _ _)
            · split
              · exact End.bnd (Loc.text _) (fun _ => Loc.ret _) (fun _ => End.ret _) fun _ => .inr (End.text _ _)
              · split
                · exact End.bnd (Loc.opn _) (fun _ => Loc.bnd Loc.blanks fun _ => Loc.inner (by decide) (li _ _) (Eats.items F _ _ _) (Start.items F _ _ _)) (fun _ => End.bnd Loc.blanks (fun _ => Loc.inner (by decide) (li _ _) (Eats.items F _ _ _) (Start.items F _ _ _)) (fun _ => End.inner (Eats.items F _ _ _) (hi _ _)) fun _ => .inl (Eats.inner (Eats.items F _ _ _))) fun _ => .inr (End.opn _ _)
                · split
                  · exact End.bnd (Loc.opn _) (fun _ => Loc.bnd Loc.blanks fun _ => Loc.inner (by decide) (lm _ _) (Eats.members F _ _ _) (Start.members F _ _ _)) (fun _ => End.bnd Loc.blanks (fun _ => Loc.inner (by decide) (lm _ _) (Eats.members F _ _ _) (Start.members F _ _ _)) (fun _ => End.inner (Eats.members F _ _ _) (hm _ _)) fun _ => .inl (Eats.inner (Eats.members F _ _ _))) fun _ => .inr (End.opn _ _)
                  · exact End.numP
    · unfold jp.items
      refine End.bnd (lv d) (fun v => Loc.bnd (Loc.more _) fun b => ?_) (fun v => ?_) fun v => .inr (hv d v)
      · cases b
        · exact Loc.ret _
        · exact li _ _
      · intro w
        refine EndAt.bnd (Loc.more _) (fun b => ?_) (fun b => ?_) fun b => ?_
        · cases b
          · exact Loc.ret _
          · exact li _ _
        · cases b
          · exact End.ret _ _
          · exact hi _ _ _
        · cases b
          · exact .inr (more_end (by decide))
          · exact .inl (Eats.items F _ _ _)
    · unfold jp.members
      intro w
      have LB : ∀ key (v : V) (b : Bool), Loc (if b = true then jp.members F n d (acc ++ [(bt key, v)]) else jp.ret (objV (acc ++ [(bt key, v)]))) := fun key v b => by
        cases b
        · exact Loc.ret _
        · exact lm _ _
      have LC : ∀ key (v : V), Loc (jp.bnd (jp.more 125) fun b => if b = true then jp.members F n d (acc ++ [(bt key, v)]) else jp.ret (objV (acc ++ [(bt key, v)]))) := fun key v => Loc.bnd (Loc.more _) (LB key v)
      have LD : ∀ key, Loc (jp.bnd (jp.value F n d) fun v => jp.bnd (jp.more 125) fun b => if b = true then jp.members F n d (acc ++ [(bt key, v)]) else jp.ret (objV (acc ++ [(bt key, v)]))) := fun key => Loc.bnd (lv d) (LC key)
      refine EndAt.chk (Loc.text _) (fun key => Loc.bnd Loc.blanks fun _ => Loc.bnd (Loc.want _) fun _ => Loc.bnd Loc.blanks fun _ => LD key) (fun key => ?_) fun key => .inr (End.text _ _)
      refine EndAt.bnd Loc.blanks (fun _ => Loc.bnd (Loc.want _) fun _ => Loc.bnd Loc.blanks fun _ => LD key) (fun _ => ?_) fun _ => .inl (Eats.bnd (Eats.want _))
      refine EndAt.bnd (Loc.want _) (fun _ => Loc.bnd Loc.blanks fun _ => LD key) (fun _ => ?_) fun _ => .inr (End.want _ _)
      refine EndAt.bnd Loc.blanks (fun _ => LD key) (fun _ => ?_) fun _ => .inl (Eats.bnd (Eats.value F _ _))
      refine EndAt.bnd (lv d) (fun v => LC key v) (fun v => ?_) fun v => .inr (hv d v)
      refine EndAt.bnd (Loc.more _) (LB key v) (fun b => ?_) fun b => ?_
      · cases b
        · exact End.ret _ _
        · exact hm _ _ _
      · cases b
        · exact .inr (more_end (by decide))
        · exact .inl (Eats.members F _ _ _)
end Go.Proofs.YtjhhdnnblcbdbaaGreatDoor.jp
end
section
namespace Go.Proofs.YtjhhdnnblcbdbaaGreatDoor.jp
open Go.RowKit val
def bls (w : List Nat) : Prop := ∀ x ∈ w, bl x = true
theorem cnt_app {w : List Nat} (h : bls w) (l : List Nat) : cnt (w ++ l) = w.length + cnt l := by
  induction w with
  | nil => simp
  | cons x r ih =>
    have h1 := h x (by simp)
    simp only [List.cons_append, cnt, h1, if_true, List.length_cons]
    rw [ih fun y hy => h y (by simp [hy])]
    omega
theorem cnt_bls {w : List Nat} (h : bls w) : cnt w = w.length := by
  have := cnt_app h []
  simpa [cnt] using this
theorem bls_of_cnt : ∀ {w : List Nat}, cnt w = w.length → bls w
  | [], _ => fun x hx => by simp at hx
  | x :: r, h => by
    simp only [cnt] at h
    by_cases h1 : bl x = true
    · rw [if_pos h1] at h
      intro y hy
      rcases List.mem_cons.1 hy with rfl | hy
      · exact h1
      · exact bls_of_cnt (by simpa using h) y hy
    · rw [if_neg h1] at h; simp at h
theorem cnt_stop {w : List Nat} (h : bls w) {c : Nat} (hc : bl c = false) (l : List Nat) : cnt (w ++ c :: l) = w.length := by
  rw [cnt_app h]; simp [cnt, hc]
theorem sh_sh' {α : Type} (r : Rs α) (a b : Nat) : (r.sh a).sh b = r.sh (b + a) := by
  cases r <;> simp [Rs.sh, Nat.add_assoc]
theorem sh_zero {α : Type} (r : Rs α) : r.sh 0 = r := by
  cases r <;> simp [Rs.sh]
theorem bnd_blanks {α : Type} (g : Unit → Ps α) (l : List Nat) : jp.bnd blanks g l = (g () (l.drop (cnt l))).sh (cnt l) := rfl
/-- blanks ahead -/
theorem rd_front (F : Nf) (n d : Nat) {w : List Nat} (h : bls w) (s : List Nat) : rd F n d (w ++ s) = (rd F n d s).sh w.length := by
  unfold rd
  rw [bnd_blanks, bnd_blanks, cnt_app h, sh_sh', show (w ++ s).drop (w.length + cnt s) = s.drop (cnt s) by rw [← List.drop_drop, List.drop_left]]
theorem rd_inv {F : Nf} {n d : Nat} {s : List Nat} {v : V} {k : Nat} (h : rd F n d s = .ok v k) : ∃ j, value F n d (s.drop (cnt s)) = .ok v j ∧ bls ((s.drop (cnt s)).drop j) := by
  unfold rd at h
  obtain ⟨_, j, i, h1, h2, _⟩ := bnd_inv h
  have : j = cnt s := by unfold blanks at h1; injection h1 with _ h1; exact h1.symm
  subst this
  obtain ⟨x, j2, i2, h3, h4, _⟩ := bnd_inv h2
  obtain ⟨_, j3, i3, h5, h6, _⟩ := bnd_inv h4
  have : j3 = cnt ((s.drop (cnt s)).drop j2) := by unfold blanks at h5; injection h5 with _ h5; exact h5.symm
  subst this
  split at h6
  · rename_i h7
    injection h6 with h8 _
    subst h8
    refine ⟨j2, h3, bls_of_cnt ?_⟩
    have h9 := cnt_le ((s.drop (cnt s)).drop j2)
    have h10 := List.drop_eq_nil_iff.1 h7
    omega
  · cases h6
theorem sep_bls {w : List Nat} (h : bls w) : sep w := by
  cases w with
  | nil => exact .inl rfl
  | cons c r => exact .inr ⟨c, r, rfl, .inl (h c (by simp))⟩
theorem sep_cons (c : Nat) (r : List Nat) (h : c = 44 ∨ c = 93 ∨ c = 125) : sep (c :: r) := .inr ⟨c, r, rfl, .inr h⟩
theorem bls_app {a b : List Nat} (ha : bls a) (hb : bls b) : bls (a ++ b) := fun x hx => by
  rcases List.mem_append.1 hx with h | h
  · exact ha x h
  · exact hb x h
theorem rd_el {F : Nf} (hF : ∀ l, (F l).2.2.2 ≠ 50 ∧ (F l).2.2.2 ≠ 71) {n d : Nat} {l : List Nat} {k : Nat} {e : Int} (h : rd F n d l = .er k e) : k ≤ l.length := by
  unfold rd at h
  rw [bnd_blanks] at h
  have hc := cnt_le l
  have hl : (l.drop (cnt l)).length = l.length - cnt l := List.length_drop ..
  cases hv : value F n d (l.drop (cnt l)) with
  | er k1 e1 =>
    rw [bnd_er' hv] at h
    injection h with h1 _
    have := ((Loc.all hF n).1 d).erl _ _ _ hv
    omega
  | ok v j =>
    rw [bnd_ok hv rfl, bnd_blanks] at h
    have := ((Loc.all hF n).1 d).okl _ _ _ hv
    have hc2 := cnt_le ((l.drop (cnt l)).drop j)
    have hl2 : ((l.drop (cnt l)).drop j).length = l.length - cnt l - j := by rw [List.length_drop, hl]
    split at h
    · cases h
    · injection h with h1 _
      omega
section
variable {F : Nf} (hF : ∀ l, (F l).2.2.2 ≠ 50 ∧ (F l).2.2.2 ≠ 71)
include hF
/-- a value, something behind it -/
theorem val_app {n d : Nat} {l : List Nat} {v : V} {j : Nat} (h : value F n d l = .ok v j) {t : List Nat} (ht : sep t) : value F n d (l ++ t) = .ok v j := ext_of ((Loc.all hF n).1 d) ((end_all hF n).1 d v) h ht
theorem val_pos {n d : Nat} {l : List Nat} {v : V} {j : Nat} (h : value F n d l = .ok v j) : 0 < j ∧ j ≤ l.length := by
  refine ⟨?_, ((Loc.all hF n).1 d).okl _ _ _ h⟩
  cases j with
  | zero => exact absurd h (Eats.value F n d l v)
  | succ j => omega
theorem cnt_val {n d : Nat} {s : List Nat} {v : V} {j : Nat} (h : value F n d (s.drop (cnt s)) = .ok v j) (t : List Nat) : cnt (s ++ t) = cnt s ∧ (s ++ t).drop (cnt s) = s.drop (cnt s) ++ t := by
  have h1 := val_pos hF h
  rw [List.length_drop] at h1
  exact ⟨cnt_agree s _ (by omega) (List.take_append_of_le_length (by omega)), List.drop_append_of_le_length (by omega)⟩
/-- blanks behind -/
theorem rd_back {n d : Nat} {s : List Nat} {v : V} {k : Nat} (h : rd F n d s = .ok v k) {w : List Nat} (hw : bls w) : ∃ k', rd F n d (s ++ w) = .ok v k' := by
  obtain ⟨j, h1, h2⟩ := rd_inv h
  obtain ⟨h3, h4⟩ := cnt_val hF h1 w
  have hp := val_pos hF h1
  have h5 := val_app hF h1 (sep_bls hw)
  apply Exists.intro
  unfold rd
  rw [bnd_blanks, h3, h4, bnd_ok h5 (r := .ok v _) (by
    rw [List.drop_append_of_le_length hp.2, bnd_blanks, cnt_bls (bls_app h2 hw), List.drop_length]
    rw [if_pos rfl]
    rfl)]
  rfl
/-- one value of a list, another behind it -/
theorem item_more {n d : Nat} {acc : List V} {l r : List Nat} {v : V} {j : Nat} (h : value F n d l = .ok v j) (hb : bls (l.drop j)) : items F (n + 1) d acc (l ++ 44 :: r) = (items F n d (acc ++ [v]) (r.drop (cnt r))).sh (l.length + 1 + cnt r) := by
  have hp := val_pos hF h
  have h5 := val_app hF h (sep_cons 44 r (.inl rfl))
  rw [items_succ, bnd_ok h5 rfl]
  rw [List.drop_append_of_le_length hp.2]
  have hm : more 93 (l.drop j ++ 44 :: r) = .ok true ((l.drop j).length + (1 + cnt r)) := by
    unfold more
    rw [bnd_blanks, cnt_stop hb (by decide), List.drop_left]
    show Rs.sh _ (if _ then _ else _) = _
    rw [if_neg (by simp)]
    rw [bnd_ok (a := ()) (j := 1) (r := .ok true (cnt r)) (by simp [want, sat]) (by
      show jp.bnd blanks _ r = _
      rw [bnd_blanks]; rfl)]
    rfl
  rw [bnd_ok hm rfl, if_pos rfl, sh_sh']
  have e : (l.drop j ++ 44 :: r).drop ((l.drop j).length + (1 + cnt r)) = r.drop (cnt r) := by
    rw [← List.drop_drop, List.drop_left, ← List.drop_drop]
    rfl
  rw [e]
  congr 1
  rw [List.length_drop]
  omega
theorem item_last {n d : Nat} {acc : List V} {l r : List Nat} {v : V} {j : Nat} (h : value F n d l = .ok v j) (hb : bls (l.drop j)) : items F (n + 1) d acc (l ++ 93 :: r) = .ok (listV (acc ++ [v])) (l.length + 1) := by
  have hp := val_pos hF h
  have h5 := val_app hF h (sep_cons 93 r (.inr (.inl rfl)))
  rw [items_succ, bnd_ok h5 rfl]
  rw [List.drop_append_of_le_length hp.2]
  have hm : more 93 (l.drop j ++ 93 :: r) = .ok false ((l.drop j).length + 1) := by
    unfold more
    rw [bnd_blanks, cnt_stop hb (by decide), List.drop_left]
    show Rs.sh _ (if _ then _ else _) = _
    rw [if_pos (by simp)]
    rfl
  rw [bnd_ok hm rfl, if_neg (by decide)]
  simp only [jp.ret, Rs.sh, Rs.ok.injEq, true_and]
  rw [List.length_drop]
  omega
theorem head_val {n d : Nat} {l : List Nat} {v : V} {j : Nat} (h : value F n d l = .ok v j) (t : List Nat) : (l ++ t).headD 0 = l.headD 0 ∧ l.headD 0 ≠ 93 ∧ bl (l.headD 0) = false ∧ l.headD 0 ≠ 125 := by
  have hp := val_pos hF h
  cases l with
  | nil => simp at hp; omega
  | cons x r =>
    refine ⟨rfl, ?_⟩
    cases n with
    | zero => unfold value at h; cases h
    | succ n =>
      refine Classical.byContradiction fun hn => ?_
      have hx : x = 93 ∨ x = 125 ∨ x = 32 ∨ x = 9 ∨ x = 10 ∨ x = 13 := by
        simp only [List.headD_cons, bl] at hn
        simp at hn
        omega
      have hnum : value F (n + 1) d (x :: r) = .er 0 50 := by
        have h9 : pfx.nx 0 (x : Int) = 9 := by rcases hx with rfl | rfl | rfl | rfl | rfl | rfl <;> decide
        refine val_num n d ?_ ?_ ?_ ?_ ?_ ?_ ?_
        · unfold numP
          have : pS (x :: r) = 0 := by unfold pS; rw [pf_run]; simp [pfx.run, h9]
          rw [if_pos (.inl this), this]
        all_goals (simp only [List.headD_cons]; omega)
      rw [hnum] at h
      cases h
/-- twice in a list -/
theorem rd_list {n m d : Nat} {s w : List Nat} {v : V} {j : Nat} (h : value F n d (s.drop (cnt s)) = .ok v j) (hb : bls ((s.drop (cnt s)).drop j)) (hw : bls w) (hm : n + 3 ≤ m) : ∃ k, rd F m (d + 1) (w ++ 91 :: (s ++ 44 :: (w ++ s ++ [93]))) = .ok (listV [v, v]) k := by
  obtain ⟨m, rfl⟩ : ∃ q, m = q + 3 := ⟨m - 3, by omega⟩
  have h1 := value_up (F := F) (d := d) (show n ≤ m + 1 by omega) _ _ _ h
  have h2 := value_up (F := F) (d := d) (show n ≤ m by omega) _ _ _ h
  have hL := item_last hF (acc := [] ++ [v]) (r := []) h2 hb
  have hM := item_more hF (acc := []) (r := w ++ s ++ [93]) h1 hb
  have c1 : cnt (w ++ s ++ [93]) = w.length + cnt s := by rw [List.append_assoc, cnt_app hw, (cnt_val hF h [93]).1]
  have c2 : (w ++ s ++ [93]).drop (w.length + cnt s) = s.drop (cnt s) ++ [93] := by rw [List.append_assoc, ← List.drop_drop, List.drop_left, (cnt_val hF h [93]).2]
  rw [c1, c2, hL] at hM
  obtain ⟨c3, c4⟩ := cnt_val hF h (44 :: (w ++ s ++ [93]))
  have hh := head_val hF h (44 :: (w ++ s ++ [93]))
  have hv : value F (m + 3) (d + 1) (91 :: (s ++ 44 :: (w ++ s ++ [93]))) = .ok (listV [v, v]) (91 :: (s ++ 44 :: (w ++ s ++ [93]))).length := by
    simp only [value]
    rw [if_neg (by simp), if_neg (by simp), if_neg (by simp), if_neg (by simp), if_pos (by simp)]
    rw [bnd_ok (f := opn (d + 1)) (a := ()) (j := 1) (by simp [opn]) (bnd_blanks _ _)]
    show Rs.sh 1 (Rs.sh (cnt (s ++ 44 :: (w ++ s ++ [93]))) (if ((s ++ 44 :: (w ++ s ++ [93])).drop (cnt (s ++ 44 :: (w ++ s ++ [93])))).headD 0 = 93 then _ else items F (m + 2) (d + 1 - 1) [] ((s ++ 44 :: (w ++ s ++ [93])).drop (cnt (s ++ 44 :: (w ++ s ++ [93])))))) = _
    rw [c3, c4, if_neg (by rw [hh.1]; exact hh.2.1), Nat.add_sub_cancel, hM]
    have hc := cnt_le s
    simp only [Rs.sh, List.nil_append, List.cons_append, Rs.ok.injEq, true_and, List.length_append, List.length_cons, List.length_nil, List.length_drop]
    omega
  apply Exists.intro
  rw [rd_front F _ _ hw]
  unfold rd
  rw [bnd_blanks, show cnt (91 :: (s ++ 44 :: (w ++ s ++ [93]))) = 0 from rfl, List.drop_zero, bnd_ok hv (r := .ok (listV [v, v]) 0) (by
    rw [List.drop_length]
    rfl)]
  rfl
/-- a member of an object -/
theorem rd_obj {n m d : Nat} {s w : List Nat} {v : V} {j : Nat} (h : value F n d (s.drop (cnt s)) = .ok v j) (hb : bls ((s.drop (cnt s)).drop j)) (hw : bls w) (hm : n + 4 ≤ m) : ∃ k, rd F m (d + 1) (123 :: 34 :: 107 :: 34 :: (w ++ 58 :: (s ++ [125]))) = .ok (objV [(bt [107], v)]) k := by
  obtain ⟨m, rfl⟩ : ∃ q, m = q + 4 := ⟨m - 4, by omega⟩
  have h1 := value_up (F := F) (d := d) (show n ≤ m + 2 by omega) _ _ _ h
  have hp := val_pos hF h1
  have h5 := val_app hF h1 (sep_cons 125 [] (.inr (.inr rfl)))
  obtain ⟨c3, c4⟩ := cnt_val hF h [125]
  have ht : text (m + 2) (34 :: 107 :: 34 :: (w ++ 58 :: (s ++ [125]))) = .ok [107] 3 := by
    unfold text
    rw [bnd_ok (f := want 34) (a := ()) (j := 1) (by simp [want, sat]) (r := .ok [107] 2) (by
      show pieces (m + 1 + 1) [] (107 :: 34 :: (w ++ 58 :: (s ++ [125]))) = _
      have hg : group (107 :: 34 :: (w ++ 58 :: (s ++ [125]))) = .ok [107] 1 := by simp [group, jp.bnd, sat, cls, conts, jp.ret, Rs.sh]
      simp only [pieces]
      rw [if_neg (by simp), if_neg (by simp), if_neg (by simp), bnd_ok hg (r := .ok [107] 1) (by
        show (if _ then _ else _) = _
        rw [if_neg (by simp), if_pos (by simp)]
        rfl)]
      rfl)]
    rfl
  have hmore : more 125 ((s.drop (cnt s) ++ [125]).drop j) = .ok false ((s.drop (cnt s)).drop j ++ [125]).length := by
    rw [List.drop_append_of_le_length hp.2]
    unfold more
    rw [bnd_blanks, cnt_stop hb (by decide), List.drop_left]
    show Rs.sh _ (if _ then _ else _) = _
    rw [if_pos (by simp)]
    simp [jp.bnd, one, sat, jp.ret, Rs.sh]
  have hM : members F (m + 3) d [] (34 :: 107 :: 34 :: (w ++ 58 :: (s ++ [125]))) = .ok (objV [(bt [107], v)]) (34 :: 107 :: 34 :: (w ++ 58 :: (s ++ [125]))).length := by
    simp only [members]
    rw [chk_ok ht (by simp [twice])]
    show Rs.sh 3 (jp.bnd blanks _ (w ++ 58 :: (s ++ [125]))) = _
    rw [bnd_blanks, cnt_stop hw (by decide), List.drop_left, bnd_ok (f := want 58) (a := ()) (j := 1) (by simp [want, sat]) (bnd_blanks _ _)]
    show Rs.sh 3 (Rs.sh w.length (Rs.sh 1 (Rs.sh (cnt (s ++ [125])) (jp.bnd (value F (m + 2) d) _ ((s ++ [125]).drop (cnt (s ++ [125]))))))) = _
    rw [c3, c4, bnd_ok h5 (bnd_ok hmore rfl)]
    rw [if_neg (by decide)]
    have hc := cnt_le s
    have e1 : ((s.drop (cnt s)).drop j ++ [125]).length = s.length - cnt s - j + 1 := by rw [List.length_append, List.length_drop, List.length_drop]; rfl
    have e2 : (34 :: 107 :: 34 :: (w ++ 58 :: (s ++ [125]))).length = w.length + s.length + 5 := by simp only [List.length_cons, List.length_append, List.length_nil]; omega
    have e3 : (s.drop (cnt s)).length = s.length - cnt s := List.length_drop ..
    rw [e1, e2]
    simp only [jp.ret, Rs.sh, List.nil_append, Rs.ok.injEq, true_and]
    omega
  have hv : value F (m + 4) (d + 1) (123 :: 34 :: 107 :: 34 :: (w ++ 58 :: (s ++ [125]))) = .ok (objV [(bt [107], v)]) (123 :: 34 :: 107 :: 34 :: (w ++ 58 :: (s ++ [125]))).length := by
    simp only [value]
    rw [if_neg (by simp), if_neg (by simp), if_neg (by simp), if_neg (by simp), if_neg (by simp), if_pos (by simp)]
    rw [bnd_ok (f := opn (d + 1)) (a := ()) (j := 1) (by simp [opn]) (bnd_blanks _ _)]
    show Rs.sh 1 (Rs.sh 0 (if (34 : Nat) = 125 then _ else members F (m + 3) (d + 1 - 1) [] (34 :: 107 :: 34 :: (w ++ 58 :: (s ++ [125]))))) = _
    rw [if_neg (by decide), Nat.add_sub_cancel, hM]
    simp only [Rs.sh, Rs.ok.injEq, true_and, List.length_cons]
    omega
  apply Exists.intro
  unfold rd
  rw [bnd_blanks, show cnt (123 :: 34 :: 107 :: 34 :: (w ++ 58 :: (s ++ [125]))) = 0 from rfl, List.drop_zero, bnd_ok hv (r := .ok (objV [(bt [107], v)]) 0) (by
    rw [List.drop_length]
    rfl)]
  rfl
/-- too deep for a list, for a member -/
theorem val_deep {n d : Nat} {l t : List Nat} (h : deepAt l (value F n d l)) : ∃ j, value F n d (l ++ t) = .er j 71 := by
  obtain ⟨j, e, hj, _⟩ := h
  exact ⟨j, ((Loc.all hF n).1 d).era _ _ _ e (.inr rfl) hj _ (List.take_append_of_le_length (by omega))⟩
theorem val_less (hK : ∀ l, (F l).1 ≠ 5 ∧ (F l).1 ≠ 6) {n m e d : Nat} {l : List Nat} {v : V} {j : Nat} (h : value F n e l = .ok v j) (hm : n ≤ m) : (dpt v ≤ d → value F m d l = .ok v j) ∧ (d < dpt v → ∀ t, ∃ k, value F m d (l ++ t) = .er k 71) := by
  obtain ⟨q, hq, _, h2⟩ := (dp_all F hK m).1 l e v j (value_up hm _ _ _ h)
  obtain rfl : dpt v = q := hq
  exact ⟨(h2 d).1, fun hd t => val_deep hF ((h2 d).2 hd)⟩
theorem rd_list_deep (hK : ∀ l, (F l).1 ≠ 5 ∧ (F l).1 ≠ 6) {n m e d : Nat} {s w t : List Nat} {v : V} {j : Nat} (h : value F n e (s.drop (cnt s)) = .ok v j) (hd : d < dpt v) (hw : bls w) (hm : n + 2 ≤ m) : ∃ k, rd F m (d + 1) (w ++ 91 :: (s ++ t)) = .er k 71 := by
  obtain ⟨m, rfl⟩ : ∃ q, m = q + 2 := ⟨m - 2, by omega⟩
  obtain ⟨k, hk⟩ := (val_less hF hK (d := d) h (show n ≤ m by omega)).2 hd t
  obtain ⟨c3, c4⟩ := cnt_val hF h t
  have hh := head_val hF h t
  have hi : items F (m + 1) d [] (s.drop (cnt s) ++ t) = .er k 71 := by
    rw [items_succ, bnd_er' hk]
  have hv : value F (m + 2) (d + 1) (91 :: (s ++ t)) = .er (1 + (cnt s + k)) 71 := by
    simp only [value]
    rw [if_neg (by simp), if_neg (by simp), if_neg (by simp), if_neg (by simp), if_pos (by simp)]
    rw [bnd_ok (f := opn (d + 1)) (a := ()) (j := 1) (by simp [opn]) (bnd_blanks _ _)]
    show Rs.sh 1 (Rs.sh (cnt (s ++ t)) (if ((s ++ t).drop (cnt (s ++ t))).headD 0 = 93 then _ else items F (m + 1) (d + 1 - 1) [] ((s ++ t).drop (cnt (s ++ t))))) = _
    rw [c3, c4, if_neg (by rw [hh.1]; exact hh.2.1), Nat.add_sub_cancel, hi]
    rfl
  apply Exists.intro
  rw [rd_front F _ _ hw]
  unfold rd
  rw [bnd_blanks, show cnt (91 :: (s ++ t)) = 0 from rfl, List.drop_zero, bnd_er' hv]
  rfl
theorem rd_obj_deep (hK : ∀ l, (F l).1 ≠ 5 ∧ (F l).1 ≠ 6) {n m e d : Nat} {s w t : List Nat} {v : V} {j : Nat} (h : value F n e (s.drop (cnt s)) = .ok v j) (hd : d < dpt v) (hw : bls w) (hm : n + 4 ≤ m) : ∃ k, rd F m (d + 1) (123 :: 34 :: 107 :: 34 :: (w ++ 58 :: (s ++ t))) = .er k 71 := by
  obtain ⟨m, rfl⟩ : ∃ q, m = q + 4 := ⟨m - 4, by omega⟩
  obtain ⟨k, hk⟩ := (val_less hF hK (d := d) h (show n ≤ m + 2 by omega)).2 hd t
  obtain ⟨c3, c4⟩ := cnt_val hF h t
  have ht : text (m + 2) (34 :: 107 :: 34 :: (w ++ 58 :: (s ++ t))) = .ok [107] 3 := by
    unfold text
    rw [bnd_ok (f := want 34) (a := ()) (j := 1) (by simp [want, sat]) (r := .ok [107] 2) (by
      show pieces (m + 1 + 1) [] (107 :: 34 :: (w ++ 58 :: (s ++ t))) = _
      have hg : group (107 :: 34 :: (w ++ 58 :: (s ++ t))) = .ok [107] 1 := by simp [group, jp.bnd, sat, cls, conts, jp.ret, Rs.sh]
      simp only [pieces]
      rw [if_neg (by simp), if_neg (by simp), if_neg (by simp), bnd_ok hg (r := .ok [107] 1) (by
        show (if _ then _ else _) = _
        rw [if_neg (by simp), if_pos (by simp)]
        rfl)]
      rfl)]
    rfl
  have hM : ∃ q, members F (m + 3) d [] (34 :: 107 :: 34 :: (w ++ 58 :: (s ++ t))) = .er q 71 := by
    apply Exists.intro
    simp only [members]
    rw [chk_ok ht (by simp [twice])]
    show Rs.sh 3 (jp.bnd blanks _ (w ++ 58 :: (s ++ t))) = _
    rw [bnd_blanks, cnt_stop hw (by decide), List.drop_left, bnd_ok (f := want 58) (a := ()) (j := 1) (by simp [want, sat]) (bnd_blanks _ _)]
    show Rs.sh 3 (Rs.sh w.length (Rs.sh 1 (Rs.sh (cnt (s ++ t)) (jp.bnd (value F (m + 2) d) _ ((s ++ t).drop (cnt (s ++ t))))))) = _
    rw [c3, c4, bnd_er' hk]
    rfl
  obtain ⟨q, hM⟩ := hM
  have hv : value F (m + 4) (d + 1) (123 :: 34 :: 107 :: 34 :: (w ++ 58 :: (s ++ t))) = .er (1 + (0 + q)) 71 := by
    simp only [value]
    rw [if_neg (by simp), if_neg (by simp), if_neg (by simp), if_neg (by simp), if_neg (by simp), if_pos (by simp)]
    rw [bnd_ok (f := opn (d + 1)) (a := ()) (j := 1) (by simp [opn]) (bnd_blanks _ _)]
    show Rs.sh 1 (Rs.sh 0 (if (34 : Nat) = 125 then _ else members F (m + 3) (d + 1 - 1) [] (34 :: 107 :: 34 :: (w ++ 58 :: (s ++ t))))) = _
    rw [if_neg (by decide), Nat.add_sub_cancel, hM]
    rfl
  apply Exists.intro
  unfold rd
  rw [bnd_blanks, show cnt (123 :: 34 :: 107 :: 34 :: (w ++ 58 :: (s ++ t))) = 0 from rfl, List.drop_zero, bnd_er' hv]
  rfl
end
end Go.Proofs.YtjhhdnnblcbdbaaGreatDoor.jp
end
section
namespace Go.Proofs.YtjhhdnnblcbdbaaGreatDoor.jw
open Go.RowKit mem val jp big pg
set_option maxRecDepth 100000 in
set_option maxHeartbeats 800000 in
theorem same_self (n : Bool) (a : Nat) (h : a < 9223372036854775808) (w : World) :
    Calls Tryz.prog 18 #[.float .f64 (a + sgn n), .float .f64 (a + sgn n)] w fun e w' => e = .returned (.bool true) ∧ w = w' := by
  have hbits := run_f64bits
  have hn := isNaN_any n a w h
  have HN := Lib.hid hn
  clear hn h
  generalize a + sgn n = b at *
  generalize decide (9218868437227405312 < a) = d at *
  cases d
  · go_enter Tryz.func18, Tryz.ntmps18
    go_wp2_with fail
    refine HN.out.mono ?_
    rintro e w' ⟨rfl, rfl⟩
    go_wp2_with fail
    refine HN.out.mono ?_
    rintro e w' ⟨rfl, rfl⟩
    go_wp2_with fail
    go_ret
    exact ⟨by simp, rfl⟩
  · go_enter Tryz.func18, Tryz.ntmps18
    go_wp2_with fail
    refine HN.out.mono ?_
    rintro e w' ⟨rfl, rfl⟩
    go_wp2_with fail
    refine HN.out.mono ?_
    rintro e w' ⟨rfl, rfl⟩
    go_wp2_with fail
    refine HN.out.mono ?_
    rintro e w' ⟨rfl, rfl⟩
    go_wp2_with fail
    go_ret
    exact ⟨rfl, rfl⟩
/-- number.Same of one float with itself -/
def SameOk : Prop := ∀ f : Nat, f < 18446744073709551616 → ∀ w : World, Calls Tryz.prog 18 #[.float .f64 f, .float .f64 f] w fun e w' => e = .returned (.bool true) ∧ w = w'
theorem same_bits (f : Nat) (h : f < 18446744073709551616) (w : World) : Calls Tryz.prog 18 #[.float .f64 f, .float .f64 f] w fun e w' => e = .returned (.bool true) ∧ w = w' := by
  by_cases hh : f < 9223372036854775808
  · have := same_self false f hh w
    simpa [sgn] using this
  · have e : f = (f - 9223372036854775808) + sgn true := by simp [sgn]; omega
    rw [e]
    exact same_self true _ (by omega) w
end Go.Proofs.YtjhhdnnblcbdbaaGreatDoor.jw
end
section
namespace Go.Proofs.YtjhhdnnblcbdbaaGreatDoor.val
open Go.RowKit mem
/-- what a round leaves of the memory below n and of what lay from B on -/
def Keep (n B : Nat) (W W' : World) : Prop := Below n W W' ∧ ∀ k, B ≤ k → k < W.heap.size → W'.heap[k]? = W.heap[k]?
theorem Keep.refl (n B : Nat) (W : World) : Keep n B W W := ⟨Below.refl _ _, fun _ _ _ => rfl⟩
theorem Keep.trans {n B : Nat} {W W' W'' : World} (h : Keep n B W W') (k : Keep n B W' W'') : Keep n B W W'' := ⟨h.1.trans k.1, fun j h1 h2 => (k.2 j h1 (Nat.lt_of_lt_of_le h2 h.1.size)).trans (h.2 j h1 h2)⟩
theorem Keep.of_below {n B : Nat} {W W' : World} (h : Below W.heap.size W W') (hn : n ≤ W.heap.size) : Keep n B W W' := ⟨h.mono hn, fun j _ h2 => h.block j h2⟩
theorem Keep.from {n B B' : Nat} {W W' : World} (h : Keep n B W W') (hB : B ≤ B') : Keep n B' W W' := ⟨h.1, fun j h1 h2 => h.2 j (by omega) h2⟩
section
variable {P : Program}
/-- how the body of a round may be left -/
def postB (n B : Nat) (I : Nat → World → Prop) (Ix : Code → World → Prop) (q : Nat) (W : World) : Exit → Act → World → Prop
  | .normal, _, W' => Keep n B W W' ∧ I q W'
  | .ret, _, W' => Keep n B W W' ∧ Ix .ret W'
  | .exit id, _, W' => Keep n B W W' ∧ Ix (.exit id) W'
  | .goto t, _, W' => Keep n B W W' ∧ Ix (.goto t) W'
  | _, _, _ => False
end
end Go.Proofs.YtjhhdnnblcbdbaaGreatDoor.val
end
section
namespace Go.Proofs.YtjhhdnnblcbdbaaGreatDoor.val
open Go.RowKit mem
/-- every block of cells stands -/
structure Ext (W W' : World) : Prop where
  os : W'.os = W.os
  tape : W'.tape = W.tape
  output : W'.output = W.output
  size : W.heap.size ≤ W'.heap.size
  cells : ∀ (k : Nat) (cs : Array Value) (t : TypeId) (z : Nat × Nat), W.heap[k]? = some (.cells cs t z) → W'.heap[k]? = some (.cells cs t z)
theorem Ext.of_below {W W' : World} (h : Below W.heap.size W W') : Ext W W' := ⟨h.os, h.tape, h.output, h.size, fun k cs t z hk => (h.block k (blk_lt hk)).trans hk⟩
theorem Ext.put {W : World} {l : Nat} {o : Obj} (h : W.heap[l]? = some o) (ho : ∀ cs t z, o ≠ .cells cs t z) (o' : Obj) : Ext W (W.putObj l o') :=
  ⟨rfl, rfl, rfl, by simp [World.putObj], fun k cs t z hk => (World.putObj_heap_other (by intro e; subst e; rw [h] at hk; injection hk with hk; exact ho _ _ _ hk)).trans hk⟩
theorem Ext.trans {W W' W'' : World} (h : Ext W W') (k : Ext W' W'') : Ext W W'' := ⟨k.os.trans h.os, k.tape.trans h.tape, k.output.trans h.output, Nat.le_trans h.size k.size, fun j cs t z hj => k.cells j cs t z (h.cells j cs t z hj)⟩
section
variable {P : Program}
/-- THE CONTRACT OF AN ITERATOR: N rounds; what it hands to round q of them ('encs'); it turns nothing that lay before it yields, but by laying new blocks. -/
def SeqC (P : Program) (f : Nat) (lb : Array Value) (N : Nat) (encs : Nat → Nat → World → Array Value → Prop) (n : Nat) (Pre : World → Prop) : Prop :=
  ∀ (l : Nat) (W0 : World) (J : Nat → World → Prop) (Jx : World → Prop), Pre W0 → n ≤ W0.heap.size →
    (∀ q W W', J q W → Below W.heap.size W W' → J q W') → (∀ W W', Jx W → Below W.heap.size W W' → Jx W') →
    (∀ (m q : Nat) (W1 : World) (args : Array Value), q < N → J q W1 → encs W0.heap.size q W1 args → W0.heap.size ≤ W1.heap.size → Below n W0 W1 → YieldAt Fence.wide m P l args W1 fun e W' =>
      Keep n W0.heap.size W1 W' ∧ ((e = .returned (.bool true) ∧ J (q + 1) W') ∨ (e = .returned (.bool false) ∧ Jx W'))) →
    J 0 W0 → ∀ m, CallsIn Fence.wide m P f (#[.func (.yield l) #[] #[]] ++ lb) W0 fun e W' => (∃ v, e = .returned v) ∧ (J N W' ∨ Jx W')
/-- THE RANGE, outside every round. -/
theorem range_C {g : Operand} {ps : Array Tmp} {assign body : Code} {Q : Exit → Act → World → Prop} {a : Act} {w : World} {n m : Nat} {gf : Nat} {lb : Array Value} (hg : a.eval g = .func (.func gf) #[] lb) (eg : Enters P gf)
    {N : Nat} {encs : Nat → Nat → World → Array Value → Prop} {Pre : World → Prop} (hseq : SeqC P gf lb N encs n Pre) (hn0 : n ≤ w.heap.size) (hpre : ∀ W1, Below w.heap.size w W1 → Pre W1) (hps : ∀ B q W args, encs B q W args → args.size = ps.size)
    (I : Nat → World → Prop) (Ix : Code → World → Prop) (hI : ∀ q W W', I q W → Below w.heap.size W W' → Ext W W' → I q W') (hIx : ∀ c W W', Ix c W → Below w.heap.size W W' → Ext W W' → Ix c W') (h0 : I 0 w)
    (hround : ∀ (l k q B : Nat) (W : World) (args : Array Value), w.heap.size ≤ l → l < B → B ≤ W.heap.size → q < N → I q W → encs B q W args → Below n w W →
      assign.wpIn (Fence.wide.inRound l) k P (Exit.then (fun a' W' => Keep n w.heap.size W W' ∧ I q W' ∧ ∀ W2, W2.heap.size = W'.heap.size → (∀ j, j ≠ l → W2.heap[j]? = W'.heap[j]?) → Below w.heap.size W' W2 → (∃ r, W2.heap[l]? = some (.loop r)) → I q W2 →
        body.wpIn (Fence.wide.inRound l) k P (postB n w.heap.size I Ix (q + 1) W2) a' W2) (fun _ _ _ => False)) { tmps := (ps.zip args).foldl (fun t (p, v) => t.setIfInBounds p v) a.tmps, defers := [] } W)
    (hdone : ∀ (D : Nat) (W : World), w.heap.size ≤ D → I N W → W.heap[D]? = some (.deferred (some [])) → Q .normal { a with defers := { target := .collected D, args := #[] } :: a.defers } W)
    (hstop : ∀ (D : Nat) (c : Code) (W : World), w.heap.size ≤ D → Ix c W → W.heap[D]? = some (.deferred (some [])) → c.wpIn Fence.wide m P Q { a with defers := { target := .collected D, args := #[] } :: a.defers } W) :
    (Code.rangeFunc g ps assign body).wpIn Fence.wide m P Q a w := by
  refine wpIn_rangeFunc fun fn hfn => ?_
  obtain ⟨rec, hrec⟩ : ∃ rec : LoopState → Option Code → Loop, rec = fun st pe => { state := st, pending := pe, fn, tmps := a.tmps, params := ps, assign, body, defers := w.heap.size } := ⟨_, rfl⟩
  have hK1 : ((w.alloc (.deferred (some []))).alloc (.loop (rec .ready none))).heap[w.heap.size]? = some (.deferred (some [])) := (Below.heap_alloc _ _ _ (by simp)).trans (World.alloc_heap_new w _)
  have hL1 : ((w.alloc (.deferred (some []))).alloc (.loop (rec .ready none))).heap[w.heap.size + 1]? = some (.loop (rec .ready none)) := by simpa using World.alloc_heap_new (w.alloc (.deferred (some []))) (.loop (rec .ready none))
  have hb1 : Below w.heap.size w ((w.alloc (.deferred (some []))).alloc (.loop (rec .ready none))) := ((Below.refl _ w).alloc (Nat.le_refl _) _).alloc (by simp) _
  have hs1 : w.heap.size + 2 ≤ ((w.alloc (.deferred (some []))).alloc (.loop (rec .ready none))).heap.size := by simp
  have hE : (Instr.enterLoop fn a.tmps ps assign body none).run P w = .ok (w.heap.size + 1, [{ target := .collected w.heap.size, args := #[] }]) ((w.alloc (.deferred (some []))).alloc (.loop (rec .ready none))) := by rw [hrec]; exact run_enterLoop_outer _ _ _ _ _
  generalize ((w.alloc (.deferred (some []))).alloc (.loop (rec .ready none))) = W1 at *
  refine ⟨w.heap.size + 1, _, W1, { target := .fn (.func gf) lb, args := #[.func (.yield (w.heap.size + 1)) #[] #[]] }, W1, gf, #[.func (.yield (w.heap.size + 1)) #[] #[]] ++ lb, W1, hE, ?_, ?_, ?_, (fun h => by cases h), ?_⟩
  · simp only [resolve, hg]
    simp [go_sem]
  · intro f' _
    trivial
  · have eg' : ∀ (args : Array Value) (w : World), (callFunc gf args).run P w = .ok (.enter gf args) w := eg
    simp [invoke, go_sem, eg']
  · refine (hseq (w.heap.size + 1) W1
      (fun q W => I q W ∧ W.heap[w.heap.size + 1]? = some (.loop (rec .ready none)) ∧ W.heap[w.heap.size]? = some (.deferred (some [])))
      (fun W => ∃ c, Ix c W ∧ W.heap[w.heap.size + 1]? = some (.loop (rec .done (some c))) ∧ W.heap[w.heap.size]? = some (.deferred (some [])))
      (hpre W1 hb1) (by omega)
      (fun q W W' h hb => ⟨hI q W W' h.1 (hb.mono (Nat.le_of_lt (blk_lt h.2.2))) (Ext.of_below hb), blk_below h.2.1 hb (blk_lt h.2.1), blk_below h.2.2 hb (blk_lt h.2.2)⟩)
      (fun W W' h hb => by
        obtain ⟨c, h1, h2, h3⟩ := h
        exact ⟨c, hIx c W W' h1 (hb.mono (Nat.le_of_lt (blk_lt h3))) (Ext.of_below hb), blk_below h2 hb (blk_lt h2), blk_below h3 hb (blk_lt h3)⟩)
      ?_ ⟨hI 0 w W1 h0 hb1 (Ext.of_below hb1), hL1, hK1⟩ _).mono ?_
    · rintro k q W args hq ⟨hi, hl, hk⟩ henc hsz hbw'
      have hbw : Below n w W := (hb1.mono hn0).trans hbw'
      have hlt : w.heap.size + 1 < W.heap.size := (Array.getElem?_eq_some_iff.1 hl).1
      have hy := run_yield (P := P) (args := args) hl (by rw [hrec]; exact hps _ q W args henc)
      rw [hrec] at hy
      refine ⟨fn, _, assign, body, hy, roundIn_of_wpIn hfn (wpIn_mono (hround (w.heap.size + 1) k q W1.heap.size W args (by omega) (by omega) hsz hq hi henc hbw) ?_)⟩
      clear hy
      rintro e a' Wa hp
      cases e with
      | normal =>
        obtain ⟨hka, hia, hbody⟩ := hp
        have hla := (hka.2 (w.heap.size + 1) (by omega) hlt).trans hl
        have hkda := (hka.2 w.heap.size (Nat.le_refl _) (by omega)).trans hk
        have hsa := hka.1.size
        refine ⟨_, run_beginRound hla (by rw [hrec]), ?_⟩
        have hl2 : (Wa.putObj (w.heap.size + 1) (.loop { rec .ready none with state := .busy })).heap[w.heap.size + 1]? = some (.loop { rec .ready none with state := .busy }) := World.putObj_heap_same (by omega)
        have hb2 : Below w.heap.size Wa (Wa.putObj (w.heap.size + 1) (.loop { rec .ready none with state := .busy })) := belowK_b (w := w) (Nat.le_refl _) Wa (w.heap.size + 1) _ _ (by omega) hla rfl rfl
        have hx2 : Ext Wa (Wa.putObj (w.heap.size + 1) (.loop { rec .ready none with state := .busy })) := Ext.put hla (fun _ _ _ e => by cases e) _
        have ho2 : ∀ j, j ≠ w.heap.size + 1 → (Wa.putObj (w.heap.size + 1) (.loop { rec .ready none with state := .busy })).heap[j]? = Wa.heap[j]? := fun j hj => World.putObj_heap_other (by omega)
        have hz2 : (Wa.putObj (w.heap.size + 1) (.loop { rec .ready none with state := .busy })).heap.size = Wa.heap.size := by simp [World.putObj]
        generalize (Wa.putObj (w.heap.size + 1) (.loop { rec .ready none with state := .busy })) = W2 at *
        refine wpIn_mono (hbody W2 hz2 ho2 hb2 ⟨_, hl2⟩ (hI _ _ _ hia hb2 hx2)) ?_
        have hkd2 := (ho2 w.heap.size (by omega)).trans hkda
        have hkW : Keep n W1.heap.size W W2 := (hka.from (by omega)).trans ⟨hb2.mono hn0, fun j h1 _ => ho2 j (by omega)⟩
        have fin : ∀ (jump : Option Code) (W3 : World), Keep n w.heap.size W2 W3 →
            ∃ W4, (Instr.endRound (w.heap.size + 1) jump).run P W3 = .ok (.bool jump.isNone) W4 ∧ W4.heap[w.heap.size + 1]? = some (.loop (rec (if jump.isNone then .ready else .done) jump)) ∧ W4.heap[w.heap.size]? = some (.deferred (some [])) ∧ (Below w.heap.size W3 W4 ∧ Ext W3 W4) ∧ Keep n W1.heap.size W W4 := fun jump W3 hk3 => by
          have hs3 := hk3.1.size
          have hl3 := (hk3.2 (w.heap.size + 1) (by omega) (by omega)).trans hl2
          have hkd3 := (hk3.2 w.heap.size (Nat.le_refl _) (by omega)).trans hkd2
          have hrun := run_endRound (P := P) jump hl3
          rw [hrec] at hrun ⊢
          have hb3 : Below w.heap.size W3 (W3.putObj (w.heap.size + 1) (.loop { state := if jump.isNone then .ready else .done, pending := jump, fn, tmps := a.tmps, params := ps, assign, body, defers := w.heap.size })) := belowK_b (w := w) (Nat.le_refl _) W3 (w.heap.size + 1) _ _ (by omega) hl3 rfl rfl
          exact ⟨_, hrun, World.putObj_heap_same (by omega), (World.putObj_heap_other (by omega)).trans hkd3, ⟨hb3, Ext.put hl3 (fun _ _ _ e => by cases e) _⟩, (hkW.trans (hk3.from (by omega))).trans ⟨hb3.mono hn0, fun j h1 _ => World.putObj_heap_other (by omega)⟩⟩
        rintro e a3 W3 hp3
        cases e with
        | normal =>
          obtain ⟨hk3, hi3⟩ := hp3
          obtain ⟨W4, hr, hl4, hk4, hb4, hK4⟩ := fin none W3 hk3
          exact ⟨_, _, hr, hK4, .inl ⟨rfl, hI _ _ _ hi3 hb4.1 hb4.2, hl4, hk4⟩⟩
        | ret =>
          obtain ⟨hk3, hi3⟩ := hp3
          obtain ⟨W4, hr, hl4, hk4, hb4, hK4⟩ := fin (some .ret) W3 hk3
          exact ⟨_, _, hr, hK4, .inr ⟨rfl, .ret, hIx _ _ _ hi3 hb4.1 hb4.2, hl4, hk4⟩⟩
        | exit id =>
          obtain ⟨hk3, hi3⟩ := hp3
          obtain ⟨W4, hr, hl4, hk4, hb4, hK4⟩ := fin (some (.exit id)) W3 hk3
          exact ⟨_, _, hr, hK4, .inr ⟨rfl, .exit id, hIx _ _ _ hi3 hb4.1 hb4.2, hl4, hk4⟩⟩
        | goto t =>
          obtain ⟨hk3, hi3⟩ := hp3
          obtain ⟨W4, hr, hl4, hk4, hb4, hK4⟩ := fin (some (.goto t)) W3 hk3
          exact ⟨_, _, hr, hK4, .inr ⟨rfl, .goto t, hIx _ _ _ hi3 hb4.1 hb4.2, hl4, hk4⟩⟩
        | panic ch => exact hp3.elim
        | outgrown => exact hp3.elim
      | _ => exact hp.elim
    · rintro e W2 ⟨⟨v, rfl⟩, (⟨hi, hl, hk⟩ | ⟨c, hi, hl, hk⟩)⟩
      · have hend := run_endLoop (P := P) hl (by rw [hrec]; simp)
        have hp : (rec .ready none).pending = none := by rw [hrec]
        rw [hp] at hend
        have hlt := (Array.getElem?_eq_some_iff.1 hl).1
        exact ⟨none, _, hend, hdone w.heap.size _ (Nat.le_refl _) (hI _ _ _ hi (belowK_b (w := w) (Nat.le_refl _) W2 (w.heap.size + 1) _ _ (by omega) hl rfl rfl) (Ext.put hl (fun _ _ _ e => by cases e) _)) ((World.putObj_heap_other (by omega)).trans hk)⟩
      · have hend := run_endLoop (P := P) hl (by rw [hrec]; simp)
        have hp : (rec .done (some c)).pending = some c := by rw [hrec]
        rw [hp] at hend
        exact ⟨some c, _, hend, hstop w.heap.size c _ (Nat.le_refl _) (hIx _ _ _ hi (belowK_b (w := w) (Nat.le_refl _) W2 (w.heap.size + 1) _ _ (by omega) hl rfl rfl) (Ext.put hl (fun _ _ _ e => by cases e) _)) ((World.putObj_heap_other (by omega)).trans hk)⟩
end
end Go.Proofs.YtjhhdnnblcbdbaaGreatDoor.val
end
section
namespace Go.Proofs.YtjhhdnnblcbdbaaGreatDoor.val
open Go.RowKit mem
attribute [local go_sem] run_store_float Oper.semAt_some
/-- what is handed to round q: some step, the child -/
def encK (S : Nat → Prop) (kids : List V) (q : Nat) (W : World) (args : Array Value) : Prop := ∃ (s : ByteArray) (j : Int) (bo : Bool) (x : V) (cs : List Value), kids[q]? = some x ∧ args = #[.agg #[.string s, .int .i64 j, .bool bo], .agg cs.toArray] ∧ IsV W S x cs
section
variable (b : Bool) (i : Int) (f : Nat) (t y : ByteArray) (A A' : Option Addr) (n m c c' : Nat) (S : Nat → Prop)
set_option maxRecDepth 100000 in
set_option maxHeartbeats 4000000 in
theorem kidseq_list (is : List V) (w : World) (g nn : Nat) (hl : is.length = n) (hn2 : n ≤ 26000000) (hI : IsVs w S is A 0) (hS : Bel S w.heap.size) (hwn : w.heap.size ≤ nn) (hK : ∀ W : World, Calls Tryz.prog 40 #[.agg #[.int .i64 5, .bool b, .int .i64 i, .float .f64 f, .string t, .string y, .slice A n c, .slice A' m c']] W fun e w' => e = .returned (.int .i64 5) ∧ Below W.heap.size W w') :
    SeqC Tryz.prog 70 #[.pointer (some ⟨g, 0, none⟩)] n (fun _ => encK S is) nn (fun W => W.heap[g]? = some (.cells #[.int .i64 5, .bool b, .int .i64 i, .float .f64 f, .string t, .string y, .slice A n c, .slice A' m c'] 29 (0, 0)) ∧ Below w.heap.size w W) := by
  rintro l W J Jx ⟨hpre, hW⟩ hnW hJ hJx hY h0 m0
  have HK := Lib.hid hK
  have HY := Lib.hid hY
  have HI := Lib.hid hI
  have HS := Lib.hid hS
  have HN := Lib.hid hl
  have HW := Lib.hid hW
  have hsw := hW.size
  clear hK hY hI hS hl hW
  have hgl := blk_lt hpre
  obtain ⟨m0, m1, m2, m3, m4, m5, m6, m7⟩ := blk8 hpre
  refine callsIn_wide.2 ((callsIn_wide (n := 4)).1 ?_)
  show CallsIn Fence.wide 4 Tryz.prog 70 #[.func (.yield l) #[] #[], .pointer (some ⟨g, 0, none⟩)] W _
  refine callsIn_of_wp Tryz.func70 rfl trivial ?_ rfl
  simp only [Tryz.ntmps70, List.size_toArray, List.length_cons, List.length_nil, Nat.reduceAdd, Nat.reduceSub, Array.replicate_succ, Array.replicate_zero, List.push_toArray, List.append_toArray, List.nil_append, List.cons_append]
  gi_wp2_with fail
  refine ⟨trivial, (callsIn_wide.2 (HK.out _)).mono ?_⟩
  rintro e w2 ⟨rfl, hb⟩
  have hJ0 := Lib.hid (hJ 0 W w2 h0 hb)
  have HB2 := Lib.hid hb
  have HG2 := blk_below hpre hb hgl
  have hz2 := hb.size
  clear m0 m1 m2 m3 m4 m5 m6 m7 HK hb h0 hpre
  obtain ⟨m0, m1, m2, m3, m4, m5, m6, m7⟩ := blk8 HG2
  clear HG2
  gi_wp2_with fail
  clear m0 m1 m2 m3 m4 m5 m6 m7
  gi_loopw [14] (fun vi wr => ∃ q : Nat, q ≤ n ∧ vi = .int .i64 (q : Int) ∧ Hid (J q wr) ∧ Hid (Keep nn W.heap.size w2 wr)) (fun i _ => n - (intOf i).toNat)
  case atStart => exact ⟨0, Nat.zero_le _, rfl, hJ0, Lib.hid (Keep.refl _ _ _)⟩
  case round =>
    obtain ⟨q, hq, rfl, HJ, hkp⟩ := hrel
    clear hJ0
    have hszr := hkp.out.1.size
    have HBR : Hid (Below w.heap.size w wr) := Lib.hid ((HW.out.trans (HB2.out.mono hsw)).trans (hkp.out.1.mono hwn))
    by_cases hlt : q < n
    · obtain ⟨x, hx⟩ : ∃ p, is[q]? = some p := ⟨_, List.getElem?_eq_getElem (by rw [HN.out]; exact hlt)⟩
      obtain ⟨ad, cs, rfl, hadB, hcs, hvx⟩ := HI.out.at_ hx
      rw [Nat.zero_add] at hcs
      have hadw : ad.block < w.heap.size := HS.out _ hadB
      have HX := Lib.hid hx
      have HVX := Lib.hid hvx
      obtain ⟨k2, b2, i2, f2, t2, y2, is2, fs2⟩ := x
      simp only [IsV] at hvx
      obtain ⟨A2, c2, A2', c2', rfl, _⟩ := hvx
      obtain ⟨d0, d1, d2, d3, d4, d5, d6, d7⟩ := (hcs.keep (S := fun b => b < w.heap.size) (by rw [add_block]; exact hadw) (fun p hp => HBR.out.cell hp)).eight
      clear hcs hx
      have hq0 : (0 : Int) ≤ (q : Int) := by omega
      have hqn : (q : Int) < (n : Int) := by omega
      have hnr : nn ≤ wr.heap.size := by omega
      have hbx : Below wr.heap.size wr (wr.alloc (.cells #[.int .i64 k2, .bool b2, .int .i64 i2, .float .f64 f2, .string t2, .string y2, .slice A2 is2.length c2, .slice A2' fs2.length c2'] 29)) := (Below.refl _ _).alloc (Nat.le_refl _) _
      have HKX := Lib.hid (hkp.out.trans (Keep.of_below (B := W.heap.size) hbx hnr))
      obtain ⟨fn, tmps, assign, body, hy, hR⟩ := HY.out 3 q (wr.alloc (.cells #[.int .i64 k2, .bool b2, .int .i64 i2, .float .f64 f2, .string t2, .string y2, .slice A2 is2.length c2, .slice A2' fs2.length c2'] 29)) #[.agg #[.string ⟨#[]⟩, .int .i64 (q : Int), .bool true], .agg #[.int .i64 k2, .bool b2, .int .i64 i2, .float .f64 f2, .string t2, .string y2, .slice A2 is2.length c2, .slice A2' fs2.length c2']] hlt (hJ q wr _ HJ.out hbx)
        ⟨⟨#[]⟩, (q : Int), true, .mk k2 b2 i2 f2 t2 y2 is2 fs2, _, HX.out, rfl, HVX.out.below HS.out (HBR.out.trans (hbx.mono (by omega)))⟩ (by have := hbx.size; omega) ((HB2.out.mono hnW).trans HKX.out.1)
      have HR := Lib.hid (RoundIn.mono hR (R' := fun e W' => ∃ bb : Bool, e = .returned (.bool bb) ∧ Keep nn W.heap.size (wr.alloc (.cells #[.int .i64 k2, .bool b2, .int .i64 i2, .float .f64 f2, .string t2, .string y2, .slice A2 is2.length c2, .slice A2' fs2.length c2'] 29)) W' ∧ (bb = true → J (q + 1) W') ∧ (bb = false → Jx W')) (fun e W' h => by
        obtain ⟨hk, (⟨rfl, hJ'⟩ | ⟨rfl, hJx'⟩)⟩ := h
        · exact ⟨true, rfl, hk, (fun _ => hJ'), (fun h => by cases h)⟩
        · exact ⟨false, rfl, hk, (fun h => by cases h), (fun _ => hJx')⟩))
      clear hR hbx
      gi_wp2_with fail
      refine HR.out.mono ?_
      rintro e W' ⟨bb, rfl, hk, hJ1, hJ2⟩
      have HKN := Lib.hid (HKX.out.trans hk)
      have HJ1 := Lib.hid hJ1
      have HJ2 := Lib.hid hJ2
      clear hJ1 hJ2 hk hy HR HKX d0 d1 d2 d3 d4 d5 d6 d7
      cases bb with
      | true =>
        gi_wp2_with fail
        exact ⟨⟨q + 1, by omega, by go_num, Lib.hid (HJ1.out (by trivial)), HKN⟩, by simp [intOf]; omega⟩
      | false =>
        gi_wp2_with fail
        first
          | exact bodyPost_ret (results_none rfl _ _ _) rfl ⟨⟨_, rfl⟩, .inr (HJ2.out (by trivial))⟩
          | exact ⟨⟨_, rfl⟩, .inr (HJ2.out (by trivial))⟩
          | (go_end0; exact ⟨⟨_, rfl⟩, .inr (HJ2.out (by trivial))⟩)
    · obtain rfl : q = n := by omega
      gi_wp2_with fail
      go_end0
      exact ⟨⟨_, rfl⟩, .inl HJ.out⟩
set_option maxRecDepth 100000 in
set_option maxHeartbeats 4000000 in
theorem kidseq_obj (fs : List (ByteArray × V)) (w : World) (g nn : Nat) (hl : fs.length = m) (hn2 : m ≤ 26000000) (hI : IsFs w S fs A' 0) (hS : Bel S w.heap.size) (hwn : w.heap.size ≤ nn) (hK : ∀ W : World, Calls Tryz.prog 40 #[.agg #[.int .i64 6, .bool b, .int .i64 i, .float .f64 f, .string t, .string y, .slice A n c, .slice A' m c']] W fun e w' => e = .returned (.int .i64 6) ∧ Below W.heap.size W w') :
    SeqC Tryz.prog 70 #[.pointer (some ⟨g, 0, none⟩)] m (fun _ => encK S (fs.map (·.2))) nn (fun W => W.heap[g]? = some (.cells #[.int .i64 6, .bool b, .int .i64 i, .float .f64 f, .string t, .string y, .slice A n c, .slice A' m c'] 29 (0, 0)) ∧ Below w.heap.size w W) := by
  rintro l W J Jx ⟨hpre, hW⟩ hnW hJ hJx hY h0 m0
  have HK := Lib.hid hK
  have HY := Lib.hid hY
  have HI := Lib.hid hI
  have HS := Lib.hid hS
  have HN := Lib.hid hl
  have HW := Lib.hid hW
  have hsw := hW.size
  clear hK hY hI hS hl hW
  have hgl := blk_lt hpre
  obtain ⟨m0, m1, m2, m3, m4, m5, m6, m7⟩ := blk8 hpre
  refine callsIn_wide.2 ((callsIn_wide (n := 4)).1 ?_)
  show CallsIn Fence.wide 4 Tryz.prog 70 #[.func (.yield l) #[] #[], .pointer (some ⟨g, 0, none⟩)] W _
  refine callsIn_of_wp Tryz.func70 rfl trivial ?_ rfl
  simp only [Tryz.ntmps70, List.size_toArray, List.length_cons, List.length_nil, Nat.reduceAdd, Nat.reduceSub, Array.replicate_succ, Array.replicate_zero, List.push_toArray, List.append_toArray, List.nil_append, List.cons_append]
  gi_wp2_with fail
  refine ⟨trivial, (callsIn_wide.2 (HK.out _)).mono ?_⟩
  rintro e w2 ⟨rfl, hb⟩
  have hJ0 := Lib.hid (hJ 0 W w2 h0 hb)
  have HB2 := Lib.hid hb
  have HG2 := blk_below hpre hb hgl
  have hz2 := hb.size
  clear m0 m1 m2 m3 m4 m5 m6 m7 HK hb h0 hpre
  obtain ⟨m0, m1, m2, m3, m4, m5, m6, m7⟩ := blk8 HG2
  clear HG2
  gi_wp2_with fail
  clear m0 m1 m2 m3 m4 m5 m6 m7
  gi_loopw [31] (fun vi wr => ∃ q : Nat, q ≤ m ∧ vi = .int .i64 (q : Int) ∧ Hid (J q wr) ∧ Hid (Keep nn W.heap.size w2 wr)) (fun i _ => m - (intOf i).toNat)
  case atStart => exact ⟨0, Nat.zero_le _, rfl, hJ0, Lib.hid (Keep.refl _ _ _)⟩
  case round =>
    obtain ⟨q, hq, rfl, HJ, hkp⟩ := hrel
    clear hJ0
    have hszr := hkp.out.1.size
    have HBR : Hid (Below w.heap.size w wr) := Lib.hid ((HW.out.trans (HB2.out.mono hsw)).trans (hkp.out.1.mono hwn))
    by_cases hlt : q < m
    · obtain ⟨x, hx⟩ : ∃ p, fs[q]? = some p := ⟨_, List.getElem?_eq_getElem (by rw [HN.out]; exact hlt)⟩
      obtain ⟨sn, x⟩ := x
      obtain ⟨ad, cs, rfl, hadB, hcs, hvx⟩ := HI.out.at_ hx
      rw [Nat.zero_add] at hcs
      simp only at hcs hvx
      have hadw : ad.block < w.heap.size := HS.out _ hadB
      have HX : Hid ((fs.map (·.2))[q]? = some x) := Lib.hid (by rw [List.getElem?_map, hx]; rfl)
      have HVX := Lib.hid hvx
      obtain ⟨k2, b2, i2, f2, t2, y2, is2, fs2⟩ := x
      simp only [IsV] at hvx
      obtain ⟨A2, c2, A2', c2', rfl, _⟩ := hvx
      obtain ⟨d0, d1, d2, d3, d4, d5, d6, d7, d8⟩ := (hcs.keep (S := fun b => b < w.heap.size) (by rw [add_block]; exact hadw) (fun p hp => HBR.out.cell hp)).nine
      clear hcs hx
      have hq0 : (0 : Int) ≤ (q : Int) := by omega
      have hqn : (q : Int) < (m : Int) := by omega
      have hnr : nn ≤ wr.heap.size := by omega
      have hbx : Below wr.heap.size wr (wr.alloc (.cells #[.string sn, .int .i64 k2, .bool b2, .int .i64 i2, .float .f64 f2, .string t2, .string y2, .slice A2 is2.length c2, .slice A2' fs2.length c2'] 54)) := (Below.refl _ _).alloc (Nat.le_refl _) _
      have HKX := Lib.hid (hkp.out.trans (Keep.of_below (B := W.heap.size) hbx hnr))
      obtain ⟨fn, tmps, assign, body, hy, hR⟩ := HY.out 3 q (wr.alloc (.cells #[.string sn, .int .i64 k2, .bool b2, .int .i64 i2, .float .f64 f2, .string t2, .string y2, .slice A2 is2.length c2, .slice A2' fs2.length c2'] 54)) #[.agg #[.string sn, .int .i64 0, .bool false], .agg #[.int .i64 k2, .bool b2, .int .i64 i2, .float .f64 f2, .string t2, .string y2, .slice A2 is2.length c2, .slice A2' fs2.length c2']] hlt (hJ q wr _ HJ.out hbx)
        ⟨sn, 0, false, .mk k2 b2 i2 f2 t2 y2 is2 fs2, _, HX.out, rfl, HVX.out.below HS.out (HBR.out.trans (hbx.mono (by omega)))⟩ (by have := hbx.size; omega) ((HB2.out.mono hnW).trans HKX.out.1)
      have HR := Lib.hid (RoundIn.mono hR (R' := fun e W' => ∃ bb : Bool, e = .returned (.bool bb) ∧ Keep nn W.heap.size (wr.alloc (.cells #[.string sn, .int .i64 k2, .bool b2, .int .i64 i2, .float .f64 f2, .string t2, .string y2, .slice A2 is2.length c2, .slice A2' fs2.length c2'] 54)) W' ∧ (bb = true → J (q + 1) W') ∧ (bb = false → Jx W')) (fun e W' h => by
        obtain ⟨hk, (⟨rfl, hJ'⟩ | ⟨rfl, hJx'⟩)⟩ := h
        · exact ⟨true, rfl, hk, (fun _ => hJ'), (fun h => by cases h)⟩
        · exact ⟨false, rfl, hk, (fun h => by cases h), (fun _ => hJx')⟩))
      clear hR hbx
      gi_wp2_with fail
      refine HR.out.mono ?_
      rintro e W' ⟨bb, rfl, hk, hJ1, hJ2⟩
      have HKN := Lib.hid (HKX.out.trans hk)
      have HJ1 := Lib.hid hJ1
      have HJ2 := Lib.hid hJ2
      clear hJ1 hJ2 hk hy HR HKX d0 d1 d2 d3 d4 d5 d6 d7 d8
      cases bb with
      | true =>
        gi_wp2_with fail
        exact ⟨⟨q + 1, by omega, by go_num, Lib.hid (HJ1.out (by trivial)), HKN⟩, by simp [intOf]; omega⟩
      | false =>
        gi_wp2_with fail
        first
          | exact bodyPost_ret (results_none rfl _ _ _) rfl ⟨⟨_, rfl⟩, .inr (HJ2.out (by trivial))⟩
          | exact ⟨⟨_, rfl⟩, .inr (HJ2.out (by trivial))⟩
          | (go_end0; exact ⟨⟨_, rfl⟩, .inr (HJ2.out (by trivial))⟩)
    · obtain rfl : q = m := by omega
      gi_wp2_with fail
      go_end0
      exact ⟨⟨_, rfl⟩, .inl HJ.out⟩
end
end Go.Proofs.YtjhhdnnblcbdbaaGreatDoor.val
end
section
namespace Go.Proofs.YtjhhdnnblcbdbaaGreatDoor.jw
open Go.RowKit mem val jp
attribute [local go_sem] run_store_float
/-- same at one value, read at two places -/
def AlkPost (w : World) (e : Ending) (w' : World) : Prop := e = .returned (.bool true) ∧ Below w.heap.size w w'
set_option maxRecDepth 100000 in
set_option maxHeartbeats 4000000 in
theorem alike_refl (hsame : SameOk) : ∀ (N : Nat) (v : V), sz v ≤ N → N ≤ 26000000 → flk v → ∀ (cs ds : List Value) (w : World) (S S' : Nat → Prop), IsV w S v cs → IsV w S' v ds → Bel S w.heap.size → Bel S' w.heap.size →
    Calls Tryz.prog 15 #[.agg cs.toArray, .agg ds.toArray] w (AlkPost w) := by
  have HSM := Lib.hid hsame
  clear hsame
  intro N
  induction N with
  | zero => intro v hv; have := sz_pos v; omega
  | succ N ih =>
    intro v hv hN hok cs ds w S S' hV hV' hB hB'
    obtain ⟨k, b, i, f, t, y, is, fs⟩ := v
    simp only [IsV] at hV hV'
    obtain ⟨A, c, A', c', rfl, hA, hA', his, hfs⟩ := hV
    obtain ⟨C, d, C', d', rfl, hC, hC', jis, jfs⟩ := hV'
    simp only [sz] at hv
    simp only [flk] at hok
    obtain ⟨hfb, hos, hof⟩ := hok
    have HOS := Lib.hid hos
    have HOF := Lib.hid hof
    clear hos hof
    have hl1 := szs_len is
    have hl2 := szf_len fs
    have IH := Lib.hid ih
    have HB := Lib.hid hB
    have HB' := Lib.hid hB'
    have HI := Lib.hid his
    have HF := Lib.hid hfs
    have HJ := Lib.hid jis
    have HG := Lib.hid jfs
    clear ih hB hB' his hfs jis jfs hA hA' hC hC'
    go_enter Tryz.func15, Tryz.ntmps15
    go_wp2_with (go_at_call 18; refine (HSM.out _ hfb _).mono ?_; rintro e w' ⟨rfl, rfl⟩)
    have g1 : ((w.alloc (.cells #[.int .i64 k, .bool b, .int .i64 i, .float .f64 f, .string t, .string y, .slice A is.length c, .slice A' fs.length c'] 29)).alloc (.cells #[.int .i64 k, .bool b, .int .i64 i, .float .f64 f, .string t, .string y, .slice C is.length d, .slice C' fs.length d'] 29)).heap[w.heap.size]? = some (.cells #[.int .i64 k, .bool b, .int .i64 i, .float .f64 f, .string t, .string y, .slice A is.length c, .slice A' fs.length c'] 29) := blk_alloc (heap_alloc_new _ _) _
    have g2 : ((w.alloc (.cells #[.int .i64 k, .bool b, .int .i64 i, .float .f64 f, .string t, .string y, .slice A is.length c, .slice A' fs.length c'] 29)).alloc (.cells #[.int .i64 k, .bool b, .int .i64 i, .float .f64 f, .string t, .string y, .slice C is.length d, .slice C' fs.length d'] 29)).heap[w.heap.size + 1]? = some (.cells #[.int .i64 k, .bool b, .int .i64 i, .float .f64 f, .string t, .string y, .slice C is.length d, .slice C' fs.length d'] 29) := by
      have := heap_alloc_new (w.alloc (.cells #[.int .i64 k, .bool b, .int .i64 i, .float .f64 f, .string t, .string y, .slice A is.length c, .slice A' fs.length c'] 29)) (.cells #[.int .i64 k, .bool b, .int .i64 i, .float .f64 f, .string t, .string y, .slice C is.length d, .slice C' fs.length d'] 29)
      simpa using this
    have gb : Below w.heap.size w ((w.alloc (.cells #[.int .i64 k, .bool b, .int .i64 i, .float .f64 f, .string t, .string y, .slice A is.length c, .slice A' fs.length c'] 29)).alloc (.cells #[.int .i64 k, .bool b, .int .i64 i, .float .f64 f, .string t, .string y, .slice C is.length d, .slice C' fs.length d'] 29)) := ((Below.refl _ _).alloc (Nat.le_refl _) _).alloc (by simp) _
    have gs : ((w.alloc (.cells #[.int .i64 k, .bool b, .int .i64 i, .float .f64 f, .string t, .string y, .slice A is.length c, .slice A' fs.length c'] 29)).alloc (.cells #[.int .i64 k, .bool b, .int .i64 i, .float .f64 f, .string t, .string y, .slice C is.length d, .slice C' fs.length d'] 29)).heap.size = w.heap.size + 2 := by simp
    generalize ((w.alloc (.cells #[.int .i64 k, .bool b, .int .i64 i, .float .f64 f, .string t, .string y, .slice A is.length c, .slice A' fs.length c'] 29)).alloc (.cells #[.int .i64 k, .bool b, .int .i64 i, .float .f64 f, .string t, .string y, .slice C is.length d, .slice C' fs.length d'] 29)) = w0 at *
    have G1 := Lib.hid g1
    have G2 := Lib.hid g2
    have gs' : w.heap.size + 2 ≤ w0.heap.size := by omega
    clear g1 g2 gs
    go_loopw [5] (fun vi W => ∃ q : Nat, q ≤ is.length ∧ vi = .int .i64 (q : Int) ∧ Below (w.heap.size + 2) w0 W) (fun i _ => is.length - (intOf i).toNat)
    case atStart => exact ⟨0, Nat.zero_le _, rfl, Below.refl _ _⟩
    case round =>
      obtain ⟨q, hq, rfl, hb⟩ := hrel
      have hbw : Below w.heap.size w wr := gb.trans (hb.mono (by omega))
      have hszr := hb.size
      have R1 := Lib.hid (blk_below G1.out hb (by omega))
      have R2 := Lib.hid (blk_below G2.out hb (by omega))
      by_cases hlt : q < is.length
      · have hx : is[q]? = some is[q] := List.getElem?_eq_getElem hlt
        obtain ⟨ad, cs, rfl, hadB, hcs, hvx⟩ := (HI.out.below HB.out hbw).at_ hx
        obtain ⟨ae, ds, rfl, haeB, hds, hvy⟩ := (HJ.out.below HB'.out hbw).at_ hx
        have hszx := szs_get hx
        have hoky := flks_get HOS.out hx
        generalize is[q] = x at *
        have hvx2 := Lib.hid hvx
        have hvy2 := Lib.hid hvy
        obtain ⟨k2, b2, i2, f2, t2, y2, is2, fs2⟩ := x
        simp only [IsV] at hvx hvy
        obtain ⟨A2, c2, A2', c2', rfl, _⟩ := hvx
        obtain ⟨C2, e2, C2', e2', rfl, _⟩ := hvy
        obtain ⟨d0, d1, d2, d3, d4, d5, d6, d7⟩ := hcs.eight
        obtain ⟨n0, n1, n2, n3, n4, n5, n6, n7⟩ := hds.eight
        rw [Nat.zero_add] at d0 d1 d2 d3 d4 d5 d6 d7 n0 n1 n2 n3 n4 n5 n6 n7
        have HC := Lib.hid (fun (W : World) (hW : Below w.heap.size wr W) (hWB : w.heap.size ≤ W.heap.size) => IH.out _ (by omega) (by omega) hoky _ _ W S S' (hvx2.out.below HB.out hW) (hvy2.out.below HB'.out hW) (HB.out.mono hWB) (HB'.out.mono hWB))
        clear hcs hds hx hvx2 hvy2 IH
        have a6 := (blk8 R1.out).2.2.2.2.2.2.1
        have b6 := (blk8 R2.out).2.2.2.2.2.2.1
        have hlq : (q : Int) < (is.length : Int) := by omega
        have h0q : (0 : Int) ≤ (q : Int) := by omega
        have hrefl : Below w.heap.size wr wr.drew := (Below.refl _ _).drew
        go_wp2_with fail
        go_region_held3 (fun w' => w'.cell? ⟨w.heap.size, 6, none⟩ = some (.slice (some ad) is.length c) ∧ w'.cell? ⟨w.heap.size + 1, 6, none⟩ = some (.slice (some ae) is.length d) ∧
            w'.cell? (ad.add (q * 8)) = some (.int .i64 k2) ∧ w'.cell? ⟨(ad.add (q * 8)).block, (ad.add (q * 8)).off + 1, none⟩ = some (.bool b2) ∧ w'.cell? ⟨(ad.add (q * 8)).block, (ad.add (q * 8)).off + 2, none⟩ = some (.int .i64 i2) ∧ w'.cell? ⟨(ad.add (q * 8)).block, (ad.add (q * 8)).off + 3, none⟩ = some (.float .f64 f2) ∧ w'.cell? ⟨(ad.add (q * 8)).block, (ad.add (q * 8)).off + 4, none⟩ = some (.string t2) ∧ w'.cell? ⟨(ad.add (q * 8)).block, (ad.add (q * 8)).off + 5, none⟩ = some (.string y2) ∧ w'.cell? ⟨(ad.add (q * 8)).block, (ad.add (q * 8)).off + 6, none⟩ = some (.slice A2 is2.length c2) ∧ w'.cell? ⟨(ad.add (q * 8)).block, (ad.add (q * 8)).off + 7, none⟩ = some (.slice A2' fs2.length c2') ∧
            w'.cell? (ae.add (q * 8)) = some (.int .i64 k2) ∧ w'.cell? ⟨(ae.add (q * 8)).block, (ae.add (q * 8)).off + 1, none⟩ = some (.bool b2) ∧ w'.cell? ⟨(ae.add (q * 8)).block, (ae.add (q * 8)).off + 2, none⟩ = some (.int .i64 i2) ∧ w'.cell? ⟨(ae.add (q * 8)).block, (ae.add (q * 8)).off + 3, none⟩ = some (.float .f64 f2) ∧ w'.cell? ⟨(ae.add (q * 8)).block, (ae.add (q * 8)).off + 4, none⟩ = some (.string t2) ∧ w'.cell? ⟨(ae.add (q * 8)).block, (ae.add (q * 8)).off + 5, none⟩ = some (.string y2) ∧ w'.cell? ⟨(ae.add (q * 8)).block, (ae.add (q * 8)).off + 6, none⟩ = some (.slice C2 is2.length e2) ∧ w'.cell? ⟨(ae.add (q * 8)).block, (ae.add (q * 8)).off + 7, none⟩ = some (.slice C2' fs2.length e2'))
          (first | exact ⟨a6, b6, d0, d1, d2, d3, d4, d5, d6, d7, n0, n1, n2, n3, n4, n5, n6, n7⟩ | (have kk := fun (a : Addr) (u : Value) (hh : wr.cell? a = some u) => (hb3.cell (p := a) (World.block_lt_of_cell? wr a hh)).trans hh; exact ⟨kk _ _ a6, kk _ _ b6, kk _ _ d0, kk _ _ d1, kk _ _ d2, kk _ _ d3, kk _ _ d4, kk _ _ d5, kk _ _ d6, kk _ _ d7, kk _ _ n0, kk _ _ n1, kk _ _ n2, kk _ _ n3, kk _ _ n4, kk _ _ n5, kk _ _ n6, kk _ _ n7⟩))
          (first | (go_at_call 15; go_must (refine (HC.out _ hrefl (by simp; omega)).mono ?_; rintro e wc ⟨rfl, hb3⟩)))
        clear d0 d1 d2 d3 d4 d5 d6 d7 n0 n1 n2 n3 n4 n5 n6 n7 HC
        go_wp2_with fail
        exact ⟨⟨q + 1, by omega, by go_num, hb.drew.trans (hb3.mono (by simp; omega))⟩, by simp [intOf]; omega⟩
      · obtain rfl : q = is.length := by omega
        have a6 := (blk8 R1.out).2.2.2.2.2.2.1
        clear HI HJ
        go_wp2_with fail
        clear a6 R1 R2 hbw hszr
        go_loopw [6] (fun vi W => ∃ q : Nat, q ≤ fs.length ∧ vi = .int .i64 (q : Int) ∧ Below (w.heap.size + 2) w0 W) (fun i _ => fs.length - (intOf i).toNat)
        case atStart => exact ⟨0, Nat.zero_le _, rfl, hb⟩
        case round =>
          clear hb
          obtain ⟨q, hq, rfl, hb⟩ := hrel
          have hbw : Below w.heap.size w wr := gb.trans (hb.mono (by omega))
          have hszr := hb.size
          have R1 := Lib.hid (blk_below G1.out hb (by omega))
          have R2 := Lib.hid (blk_below G2.out hb (by omega))
          by_cases hlt : q < fs.length
          · have hx : fs[q]? = some fs[q] := List.getElem?_eq_getElem hlt
            obtain ⟨ad, cs, rfl, hadB, hcs, hvx⟩ := (HF.out.below HB.out hbw).at_ hx
            obtain ⟨ae, ds, rfl, haeB, hds, hvy⟩ := (HG.out.below HB'.out hbw).at_ hx
            have hszx := szf_get hx
            have hoky := flkf_get HOF.out hx
            generalize fs[q] = x at *
            have hvx2 := Lib.hid hvx
            have hvy2 := Lib.hid hvy
            obtain ⟨s2, k2, b2, i2, f2, t2, y2, is2, fs2⟩ := x
            simp only [IsV] at hvx hvy
            obtain ⟨A2, c2, A2', c2', rfl, _⟩ := hvx
            obtain ⟨C2, e2, C2', e2', rfl, _⟩ := hvy
            obtain ⟨d0, d1, d2, d3, d4, d5, d6, d7, d8⟩ := hcs.nine
            obtain ⟨n0, n1, n2, n3, n4, n5, n6, n7, n8⟩ := hds.nine
            rw [Nat.zero_add] at d0 d1 d2 d3 d4 d5 d6 d7 d8 n0 n1 n2 n3 n4 n5 n6 n7 n8
            have HC := Lib.hid (fun (W : World) (hW : Below w.heap.size wr W) (hWB : w.heap.size ≤ W.heap.size) => IH.out _ (by omega) (by omega) hoky _ _ W S S' (hvx2.out.below HB.out hW) (hvy2.out.below HB'.out hW) (HB.out.mono hWB) (HB'.out.mono hWB))
            clear hcs hds hx hvx2 hvy2 IH
            have a7 := (blk8 R1.out).2.2.2.2.2.2.2
            have b7 := (blk8 R2.out).2.2.2.2.2.2.2
            have hlq : (q : Int) < (fs.length : Int) := by omega
            have h0q : (0 : Int) ≤ (q : Int) := by omega
            have hrefl : Below w.heap.size wr wr.drew := (Below.refl _ _).drew
            go_wp2_with fail
            go_region_held3 (fun w' => w'.cell? ⟨w.heap.size, 7, none⟩ = some (.slice (some ad) fs.length c') ∧ w'.cell? ⟨w.heap.size + 1, 7, none⟩ = some (.slice (some ae) fs.length d') ∧
                w'.cell? (ad.add (q * 9)) = some (.string s2) ∧ w'.cell? ⟨(ad.add (q * 9)).block, (ad.add (q * 9)).off + 1, none⟩ = some (.int .i64 k2) ∧ w'.cell? ⟨(ad.add (q * 9)).block, (ad.add (q * 9)).off + 1 + 1, none⟩ = some (.bool b2) ∧ w'.cell? ⟨(ad.add (q * 9)).block, (ad.add (q * 9)).off + 1 + 2, none⟩ = some (.int .i64 i2) ∧ w'.cell? ⟨(ad.add (q * 9)).block, (ad.add (q * 9)).off + 1 + 3, none⟩ = some (.float .f64 f2) ∧ w'.cell? ⟨(ad.add (q * 9)).block, (ad.add (q * 9)).off + 1 + 4, none⟩ = some (.string t2) ∧ w'.cell? ⟨(ad.add (q * 9)).block, (ad.add (q * 9)).off + 1 + 5, none⟩ = some (.string y2) ∧ w'.cell? ⟨(ad.add (q * 9)).block, (ad.add (q * 9)).off + 1 + 6, none⟩ = some (.slice A2 is2.length c2) ∧ w'.cell? ⟨(ad.add (q * 9)).block, (ad.add (q * 9)).off + 1 + 7, none⟩ = some (.slice A2' fs2.length c2') ∧
                w'.cell? (ae.add (q * 9)) = some (.string s2) ∧ w'.cell? ⟨(ae.add (q * 9)).block, (ae.add (q * 9)).off + 1, none⟩ = some (.int .i64 k2) ∧ w'.cell? ⟨(ae.add (q * 9)).block, (ae.add (q * 9)).off + 1 + 1, none⟩ = some (.bool b2) ∧ w'.cell? ⟨(ae.add (q * 9)).block, (ae.add (q * 9)).off + 1 + 2, none⟩ = some (.int .i64 i2) ∧ w'.cell? ⟨(ae.add (q * 9)).block, (ae.add (q * 9)).off + 1 + 3, none⟩ = some (.float .f64 f2) ∧ w'.cell? ⟨(ae.add (q * 9)).block, (ae.add (q * 9)).off + 1 + 4, none⟩ = some (.string t2) ∧ w'.cell? ⟨(ae.add (q * 9)).block, (ae.add (q * 9)).off + 1 + 5, none⟩ = some (.string y2) ∧ w'.cell? ⟨(ae.add (q * 9)).block, (ae.add (q * 9)).off + 1 + 6, none⟩ = some (.slice C2 is2.length e2) ∧ w'.cell? ⟨(ae.add (q * 9)).block, (ae.add (q * 9)).off + 1 + 7, none⟩ = some (.slice C2' fs2.length e2'))
              (first | exact ⟨a7, b7, d0, d1, d2, d3, d4, d5, d6, d7, d8, n0, n1, n2, n3, n4, n5, n6, n7, n8⟩ | (have kk := fun (a : Addr) (u : Value) (hh : wr.cell? a = some u) => (hb3.cell (p := a) (World.block_lt_of_cell? wr a hh)).trans hh; exact ⟨kk _ _ a7, kk _ _ b7, kk _ _ d0, kk _ _ d1, kk _ _ d2, kk _ _ d3, kk _ _ d4, kk _ _ d5, kk _ _ d6, kk _ _ d7, kk _ _ d8, kk _ _ n0, kk _ _ n1, kk _ _ n2, kk _ _ n3, kk _ _ n4, kk _ _ n5, kk _ _ n6, kk _ _ n7, kk _ _ n8⟩))
              (first | (go_at_call 15; go_must (refine (HC.out _ hrefl (by simp; omega)).mono ?_; rintro e wc ⟨rfl, hb3⟩)))
            clear d0 d1 d2 d3 d4 d5 d6 d7 d8 n0 n1 n2 n3 n4 n5 n6 n7 n8 HC
            go_wp2_with fail
            exact ⟨⟨q + 1, by omega, by go_num, hb.drew.trans (hb3.mono (by simp; omega))⟩, by simp [intOf]; omega⟩
          · obtain rfl : q = fs.length := by omega
            have a7 := (blk8 R1.out).2.2.2.2.2.2.2
            go_wp2_with fail
            go_ret
            exact ⟨rfl, hbw⟩
end Go.Proofs.YtjhhdnnblcbdbaaGreatDoor.jw
end
section
namespace Go.Proofs.YtjhhdnnblcbdbaaGreatDoor.jw
open Go.RowKit mem val jp
attribute [local go_sem] run_store_float Oper.semAt_some
def kdn (k : Int) : Int := if k < 0 ∨ 7 < k then 0 else k
theorem dptf_kids : ∀ fs : List (ByteArray × V), dptf fs = dpts (fs.map (·.2))
  | [] => rfl
  | (s, v) :: r => by simp only [dptf, dpts, List.map_cons, dptf_kids r]
mutual
theorem dpt_le : ∀ v : V, dpt v ≤ sz v
  | .mk k b i f t y is fs => by
    have h1 := dpts_le is
    have h2 := dptf_le fs
    simp only [dpt, sz]
    split
    · omega
    · split <;> omega
theorem dpts_le : ∀ l : List V, dpts l ≤ szs l
  | [] => by simp [dpts]
  | v :: r => by
    have h1 := dpt_le v
    have h2 := dpts_le r
    simp only [dpts, szs]
    omega
theorem dptf_le : ∀ l : List (ByteArray × V), dptf l ≤ szf l
  | [] => by simp [dptf]
  | (s, v) :: r => by
    have h1 := dpt_le v
    have h2 := dptf_le r
    simp only [dptf, szf]
    omega
end
theorem dpts_take {l : List V} {q : Nat} {x : V} (h : l[q]? = some x) : dpts (l.take (q + 1)) = max (dpts (l.take q)) (dpt x) := by
  induction l generalizing q with
  | nil => simp at h
  | cons a r ih =>
    cases q with
    | zero => simp at h; subst h; simp [dpts]
    | succ q =>
      have := ih (q := q) (by simpa using h)
      simp only [List.take_succ_cons, dpts]
      rw [this, Nat.max_assoc]
theorem dpts_take_le (l : List V) (q : Nat) : dpts (l.take q) ≤ dpts l := by
  induction l generalizing q with
  | nil => simp [dpts]
  | cons a r ih =>
    cases q with
    | zero => simp [dpts]
    | succ q =>
      have := ih q
      simp only [List.take_succ_cons, dpts]
      omega
section
variable (b : Bool) (i : Int) (f : Nat) (t y : ByteArray) (A A' : Option Addr) (n m c c' : Nat) (w : World)
set_option maxRecDepth 100000 in
theorem tkind_any (k : Int) : Calls Tryz.prog 40 #[.agg #[.int .i64 k, .bool b, .int .i64 i, .float .f64 f, .string t, .string y, .slice A n c, .slice A' m c']] w fun e w' => e = .returned (.int .i64 (kdn k)) ∧ Below w.heap.size w w' := by
  by_cases h : k < 0 ∨ 7 < k
  · have hk : kdn k = 0 := if_pos h
    rw [hk]
    clear hk
    rcases h with h | h
    all_goals
      go_enter Tryz.func40, Tryz.ntmps40
      go_wp2_with fail
      first | (exfalso; omega) | skip
      all_goals first
        | (exfalso; omega)
        | (go_ret; exact ⟨rfl, (Below.refl _ _).alloc (Nat.le_refl _) _⟩)
  · have hk : kdn k = k := if_neg h
    rw [hk]
    clear hk
    have h1 : ¬ k < 0 := fun e => h (.inl e)
    have h2 : ¬ 7 < k := fun e => h (.inr e)
    clear h
    go_enter Tryz.func40, Tryz.ntmps40
    go_wp2_with fail
    go_ret
    exact ⟨rfl, (Below.refl _ _).alloc (Nat.le_refl _) _⟩
theorem children_any (k : Int) : Calls Tryz.prog 41 #[.agg #[.int .i64 k, .bool b, .int .i64 i, .float .f64 f, .string t, .string y, .slice A n c, .slice A' m c']] w fun e w' => e = .returned (.func (.func 70) #[] #[.pointer (some ⟨w.heap.size, 0, none⟩)]) ∧ w' = w.alloc (.cells #[.int .i64 k, .bool b, .int .i64 i, .float .f64 f, .string t, .string y, .slice A n c, .slice A' m c'] 29) := by
  go_enter Tryz.func41, Tryz.ntmps41
  go_wp2_with fail
  go_ret
  exact ⟨rfl, rfl⟩
end
def TpPost (x : Nat) (w : World) (e : Ending) (w' : World) : Prop := e = .returned (.int .i64 (x : Int)) ∧ Below w.heap.size w w'
/-- while the range runs -/
structure DpSt (w : World) (g : Nat) (kids : List V) (q : Nat) (wr : World) : Prop where
  be : Below w.heap.size w wr
  c : wr.heap[g]? = some (.cells #[.int .i64 ((dpts (kids.take q) : Nat) : Int)] 3 (0, 0))
section
variable (b : Bool) (i : Int) (f : Nat) (t y : ByteArray) (A A' : Option Addr) (n m c c' : Nat) (w : World)
theorem DpSt.keep {g : Nat} {kids : List V} {q B : Nat} {W W' : World} (h : DpSt w g kids q W) (hB : w.heap.size ≤ B) (hg : g < B) (hb : Below B W W') : DpSt w g kids q W' :=
  ⟨h.be.trans (hb.mono hB), blk_below h.c hb hg⟩
set_option maxRecDepth 100000 in
set_option maxHeartbeats 4000000 in
theorem tdepth_flat (k r : Int) (h5 : r ≠ 5) (h6 : r ≠ 6) (hK : ∀ W : World, Calls Tryz.prog 40 #[.agg #[.int .i64 k, .bool b, .int .i64 i, .float .f64 f, .string t, .string y, .slice A n c, .slice A' m c']] W fun e w' => e = .returned (.int .i64 r) ∧ Below W.heap.size W w') : Calls Tryz.prog 21 #[.agg #[.int .i64 k, .bool b, .int .i64 i, .float .f64 f, .string t, .string y, .slice A n c, .slice A' m c']] w (TpPost 0 w) := by
  have q5 : (r != 5) = true := by simp [h5]
  have q6 : (r != 6) = true := by simp [h6]
  have HK := Lib.hid hK
  clear hK h5 h6
  refine (callsIn_wide (n := 6)).1 ?_
  refine callsIn_of_wp Tryz.func21 rfl trivial ?_ rfl
  simp only [Tryz.ntmps21, List.size_toArray, List.length_cons, List.length_nil, Nat.reduceAdd, Nat.reduceSub, Array.replicate_succ, Array.replicate_zero, List.push_toArray, List.append_toArray, List.nil_append, List.cons_append]
  gi_wp2_with fail
  refine ⟨trivial, (callsIn_wide.2 (HK.out _)).mono ?_⟩
  rintro e w2 ⟨rfl, hb⟩
  have hb2 := ((Below.refl w.heap.size w).alloc (Nat.le_refl _) (.cells #[.int .i64 k, .bool b, .int .i64 i, .float .f64 f, .string t, .string y, .slice A n c, .slice A' m c'] 29)).trans (hb.mono (by simp))
  clear HK hb
  gi_wp2_with fail
  go_ret
  exact ⟨rfl, hb2⟩
set_option maxRecDepth 100000 in
set_option maxHeartbeats 4000000 in
theorem tdepth_kids (k : Int) (hk : k = 5 ∨ k = 6) (S : Nat → Prop) (kids : List V) (hd : dpts kids ≤ 26000000) (hS : Bel S w.heap.size) (hK : ∀ W : World, Calls Tryz.prog 40 #[.agg #[.int .i64 k, .bool b, .int .i64 i, .float .f64 f, .string t, .string y, .slice A n c, .slice A' m c']] W fun e w' => e = .returned (.int .i64 k) ∧ Below W.heap.size W w')
    (hseq : ∀ g, SeqC Tryz.prog 70 #[.pointer (some ⟨g, 0, none⟩)] kids.length (fun _ => encK S kids) w.heap.size (fun W => W.heap[g]? = some (.cells #[.int .i64 k, .bool b, .int .i64 i, .float .f64 f, .string t, .string y, .slice A n c, .slice A' m c'] 29 (0, 0)) ∧ Below w.heap.size w W))
    (hR : ∀ W x cs, Below w.heap.size w W → x ∈ kids → IsV W S x cs → Calls Tryz.prog 21 #[.agg cs.toArray] W (TpPost (dpt x) W)) : Calls Tryz.prog 21 #[.agg #[.int .i64 k, .bool b, .int .i64 i, .float .f64 f, .string t, .string y, .slice A n c, .slice A' m c']] w (TpPost (dpts kids + 1) w) := by
  have q56 : ((k != 5) = true ∧ (k != 6) = false) ∨ (k != 5) = false := by rcases hk with rfl | rfl <;> simp
  have HK := Lib.hid hK
  have HQ := Lib.hid hseq
  have HR := Lib.hid hR
  have HS := Lib.hid hS
  clear hK hseq hR hS hk
  obtain ⟨W1, hW1⟩ : ∃ W1, w.alloc (.cells #[.int .i64 k, .bool b, .int .i64 i, .float .f64 f, .string t, .string y, .slice A n c, .slice A' m c'] 29) = W1 := ⟨_, rfl⟩
  have hz1 : W1.heap[w.heap.size]? = some (.cells #[.int .i64 k, .bool b, .int .i64 i, .float .f64 f, .string t, .string y, .slice A n c, .slice A' m c'] 29 (0, 0)) := by rw [← hW1]; exact heap_alloc_new _ _
  have hb0 : Below w.heap.size w W1 := by rw [← hW1]; exact (Below.refl _ _).alloc (Nat.le_refl _) _
  have hs1 : W1.heap.size = w.heap.size + 1 := by rw [← hW1]; simp
  obtain ⟨m0, m1, m2, m3, m4, m5, m6, m7⟩ := blk8 hz1
  refine (callsIn_wide (n := 6)).1 ?_
  refine callsIn_of_wp_marks Tryz.func21 rfl trivial ?_ rfl
  simp only [Tryz.ntmps21, List.size_toArray, List.length_cons, List.length_nil, Nat.reduceAdd, Nat.reduceSub, Array.replicate_succ, Array.replicate_zero, List.push_toArray, List.append_toArray, List.nil_append, List.cons_append]
  gi_wp2_with fail
  refine ⟨trivial, (callsIn_wide.2 (HK.out _)).mono ?_⟩
  rintro e w1 ⟨rfl, hb1⟩
  have hs2 := hb1.size
  have g1 := blk_below hz1 hb1 (by omega)
  have HB1 := Lib.hid (hb0.trans (hb1.mono (by omega)))
  clear m0 m1 m2 m3 m4 m5 m6 m7 hz1 HK hW1 hb1 hb0
  obtain ⟨m0, m1, m2, m3, m4, m5, m6, m7⟩ := blk8 g1
  rcases q56 with ⟨q5, q6⟩ | q5
  all_goals
    gi_upto_region 5 with (fail)
    have hA : (w1.alloc (.cells #[.int .i64 0] 3)).heap[w1.heap.size]? = some (.cells #[.int .i64 0] 3 (0, 0)) := heap_alloc_new _ _
    have hbA : Below w1.heap.size w1 (w1.alloc (.cells #[.int .i64 0] 3)) := (Below.refl _ _).alloc (Nat.le_refl _) _
    have hsA : (w1.alloc (.cells #[.int .i64 0] 3)).heap.size = w1.heap.size + 1 := by simp
    have gA := blk_below g1 hbA (by omega)
    replace hsA := Nat.le_of_eq hsA.symm
    generalize (w1.alloc (.cells #[.int .i64 0] 3)) = wA at *
    clear m0 m1 m2 m3 m4 m5 m6 m7 g1
    obtain ⟨m0, m1, m2, m3, m4, m5, m6, m7⟩ := blk8 gA
    clear gA
    have HBA := Lib.hid (HB1.out.trans (hbA.mono (by omega)))
    have HA := Lib.hid hA
    clear hA hbA
    have hsA2 : w1.heap.size < wA.heap.size := hsA
    clear hsA
    gi_wp2_with fail
    refine ⟨trivial, (callsIn_wide.2 (children_any b i f t y A A' n m c c' wA k)).mono ?_⟩
    rintro e w2 ⟨rfl, hw2⟩
    have hbox : w2.heap[wA.heap.size]? = some (.cells #[.int .i64 k, .bool b, .int .i64 i, .float .f64 f, .string t, .string y, .slice A n c, .slice A' m c'] 29 (0, 0)) := by rw [hw2]; exact heap_alloc_new _ _
    have hb12 : Below wA.heap.size wA w2 := by rw [hw2]; exact (Below.refl _ _).alloc (Nat.le_refl _) _
    have hz2 : w2.heap.size = wA.heap.size + 1 := by rw [hw2]; simp
    clear hw2 m0 m1 m2 m3 m4 m5 m6 m7
    have hST : DpSt w w1.heap.size kids 0 w2 := ⟨HBA.out.trans (hb12.mono (by omega)), blk_below HA.out hb12 (by omega)⟩
    clear HA
    gi_wp2_with fail
    refine range_C (n := w.heap.size) (gf := 70) (lb := #[.pointer (some ⟨wA.heap.size, 0, none⟩)]) rfl (enters_of Tryz.func70 (by kernel_rfl) rfl)
      (HQ.out wA.heap.size) (by omega) (fun W1 hb => ⟨blk_below hbox hb (by omega), hST.be.trans (hb.mono (by omega))⟩)
      (fun B q W args h => by obtain ⟨s, j, bo, x, cs, _, rfl, _⟩ := h; rfl)
      (fun q W => DpSt w w1.heap.size kids q W) (fun cd W => False)
      (fun q W W' h hb he => h.keep _ (by omega) (by omega) hb) (fun cd W W' h hb he => h) hST ?round ?done ?stop
    case round =>
      rintro l' k9 q B W1 args hl hl2 hBW hq HI1 ⟨s, j, bo, x, cs, hx, rfl, hV⟩ hbw
      obtain ⟨k2, b2, i2, f2, t2, y2, is2, fs2⟩ := x
      have HV := Lib.hid hV
      simp only [IsV] at hV
      obtain ⟨A2, c2, A2', c2', rfl, _⟩ := hV
      have hnW1 : w.heap.size ≤ W1.heap.size := HI1.be.size
      have hbv : Below W1.heap.size W1 (W1.alloc (.cells #[.int .i64 k2, .bool b2, .int .i64 i2, .float .f64 f2, .string t2, .string y2, .slice A2 is2.length c2, .slice A2' fs2.length c2'] 29)) := (Below.refl _ _).alloc (Nat.le_refl _) _
      gi_wp2_with fail
      refine ⟨Keep.of_below hbv hnW1, HI1.keep _ (by omega) (by omega) (hbv.mono (by omega)), ?_⟩
      intro W2 hz2' ho2 hb2 _ hI2
      have gV : W2.heap[W1.heap.size]? = some (.cells #[.int .i64 k2, .bool b2, .int .i64 i2, .float .f64 f2, .string t2, .string y2, .slice A2 is2.length c2, .slice A2' fs2.length c2'] 29) := (ho2 W1.heap.size (by omega)).trans (heap_alloc_new W1 (.cells #[.int .i64 k2, .bool b2, .int .i64 i2, .float .f64 f2, .string t2, .string y2, .slice A2 is2.length c2, .slice A2' fs2.length c2'] 29))
      have hb12' : Below w.heap.size W1 W2 := (hbv.mono hnW1).trans (hb2.mono (by omega))
      have hVW2 : IsV W2 S (.mk k2 b2 i2 f2 t2 y2 is2 fs2) [.int .i64 k2, .bool b2, .int .i64 i2, .float .f64 f2, .string t2, .string y2, .slice A2 is2.length c2, .slice A2' fs2.length c2'] := recV.keep (fun p hp => hb12'.cell (HS.out _ hp)) (fun _ h => h) HV.out
      have HRX := Lib.hid (fun W (hb : Below w.heap.size W2 W) => HR.out W _ _ (hI2.be.trans hb) (List.mem_of_getElem? hx) (recV.keep (fun p hp => hb.cell (HS.out _ hp)) (fun _ h => h) hVW2))
      obtain ⟨e0, e1, e2, e3, e4, e5, e6, e7⟩ := blk8 gV
      have hdr := dpts_take hx
      have hle := dpts_take_le kids q
      have hle2 := dpts_take_le kids (q + 1)
      have HDR := Lib.hid hdr
      have hcM := cell_of_row W2 w1.heap.size 0 _ _ (0, 0) hI2.c
      have hfz := blk_frozen hI2.c 0
      have hs2' : W1.heap.size < W2.heap.size := blk_lt gV
      clear hVW2 HV hx gV hbv hb2 hz2' ho2 HI1 hdr
      gi_upto_region 7 with (fail)
      have hrd : Below w.heap.size W2 W2.drew := (Below.refl _ _).drew
      have HC := Lib.hid (HRX.out _ hrd)
      clear HRX
      generalize dpt (.mk k2 b2 i2 f2 t2 y2 is2 fs2) = D at *
      gi_region_with (refine ⟨trivial, (fun h => by cases h), (CallsIn.inRound l' (callsIn_wide.2 HC.out)).mono ?_⟩; rintro e W3 ⟨rfl, hb3⟩; replace hb3 : Below W2.heap.size W2 W3 := ((Below.refl W2.heap.size W2).drew).trans hb3; have hM3 := blk_below hI2.c hb3 (by omega); replace hcM := cell_of_row W3 w1.heap.size 0 _ _ (0, 0) hM3; replace hfz := blk_frozen hM3 0)
      all_goals
        have hs3 := hb3.size
        have hset : ∀ u, Below w.heap.size W3 (W3.setCell ⟨w1.heap.size, 0, none⟩ u) := fun u => (Below.refl _ _).setCell (show w.heap.size ≤ w1.heap.size by omega) _
        have hoth : ∀ u k, k ≠ w1.heap.size → (W3.setCell ⟨w1.heap.size, 0, none⟩ u).heap[k]? = W3.heap[k]? := fun u k hk => Below.heap_setCell _ _ _ k hk
        have hnew : ∀ u, (W3.setCell ⟨w1.heap.size, 0, none⟩ u).heap[w1.heap.size]? = some (.cells #[u] 3 (0, 0)) := fun u => by simpa using blk_set hM3 0 u
        have HF := Lib.hid (And.intro hset (And.intro hoth (And.intro hnew (And.intro hb3 hI2.be))))
        clear hset hoth hnew hM3 hb3 hI2 HC
        gi_wp2_with fail
        all_goals
          obtain ⟨hset, hoth, hnew, hb3, hbe⟩ := HF.out
          refine ⟨⟨(hb3.mono (by omega)).trans (hset _), fun k h1 h2 => (hoth _ k (by omega)).trans (hb3.block k h2)⟩, ⟨hbe.trans ((hb3.mono (by omega)).trans (hset _)), ?_⟩⟩
          rw [hnew, HDR.out]
          first
            | (rw [show ((max (dpts (kids.take q)) D : Nat) : Int) = max ((dpts (kids.take q) : Nat) : Int) (D : Int) by omega]; done)
            | rw [show max (dpts (kids.take q)) D = D by omega]
            | rw [show max (dpts (kids.take q)) D = dpts (kids.take q) by omega]
    case done =>
      rintro D W4 hD hI hK3
      have hl4 := blk_lt hK3
      have hc := hI.c
      rw [List.take_length] at hc
      have hcM := cell_of_row W4 w1.heap.size 0 _ _ (0, 0) hc
      have hbe := hI.be
      generalize dpts kids = M at *
      clear hI HQ HR hST hbox hc
      gi_wp2_with fail
      refine ⟨by simp, .inl ⟨_, _, rfl, run_takeDeferred hK3, ?_⟩⟩
      have hbp := hbe.trans (belowK_b (w := w) (Nat.le_refl _) W4 D _ (.deferred none) (by omega) hK3 rfl rfl)
      generalize (W4.putObj D (.deferred none)) = wp at *
      refine ⟨.int .i64 ((M : Int) + 1), ?_, by simp, hbp⟩
      simp [results, Tryz.f21, go_sem]
    case stop =>
      rintro D cd W4 hD hI hK3
      exact hI.elim
end
theorem tdepth_any : ∀ (N : Nat) (v : V), sz v ≤ N → N ≤ 26000000 → ∀ (cs : List Value) (w : World) (S : Nat → Prop), IsV w S v cs → Bel S w.heap.size → Calls Tryz.prog 21 #[.agg cs.toArray] w (TpPost (dpt v) w) := by
  intro N
  induction N with
  | zero => intro v hv; have := sz_pos v; omega
  | succ N ih =>
    intro v hv hN cs w S hV hS
    have hV0 := hV
    obtain ⟨k, b, i, f, t, y, is, fs⟩ := v
    simp only [IsV] at hV
    obtain ⟨A, c, A', c', rfl, _, _, hI, hF⟩ := hV
    simp only [sz] at hv
    have hK := fun W => tkind_any b i f t y A A' is.length fs.length c c' W k
    have hl1 := szs_len is
    have hl2 := szf_len fs
    have hd1 := dpts_le is
    have hd2 := dptf_le fs
    by_cases h5 : k = 5
    · subst h5
      have hd : dpt (.mk 5 b i f t y is fs) = dpts is + 1 := by simp [dpt]
      rw [hd]
      refine tdepth_kids b i f t y A A' is.length fs.length c c' w 5 (.inl rfl) S is (by omega) hS hK (fun g => kidseq_list b i f t y A A' is.length fs.length c c' S is w g w.heap.size rfl (by omega) hI hS (Nat.le_refl _) hK) fun W x cs hb hx hIV => ?_
      obtain ⟨j, hj⟩ := List.mem_iff_getElem?.1 hx
      have := szs_get hj
      exact ih x (by omega) (by omega) cs W S hIV (hS.mono hb.size)
    by_cases h6 : k = 6
    · subst h6
      have hd : dpt (.mk 6 b i f t y is fs) = dpts (fs.map (·.2)) + 1 := by simp [dpt, dptf_kids]
      rw [hd]
      refine tdepth_kids b i f t y A A' is.length fs.length c c' w 6 (.inr rfl) S (fs.map (·.2)) (by rw [← dptf_kids]; omega) hS hK (fun g => by
        have := kidseq_obj b i f t y A A' is.length fs.length c c' S fs w g w.heap.size rfl (by omega) hF hS (Nat.le_refl _) hK
        rw [List.length_map]
        exact this) fun W x cs hb hx hIV => ?_
      obtain ⟨p, hp, rfl⟩ := List.mem_map.1 hx
      obtain ⟨j, hj⟩ := List.mem_iff_getElem?.1 hp
      have := szf_get hj
      exact ih p.2 (by omega) (by omega) cs W S hIV (hS.mono hb.size)
    · have hd : dpt (.mk k b i f t y is fs) = 0 := by simp [dpt, h5, h6]
      rw [hd]
      refine tdepth_flat b i f t y A A' is.length fs.length c c' w k (kdn k) ?_ ?_ hK
      · unfold kdn; split <;> omega
      · unfold kdn; split <;> omega
end Go.Proofs.YtjhhdnnblcbdbaaGreatDoor.jw
end
section
namespace Go.Proofs.YtjhhdnnblcbdbaaGreatDoor.jw
open Go.RowKit mem val jp
theorem us_at {w : World} {B : Nat} {A : Option Addr} {l : List Nat} (h : Rd w B A (us l)) {j : Nat} (hj : j < l.length) : ∃ ad : Addr, A = some ad ∧ w.cell? (ad.add j) = some (.int .u8 ((l.getD j 0 : Nat) : Int)) := by
  have hu : (us l)[j]? = some (.int .u8 ((l.getD j 0 : Nat) : Int)) := by
    rw [us_get, List.getD_eq_getElem?_getD, List.getElem?_eq_getElem hj]
    rfl
  obtain ⟨ad, h1, h2⟩ := h j _ hu
  exact ⟨ad, h1, h2.2⟩
end Go.Proofs.YtjhhdnnblcbdbaaGreatDoor.jw
end
section
namespace Go.Proofs.YtjhhdnnblcbdbaaGreatDoor.jw
open Go.RowKit mem val jp
attribute [local go_sem] run_store_float

/-- the blank that a byte stands for -/
def bk (x : Nat) : Nat := if x % 4 = 0 then 32 else if x % 4 = 1 then 9 else if x % 4 = 2 then 10 else 13
theorem bk_bl (x : Nat) : bl (bk x) = true := by
  unfold bk
  split
  · rfl
  · split
    · rfl
    · split <;> rfl
theorem bk_lt (x : Nat) : bk x < 256 := by
  unfold bk
  repeat' split
  all_goals omega
theorem bls_bk (l : List Nat) : bls (l.map bk) := fun x hx => by
  obtain ⟨y, _, rfl⟩ := List.mem_map.1 hx
  exact bk_bl y
theorem us_one1 (x : Nat) : us [x] = [.int .u8 (x : Int)] := rfl
theorem us_take_succ {l : List Nat} {q : Nat} (h : q < l.length) : us (l.take (q + 1)) = us (l.take q) ++ [.int .u8 ((l.getD q 0 : Nat) : Int)] := by
  rw [List.take_succ_eq_append_getElem h]
  unfold us
  rw [List.map_append, List.map_append, List.getD_eq_getElem?_getD, List.getElem?_eq_getElem h]
  rfl
theorem tok_sep {a b : List Nat} {c : Nat} (hc : c = 44 ∨ c = 93 ∨ c = 125) (ha : a.length ≤ 1100000) (hb : b.length ≤ 1099999) (p : Nat) : pE ((a ++ c :: b).drop p) ≤ 1100000 := by
  by_cases hp : p ≤ a.length
  · rw [List.drop_append_of_le_length hp]
    have hE : pE (a.drop p ++ c :: b) = pE (a.drop p) := by unfold pE; rw [pf_run, pf_run, run_sep (sep_cons c b hc)]
    rw [hE]
    exact tok_le ha p
  · have e : (a ++ c :: b).drop p = (c :: b).drop (p - a.length) := by
      rw [show p = a.length + (p - a.length) by omega, ← List.drop_drop, List.drop_left]
      congr 1
      omega
    rw [e]
    exact tok_le (by simp; omega) _
/-- Read of bytes that were made from a string, its numbers short -/
theorem read_made2 {F : Nf} (w W : World) (l : List Nat) (d : Int) (N : Nat) (hn : l.length ≤ 1099511627776) (htok : ∀ p, pE (l.drop p) ≤ 1100000) (hby : ∀ x ∈ l, x < 256) (hnum : NumOf F w) (hnf : ∀ l, (F l).2.2.2 ≠ 50 ∧ (F l).2.2.2 ≠ 71) (hW : Below w.heap.size w W) (hN : 2 * l.length < N) :
    Calls Tryz.prog 13 #[.slice (some ⟨W.heap.size, 0, none⟩) (bt l).size (grownCap W (bt l).size 0 5), .int .i64 d] (Lib.bytesWorld W 5 (bt l)) (RdQ (rd F N (dep d) l) (Lib.bytesWorld W 5 (bt l))) := by
  have hb := below_bytesW W (bt l)
  obtain ⟨A', c', hv, hrd, _⟩ := RS_bytes hby W (grownCap W (bt l).size 0 5)
  injection hv with e1 e2 e3
  subst e1
  have hbs := bt_size l
  rw [hbs]
  exact read_any (F := F) _ l.length _ l d N _ rfl (by omega) htok hby hrd (fun s hs W' hW' => hnum s hs W' (hW.trans ((hb.mono hW.size).trans (hW'.mono (Nat.le_trans hW.size hb.size))))) hnf (by rw [← hbs]; exact grownCap_ge W _ 0 _) (grownCap_le_maxLen W _ 0 _ (by unfold maxLen; omega)) hN
theorem set8 {w : World} {g : Nat} {T : TypeId} {y0 y1 y2 y3 y4 y5 y6 y7 : Value} (h : w.heap[g]? = some (.cells #[y0, y1, y2, y3, y4, y5, y6, y7] T (0, 0))) (x0 x1 x2 x3 x4 x5 x6 x7 : Value) :
    ∃ W, ((((((((w.setCell ⟨g, 0, none⟩ x0).setCell ⟨g, 1, none⟩ x1).setCell ⟨g, 2, none⟩ x2).setCell ⟨g, 3, none⟩ x3).setCell ⟨g, 4, none⟩ x4).setCell ⟨g, 5, none⟩ x5).setCell ⟨g, 6, none⟩ x6).setCell ⟨g, 7, none⟩ x7) = W ∧ W.heap[g]? = some (.cells #[x0, x1, x2, x3, x4, x5, x6, x7] T (0, 0)) ∧ (∀ B, B ≤ g → Below B w W) ∧ ∀ k, k ≠ g → W.heap[k]? = w.heap[k]? := by
  refine ⟨_, rfl, ?_, fun B hB => ((((((((Below.refl _ _).setCell hB _).setCell hB _).setCell hB _).setCell hB _).setCell hB _).setCell hB _).setCell hB _).setCell hB _, fun k hk => ?_⟩
  · have h0 := blk_set h 0 x0
    have h1 := blk_set h0 1 x1
    have h2 := blk_set h1 2 x2
    have h3 := blk_set h2 3 x3
    have h4 := blk_set h3 4 x4
    have h5 := blk_set h4 5 x5
    have h6 := blk_set h5 6 x6
    have h7 := blk_set h6 7 x7
    simpa using h7
  · exact (Below.heap_setCell _ ⟨g, 7, none⟩ _ k hk).trans ((Below.heap_setCell _ ⟨g, 6, none⟩ _ k hk).trans ((Below.heap_setCell _ ⟨g, 5, none⟩ _ k hk).trans ((Below.heap_setCell _ ⟨g, 4, none⟩ _ k hk).trans ((Below.heap_setCell _ ⟨g, 3, none⟩ _ k hk).trans ((Below.heap_setCell _ ⟨g, 2, none⟩ _ k hk).trans ((Below.heap_setCell _ ⟨g, 1, none⟩ _ k hk).trans (Below.heap_setCell _ ⟨g, 0, none⟩ _ k hk)))))))
theorem add_bt (a b : List Nat) {B : ByteArray} (hB : bt b = B) (h : a.length + b.length ≤ 1099511627776) (W : World) : (Op.stringOp .add (bt a) B).run Tryz.prog W = .ok (.string (bt (a ++ b))) W := by
  rw [← hB, ← bt_app]
  exact run_string_add_sum _ _ _ (by rw [bt_size, bt_size]; omega)
theorem add_bt' (a b : List Nat) {B : ByteArray} (hB : bt a = B) (h : a.length + b.length ≤ 1099511627776) (W : World) : (Op.stringOp .add B (bt b)).run Tryz.prog W = .ok (.string (bt (a ++ b))) W := by
  rw [← hB, ← bt_app]
  exact run_string_add_sum _ _ _ (by rw [bt_size, bt_size]; omega)
theorem nx {w a b : World} (h : Hid (Below w.heap.size w a)) (k : Below a.heap.size a b) : Hid (Below w.heap.size w b) := Lib.hid (h.out.trans (k.mono h.out.size))
theorem bb {a b : World} {g : Nat} {o : Obj} (h : a.heap[g]? = some o) (k : Below a.heap.size a b) : b.heap[g]? = some o := blk_below h k (blk_lt h)
theorem vb {w2 a b : World} {v : V} {cs : List Value} (h : Hid (IsV a (fun b => b < w2.heap.size) v cs)) (k : Below a.heap.size a b) (hs : w2.heap.size ≤ a.heap.size := by omega) : Hid (IsV b (fun b => b < w2.heap.size) v cs) := Lib.hid (h.out.below (B := a.heap.size) (fun _ h => Nat.lt_of_lt_of_le h hs) k)
theorem mem2 {a b : List Nat} (ha : ∀ x ∈ a, x < 256) (hb : ∀ x ∈ b, x < 256) : ∀ x ∈ a ++ b, x < 256 := fun x hx => (List.mem_append.1 hx).elim (ha x) (hb x)
def ShB (w W : World) : Prop := Below w.heap.size w W
theorem sh_at {w W : World} {R : Prop} (h : ShB w W ∧ R) : Below w.heap.size w W := h.1
theorem sh_next {w W wc : World} {R : Prop} (hb : Below W.heap.size W wc) (h : ShB w W ∧ R) : ShB w wc := Below.trans (sh_at h) (hb.mono (sh_at h).size)
theorem isV_null (w : World) (S : Nat → Prop) : IsV w S nullV [.int .i64 0, .bool false, .int .i64 0, .float .f64 0, .string { data := #[] }, .string { data := #[] }, .slice none 0 0, .slice none 0 0] := by
  unfold nullV
  simp only [IsV]
  exact ⟨none, 0, none, 0, rfl, fun _ => rfl, fun _ => rfl, by simp [IsVs], by simp [IsFs]⟩
set_option maxRecDepth 100000 in
set_option maxHeartbeats 8000000 in
theorem shifts_walk {F : Nf} (A A2 : Option Addr) (n c n2 c2 : Nat) (s t : List Nat) (d : Int) (w : World) (hl : s.length = n) (hl2 : t.length = n2) (hn : n + n2 ≤ 1099000) (hby : ∀ x ∈ s, x < 256) (hby2 : ∀ x ∈ t, x < 256) (hrd : Rd w w.heap.size A (us s)) (hrd2 : Rd w w.heap.size A2 (us t)) (hA : A = none → n = 0) (hnc : n ≤ c) (hcm : c ≤ maxLen)
    (hnum : NumOf F w) (hnf : ∀ l, (F l).2.2.2 ≠ 50 ∧ (F l).2.2.2 ≠ 71) (hF64 : ∀ l, (F l).2.2.1 < 18446744073709551616) (hKd : ∀ l, (F l).1 ≠ 5 ∧ (F l).1 ≠ 6) (hsame : SameOk)
    (hfix : Calls Tryz.prog 12 #[] w fun e w' => e = .returned (.bool true) ∧ Below w.heap.size w w') :
    Calls Tryz.prog 7 #[.slice A n c, .slice A2 n2 c2, .int .i64 d] w fun e w' => e = .returned (.bool true) ∧ Below w.heap.size w w' := by
  have HFx := Lib.hid hfix
  have HT := Lib.hid (fun (W : World) (hW : Below w.heap.size w W) (j : Nat) (hj : j < n2) => us_at ((hrd2.below hW).more hW.size) (l := t) (j := j) (by omega))
  have HBy := Lib.hid hby2
  have HL2 := Lib.hid hl2
  obtain ⟨iv, hiv, hv0, hv1, hv2⟩ := info_get infoBy
  obtain ⟨N0, hN0⟩ : ∃ N, N = 2 * (n + n2) + 1 := ⟨_, rfl⟩
  obtain ⟨N, hN⟩ : ∃ N, N = 2 * N0 + 20 := ⟨_, rfl⟩
  have HR := Lib.hid (fun (W : World) (hW : Below w.heap.size w W) => read_any (F := F) A n c s d N0 W hl (by omega) (tok_le (by omega)) hby ((hrd.below hW).more hW.size) (fun s hs W' hW' => hnum s hs W' (hW.trans (hW'.mono hW.size))) hnf hnc hcm (by omega))
  have HM := Lib.hid (fun (W : World) (l : List Nat) (e : Int) (M : Nat) (h1 : l.length ≤ 4000000) (h0 : ∀ p, pE (l.drop p) ≤ 1100000) (h2 : ∀ x ∈ l, x < 256) (hW : Below w.heap.size w W) (h3 : 2 * l.length < M) => read_made2 w W l e M (by omega) h0 h2 hnum hnf hW h3)
  have HCs : Hid (∀ W, Below w.heap.size w W → (convert 22 9 (.slice A n c)).run Tryz.prog W = .ok (.string (bt s)) W) := Lib.hid fun W hW => by
    have := conv_take (c := c) hl hrd n (Nat.le_refl _) hA W hW
    rwa [List.take_of_length_le (by omega)] at this
  have HBs := Lib.hid hby
  have HNf := Lib.hid hnf
  have H64 := Lib.hid hF64
  have HKd := Lib.hid hKd
  have HSm := Lib.hid hsame
  have HLs := Lib.hid hl
  clear hfix hrd2 hby2 hl2 hrd hby hnum hnf hF64 hKd hsame hA hl
  go_enter Tryz.func7, Tryz.ntmps7
  go_wp2_with fail
  refine HFx.out.mono ?_
  rintro e w1 ⟨rfl, hb1⟩
  have hs1 := hb1.size
  have HB1 := Lib.hid hb1
  clear hb1 HFx
  go_wp2_with fail
  go_loopw [7, 8] (fun v7 v8 W => ∃ (q : Nat) (vv : Value), q ≤ n2 ∧ v8 = .int .i64 (q : Int) ∧ vv = v7 ∧ Hid (W.ownsRow w1.heap.size 5 1 vv q (us ((t.map bk).take q))) ∧ Below w1.heap.size w1 W) (fun _ v8 _ => n2 - (intOf v8).toNat)
  case atStart => exact ⟨0, _, Nat.zero_le _, rfl, rfl, Lib.hid (World.ownsRow_nil _ _ _ _), Below.refl _ _⟩
  case round =>
    obtain ⟨q, vv, hq, rfl, rfl, HO, hb⟩ := hrel
    have hszr := hb.size
    by_cases hlt : q < n2
    · obtain ⟨ad, rfl, hcell⟩ := HT.out wr (HB1.out.trans (hb.mono hs1)) q hlt
      have hbq : bk (t.getD q 0) = (t.map bk).getD q 0 := by
        rw [List.getD_eq_getElem?_getD, List.getD_eq_getElem?_getD, List.getElem?_map, List.getElem?_eq_getElem (by rw [HL2.out]; exact hlt)]
        rfl
      have HQ := Lib.hid hbq
      have hx4 : t.getD q 0 % 4 = 0 ∨ t.getD q 0 % 4 = 1 ∨ t.getD q 0 % 4 = 2 ∨ t.getD q 0 % 4 = 3 := by omega
      have h256 : t.getD q 0 < 256 := by
        rw [List.getD_eq_getElem?_getD, List.getElem?_eq_getElem (by rw [HL2.out]; exact hlt)]
        exact HBy.out _ (List.getElem_mem _)
      generalize t.getD q 0 = x at *
      have hlq : (q : Int) < (n2 : Int) := by omega
      obtain ⟨y, hy, hbk⟩ : ∃ y : Nat, Int.tmod (x : Int) 4 = (y : Int) ∧ ((y = 0 ∧ bk x = 32) ∨ (y = 1 ∧ bk x = 9) ∨ (y = 2 ∧ bk x = 10) ∨ (y = 3 ∧ bk x = 13)) := by
        refine ⟨x % 4, by rw [Int.tmod_eq_emod_of_nonneg (by omega)]; omega, ?_⟩
        unfold bk
        rcases hx4 with h | h | h | h <;> rw [h] <;> simp
      have HTk := Lib.hid (us_take_succ (l := t.map bk) (q := q) (by rw [List.length_map, HL2.out]; exact hlt))
      rcases hbk with ⟨rfl, hbk⟩ | ⟨rfl, hbk⟩ | ⟨rfl, hbk⟩ | ⟨rfl, hbk⟩
      all_goals
        go_wp2_with (at_builtin; go_must (refine wpList_app _ rfl (.tmp 29) (.tmp 36) _ rfl w1.heap.size 5 iv _ 1 1 Tryz.underlying22 hiv hv0 hv1 hv2 rfl (by omega) vv q (us ((t.map bk).take q)) rfl (HO.out.alloc _) (wr.heap.size + 1) (some ⟨wr.heap.size, 0, none⟩) 1 1 [.int .u8 ((bk x : Nat) : Int)] rfl rfl (by rw [hbk]; exact Rd.new wr _ 5) (fun h => by cases h) (by simp; rfl) (by unfold maxLen; omega) (by omega) (by simp; omega) ?_); intro v1 w4 hown hgrow hat)
        have HOn : Hid (w4.ownsRow w1.heap.size 5 1 v1 (q + 1) (us ((t.map bk).take (q + 1)))) := Lib.hid (by rw [HTk.out, ← HQ.out]; exact hown)
        have hbn := below_app1 hb HO.out (Nat.le_refl _) hszr hgrow
        clear hown hgrow hat
        go_wp2_with fail
        exact ⟨⟨q + 1, v1, by omega, by go_num, rfl, HOn, hbn⟩, by simp [intOf]; omega⟩
    · obtain rfl : q = n2 := by omega
      have hbls := bls_bk t
      have hwb : ∀ x ∈ t.map bk, x < 256 := fun x hx => by
        obtain ⟨y, _, rfl⟩ := List.mem_map.1 hx
        exact bk_lt y
      have hwl : (t.map bk).length = q := by rw [List.length_map]; exact HL2.out
      have hO := HO.out
      rw [List.take_of_length_le (by omega)] at hO
      obtain ⟨A7, c7, rfl, hA7, hc7, hm7⟩ := own_form hO
      have hrw := Rd.of_own hO
      generalize t.map bk = wl at *
      have HCw : Hid (∀ W, Below wr.heap.size wr W → (convert 22 9 (.slice A7 q c7)).run Tryz.prog W = .ok (.string (bt wl)) W) := Lib.hid fun W hW => by
        have := conv_take (c := c7) hwl hrw q (Nat.le_refl _) hA7 W hW
        rwa [List.take_of_length_le (by omega)] at this
      have HBl := Lib.hid hbls
      have HWb := Lib.hid hwb
      have HWl := Lib.hid hwl
      have HBr := Lib.hid (HB1.out.trans (hb.mono hs1))
      clear hO hrw hbls hwb hwl hA7 hc7 hm7 hb HB1 HT HBy HL2
      go_wp2_with fail
      refine (HR.out wr HBr.out).mono ?_
      rintro e w2 hQ
      clear HR
      cases hD : rd F N0 (dep d) s with
      | er k e0 =>
        rw [hD] at hQ
        obtain ⟨hb2, rfl⟩ := hQ
        have hne : e0 ≠ 0 := rd_nz hD
        have hkn := rd_el HNf.out hD
        rw [HLs.out] at hkn
        have HB2 := nx HBr hb2
        have HBW := Lib.hid hb2
        clear hb2 HBr
        go_upto_region 9 with fail
        have g3 : (w2.alloc (.cells #[.int .i64 0, .bool false, .int .i64 0, .float .f64 0, .string { data := #[] }, .string { data := #[] }, .slice none 0 0, .slice none 0 0] 29)).heap[w2.heap.size]? = some (.cells #[.int .i64 0, .bool false, .int .i64 0, .float .f64 0, .string { data := #[] }, .string { data := #[] }, .slice none 0 0, .slice none 0 0] 29) := heap_alloc_new _ _
        have hb3 : Below w2.heap.size w2 (w2.alloc (.cells #[.int .i64 0, .bool false, .int .i64 0, .float .f64 0, .string { data := #[] }, .string { data := #[] }, .slice none 0 0, .slice none 0 0] 29)) := (Below.refl _ _).alloc (Nat.le_refl _) _
        generalize (w2.alloc (.cells #[.int .i64 0, .bool false, .int .i64 0, .float .f64 0, .string { data := #[] }, .string { data := #[] }, .slice none 0 0, .slice none 0 0] 29)) = w3 at *
        have HB3 := nx HB2 hb3
        have hcw := HCw.out w3 (HBW.out.trans (hb3.mono HBW.out.size))
        have hcs := HCs.out w3 HB3.out
        have x3 : ∀ W : World, (Op.stringOp .add (bt wl) (bt s)).run Tryz.prog W = .ok (.string (bt (wl ++ s))) W := fun W => by rw [← bt_app]; exact run_string_add_sum _ _ _ (by rw [bt_size, bt_size, HWl.out, HLs.out]; omega)
        have x4 := conv_strJ (bt (wl ++ s)) w3
        have hll : (wl ++ s).length ≤ 1099000 := by rw [List.length_append, HWl.out, HLs.out]; omega
        have HX := Lib.hid (HM.out w3 (wl ++ s) d N0 (by omega) (tok_le (by omega)) (mem2 HWb.out HBs.out) HB3.out (by rw [List.length_append, HWl.out, HLs.out]; omega))
        have hE : rd F N0 (dep d) (wl ++ s) = .er (q + k) e0 := by rw [rd_front _ _ _ HBl.out, hD, HWl.out]; rfl
        have hbw := below_bytesW w3 (bt (wl ++ s))
        have g5 := bb g3 hbw
        have HB5 := nx HB3 hbw
        clear hb3 HB2 HBW HCw HCs HM g3 hbw HB3 hD
        go_wp2_with fail
        refine HX.out.mono ?_
        rintro e w6 hQ6
        rw [hE] at hQ6
        obtain ⟨hb6, rfl⟩ := hQ6
        generalize Lib.bytesWorld w3 5 (bt (wl ++ s)) = w5 at *
        have g6 := bb g5 hb6
        have HB6 := nx HB5 hb6
        clear hcw hcs x3 x4 HX hb6 g5 HB5 hE
        go_upto_region 10 with fail
        have e7 : (w6.alloc (.cells #[.int .i64 0, .bool false, .int .i64 0, .float .f64 0, .string { data := #[] }, .string { data := #[] }, .slice none 0 0, .slice none 0 0] 29)).heap[w6.heap.size]? = some (.cells #[.int .i64 0, .bool false, .int .i64 0, .float .f64 0, .string { data := #[] }, .string { data := #[] }, .slice none 0 0, .slice none 0 0] 29) := heap_alloc_new _ _
        have hb7 : Below w6.heap.size w6 (w6.alloc (.cells #[.int .i64 0, .bool false, .int .i64 0, .float .f64 0, .string { data := #[] }, .string { data := #[] }, .slice none 0 0, .slice none 0 0] 29)) := (Below.refl _ _).alloc (Nat.le_refl _) _
        generalize (w6.alloc (.cells #[.int .i64 0, .bool false, .int .i64 0, .float .f64 0, .string { data := #[] }, .string { data := #[] }, .slice none 0 0, .slice none 0 0] 29)) = w7 at *
        have HB7 := nx HB6 hb7
        obtain ⟨a0, a1, a2, a3, a4, a5, a6, a7⟩ := blk8 (bb g6 hb7)
        obtain ⟨b0, b1, b2, b3, b4, b5, b6, b7⟩ := blk8 e7
        have HAl := Lib.hid (alike_refl HSm.out 1 nullV (by simp [nullV, sz, szs, szf]) (by omega) (by simp [nullV, flk, flks, flkf]) [.int .i64 0, .bool false, .int .i64 0, .float .f64 0, .string { data := #[] }, .string { data := #[] }, .slice none 0 0, .slice none 0 0] [.int .i64 0, .bool false, .int .i64 0, .float .f64 0, .string { data := #[] }, .string { data := #[] }, .slice none 0 0, .slice none 0 0] w7 (fun _ => False) (fun _ => False) (isV_null _ _) (isV_null _ _) (fun b h => h.elim) (fun b h => h.elim))
        have hee : (e0 != e0) = false := by simp
        have he0 : (e0 != 0) = true := by simp [hne]
        have he1 : (e0 == 0) = false := by simp [hne]
        have hpl : (((q + k : Nat) : Int) != (k : Int) + (q : Int)) = false := by simp; omega
        clear hb7 g6 e7 HB6
        go_wp2_with fail
        refine HAl.out.mono ?_
        rintro e w8 ⟨rfl, hb8⟩
        have HB8 := nx HB7 hb8
        clear a0 a1 a2 a3 a4 a5 a6 a7 b0 b1 b2 b3 b4 b5 b6 b7 hb8 HAl HB7
        go_wp2_with fail
        go_ret
        exact ⟨rfl, HB8.out⟩
      | ok v k =>
        rw [hD] at hQ
        obtain ⟨hb2, cs, rfl, hv⟩ := hQ
        obtain ⟨hfl, hsz⟩ := rd_parts H64.out hD
        have hkn := rd_len HNf.out hD
        rw [HLs.out] at hkn
        obtain ⟨j, hjv, hjb⟩ := rd_inv hD
        obtain ⟨kb, hkb⟩ := rd_back HNf.out hD HBl.out
        have hE : rd F N0 (dep d) (wl ++ s) = .ok v (wl.length + k) := by rw [rd_front _ _ _ HBl.out, hD]; rfl
        have HA : Hid (∀ (W : World) (ds es : List Value) (S S' : Nat → Prop), IsV W S v ds → IsV W S' v es → Bel S W.heap.size → Bel S' W.heap.size → Calls Tryz.prog 15 #[.agg ds.toArray, .agg es.toArray] W (AlkPost W)) := Lib.hid fun W ds es S S' h1 h2 h3 h4 => alike_refl HSm.out (sz v) v (Nat.le_refl _) (by omega) hfl ds es W S S' h1 h2 h3 h4
        have HT : Hid (∀ (W : World) (ds : List Value) (S : Nat → Prop), IsV W S v ds → Bel S W.heap.size → Calls Tryz.prog 21 #[.agg ds.toArray] W (TpPost (dpt v) W)) := Lib.hid fun W ds S h1 h2 => tdepth_any (sz v) v (Nat.le_refl _) (by omega) ds W S h1 h2
        obtain ⟨k2, b2, i2, f2, t2, y2, is2, fs2, hveq⟩ : ∃ k2 b2 i2 f2 t2 y2 is2 fs2, v = .mk k2 b2 i2 f2 t2 y2 is2 fs2 := by cases v; exact ⟨_, _, _, _, _, _, _, _, rfl⟩
        have HCl : Hid (∀ (W : World) (S : Nat → Prop) (ds : List Value), IsV W S v ds → ∃ (A3 : Option Addr) (c3 : Nat) (A3' : Option Addr) (c3' : Nat), ds = [.int .i64 k2, .bool b2, .int .i64 i2, .float .f64 f2, .string t2, .string y2, .slice A3 is2.length c3, .slice A3' fs2.length c3']) := Lib.hid fun W S ds h => by
          rw [hveq] at h
          simp only [IsV] at h
          obtain ⟨A3, c3, A3', c3', h1, _⟩ := h
          exact ⟨A3, c3, A3', c3', h1⟩
        have HLaw := Lib.hid (And.intro hjv (And.intro hjb (And.intro hkb hE)))
        have HDp := Lib.hid (rd_depth HKd.out hD).1
        obtain ⟨A3, c3, A3', c3', rfl⟩ := HCl.out _ _ _ hv
        have HB2 := nx HBr hb2
        have HB2s := Lib.hid HB2.out.size
        have hsr2 := hb2.size
        have HBW := Lib.hid hb2
        have HV2 := Lib.hid (hv.keep (S' := fun b => b < w2.heap.size) (fun _ _ => rfl) (fun b h => h.2))
        clear hb2 HBr hfl hsz hjv hjb hkb hE hveq hv hD
        go_upto_region 9 with fail
        have g3 : (w2.alloc (.cells #[.int .i64 k2, .bool b2, .int .i64 i2, .float .f64 f2, .string t2, .string y2, .slice A3 is2.length c3, .slice A3' fs2.length c3'] 29)).heap[w2.heap.size]? = some (.cells #[.int .i64 k2, .bool b2, .int .i64 i2, .float .f64 f2, .string t2, .string y2, .slice A3 is2.length c3, .slice A3' fs2.length c3'] 29) := heap_alloc_new _ _
        have hb3 : Below w2.heap.size w2 (w2.alloc (.cells #[.int .i64 k2, .bool b2, .int .i64 i2, .float .f64 f2, .string t2, .string y2, .slice A3 is2.length c3, .slice A3' fs2.length c3'] 29)) := (Below.refl _ _).alloc (Nat.le_refl _) _
        generalize (w2.alloc (.cells #[.int .i64 k2, .bool b2, .int .i64 i2, .float .f64 f2, .string t2, .string y2, .slice A3 is2.length c3, .slice A3' fs2.length c3'] 29)) = w3 at *
        have HB3 := nx HB2 hb3
        have hl3 := blk_lt g3
        have HBW3 := nx HBW hb3
        have HV3 := vb HV2 hb3
        have hcw := HCw.out w3 HBW3.out
        have hcs := HCs.out w3 HB3.out
        have x3 : ∀ W : World, (Op.stringOp .add (bt wl) (bt s)).run Tryz.prog W = .ok (.string (bt (wl ++ s))) W := fun W => by rw [← bt_app]; exact run_string_add_sum _ _ _ (by rw [bt_size, bt_size, HWl.out, HLs.out]; omega)
        have x4 := conv_strJ (bt (wl ++ s)) w3
        have hbyw := mem2 HWb.out HBs.out
        have HX := Lib.hid (HM.out w3 (wl ++ s) d N0 (by rw [List.length_append, HWl.out, HLs.out]; omega) (tok_le (by rw [List.length_append, HWl.out, HLs.out]; omega)) hbyw HB3.out (by rw [List.length_append, HWl.out, HLs.out]; omega))
        have hbw := below_bytesW w3 (bt (wl ++ s))
        have hs3 := hb3.size
        have g5 := bb g3 hbw
        have HB5 := nx HB3 hbw
        have HBW5 := nx HBW3 hbw
        have HV5 := vb HV3 hbw
        have hs5 := hbw.size
        clear hb3 HB2 HBW HBW3 g3 hbw HB3 HV2 HV3 hbyw
        go_wp2_with fail
        refine HX.out.mono ?_
        rintro e w6 hQ6
        rw [HLaw.out.2.2.2] at hQ6
        obtain ⟨hb6, ds, rfl, hv6⟩ := hQ6
        generalize Lib.bytesWorld w3 5 (bt (wl ++ s)) = w5 at *
        obtain ⟨A4, c4, A4', c4', rfl⟩ := HCl.out _ _ _ hv6
        have hs6 := hb6.size
        have g6 := bb g5 hb6
        have HB6 := nx HB5 hb6
        have HBW6 := nx HBW5 hb6
        have HV6 := vb HV5 hb6
        have HY6 := Lib.hid hv6
        clear hcw hcs x3 x4 HX hb6 g5 HB5 HBW5 HV5 hv6
        go_upto_region 10 with fail
        have e7 : (w6.alloc (.cells #[.int .i64 k2, .bool b2, .int .i64 i2, .float .f64 f2, .string t2, .string y2, .slice A4 is2.length c4, .slice A4' fs2.length c4'] 29)).heap[w6.heap.size]? = some (.cells #[.int .i64 k2, .bool b2, .int .i64 i2, .float .f64 f2, .string t2, .string y2, .slice A4 is2.length c4, .slice A4' fs2.length c4'] 29) := heap_alloc_new _ _
        have hb7 : Below w6.heap.size w6 (w6.alloc (.cells #[.int .i64 k2, .bool b2, .int .i64 i2, .float .f64 f2, .string t2, .string y2, .slice A4 is2.length c4, .slice A4' fs2.length c4'] 29)) := (Below.refl _ _).alloc (Nat.le_refl _) _
        generalize (w6.alloc (.cells #[.int .i64 k2, .bool b2, .int .i64 i2, .float .f64 f2, .string t2, .string y2, .slice A4 is2.length c4, .slice A4' fs2.length c4'] 29)) = w7 at *
        have hs7 := hb7.size
        have HB7 := nx HB6 hb7
        have HBW7 := nx HBW6 hb7
        have HV7 := vb HV6 hb7
        have HY7 := Lib.hid (HY6.out.below (B := w6.heap.size) (fun _ h => h.2) hb7)
        have hl7 := blk_lt e7
        have g7 := bb g6 hb7
        have HG7 := Lib.hid g7
        have HE7 := Lib.hid e7
        obtain ⟨a0, a1, a2, a3, a4, a5, a6, a7⟩ := blk8 g7
        obtain ⟨b0, b1, b2', b3, b4, b5, b6, b7⟩ := blk8 e7
        have HAl := Lib.hid (HA.out w7 _ _ _ _ HV7.out HY7.out (fun b h => Nat.lt_of_lt_of_le h (by omega)) (fun b h => Nat.lt_of_lt_of_le h.2 (by omega)))
        clear hb7 g6 g7 e7 HB6 HBW6 HV6 HY6 HY7
        go_wp2_with fail
        refine HAl.out.mono ?_
        rintro e w8 ⟨rfl, hb8⟩
        have hs8 := hb8.size
        have g8 := bb HG7.out hb8
        have e8 := bb HE7.out hb8
        have HB8 := nx HB7 hb8
        have HBW8 := nx HBW7 hb8
        have HV8 := vb HV7 hb8
        clear a0 a1 a2 a3 a4 a5 a6 a7 b0 b1 b2' b3 b4 b5 b6 b7 hb8 HAl HB7 HBW7 HV7 HG7 HE7
        have hcw := HCw.out w8 HBW8.out
        have hcs := HCs.out w8 HB8.out
        have x3 : ∀ W : World, (Op.stringOp .add (bt s) (bt wl)).run Tryz.prog W = .ok (.string (bt (s ++ wl))) W := fun W => by rw [← bt_app]; exact run_string_add_sum _ _ _ (by rw [bt_size, bt_size, HWl.out, HLs.out]; omega)
        have x4 := conv_strJ (bt (s ++ wl)) w8
        have hbyw := mem2 HBs.out HWb.out
        have HX := Lib.hid (HM.out w8 (s ++ wl) d N0 (by rw [List.length_append, HWl.out, HLs.out]; omega) (tok_le (by rw [List.length_append, HWl.out, HLs.out]; omega)) hbyw HB8.out (by rw [List.length_append, HWl.out, HLs.out]; omega))
        have hbw := below_bytesW w8 (bt (s ++ wl))
        have g9 := bb g8 hbw
        have e9 := bb e8 hbw
        have HB9 := nx HB8 hbw
        have HBW9 := nx HBW8 hbw
        have HV9 := vb HV8 hbw
        have hs9 := hbw.size
        clear g8 e8 hbw HB8 HBW8 HV8 hbyw
        go_wp2_with fail
        refine HX.out.mono ?_
        rintro e w10 hQ10
        rw [HLaw.out.2.2.1] at hQ10
        obtain ⟨hb10, es, rfl, hv10⟩ := hQ10
        generalize Lib.bytesWorld w8 5 (bt (s ++ wl)) = w9 at *
        obtain ⟨A5, c5, A5', c5', rfl⟩ := HCl.out _ _ _ hv10
        have hs10 := hb10.size
        have g10 := bb g9 hb10
        have e10 := bb e9 hb10
        have HB10 := nx HB9 hb10
        have HBW10 := nx HBW9 hb10
        have HV10 := vb HV9 hb10
        have HY10 := Lib.hid hv10
        clear hcw hcs x3 x4 HX hb10 g9 e9 HB9 HBW9 HV9 hv10
        obtain ⟨b0, b1, b2', b3, b4, b5, b6, b7⟩ := blk8 e10
        have fz := blk_frozen e10
        go_upto_region 15 with fail
        obtain ⟨w11, hw11, q1, q2, q3⟩ := set8 e10 (.int .i64 k2) (.bool b2) (.int .i64 i2) (.float .f64 f2) (.string t2) (.string y2) (.slice A5 is2.length c5) (.slice A5' fs2.length c5')
        rw [hw11]
        have g11 := (q3 w2.heap.size (by omega)).trans g10
        have HB11 := Lib.hid (HB10.out.trans (q2 w.heap.size (by have := HB2s.out; omega)))
        have HBW11 := Lib.hid (HBW10.out.trans (q2 wr.heap.size (by omega)))
        have HV11 := Lib.hid (HV10.out.keep (S' := fun b => b < w2.heap.size) (fun p hp => World.cell?_of_block (q3 _ (Nat.ne_of_lt (Nat.lt_of_lt_of_le hp (by omega))))) (fun b h => h))
        have HY11 := Lib.hid (HY10.out.keep (S' := fun b => b < w10.heap.size) (fun p hp => World.cell?_of_block (q3 _ (by have := hp.1; omega))) (fun b h => h.2))
        have hs11 := (q2 0 (by omega)).size
        have HG11 := Lib.hid g11
        obtain ⟨a0, a1, a2, a3, a4, a5, a6, a7⟩ := blk8 g11
        clear b0 b1 b2' b3 b4 b5 b6 b7 fz e10 g10 HB10 HBW10 HV10 HY10 hw11 q2 q3
        obtain ⟨b0, b1, b2', b3, b4, b5, b6, b7⟩ := blk8 q1
        have HAl := Lib.hid (HA.out w11 _ _ _ _ HV11.out HY11.out (fun b h => Nat.lt_of_lt_of_le h (by omega)) (fun b h => Nat.lt_of_lt_of_le h (by omega)))
        clear q1 HY11 g11
        go_wp2_with fail
        refine HAl.out.mono ?_
        rintro e w12 ⟨rfl, hb12⟩
        have g12 := bb HG11.out hb12
        have HB12 := nx HB11 hb12
        have HBW12 := nx HBW11 hb12
        have HV12 := vb HV11 hb12
        have hs12 := hb12.size
        clear a0 a1 a2 a3 a4 a5 a6 a7 b0 b1 b2' b3 b4 b5 b6 b7 hb12 HAl HB11 HBW11 HV11 HG11
        obtain ⟨m0, hm0⟩ : ∃ m0 : Nat, max d 0 = (m0 : Int) := ⟨(max d 0).toNat, by omega⟩
        obtain ⟨m1, hm1, hm2⟩ : ∃ m1 : Nat, min (m0 : Int) 199 = (m1 : Int) ∧ m1 = min (dep d) 199 := ⟨(min (m0 : Int) 199).toNat, by omega, by unfold dep; omega⟩
        have hm3 : m1 ≤ 199 := by omega
        have hde : (200 ≤ d ∧ dep 201 = m1 + 1) ∨ (d < 200 ∧ dep ((m1 : Int) + 1) = m1 + 1) := by
          by_cases h : 200 ≤ d
          · left; unfold dep at *; omega
          · right; unfold dep at *; omega
        obtain ⟨E, hE1, hE2⟩ : ∃ E : Int, ((200 ≤ d ∧ E = 201) ∨ (d < 200 ∧ E = (m1 : Int) + 1)) ∧ dep E = m1 + 1 := by
          rcases hde with ⟨h1, h2⟩ | ⟨h1, h2⟩
          · exact ⟨201, .inl ⟨h1, rfl⟩, h2⟩
          · exact ⟨_, .inr ⟨h1, rfl⟩, h2⟩
        have HM2 := Lib.hid hm2
        clear hde hm2
        rcases hE1 with ⟨hd2, rfl⟩ | ⟨hd2, rfl⟩
        all_goals
          go_upto_region 20 with fail
          have hcw := HCw.out w12 HBW12.out
          have hcs := HCs.out w12 HB12.out
          have hls := HLs.out
          have hlw := HWl.out
          obtain ⟨L1, hL1⟩ : ∃ L, L = wl ++ 91 :: (s ++ 44 :: (wl ++ s ++ [93])) := ⟨_, rfl⟩
          obtain ⟨T1, hT1⟩ : ∃ L, L = wl ++ [91] := ⟨_, rfl⟩
          obtain ⟨T2, hT2⟩ : ∃ L, L = T1 ++ s := ⟨_, rfl⟩
          obtain ⟨T3, hT3⟩ : ∃ L, L = T2 ++ [44] := ⟨_, rfl⟩
          obtain ⟨T4, hT4⟩ : ∃ L, L = T3 ++ wl := ⟨_, rfl⟩
          obtain ⟨T5, hT5⟩ : ∃ L, L = T4 ++ s := ⟨_, rfl⟩
          have hT6 : L1 = T5 ++ [93] := by subst hT5 hT4 hT3 hT2 hT1 hL1; simp
          have l1 : T1.length = q + 1 := by rw [hT1]; simp [hlw]
          have l2 : T2.length = q + 1 + n := by rw [hT2]; simp [l1, hls]
          have l3 : T3.length = q + 2 + n := by rw [hT3]; simp [l2]; omega
          have l4 : T4.length = 2 * q + 2 + n := by rw [hT4]; simp [l3, hlw]; omega
          have l5 : T5.length = 2 * q + 2 + 2 * n := by rw [hT5]; simp [l4, hls]; omega
          have l6 : L1.length = 2 * (q + n) + 3 := by rw [hT6]; simp [l5]; omega
          have z1 := add_bt wl [91] (B := { data := #[91] }) rfl (by simp; omega)
          have z2 := add_bt T1 s rfl (by omega)
          have z3 := add_bt T2 [44] (B := { data := #[44] }) rfl (by simp; omega)
          have z4 := add_bt T3 wl rfl (by omega)
          have z5 := add_bt T4 s rfl (by omega)
          have z6 := add_bt T5 [93] (B := { data := #[93] }) rfl (by simp; omega)
          rw [← hT1] at z1
          rw [← hT2] at z2
          rw [← hT3] at z3
          rw [← hT4] at z4
          rw [← hT5] at z5
          rw [← hT6] at z6
          have HTk : Hid (∀ p, pE (L1.drop p) ≤ 1100000) := Lib.hid fun p => by
            have e : L1 = (wl ++ 91 :: s) ++ 44 :: (wl ++ s ++ [93]) := by rw [hL1]; simp
            rw [e]
            exact tok_sep (.inl rfl) (by simp; omega) (by simp; omega) p
          have HL1b : ∀ x ∈ L1, x < 256 := fun x hx => by
            rw [hL1] at hx
            simp only [List.mem_append, List.mem_cons, List.not_mem_nil, or_false] at hx
            rcases hx with h | h | h | h | (h | h) | h
            · exact HWb.out x h
            · omega
            · exact HBs.out x h
            · omega
            · exact HWb.out x h
            · exact HBs.out x h
            · omega
          have x4 := conv_strJ (bt L1) w12
          have HX := Lib.hid (fun E => HM.out w12 L1 E N (by omega) HTk.out HL1b HB12.out (by omega))
          have hbw := below_bytesW w12 (bt L1)
          have HL1 := Lib.hid hL1
          clear HTk HL1b hL1 hT1 hT2 hT3 hT4 hT5 hT6 l1 l2 l3 l4 l5
          go_wp2_with fail
          refine (HX.out _).mono ?_
          rintro e w14 hQ14
          rw [hE2] at hQ14
          have HB13 := nx HB12 hbw
          have HBW13 := nx HBW12 hbw
          have g13 := bb g12 hbw
          have HV13 := vb HV12 hbw
          have hs13 := hbw.size
          generalize Lib.bytesWorld w12 5 (bt L1) = w13 at *
          clear hcw hcs z1 z2 z3 z4 z5 z6 x4 HX hbw g12 HB12 HBW12 HV12
          obtain ⟨L2, hL2⟩ : ∃ L, L = 123 :: 34 :: 107 :: 34 :: (wl ++ 58 :: (s ++ [125])) := ⟨_, rfl⟩
          obtain ⟨T1, hT1⟩ : ∃ L, L = [123, 34, 107, 34] ++ wl := ⟨_, rfl⟩
          obtain ⟨T2, hT2⟩ : ∃ L, L = T1 ++ [58] := ⟨_, rfl⟩
          obtain ⟨T3, hT3⟩ : ∃ L, L = T2 ++ s := ⟨_, rfl⟩
          have hT4 : L2 = T3 ++ [125] := by subst hT3 hT2 hT1 hL2; simp
          have l1 : T1.length = q + 4 := by rw [hT1]; simp [hlw]
          have l2 : T2.length = q + 5 := by rw [hT2]; simp [l1]
          have l3 : T3.length = q + 5 + n := by rw [hT3]; simp [l2, hls]
          have l4 : L2.length = q + n + 6 := by rw [hT4]; simp [l3]; omega
          have z1 := add_bt' [123, 34, 107, 34] wl (B := { data := #[123, 34, 107, 34] }) rfl (by simp; omega)
          have z2 := add_bt T1 [58] (B := { data := #[58] }) rfl (by simp; omega)
          have z3 := add_bt T2 s rfl (by omega)
          have z4 := add_bt T3 [125] (B := { data := #[125] }) rfl (by simp; omega)
          rw [← hT1] at z1
          rw [← hT2] at z2
          rw [← hT3] at z3
          rw [← hT4] at z4
          have HL2b : ∀ x ∈ L2, x < 256 := fun x hx => by
            rw [hL2] at hx
            simp only [List.mem_append, List.mem_cons, List.not_mem_nil, or_false] at hx
            rcases hx with h | h | h | h | h | h | h | h
            · omega
            · omega
            · omega
            · omega
            · exact HWb.out x h
            · omega
            · exact HBs.out x h
            · omega
          have HL2 := Lib.hid hL2
          clear hL2 hT1 hT2 hT3 hT4 l1 l2 l3
          by_cases hdp : dpt v ≤ m1
          · have hv1 := (val_less HNf.out HKd.out (d := m1) HLaw.out.1 (Nat.le_refl N0)).1 hdp
            obtain ⟨kl, hkl⟩ := rd_list HNf.out (m := N) hv1 HLaw.out.2.1 HBl.out (by omega)
            obtain ⟨ko, hko⟩ := rd_obj HNf.out (m := N) hv1 HLaw.out.2.1 HBl.out (by omega)
            rw [← HL1.out] at hkl
            rw [hkl] at hQ14
            obtain ⟨hb14, ls, rfl, hv14⟩ := hQ14
            unfold listV at hv14
            simp only [IsV, List.length_cons, List.length_nil, Nat.zero_add] at hv14
            obtain ⟨A8, c8, A8', c8', rfl, _, _, hI, _⟩ := hv14
            obtain ⟨ai, ci0, rfl, hS0, hC0, hW0⟩ := hI.at_ (i := 0) rfl
            obtain ⟨ai', ci1, hai, hS1, hC1, hW1⟩ := hI.at_ (i := 1) rfl
            injection hai with hai
            subst hai
            have HB14 := nx HB13 hb14
            have HBW14 := nx HBW13 hb14
            have g14 := bb g13 hb14
            have HV14 := vb HV13 hb14
            have hs14 := hb14.size
            have hal : ai.block < w14.heap.size := hS0.2
            have HI0 := Lib.hid (hW0.keep (S' := fun b => b < w14.heap.size) (fun _ _ => rfl) (fun b h => h.2))
            have HI1 := Lib.hid (hW1.keep (S' := fun b => b < w14.heap.size) (fun _ _ => rfl) (fun b h => h.2))
            have HC0 := Lib.hid hC0
            have HC1 := Lib.hid hC1
            clear hb14 g13 HB13 HBW13 HV13 hkl hI hS0 hS1 hC0 hC1 hW0 hW1 hv1
            go_upto_region 21 with fail
            have e15 : (w14.alloc (.cells #[.int .i64 5, .bool false, .int .i64 0, .float .f64 0, .string ByteArray.empty, .string ByteArray.empty, .slice (some ai) 2 c8, .slice A8' 0 c8'] 29)).heap[w14.heap.size]? = some (.cells #[.int .i64 5, .bool false, .int .i64 0, .float .f64 0, .string ByteArray.empty, .string ByteArray.empty, .slice (some ai) 2 c8, .slice A8' 0 c8'] 29) := heap_alloc_new _ _
            have hb15 : Below w14.heap.size w14 (w14.alloc (.cells #[.int .i64 5, .bool false, .int .i64 0, .float .f64 0, .string ByteArray.empty, .string ByteArray.empty, .slice (some ai) 2 c8, .slice A8' 0 c8'] 29)) := (Below.refl _ _).alloc (Nat.le_refl _) _
            generalize (w14.alloc (.cells #[.int .i64 5, .bool false, .int .i64 0, .float .f64 0, .string ByteArray.empty, .string ByteArray.empty, .slice (some ai) 2 c8, .slice A8' 0 c8'] 29)) = w15 at *
            have HB15 := nx HB14 hb15
            have HBW15 := nx HBW14 hb15
            have g15 := bb g14 hb15
            have HV15 := vb HV14 hb15
            have HB14w := Lib.hid hb15
            have hs15 := hb15.size
            clear hb15 g14 HB14 HBW14 HV14
            have hcw := HCw.out w15 HBW15.out
            have hcs := HCs.out w15 HB15.out
            have x4 := conv_strJ (bt L2) w15
            have HX := Lib.hid (fun E => HM.out w15 L2 E N (by omega) (tok_le (by omega)) HL2b HB15.out (by omega))
            have hbw := below_bytesW w15 (bt L2)
            go_wp2_with fail
            refine (HX.out _).mono ?_
            rintro e w17 hQ17
            rw [hE2] at hQ17
            rw [← HL2.out] at hko
            rw [hko] at hQ17
            obtain ⟨hb17, os, rfl, hv17⟩ := hQ17
            unfold objV at hv17
            simp only [IsV, List.length_cons, List.length_nil, Nat.zero_add] at hv17
            obtain ⟨A9, c9, A9', c9', rfl, _, _, _, hF⟩ := hv17
            obtain ⟨am, cm, rfl, hSm, hCm, hWm⟩ := hF.at_ (i := 0) rfl
            have HB16 := nx HB15 hbw
            have g16 := bb g15 hbw
            have e16 := bb e15 hbw
            have HV16 := vb HV15 hbw
            have HB1416 := Lib.hid (HB14w.out.trans (hbw.mono (by omega)))
            have hs16 := hbw.size
            generalize Lib.bytesWorld w15 5 (bt L2) = w16 at *
            have HB17 := nx HB16 hb17
            have g17 := bb g16 hb17
            have e17 := bb e16 hb17
            have HV17 := vb HV16 hb17
            have HB1417 := Lib.hid (HB1416.out.trans (hb17.mono (by omega)))
            have hs17 := hb17.size
            have hml : am.block < w17.heap.size := hSm.2
            have HIm := Lib.hid (hWm.keep (S' := fun b => b < w17.heap.size) (fun _ _ => rfl) (fun b h => h.2))
            have HCm := Lib.hid hCm
            clear hcw hcs z1 z2 z3 z4 x4 HX hbw g15 e15 HB15 HBW15 HV15 hb17 g16 e16 HB16 HV16 hko HB14w HB1416 hF hSm hCm hWm
            go_upto_region 22 with fail
            have f18 : (w17.alloc (.cells #[.int .i64 6, .bool false, .int .i64 0, .float .f64 0, .string ByteArray.empty, .string ByteArray.empty, .slice A9 0 c9, .slice (some am) 1 c9'] 29)).heap[w17.heap.size]? = some (.cells #[.int .i64 6, .bool false, .int .i64 0, .float .f64 0, .string ByteArray.empty, .string ByteArray.empty, .slice A9 0 c9, .slice (some am) 1 c9'] 29) := heap_alloc_new _ _
            have hb18 : Below w17.heap.size w17 (w17.alloc (.cells #[.int .i64 6, .bool false, .int .i64 0, .float .f64 0, .string ByteArray.empty, .string ByteArray.empty, .slice A9 0 c9, .slice (some am) 1 c9'] 29)) := (Below.refl _ _).alloc (Nat.le_refl _) _
            generalize (w17.alloc (.cells #[.int .i64 6, .bool false, .int .i64 0, .float .f64 0, .string ByteArray.empty, .string ByteArray.empty, .slice A9 0 c9, .slice (some am) 1 c9'] 29)) = w18 at *
            have HB18 := nx HB17 hb18
            have HB1418 := Lib.hid (HB1417.out.trans (hb18.mono (by omega)))
            have hs18 := hb18.size
            have HV18 := vb HV17 hb18
            have HM18 := Lib.hid (HIm.out.below (B := w17.heap.size) (fun _ h => h) hb18)
            have HJ0 := Lib.hid (HI0.out.below (B := w14.heap.size) (fun _ h => h) HB1418.out)
            have HJ1 := Lib.hid (HI1.out.below (B := w14.heap.size) (fun _ h => h) HB1418.out)
            obtain ⟨a0, a1, a2, a3, a4, a5, a6, a7⟩ := blk8 (bb g17 hb18)
            obtain ⟨b0, b1, b2', b3, b4, b5, b6, b7⟩ := blk8 (bb e17 hb18)
            obtain ⟨o0, o1, o2, o3, o4, o5, o6, o7⟩ := blk8 f18
            obtain ⟨A10, c10, A10', c10', rfl⟩ := HCl.out _ _ _ HJ0.out
            obtain ⟨A11, c11, A11', c11', rfl⟩ := HCl.out _ _ _ HJ1.out
            obtain ⟨A12, c12, A12', c12', rfl⟩ := HCl.out _ _ _ HM18.out
            have p0 := (HC0.out.keep (S := fun b => b < w14.heap.size) (by rw [add_block]; exact hal) (fun p hp => HB1418.out.cell hp)).eight
            have p1 := (HC1.out.keep (S := fun b => b < w14.heap.size) (by rw [add_block]; exact hal) (fun p hp => HB1418.out.cell hp)).eight
            have pm := (HCm.out.keep (S := fun b => b < w17.heap.size) (by rw [add_block]; exact hml) (fun p hp => hb18.cell hp)).nine
            have hKa := Lib.hid (fun (W : World) (hW : Below w18.heap.size w18 W) => HA.out W _ _ _ _ (HJ0.out.below (fun _ h => Nat.lt_of_lt_of_le h (by omega)) hW) (HV18.out.below (fun _ h => Nat.lt_of_lt_of_le h (by omega)) hW) (fun b h => Nat.lt_of_lt_of_le h (by have := hW.size; omega)) (fun b h => Nat.lt_of_lt_of_le h (by have := hW.size; omega)))
            have hKb := Lib.hid (fun (W : World) (hW : Below w18.heap.size w18 W) => HA.out W _ _ _ _ (HJ1.out.below (fun _ h => Nat.lt_of_lt_of_le h (by omega)) hW) (HV18.out.below (fun _ h => Nat.lt_of_lt_of_le h (by omega)) hW) (fun b h => Nat.lt_of_lt_of_le h (by have := hW.size; omega)) (fun b h => Nat.lt_of_lt_of_le h (by have := hW.size; omega)))
            have hKm := Lib.hid (fun (W : World) (hW : Below w18.heap.size w18 W) => HA.out W _ _ _ _ (HM18.out.below (fun _ h => Nat.lt_of_lt_of_le h (by omega)) hW) (HV18.out.below (fun _ h => Nat.lt_of_lt_of_le h (by omega)) hW) (fun b h => Nat.lt_of_lt_of_le h (by have := hW.size; omega)) (fun b h => Nat.lt_of_lt_of_le h (by have := hW.size; omega)))
            clear hb18 g17 e17 f18 HB17 HV17 HV18 HM18 HJ0 HJ1 HI0 HI1 HIm HC0 HC1 HCm
            go_upto_region 24 with fail
            have hkey : bt [107] = { data := #[107] } := rfl
            rw [hkey] at pm
            obtain ⟨d0, d1, d2, d3, d4, d5, d6, d7⟩ := p0
            obtain ⟨n0, n1, nn2, n3, n4, n5, n6, n7⟩ := p1
            obtain ⟨q0, q1, q2, q3, q4, q5, q6, q7, q8⟩ := pm
            replace d0 : w18.cell? ai = _ := d0
            clear b1 b2' b3 b4 b5 b7 o1 o2 o3 o4 o5 o6
            clear hnc hcm hiv hv0 hv1 hv2 hN HM HCs HBs HNf H64 HKd HSm HLs hs1 hszr hn hN0 hq hlt HO HCw HBl HWb HWl hkn HA HT HCl HLaw HDp HB2s hsr2 hl3 hs3 hs5 hs6 hs7 hl7 hs8 hs9 hs10 hs11 hs12 hm0 hm1 hm3 HM2 hd2 hE2 hls hlw l6 HL1 hs13 hdp hs14 hal hs15 l4 HL2 hs16 HB1417 hs17 hml HB1418 hs18 hkey
            go_region_held3 (fun w' => ShB w18 w' ∧ w'.cell? ⟨w2.heap.size, 0, none⟩ = some (.int .i64 k2) ∧ w'.cell? ⟨w2.heap.size, 1, none⟩ = some (.bool b2) ∧ w'.cell? ⟨w2.heap.size, 2, none⟩ = some (.int .i64 i2) ∧ w'.cell? ⟨w2.heap.size, 3, none⟩ = some (.float .f64 f2) ∧ w'.cell? ⟨w2.heap.size, 4, none⟩ = some (.string t2) ∧ w'.cell? ⟨w2.heap.size, 5, none⟩ = some (.string y2) ∧ w'.cell? ⟨w2.heap.size, 6, none⟩ = some (.slice A3 is2.length c3) ∧ w'.cell? ⟨w2.heap.size, 7, none⟩ = some (.slice A3' fs2.length c3') ∧ w'.cell? ⟨w14.heap.size, 0, none⟩ = some (.int .i64 5) ∧ w'.cell? ⟨w14.heap.size, 6, none⟩ = some (.slice (some ai) 2 c8) ∧ w'.cell? ⟨w17.heap.size, 0, none⟩ = some (.int .i64 6) ∧ w'.cell? ⟨w17.heap.size, 7, none⟩ = some (.slice (some am) 1 c9') ∧ w'.cell? ai = some (.int .i64 k2) ∧ w'.cell? ⟨ai.block, ai.off + 1, none⟩ = some (.bool b2) ∧ w'.cell? ⟨ai.block, ai.off + 2, none⟩ = some (.int .i64 i2) ∧ w'.cell? ⟨ai.block, ai.off + 3, none⟩ = some (.float .f64 f2) ∧ w'.cell? ⟨ai.block, ai.off + 4, none⟩ = some (.string t2) ∧ w'.cell? ⟨ai.block, ai.off + 5, none⟩ = some (.string y2) ∧ w'.cell? ⟨ai.block, ai.off + 6, none⟩ = some (.slice A10 is2.length c10) ∧ w'.cell? ⟨ai.block, ai.off + 7, none⟩ = some (.slice A10' fs2.length c10') ∧ w'.cell? ⟨ai.block, ai.off + 8, none⟩ = some (.int .i64 k2) ∧ w'.cell? ⟨ai.block, ai.off + 8 + 1, none⟩ = some (.bool b2) ∧ w'.cell? ⟨ai.block, ai.off + 8 + 2, none⟩ = some (.int .i64 i2) ∧ w'.cell? ⟨ai.block, ai.off + 8 + 3, none⟩ = some (.float .f64 f2) ∧ w'.cell? ⟨ai.block, ai.off + 8 + 4, none⟩ = some (.string t2) ∧ w'.cell? ⟨ai.block, ai.off + 8 + 5, none⟩ = some (.string y2) ∧ w'.cell? ⟨ai.block, ai.off + 8 + 6, none⟩ = some (.slice A11 is2.length c11) ∧ w'.cell? ⟨ai.block, ai.off + 8 + 7, none⟩ = some (.slice A11' fs2.length c11') ∧ w'.cell? am = some (.string { data := #[107] }) ∧ w'.cell? ⟨am.block, am.off + 1, none⟩ = some (.int .i64 k2) ∧ w'.cell? ⟨am.block, am.off + 1 + 1, none⟩ = some (.bool b2) ∧ w'.cell? ⟨am.block, am.off + 1 + 2, none⟩ = some (.int .i64 i2) ∧ w'.cell? ⟨am.block, am.off + 1 + 3, none⟩ = some (.float .f64 f2) ∧ w'.cell? ⟨am.block, am.off + 1 + 4, none⟩ = some (.string t2) ∧ w'.cell? ⟨am.block, am.off + 1 + 5, none⟩ = some (.string y2) ∧ w'.cell? ⟨am.block, am.off + 1 + 6, none⟩ = some (.slice A12 is2.length c12) ∧ w'.cell? ⟨am.block, am.off + 1 + 7, none⟩ = some (.slice A12' fs2.length c12'))
              (first | exact ⟨(Below.refl _ _).drew, a0, a1, a2, a3, a4, a5, a6, a7, b0, b6, o0, o7, d0, d1, d2, d3, d4, d5, d6, d7, n0, n1, nn2, n3, n4, n5, n6, n7, q0, q1, q2, q3, q4, q5, q6, q7, q8⟩ | (have hBn := sh_next hb3 (by with_reducible assumption); have kk := fun (a : Addr) (u : Value) (hh : w18.cell? a = some u) => (Below.cell (p := a) hBn (World.block_lt_of_cell? w18 a hh)).trans hh; exact ⟨hBn, kk _ _ a0, kk _ _ a1, kk _ _ a2, kk _ _ a3, kk _ _ a4, kk _ _ a5, kk _ _ a6, kk _ _ a7, kk _ _ b0, kk _ _ b6, kk _ _ o0, kk _ _ o7, kk _ _ d0, kk _ _ d1, kk _ _ d2, kk _ _ d3, kk _ _ d4, kk _ _ d5, kk _ _ d6, kk _ _ d7, kk _ _ n0, kk _ _ n1, kk _ _ nn2, kk _ _ n3, kk _ _ n4, kk _ _ n5, kk _ _ n6, kk _ _ n7, kk _ _ q0, kk _ _ q1, kk _ _ q2, kk _ _ q3, kk _ _ q4, kk _ _ q5, kk _ _ q6, kk _ _ q7, kk _ _ q8⟩))
              (first | (go_at_call 15; go_must ((first | (with_reducible refine (hKa.out _ ?_).mono ?_) | (with_reducible refine (hKb.out _ ?_).mono ?_) | (with_reducible refine (hKm.out _ ?_).mono ?_)); (all_goals first | exact (Below.refl _ _).drew | exact sh_at (by with_reducible assumption) | skip); rintro e wc ⟨rfl, hb3⟩)))
            all_goals
              go_wp2_with fail
              go_ret
              exact ⟨rfl, HB18.out.trans ((sh_at (by with_reducible assumption)).mono HB18.out.size)⟩
          · obtain ⟨kl, hkl⟩ := rd_list_deep HNf.out HKd.out (m := N) (d := m1) (t := 44 :: (wl ++ s ++ [93])) HLaw.out.1 (by omega) HBl.out (by omega)
            rw [← HL1.out] at hkl
            rw [hkl] at hQ14
            obtain ⟨hb14, rfl⟩ := hQ14
            have HB14 := nx HB13 hb14
            have HBW14 := nx HBW13 hb14
            have g14 := bb g13 hb14
            have HV14 := vb HV13 hb14
            have hs14 := hb14.size
            clear hb14 g13 HB13 HBW13 HV13 hkl
            go_upto_region 21 with fail
            have hb15 : Below w14.heap.size w14 (w14.alloc (.cells #[.int .i64 0, .bool false, .int .i64 0, .float .f64 0, .string { data := #[] }, .string { data := #[] }, .slice none 0 0, .slice none 0 0] 29)) := (Below.refl _ _).alloc (Nat.le_refl _) _
            generalize (w14.alloc (.cells #[.int .i64 0, .bool false, .int .i64 0, .float .f64 0, .string { data := #[] }, .string { data := #[] }, .slice none 0 0, .slice none 0 0] 29)) = w15 at *
            have HB15 := nx HB14 hb15
            have HBW15 := nx HBW14 hb15
            have g15 := bb g14 hb15
            have HV15 := vb HV14 hb15
            have hs15 := hb15.size
            clear hb15 g14 HB14 HBW14 HV14
            have hcw := HCw.out w15 HBW15.out
            have hcs := HCs.out w15 HB15.out
            have x4 := conv_strJ (bt L2) w15
            have HX := Lib.hid (fun E => HM.out w15 L2 E N (by omega) (tok_le (by omega)) HL2b HB15.out (by omega))
            have hbw := below_bytesW w15 (bt L2)
            go_wp2_with fail
            refine (HX.out _).mono ?_
            rintro e w17 hQ17
            rw [hE2] at hQ17
            obtain ⟨ko, hko⟩ := rd_obj_deep HNf.out HKd.out (m := N) (d := m1) (t := [125]) HLaw.out.1 (by omega) HBl.out (by omega)
            rw [← HL2.out] at hko
            rw [hko] at hQ17
            obtain ⟨hb17, rfl⟩ := hQ17
            have HB16 := nx HB15 hbw
            have g16 := bb g15 hbw
            have HV16 := vb HV15 hbw
            have hs16 := hbw.size
            generalize Lib.bytesWorld w15 5 (bt L2) = w16 at *
            have HB17 := nx HB16 hb17
            have g17 := bb g16 hb17
            have HV17 := vb HV16 hb17
            have hs17 := hb17.size
            clear hcw hcs z1 z2 z3 z4 x4 HX hbw g15 HB15 HBW15 HV15 hb17 g16 HB16 HV16 hko
            go_upto_region 22 with fail
            have hb18 : Below w17.heap.size w17 (w17.alloc (.cells #[.int .i64 0, .bool false, .int .i64 0, .float .f64 0, .string { data := #[] }, .string { data := #[] }, .slice none 0 0, .slice none 0 0] 29)) := (Below.refl _ _).alloc (Nat.le_refl _) _
            generalize (w17.alloc (.cells #[.int .i64 0, .bool false, .int .i64 0, .float .f64 0, .string { data := #[] }, .string { data := #[] }, .slice none 0 0, .slice none 0 0] 29)) = w18 at *
            have HB18 := nx HB17 hb18
            obtain ⟨a0, a1, a2, a3, a4, a5, a6, a7⟩ := blk8 (bb g17 hb18)
            have HTd := Lib.hid (HT.out w18 _ _ (vb HV17 hb18).out (fun b h => Nat.lt_of_lt_of_le h (by have := hb18.size; omega)))
            have hd2' : dpt v = 200 := by
              have h1 := HDp.out
              have h2 := HM2.out
              have h3 : dep d ≤ 200 := by unfold dep; omega
              omega
            rw [hd2'] at HTd
            clear hb18 g17 HB17 HV17 hd2' hdp
            go_wp2_with fail
            refine HTd.out.mono ?_
            rintro e w19 ⟨rfl, hb19⟩
            have HB19 := nx HB18 hb19
            clear a0 a1 a2 a3 a4 a5 a6 a7 hb19 HTd HB18
            go_wp2_with fail
            go_ret
            exact ⟨rfl, HB19.out⟩
end Go.Proofs.YtjhhdnnblcbdbaaGreatDoor.jw
end
section
namespace Go.Proofs.YtjhhdnnblcbdbaaGreatDoor.jw
open Go.RowKit mem fl big us uw pg dcm
theorem nm_kd {P : Nat} {l : List Nat} {k v : Int} {b : Nat} {er : Int} (h : Nm P l k v b er) : (k ≠ 5 ∧ k ≠ 6) ∧ b < 18446744073709551616 := by
  obtain ⟨R, hR, h⟩ := h
  unfold ans fltV at h
  split at h
  · have := numV_inj h; omega
  · rename_i h0
    split at h
    · have := numV_inj h; omega
    · rename_i h1
      split at h
      · have := numV_inj h; omega
      · have h2 := numV_inj h
        have ha : asks l := by
          unfold asks
          rcases fm_range (pfx.adv 0 l) with h3 | h3 | h3
          · exact absurd h3 h0
          · exact .inr ⟨h3, fun hf => h1 ⟨h3, hf⟩⟩
          · exact .inl h3
        have hr := (hR ha).2
        have hb := h2.2.2.1
        refine ⟨by omega, ?_⟩
        rw [← hb]
        unfold sgn
        split <;> omega
theorem fn_kd (P : Nat) (l : List Nat) : (Fn P l).1 ≠ 5 ∧ (Fn P l).1 ≠ 6 := by
  by_cases hx : ∃ x : Int × Int × Nat × Int, Nm P l x.1 x.2.1 x.2.2.1 x.2.2.2
  · obtain ⟨x, hx⟩ := hx
    rw [fn_of hx]
    exact (nm_kd hx).1
  · unfold Fn
    rw [dif_neg hx]
    decide
theorem fn_f64 (P : Nat) (l : List Nat) : (Fn P l).2.2.1 < 18446744073709551616 := by
  by_cases hx : ∃ x : Int × Int × Nat × Int, Nm P l x.1 x.2.1 x.2.2.1 x.2.2.2
  · obtain ⟨x, hx⟩ := hx
    rw [fn_of hx]
    exact (nm_kd hx).2
  · unfold Fn
    rw [dif_neg hx]
    decide
end Go.Proofs.YtjhhdnnblcbdbaaGreatDoor.jw
end
