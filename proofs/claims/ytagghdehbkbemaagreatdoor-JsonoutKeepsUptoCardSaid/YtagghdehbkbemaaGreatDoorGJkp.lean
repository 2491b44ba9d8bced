/- JsonoutKeeps, the plain part: a value's lists written over, at most three items and three members. JsonoutKeeps, the walk. -/
import Derived.Test.YtagghdehbkbemaaGreatDoorYGrw
import Derived.Test.YtagghdehbkbemaaGreatDoorGApl
import Derived.Test.YtagghdehbkbemaaGreatDoorGSnd6
import Derived.Test.YtagghdehbkbemaaGreatDoorGSmf
section
namespace Go.Proofs.YtagghdehbkbemaaGreatDoor.val
open Go.RowKit mem
set_option linter.unusedVariables false

def setI (y : V) : List V → Nat → List V
  | [], _ => []
  | _ :: r, 0 => y :: r
  | v :: r, q + 1 => v :: setI y r q
def setF (y : V) : List (ByteArray × V) → Nat → List (ByteArray × V)
  | [], _ => []
  | (s, _) :: r, 0 => (s, y) :: r
  | p :: r, q + 1 => p :: setF y r q
theorem setI_len (y : V) : ∀ (l : List V) (q : Nat), (setI y l q).length = l.length
  | [], _ => rfl
  | _ :: _, 0 => rfl
  | _ :: r, q + 1 => by simp only [setI, List.length_cons, setI_len y r q]
theorem setF_len (y : V) : ∀ (l : List (ByteArray × V)) (q : Nat), (setF y l q).length = l.length
  | [], _ => rfl
  | (_, _) :: _, 0 => rfl
  | (_, _) :: r, q + 1 => by simp only [setF, List.length_cons, setF_len y r q]
theorem setI_get (y : V) : ∀ (l : List V) (q j : Nat) (v : V), (setI y l q)[j]? = some v → (j = q ∧ v = y ∧ q < l.length) ∨ (j ≠ q ∧ l[j]? = some v)
  | [], _, _, _, h => by simp [setI] at h
  | a :: r, 0, j, v, h => by
    cases j with
    | zero => simp [setI] at h; exact .inl ⟨rfl, h.symm, by simp⟩
    | succ j => simp [setI] at h; exact .inr ⟨by omega, by simpa using h⟩
  | a :: r, q + 1, j, v, h => by
    cases j with
    | zero => simp [setI] at h; exact .inr ⟨by omega, by simpa using h⟩
    | succ j =>
      simp [setI] at h
      rcases setI_get y r q j v h with ⟨h1, h2, h3⟩ | ⟨h1, h2⟩
      · exact .inl ⟨by omega, h2, by simp; omega⟩
      · exact .inr ⟨by omega, by simpa using h2⟩
theorem setF_get (y : V) : ∀ (l : List (ByteArray × V)) (q j : Nat) (p : ByteArray × V), (setF y l q)[j]? = some p → (j = q ∧ p.2 = y ∧ ∃ p', l[j]? = some p' ∧ p'.1 = p.1) ∨ (j ≠ q ∧ l[j]? = some p)
  | [], _, _, _, h => by simp [setF] at h
  | (s, a) :: r, 0, j, v, h => by
    cases j with
    | zero => simp [setF] at h; subst h; exact .inl ⟨rfl, rfl, (s, a), by simp, rfl⟩
    | succ j => simp [setF] at h; exact .inr ⟨by omega, by simpa using h⟩
  | (s, a) :: r, q + 1, j, v, h => by
    cases j with
    | zero => simp [setF] at h; exact .inr ⟨by omega, by simpa using h⟩
    | succ j =>
      simp [setF] at h
      rcases setF_get y r q j v h with ⟨h1, h2, p', h3, h4⟩ | ⟨h1, h2⟩
      · exact .inl ⟨by omega, h2, p', by simpa using h3, h4⟩
      · exact .inr ⟨by omega, by simpa using h2⟩
theorem setI_wt (y : V) : ∀ (l : List V) (q : Nat), wts (setI y l q) ≤ wts l + wt y
  | [], _ => by simp only [setI, wts]; omega
  | _ :: _, 0 => by simp only [setI, wts]; omega
  | _ :: r, q + 1 => by have := setI_wt y r q; simp only [setI, wts]; omega
theorem setF_wt (y : V) : ∀ (l : List (ByteArray × V)) (q : Nat), wtf (setF y l q) ≤ wtf l + wt y
  | [], _ => by simp only [setF, wtf]; omega
  | (_, _) :: _, 0 => by simp only [setF, wtf]; omega
  | (_, _) :: r, q + 1 => by have := setF_wt y r q; simp only [setF, wtf]; omega
theorem setI_sz (y : V) : ∀ (l : List V) (q : Nat), szs (setI y l q) ≤ szs l + sz y
  | [], _ => by simp only [setI, szs]; omega
  | _ :: _, 0 => by simp only [setI, szs]; omega
  | _ :: r, q + 1 => by have := setI_sz y r q; simp only [setI, szs]; omega
theorem setF_sz (y : V) : ∀ (l : List (ByteArray × V)) (q : Nat), szf (setF y l q) ≤ szf l + sz y
  | [], _ => by simp only [setF, szf]; omega
  | (_, _) :: _, 0 => by simp only [setF, szf]; omega
  | (_, _) :: r, q + 1 => by have := setF_sz y r q; simp only [setF, szf]; omega
theorem setI_ok (y : V) (hy : ok y) : ∀ (l : List V) (q : Nat), oks l → oks (setI y l q)
  | [], _, h => h
  | _ :: _, 0, h => by simp only [setI, oks] at h ⊢; exact ⟨hy, h.2⟩
  | _ :: r, q + 1, h => by simp only [setI, oks] at h ⊢; exact ⟨h.1, setI_ok y hy r q h.2⟩
theorem setF_ok (y : V) (hy : ok y) : ∀ (l : List (ByteArray × V)) (q : Nat), okf l → okf (setF y l q)
  | [], _, h => h
  | (_, _) :: _, 0, h => by simp only [setF, okf] at h ⊢; exact ⟨h.1, hy, h.2.2⟩
  | (_, _) :: r, q + 1, h => by simp only [setF, okf] at h ⊢; exact ⟨h.1, h.2.1, setF_ok y hy r q h.2.2⟩
def rpI (y : V) (l : List V) : Nat → List V
  | 0 => l
  | q + 1 => setI y (rpI y l q) q
def rpF (y : V) (l : List (ByteArray × V)) : Nat → List (ByteArray × V)
  | 0 => l
  | q + 1 => setF y (rpF y l q) q
theorem rpI_len (y : V) (l : List V) : ∀ q, (rpI y l q).length = l.length
  | 0 => rfl
  | q + 1 => by rw [rpI, setI_len, rpI_len y l q]
theorem rpF_len (y : V) (l : List (ByteArray × V)) : ∀ q, (rpF y l q).length = l.length
  | 0 => rfl
  | q + 1 => by rw [rpF, setF_len, rpF_len y l q]
theorem rpI_wt (y : V) (l : List V) : ∀ q, wts (rpI y l q) ≤ wts l + q * wt y
  | 0 => by simp [rpI]
  | q + 1 => by have h1 := rpI_wt y l q; have h2 := setI_wt y (rpI y l q) q; rw [rpI, Nat.succ_mul]; omega
theorem rpF_wt (y : V) (l : List (ByteArray × V)) : ∀ q, wtf (rpF y l q) ≤ wtf l + q * wt y
  | 0 => by simp [rpF]
  | q + 1 => by have h1 := rpF_wt y l q; have h2 := setF_wt y (rpF y l q) q; rw [rpF, Nat.succ_mul]; omega
theorem rpI_sz (y : V) (l : List V) : ∀ q, szs (rpI y l q) ≤ szs l + q * sz y
  | 0 => by simp [rpI]
  | q + 1 => by have h1 := rpI_sz y l q; have h2 := setI_sz y (rpI y l q) q; rw [rpI, Nat.succ_mul]; omega
theorem rpF_sz (y : V) (l : List (ByteArray × V)) : ∀ q, szf (rpF y l q) ≤ szf l + q * sz y
  | 0 => by simp [rpF]
  | q + 1 => by have h1 := rpF_sz y l q; have h2 := setF_sz y (rpF y l q) q; rw [rpF, Nat.succ_mul]; omega
theorem rpI_ok (y : V) (hy : ok y) (l : List V) (h : oks l) : ∀ q, oks (rpI y l q)
  | 0 => h
  | q + 1 => setI_ok y hy _ q (rpI_ok y hy l h q)
theorem rpF_ok (y : V) (hy : ok y) (l : List (ByteArray × V)) (h : okf l) : ∀ q, okf (rpF y l q)
  | 0 => h
  | q + 1 => setF_ok y hy _ q (rpF_ok y hy l h q)

/-! eight cells of one block written over -/
def stp (W : World) (g p : Nat) (x0 x1 x2 x3 x4 x5 x6 x7 : Value) : World := (((((((W.setCell ⟨g, p, none⟩ x0).setCell ⟨g, p + 1, none⟩ x1).setCell ⟨g, p + 2, none⟩ x2).setCell ⟨g, p + 3, none⟩ x3).setCell ⟨g, p + 4, none⟩ x4).setCell ⟨g, p + 5, none⟩ x5).setCell ⟨g, p + 6, none⟩ x6).setCell ⟨g, p + 7, none⟩ x7
def Put8 (W W' : World) (T : TypeId) (g p : Nat) (Y : List Value) : Prop :=
  (∀ b, b ≠ g → W'.heap[b]? = W.heap[b]?) ∧ (∀ o, o < p ∨ p + 8 ≤ o → W'.cell? ⟨g, o, none⟩ = W.cell? ⟨g, o, none⟩) ∧ CellsAt W' ⟨g, p, none⟩ Y ∧ (∃ cur, W'.heap[g]? = some (.cells cur T (0, 0))) ∧ ∀ B, B ≤ g → Below B W W'
theorem cell_blk {w : World} {g : Nat} {cs : Array Value} {t : TypeId} (h : w.heap[g]? = some (.cells cs t (0, 0))) (o : Nat) : w.cell? ⟨g, o, none⟩ = cs[o]? := by
  simp [World.cell?, h]
theorem stp_put {W : World} {T : TypeId} {g p : Nat} {cur : Array Value} (h : W.heap[g]? = some (.cells cur T (0, 0))) (hp : p + 8 ≤ cur.size) (x0 x1 x2 x3 x4 x5 x6 x7 : Value) :
    Put8 W (stp W g p x0 x1 x2 x3 x4 x5 x6 x7) T g p [x0, x1, x2, x3, x4, x5, x6, x7] := by
  have e := blk_set (blk_set (blk_set (blk_set (blk_set (blk_set (blk_set (blk_set h p x0) (p + 1) x1) (p + 2) x2) (p + 3) x3) (p + 4) x4) (p + 5) x5) (p + 6) x6) (p + 7) x7
  refine ⟨fun b hb => ?_, fun o ho => ?_, fun j u hj => ?_, ⟨_, e⟩, fun B hB => ?_⟩
  · unfold stp
    rw [Below.heap_setCell _ _ _ b hb, Below.heap_setCell _ _ _ b hb, Below.heap_setCell _ _ _ b hb, Below.heap_setCell _ _ _ b hb, Below.heap_setCell _ _ _ b hb, Below.heap_setCell _ _ _ b hb, Below.heap_setCell _ _ _ b hb, Below.heap_setCell _ _ _ b hb]
  · unfold stp
    rw [cell_blk e, cell_blk h]
    rw [Array.getElem?_setIfInBounds_ne (by omega), Array.getElem?_setIfInBounds_ne (by omega), Array.getElem?_setIfInBounds_ne (by omega), Array.getElem?_setIfInBounds_ne (by omega), Array.getElem?_setIfInBounds_ne (by omega), Array.getElem?_setIfInBounds_ne (by omega), Array.getElem?_setIfInBounds_ne (by omega), Array.getElem?_setIfInBounds_ne (by omega)]
  · rw [show (⟨g, p, none⟩ : Addr).add j = ⟨g, p + j, none⟩ from by unfold Addr.add; split <;> simp_all]
    unfold stp
    rw [cell_blk e]
    match j, hj with
    | 0, hj =>
      simp at hj; subst hj
      rw [Array.getElem?_setIfInBounds_ne (by omega), Array.getElem?_setIfInBounds_ne (by omega), Array.getElem?_setIfInBounds_ne (by omega), Array.getElem?_setIfInBounds_ne (by omega), Array.getElem?_setIfInBounds_ne (by omega), Array.getElem?_setIfInBounds_ne (by omega), Array.getElem?_setIfInBounds_ne (by omega)]
      rw [Nat.add_zero, Array.getElem?_setIfInBounds_self, if_pos (by omega)]
    | 1, hj =>
      simp at hj; subst hj
      rw [Array.getElem?_setIfInBounds_ne (by omega), Array.getElem?_setIfInBounds_ne (by omega), Array.getElem?_setIfInBounds_ne (by omega), Array.getElem?_setIfInBounds_ne (by omega), Array.getElem?_setIfInBounds_ne (by omega), Array.getElem?_setIfInBounds_ne (by omega)]
      rw [Array.getElem?_setIfInBounds_self, if_pos (by simp; omega)]
    | 2, hj =>
      simp at hj; subst hj
      rw [Array.getElem?_setIfInBounds_ne (by omega), Array.getElem?_setIfInBounds_ne (by omega), Array.getElem?_setIfInBounds_ne (by omega), Array.getElem?_setIfInBounds_ne (by omega), Array.getElem?_setIfInBounds_ne (by omega)]
      rw [Array.getElem?_setIfInBounds_self, if_pos (by simp; omega)]
    | 3, hj =>
      simp at hj; subst hj
      rw [Array.getElem?_setIfInBounds_ne (by omega), Array.getElem?_setIfInBounds_ne (by omega), Array.getElem?_setIfInBounds_ne (by omega), Array.getElem?_setIfInBounds_ne (by omega)]
      rw [Array.getElem?_setIfInBounds_self, if_pos (by simp; omega)]
    | 4, hj =>
      simp at hj; subst hj
      rw [Array.getElem?_setIfInBounds_ne (by omega), Array.getElem?_setIfInBounds_ne (by omega), Array.getElem?_setIfInBounds_ne (by omega)]
      rw [Array.getElem?_setIfInBounds_self, if_pos (by simp; omega)]
    | 5, hj =>
      simp at hj; subst hj
      rw [Array.getElem?_setIfInBounds_ne (by omega), Array.getElem?_setIfInBounds_ne (by omega)]
      rw [Array.getElem?_setIfInBounds_self, if_pos (by simp; omega)]
    | 6, hj =>
      simp at hj; subst hj
      rw [Array.getElem?_setIfInBounds_ne (by omega)]
      rw [Array.getElem?_setIfInBounds_self, if_pos (by simp; omega)]
    | 7, hj =>
      simp at hj; subst hj
      rw [Array.getElem?_setIfInBounds_self, if_pos (by simp; omega)]
    | j + 8, hj => simp at hj
  · unfold stp
    exact ((((((((Below.refl _ _).setCell hB _).setCell hB _).setCell hB _).setCell hB _).setCell hB _).setCell hB _).setCell hB _).setCell hB _

def ItsV (W : World) (S : Nat → Prop) (g : Nat) (l : List V) : Prop := ∀ (j : Nat) (v : V), l[j]? = some v → ∃ cs, CellsAt W ((⟨g, 0, none⟩ : Addr).add (j * 8)) cs ∧ IsV W S v cs
def ItsF (W : World) (S : Nat → Prop) (g : Nat) (l : List (ByteArray × V)) : Prop := ∀ (j : Nat) (p : ByteArray × V), l[j]? = some p → ∃ cs, CellsAt W ((⟨g, 0, none⟩ : Addr).add (j * 9)) (.string p.1 :: cs) ∧ IsV W S p.2 cs
theorem ItsV.keep {W W' : World} {S : Nat → Prop} {g : Nat} {l : List V} (h : ItsV W S g l) (hg : W'.heap[g]? = W.heap[g]?) (hS : ∀ b, S b → W'.heap[b]? = W.heap[b]?) : ItsV W' S g l := fun j v hj => by
  obtain ⟨cs, h1, h2⟩ := h j v hj
  exact ⟨cs, h1.keep (S := fun b => b = g) (by rw [add_block]) (fun p hp => World.cell?_of_block (by rw [hp]; exact hg)), h2.keep (fun p hp => World.cell?_of_block (hS _ hp)) (fun _ h => h)⟩
theorem ItsF.keep {W W' : World} {S : Nat → Prop} {g : Nat} {l : List (ByteArray × V)} (h : ItsF W S g l) (hg : W'.heap[g]? = W.heap[g]?) (hS : ∀ b, S b → W'.heap[b]? = W.heap[b]?) : ItsF W' S g l := fun j v hj => by
  obtain ⟨cs, h1, h2⟩ := h j v hj
  exact ⟨cs, h1.keep (S := fun b => b = g) (by rw [add_block]) (fun p hp => World.cell?_of_block (by rw [hp]; exact hg)), h2.keep (fun p hp => World.cell?_of_block (hS _ hp)) (fun _ h => h)⟩
theorem ItsV.put {W W' : World} {T : TypeId} {S : Nat → Prop} {g : Nat} {l : List V} {q : Nat} {y : V} {Y : List Value} (h : ItsV W S g l) (hS : ¬ S g) (hp : Put8 W W' T g (q * 8) Y) (hy : IsV W S y Y) : ItsV W' S g (setI y l q) := fun j v hj => by
  obtain ⟨p1, p2, p3, p4, p5⟩ := hp
  have hk : ∀ b, S b → W'.heap[b]? = W.heap[b]? := fun b hb => p1 b (fun e => hS (e ▸ hb))
  have hk2 : ∀ {v : V} {cs : List Value}, IsV W S v cs → IsV W' S v cs := fun hv => hv.keep (fun p hp => World.cell?_of_block (hk _ hp)) (fun _ h => h)
  rcases setI_get y l q j v hj with ⟨rfl, rfl, _⟩ | ⟨hne, hj⟩
  · refine ⟨Y, ?_, hk2 hy⟩
    rw [add_zero_off]
    exact p3
  · obtain ⟨cs, h1, h2⟩ := h j v hj
    have hl := isV_len h2
    refine ⟨cs, fun o u hu => ?_, hk2 h2⟩
    have ho := (List.getElem?_eq_some_iff.1 hu).1
    have h3 := h1 o u hu
    rw [add_add, add_zero_off] at h3 ⊢
    rw [p2 _ (by omega)]
    exact h3
theorem ItsF.put {W W' : World} {T : TypeId} {S : Nat → Prop} {g : Nat} {l : List (ByteArray × V)} {q : Nat} {y : V} {Y : List Value} (h : ItsF W S g l) (hS : ¬ S g) (hp : Put8 W W' T g (q * 9 + 1) Y) (hy : IsV W S y Y) : ItsF W' S g (setF y l q) := fun j v hj => by
  obtain ⟨p1, p2, p3, p4, p5⟩ := hp
  have hk : ∀ b, S b → W'.heap[b]? = W.heap[b]? := fun b hb => p1 b (fun e => hS (e ▸ hb))
  have hk2 : ∀ {v : V} {cs : List Value}, IsV W S v cs → IsV W' S v cs := fun hv => hv.keep (fun p hp => World.cell?_of_block (hk _ hp)) (fun _ h => h)
  rcases setF_get y l q j v hj with ⟨rfl, h1, p', h2, h3⟩ | ⟨hne, hj⟩
  · obtain ⟨s, v⟩ := v
    simp only at h1 h3
    subst h1 h3
    obtain ⟨cs, h4, h5⟩ := h j p' h2
    refine ⟨Y, fun o u hu => ?_, hk2 hy⟩
    rw [add_add, add_zero_off]
    cases o with
    | zero =>
      have h6 := h4 0 _ rfl
      rw [add_add, add_zero_off] at h6
      rw [p2 _ (by omega)]
      simp at hu
      subst hu
      exact h6
    | succ o =>
      have h6 := p3 o u (by simpa using hu)
      rw [show (⟨g, j * 9 + 1, none⟩ : Addr).add o = ⟨g, j * 9 + 1 + o, none⟩ from by unfold Addr.add; split <;> simp_all] at h6
      rw [show j * 9 + (o + 1) = j * 9 + 1 + o from by omega]
      exact h6
  · obtain ⟨cs, h1, h2⟩ := h j v hj
    have hl := isV_len h2
    refine ⟨cs, fun o u hu => ?_, hk2 h2⟩
    have ho := (List.getElem?_eq_some_iff.1 hu).1
    simp at ho
    have h3 := h1 o u hu
    rw [add_add, add_zero_off] at h3 ⊢
    rw [p2 _ (by omega)]
    exact h3
end Go.Proofs.YtagghdehbkbemaaGreatDoor.val
end
section
namespace Go.Proofs.YtagghdehbkbemaaGreatDoor.look
open Go.RowKit mem txt app smap val
attribute [local go_sem] run_store_float
set_option linter.unusedVariables false

theorem own_mono {w : World} {B B' : Nat} {e : TypeId} {size n : Nat} {v : Value} {xs : List Value} (h : w.ownsRow B' e size v n xs) (hB : B ≤ B') : w.ownsRow B e size v n xs := by
  refine ⟨h.1, ?_⟩
  rcases h.2 with h2 | ⟨g, cap, cur, h3, hbg, h4⟩
  · exact .inl h2
  · exact .inr ⟨g, cap, cur, h3, by omega, h4⟩
/-- a written row and the error beside it -/
def RowPost (r : Int) (T : List Int) (w : World) (e : Ending) (w' : World) : Prop := ∃ v', e = .returned (.tuple #[v', .int .i64 r]) ∧ w'.ownsRow w.heap.size 5 1 v' T.length (zs T) ∧ Below w.heap.size w w'
def LenPost (r : Int) (T : List Int) (w : World) (e : Ending) (w' : World) : Prop := e = .returned (.tuple #[.int .i64 (T.length : Int), .int .i64 r]) ∧ Below w.heap.size w w'
noncomputable def txt0 (x : V) : List Int := if lk x = 0 then tx x else []
theorem txt0_len (x : V) (h : ok x) : (txt0 x).length ≤ 2000 * wt x := by
  have := tx_len x h
  unfold txt0
  split
  · omega
  · simp
theorem rowR {x : V} {w : World} {e : Ending} {w' : World} (h : RwPost (lk x) (tx x) w e w') : RowPost (lk x) (txt0 x) w e w' := by
  obtain ⟨h1, h2, h3⟩ := h
  unfold txt0
  by_cases hr : lk x = 0
  · obtain ⟨v', he, ho⟩ := h1 hr
    rw [if_pos hr]
    exact ⟨v', by rw [he, hr], ho, h3⟩
  · rw [if_neg hr]
    exact ⟨_, h2 hr, World.ownsRow_nil _ _ _ _, h3⟩
theorem rowW {x : V} {w : World} {e : Ending} {w' : World} (h : WrPost (lk x) (tx x) w e w') : RowPost (lk x) (txt0 x) w e w' := by
  obtain ⟨h1, h2, h3⟩ := h
  unfold txt0
  by_cases hr : lk x = 0
  · obtain ⟨v', B, he, ho, hB⟩ := h1 hr
    rw [if_pos hr]
    exact ⟨v', by rw [he, hr], own_mono ho hB, h3⟩
  · rw [if_neg hr]
    exact ⟨_, h2 hr, World.ownsRow_nil _ _ _ _, h3⟩
theorem lenS {x : V} {w : World} {e : Ending} {w' : World} (h : SzPost (lk x) (tx x).length w e w') : LenPost (lk x) (txt0 x) w e w' := by
  obtain ⟨h1, h2, h3⟩ := h
  unfold txt0
  by_cases hr : lk x = 0
  · rw [if_pos hr]
    exact ⟨by rw [h1 hr, hr], h3⟩
  · rw [if_neg hr]
    exact ⟨h2 hr, h3⟩
theorem lenR {x : V} {w : World} {e : Ending} {w' : World} (h : RzPost (lk x) (tx x).length w e w') : LenPost (lk x) (txt0 x) w e w' := by
  obtain ⟨h1, h2, h3⟩ := h
  unfold txt0
  by_cases hr : lk x = 0
  · rw [if_pos hr]
    exact ⟨by rw [h1 hr, hr], h3⟩
  · rw [if_neg hr]
    exact ⟨h2 hr, h3⟩
theorem Grn.below {w w' : World} {n : Nat} {x : V} {g c g' c' : Nat} (h : Grn w n x g c g' c') (hb : Below w.heap.size w w') : Grn w' n x g c g' c' := by
  obtain ⟨lo, m, hi, h1, h2, h3, h4, h5, h6⟩ := h
  exact ⟨lo, m, hi, h1, h2, h3, by have := hb.size; omega, h5.keep recG (fun b _ h => hb.block b (by omega)), h6.keep recH (fun b _ h => hb.block b (by omega))⟩
/-- the blocks that the elements of a list at g may use: old ones, those of [lo, hi) -/
def S2 (w : World) (lo hi g : Nat) (b : Nat) : Prop := b < w.heap.size ∨ (lo ≤ b ∧ b < hi ∧ b ≠ g)
structure Ust (w : World) (lo m hi K g g' : Nat) (YC GC : Array Value) (W : World) (l : List V) (lf : List (ByteArray × V)) : Prop where
  r2 : W.heap[w.heap.size + 1]? = some (.cells YC 27)
  r3 : W.heap[K]? = some (.cells GC 27)
  it : ItsV W (S2 w lo m g) g l
  ft : ItsF W (S2 w m hi g') g' lf
  bg : ∃ cur, W.heap[g]? = some (.cells cur 27 (0, 0))
  bf : ∃ cur, W.heap[g']? = some (.cells cur 41 (0, 0))
  be : Below w.heap.size w W
theorem ust_start {w W : World} {lo m hi K g g' cg cg' : Nat} {YC GC : Array Value} {S : Nat → Prop} {l : List V} {lf : List (ByteArray × V)} (hb : Below w.heap.size w W) (h2 : W.heap[w.heap.size + 1]? = some (.cells YC 27)) (h3 : W.heap[K]? = some (.cells GC 27))
    (hL : Lst 27 8 IsG W lo m l spI g cg) (hF : Lst 41 9 IsH W m hi lf spF g' cg') : Ust w lo m hi K g g' YC GC W l lf := by
  obtain ⟨a1, a2, a3, a4, a5, a6, a7⟩ := hL
  obtain ⟨b1, b2, b3, b4, b5, b6, b7⟩ := hF
  refine ⟨h2, h3, fun j v hj => ?_, fun j p hj => ?_, a5, b5, hb⟩
  · obtain ⟨cs, c1, c2⟩ := a7 j v hj
    exact ⟨cs, c1, c2.isV.more (fun b hb => .inr hb)⟩
  · obtain ⟨cs, c1, ds, rfl, c2⟩ := b7 j p hj
    exact ⟨ds, c1, c2.isV.more (fun b hb => .inr hb)⟩
theorem Ust.putI {w W W' : World} {lo m hi K g g' q : Nat} {YC GC : Array Value} {l : List V} {lf : List (ByteArray × V)} {y : V} {Y : List Value} (h : Ust w lo m hi K g g' YC GC W l lf) (hn : w.heap.size + 2 ≤ lo) (hg : g < m ∧ lo ≤ g ∧ m ≤ g' ∧ g' < hi) (hK : hi ≤ K)
    (hp : Put8 W W' 27 g (q * 8) Y) (hy : IsV W (S2 w lo m g) y Y) : Ust w lo m hi K g g' YC GC W' (setI y l q) lf := by
  refine ⟨(hp.1 _ (by omega)).trans h.r2, (hp.1 _ (by omega)).trans h.r3, h.it.put (fun hs => ?_) hp hy, h.ft.keep (hp.1 _ (by omega)) (fun b hs => hp.1 b ?_), hp.2.2.2.1, ?_, h.be.trans (hp.2.2.2.2 _ (by omega))⟩
  · rcases hs with h1 | ⟨_, _, h1⟩
    · omega
    · exact h1 rfl
  · rcases hs with h1 | ⟨h1, _⟩
    · omega
    · omega
  · obtain ⟨cur, hc⟩ := h.bf
    exact ⟨cur, (hp.1 _ (by omega)).trans hc⟩
theorem Ust.putF {w W W' : World} {lo m hi K g g' q : Nat} {YC GC : Array Value} {l : List V} {lf : List (ByteArray × V)} {y : V} {Y : List Value} (h : Ust w lo m hi K g g' YC GC W l lf) (hn : w.heap.size + 2 ≤ lo) (hg : g < m ∧ lo ≤ g ∧ m ≤ g' ∧ g' < hi) (hK : hi ≤ K)
    (hp : Put8 W W' 41 g' (q * 9 + 1) Y) (hy : IsV W (S2 w m hi g') y Y) : Ust w lo m hi K g g' YC GC W' l (setF y lf q) := by
  refine ⟨(hp.1 _ (by omega)).trans h.r2, (hp.1 _ (by omega)).trans h.r3, h.it.keep (hp.1 _ (by omega)) (fun b hs => hp.1 b ?_), h.ft.put (fun hs => ?_) hp hy, ?_, hp.2.2.2.1, h.be.trans (hp.2.2.2.2 _ (by omega))⟩
  · rcases hs with h1 | ⟨h1, _⟩
    · omega
    · omega
  · rcases hs with h1 | ⟨_, _, h1⟩
    · omega
    · exact h1 rfl
  · obtain ⟨cur, hc⟩ := h.bg
    exact ⟨cur, (hp.1 _ (by omega)).trans hc⟩
/-- the value that lies there now -/
theorem Ust.val {w W : World} {lo m hi K g g' cg cg' : Nat} {YC GC : Array Value} {l : List V} {lf : List (ByteArray × V)} (h : Ust w lo m hi K g g' YC GC W l lf) (hg : g < m ∧ lo ≤ g ∧ m ≤ g' ∧ g' < hi) (hK : hi ≤ K) (k : Int) (b : Bool) (i : Int) (f : Nat) (t s : ByteArray) :
    IsV W (fun b => b < W.heap.size) (.mk k b i f t s l lf) [.int .i64 k, .bool b, .int .i64 i, .float .f64 f, .string t, .string s, .slice (some ⟨g, 0, none⟩) l.length cg, .slice (some ⟨g', 0, none⟩) lf.length cg'] := by
  have hk := blk_lt h.r3
  have hw := h.be.size
  simp only [IsV]
  refine ⟨_, cg, _, cg', rfl, (fun h => by cases h), (fun h => by cases h), IsVs.of fun j v hj => ?_, IsFs.of fun j p hj => ?_⟩
  · obtain ⟨cs, c1, c2⟩ := h.it j v hj
    rw [Nat.zero_add]
    refine ⟨_, cs, rfl, show g < W.heap.size by omega, c1, c2.more (fun b hs => ?_)⟩
    rcases hs with h1 | ⟨_, h1, _⟩
    · omega
    · show b < W.heap.size
      omega
  · obtain ⟨cs, c1, c2⟩ := h.ft j p hj
    rw [Nat.zero_add]
    refine ⟨_, cs, rfl, show g' < W.heap.size by omega, c1, c2.more (fun b hs => ?_)⟩
    rcases hs with h1 | ⟨_, h1, _⟩
    · omega
    · show b < W.heap.size
      omega
set_option maxRecDepth 100000 in
set_option maxHeartbeats 8000000 in
theorem keeps_any (x y : V) (cs cs' : List Value) (w : World) (S : Nat → Prop) (hwx : wt x + 6 * wt y ≤ 16777216) (hsx : sz x ≤ 1048576) (hsy : sz y ≤ 1048576) (hokx : ok x) (hoky : ok y) (hV : IsV w S x cs) (hV' : IsV w S y cs') (hS : Bel S w.heap.size) (hE : Env w) :
    Calls Tryz.prog 3 #[.agg cs.toArray, .agg cs'.toArray] w (TruePost w) := by
  have HX := Lib.hid hV
  have HY := Lib.hid hV'
  have HS := Lib.hid hS
  have HE := Lib.hid hE
  have HRX := Lib.hid (fun (W : World) (hW : Below w.heap.size w W) => room_any 1048576 x hsx (Nat.le_refl _) cs 20000 W S (hV.below hS hW) (hS.mono hW.size) (by omega) (by omega))
  have HRY := Lib.hid (fun (W : World) (hW : Below w.heap.size w W) => room_any 1048576 y hsy (Nat.le_refl _) cs' 20000 W S (hV'.below hS hW) (hS.mono hW.size) (by omega) (by omega))
  have HGX := Lib.hid (fun (W : World) (hW : Below w.heap.size w W) => grown_any 1048576 x hsx (Nat.le_refl _) cs W S (hV.below hS hW) (hS.mono hW.size))
  have HWX := Lib.hid (fun (W : World) (hW : Below w.heap.size w W) => (rwrite_any x cs W S (by omega) hsx hokx (hV.below hS hW) (hS.mono hW.size)).mono fun _ _ h => rowR h)
  have HLX := Lib.hid (show (txt0 x).length ≤ 34359738368 from by have := txt0_len x hokx; omega)
  have HOX := Lib.hid hokx
  have HOY := Lib.hid hoky
  have HWT := Lib.hid hwx
  clear hwx hsx hsy hokx hoky hV hV' hS hE
  obtain ⟨k, b, i, f, t, s, is, fs⟩ := x
  obtain ⟨k2, b2, i2, f2, t2, s2, is2, fs2⟩ := y
  have hv := HX.out
  simp only [IsV] at hv
  obtain ⟨A, c, A', c', rfl, _⟩ := hv
  have hv := HY.out
  simp only [IsV] at hv
  obtain ⟨C, d, C', d', rfl, _⟩ := hv
  go_enter Tryz.func3, Tryz.ntmps3
  go_upto_region 1 with (fail)
  have g1 : ((w.alloc (.cells #[.int .i64 k, .bool b, .int .i64 i, .float .f64 f, .string t, .string s, .slice A is.length c, .slice A' fs.length c'] 27)).alloc (.cells #[.int .i64 k2, .bool b2, .int .i64 i2, .float .f64 f2, .string t2, .string s2, .slice C is2.length d, .slice C' fs2.length d'] 27)).heap[w.heap.size]? = some (.cells #[.int .i64 k, .bool b, .int .i64 i, .float .f64 f, .string t, .string s, .slice A is.length c, .slice A' fs.length c'] 27) := blk_alloc (heap_alloc_new _ _) _
  have g2 : ((w.alloc (.cells #[.int .i64 k, .bool b, .int .i64 i, .float .f64 f, .string t, .string s, .slice A is.length c, .slice A' fs.length c'] 27)).alloc (.cells #[.int .i64 k2, .bool b2, .int .i64 i2, .float .f64 f2, .string t2, .string s2, .slice C is2.length d, .slice C' fs2.length d'] 27)).heap[w.heap.size + 1]? = some (.cells #[.int .i64 k2, .bool b2, .int .i64 i2, .float .f64 f2, .string t2, .string s2, .slice C is2.length d, .slice C' fs2.length d'] 27) := by
    have := heap_alloc_new (w.alloc (.cells #[.int .i64 k, .bool b, .int .i64 i, .float .f64 f, .string t, .string s, .slice A is.length c, .slice A' fs.length c'] 27)) (.cells #[.int .i64 k2, .bool b2, .int .i64 i2, .float .f64 f2, .string t2, .string s2, .slice C is2.length d, .slice C' fs2.length d'] 27)
    simpa using this
  have gb : Below w.heap.size w ((w.alloc (.cells #[.int .i64 k, .bool b, .int .i64 i, .float .f64 f, .string t, .string s, .slice A is.length c, .slice A' fs.length c'] 27)).alloc (.cells #[.int .i64 k2, .bool b2, .int .i64 i2, .float .f64 f2, .string t2, .string s2, .slice C is2.length d, .slice C' fs2.length d'] 27)) := ((Below.refl _ _).alloc (Nat.le_refl _) _).alloc (by simp) _
  have gs : ((w.alloc (.cells #[.int .i64 k, .bool b, .int .i64 i, .float .f64 f, .string t, .string s, .slice A is.length c, .slice A' fs.length c'] 27)).alloc (.cells #[.int .i64 k2, .bool b2, .int .i64 i2, .float .f64 f2, .string t2, .string s2, .slice C is2.length d, .slice C' fs2.length d'] 27)).heap.size = w.heap.size + 2 := by simp
  generalize ((w.alloc (.cells #[.int .i64 k, .bool b, .int .i64 i, .float .f64 f, .string t, .string s, .slice A is.length c, .slice A' fs.length c'] 27)).alloc (.cells #[.int .i64 k2, .bool b2, .int .i64 i2, .float .f64 f2, .string t2, .string s2, .slice C is2.length d, .slice C' fs2.length d'] 27)) = w0 at *
  have HAW := Lib.hid (awake_any w0 (HE.out.below gb))
  go_upto_region 3 with (go_at_call 4; go_must (refine HAW.out.mono ?_; rintro e w1 ⟨rfl, hb1⟩))
  have HB1 := Lib.hid (gb.trans (hb1.mono (by omega)))
  have R1 := Lib.hid (blk_below g1 hb1 (by omega))
  have R2 := Lib.hid (blk_below g2 hb1 (by omega))
  have hz1 : w.heap.size + 2 ≤ w1.heap.size := by have := hb1.size; omega
  clear g1 g2 gb gs hb1 HAW
  have HC := Lib.hid (HRX.out w1 HB1.out)
  obtain ⟨a0, a1, a2, a3, a4, a5, a6, a7⟩ := blk8 R1.out
  go_wp2_with fail
  refine HC.out.mono ?_
  rintro e w2 ⟨r1, rfl, h11, h12, h13, hb2⟩
  have HB2 := Lib.hid (HB1.out.trans (hb2.mono (by omega)))
  have Q1 := Lib.hid (blk_below R1.out hb2 (by omega))
  have Q2 := Lib.hid (blk_below R2.out hb2 (by omega))
  have hz2 : w.heap.size + 2 ≤ w2.heap.size := by have := hb2.size; omega
  have HD := Lib.hid (HRY.out w2 HB2.out)
  clear a0 a1 a2 a3 a4 a5 a6 a7 R1 R2 HB1 HC hz1 hb2 HRX HRY
  obtain ⟨e0, e1, e2, e3, e4, e5, e6, e7⟩ := blk8 Q2.out
  rcases (show r1 < 0 ∨ 0 ≤ r1 from by omega) with hr1 | hr1
  · go_wp2_with fail
    go_ret
    exact ⟨rfl, HB2.out⟩
  have hsx := h13 hr1
  go_wp2_with fail
  refine HD.out.mono ?_
  rintro e w3 ⟨r2, rfl, h21, h22, h23, hb3⟩
  have HB3 := Lib.hid (HB2.out.trans (hb3.mono (by omega)))
  have R1 := Lib.hid (blk_below Q1.out hb3 (by omega))
  have R2 := Lib.hid (blk_below Q2.out hb3 (by omega))
  have hz3 : w.heap.size + 2 ≤ w3.heap.size := by have := hb3.size; omega
  clear e0 e1 e2 e3 e4 e5 e6 e7 Q1 Q2 HB2 HD hz2 hb3
  obtain ⟨a0, a1, a2, a3, a4, a5, a6, a7⟩ := blk8 R1.out
  rcases (show r2 < 0 ∨ 0 ≤ r2 from by omega) with hr2 | hr2
  · go_wp2_with fail
    go_ret
    exact ⟨rfl, HB3.out⟩
  have hsy := h23 hr2
  have HC := Lib.hid (HGX.out w3 HB3.out)
  go_wp2_with fail
  refine HC.out.mono ?_
  rintro e w4 ⟨g, cg, g', cg', rfl, hG, hb4⟩
  have HB4 := Lib.hid (HB3.out.trans (hb4.mono (by omega)))
  have Q1 := Lib.hid (blk_below R1.out hb4 (by omega))
  have Q2 := Lib.hid (blk_below R2.out hb4 (by omega))
  have hz4 : w3.heap.size ≤ w4.heap.size := hb4.size
  have HG4 := Lib.hid hG
  clear a0 a1 a2 a3 a4 a5 a6 a7 R1 R2 HC hb4 hG HGX h11 h12 h13 h21 h22 h23 hr1 hr2
  simp only [gcs]
  go_upto_region 6 with (fail)
  have q1 := blk_alloc Q1.out (.cells #[.int .i64 k, .bool b, .int .i64 i, .float .f64 f, .string t, .string s, .slice (some ⟨g, 0, none⟩) is.length cg, .slice (some ⟨g', 0, none⟩) fs.length cg'] 27)
  have q2 := blk_alloc Q2.out (.cells #[.int .i64 k, .bool b, .int .i64 i, .float .f64 f, .string t, .string s, .slice (some ⟨g, 0, none⟩) is.length cg, .slice (some ⟨g', 0, none⟩) fs.length cg'] 27)
  have q3 : (w4.alloc (.cells #[.int .i64 k, .bool b, .int .i64 i, .float .f64 f, .string t, .string s, .slice (some ⟨g, 0, none⟩) is.length cg, .slice (some ⟨g', 0, none⟩) fs.length cg'] 27)).heap[w4.heap.size]? = some (.cells #[.int .i64 k, .bool b, .int .i64 i, .float .f64 f, .string t, .string s, .slice (some ⟨g, 0, none⟩) is.length cg, .slice (some ⟨g', 0, none⟩) fs.length cg'] 27) := heap_alloc_new _ _
  have hbE : Below w4.heap.size w4 (w4.alloc (.cells #[.int .i64 k, .bool b, .int .i64 i, .float .f64 f, .string t, .string s, .slice (some ⟨g, 0, none⟩) is.length cg, .slice (some ⟨g', 0, none⟩) fs.length cg'] 27)) := (Below.refl _ _).alloc (Nat.le_refl _) _
  have HG5 := Lib.hid (Grn.below HG4.out hbE)
  have HB5 := Lib.hid (HB4.out.trans (hbE.mono (by omega)))
  have hz5 : w4.heap.size < (w4.alloc (.cells #[.int .i64 k, .bool b, .int .i64 i, .float .f64 f, .string t, .string s, .slice (some ⟨g, 0, none⟩) is.length cg, .slice (some ⟨g', 0, none⟩) fs.length cg'] 27)).heap.size := by simp
  generalize (w4.alloc (.cells #[.int .i64 k, .bool b, .int .i64 i, .float .f64 f, .string t, .string s, .slice (some ⟨g, 0, none⟩) is.length cg, .slice (some ⟨g', 0, none⟩) fs.length cg'] 27)) = w5 at *
  have R1 := Lib.hid q1
  have R2 := Lib.hid q2
  have R3 := Lib.hid q3
  obtain ⟨lo, m, hi, hl1, hl2, hl3, hl4, hL1, hL2⟩ := HG4.out
  have LG := Lib.hid (hL1.keep recG (fun b _ h => hbE.block b (by omega)))
  have LF := Lib.hid (hL2.keep recH (fun b _ h => hbE.block b (by omega)))
  clear q1 q2 q3 hbE Q1 Q2 HB4 HG4 hL1 hL2
  generalize w4.heap.size = K at *
  generalize hr : lk (.mk k b i f t s is fs) = r at *
  have HVG := Lib.hid (Grn.isG HG5.out).isV
  have hBg : Bel (New w3.heap.size w5) w5.heap.size := fun b hb => hb.2
  have HWW := Lib.hid (fun (W : World) (hW : Below w5.heap.size w5 W) => (write_any _ _ W (New w3.heap.size w5) (by have := HWT.out; omega) (by omega) HOX.out ((Grn.isG HG5.out).isV.below hBg hW) (hBg.mono hW.size) ((HE.out.below HB5.out).below hW)).mono fun _ _ h => rowW h)
  have HSS := Lib.hid (fun (W : World) (hW : Below w5.heap.size w5 W) => (size_any _ _ W (New w3.heap.size w5) (by have := HWT.out; omega) (by omega) HOX.out ((Grn.isG HG5.out).isV.below hBg hW) (hBg.mono hW.size) ((HE.out.below HB5.out).below hW)).mono fun _ _ h => lenS h)
  generalize hT : txt0 (.mk k b i f t s is fs) = T at *
  have P5 := Lib.hid (Below.refl w5.heap.size w5)
  have HC := Lib.hid (HWX.out w5 HB5.out)
  obtain ⟨a0, a1, a2, a3, a4, a5, a6, a7⟩ := blk8 R1.out
  go_wp2_with fail
  refine HC.out.mono ?_
  rintro e w6 ⟨v6, rfl, ho, hb⟩
  obtain ⟨A6, c6, rfl, hA, _⟩ := own_form ho
  have O6 := Lib.hid ho
  have N6 := Lib.hid hA
  have HB6 := Lib.hid (HB5.out.trans (hb.mono (by omega)))
  have P6 := Lib.hid ((P5.out).trans (hb.mono P5.out.size))
  have Q1 := Lib.hid (blk_below R1.out hb (by omega))
  have Q2 := Lib.hid (blk_below R2.out hb (by omega))
  have Q3 := Lib.hid (blk_below R3.out hb (by omega))
  have hz6 : w5.heap.size ≤ w6.heap.size := hb.size
  clear a0 a1 a2 a3 a4 a5 a6 a7 HC ho hA hb R1 R2 R3 P5 HB5 HWX
  have HC := Lib.hid (HWW.out w6 P6.out)
  obtain ⟨a0, a1, a2, a3, a4, a5, a6, a7⟩ := blk8 Q3.out
  go_wp2_with fail
  refine HC.out.mono ?_
  rintro e w7 ⟨v7, rfl, ho, hb⟩
  obtain ⟨A7, c7, rfl, hA, _⟩ := own_form ho
  have O7 := Lib.hid ho
  have L7 := Lib.hid (fun b (hb : (Value.slice A7 T.length c7).ownBlock = some b) => (ho.lt b hb).2)
  have N7 := Lib.hid hA
  have HB7 := Lib.hid (HB6.out.trans (hb.mono (by omega)))
  have P7 := Lib.hid ((P6.out).trans (hb.mono P6.out.size))
  have R1 := Lib.hid (blk_below Q1.out hb (by omega))
  have R2 := Lib.hid (blk_below Q2.out hb (by omega))
  have R3 := Lib.hid (blk_below Q3.out hb (by omega))
  have hz7 : w6.heap.size ≤ w7.heap.size := hb.size
  have O6' := Lib.hid (own_below O6.out hb)
  clear a0 a1 a2 a3 a4 a5 a6 a7 HC ho hA hb Q1 Q2 Q3 P6 HB6 O6
  have HC := Lib.hid (HWW.out w7 P7.out)
  obtain ⟨a0, a1, a2, a3, a4, a5, a6, a7⟩ := blk8 R3.out
  go_wp2_with fail
  refine HC.out.mono ?_
  rintro e w8 ⟨v8, rfl, ho, hb⟩
  obtain ⟨A8, c8, rfl, hA, _⟩ := own_form ho
  have O8 := Lib.hid ho
  have N8 := Lib.hid hA
  have HB8 := Lib.hid (HB7.out.trans (hb.mono (by omega)))
  have P8 := Lib.hid ((P7.out).trans (hb.mono P7.out.size))
  have Q1 := Lib.hid (blk_below R1.out hb (by omega))
  have Q2 := Lib.hid (blk_below R2.out hb (by omega))
  have Q3 := Lib.hid (blk_below R3.out hb (by omega))
  have hz8 : w7.heap.size ≤ w8.heap.size := hb.size
  have O6 := Lib.hid (own_below O6'.out hb)
  have O7' := Lib.hid (own_below O7.out hb)
  clear a0 a1 a2 a3 a4 a5 a6 a7 HC ho hA hb R1 R2 R3 P7 HB7 O6' O7
  have HC := Lib.hid (HSS.out w8 P8.out)
  obtain ⟨a0, a1, a2, a3, a4, a5, a6, a7⟩ := blk8 Q3.out
  go_wp2_with fail
  refine HC.out.mono ?_
  rintro e w9 ⟨rfl, hb⟩
  have HB9 := Lib.hid (HB8.out.trans (hb.mono (by omega)))
  have P9 := Lib.hid (P8.out.trans (hb.mono P8.out.size))
  have R1 := Lib.hid (blk_below Q1.out hb (by omega))
  have R2 := Lib.hid (blk_below Q2.out hb (by omega))
  have R3 := Lib.hid (blk_below Q3.out hb (by omega))
  have hz9 : w8.heap.size ≤ w9.heap.size := hb.size
  have O6' := Lib.hid (own_below O6.out hb)
  have O7 := Lib.hid (own_below O7'.out hb)
  have O8' := Lib.hid (own_below O8.out hb)
  clear a0 a1 a2 a3 a4 a5 a6 a7 HC hb Q1 Q2 Q3 P8 HB8 O6 O7' O8 HWW HSS
  have hcv6 : (convert 31 9 (.slice A6 T.length c6)).run Tryz.prog w9 = .ok (.string (strOf T)) w9 := run_conv_bytes 31 9 5 A6 T c6 Tryz.underlying31 Tryz.underlying5 Tryz.underlying9 (Rd.of_own O6'.out) N6.out
  have hcv7 : (convert 31 9 (.slice A7 T.length c7)).run Tryz.prog w9 = .ok (.string (strOf T)) w9 := run_conv_bytes 31 9 5 A7 T c7 Tryz.underlying31 Tryz.underlying5 Tryz.underlying9 (Rd.of_own O7.out) N7.out
  have hcv8 : (convert 31 9 (.slice A8 T.length c8)).run Tryz.prog w9 = .ok (.string (strOf T)) w9 := run_conv_bytes 31 9 5 A8 T c8 Tryz.underlying31 Tryz.underlying5 Tryz.underlying9 (Rd.of_own O8'.out) N8.out
  generalize strOf T = sT at *
  obtain ⟨a0, a1, a2, a3, a4, a5, a6, a7⟩ := blk8 R3.out
  obtain ⟨e0, e1, e2, e3, e4, e5, e6, e7⟩ := blk8 R1.out
  go_wp2_with fail
  have HG9 := Lib.hid (Grn.below HG5.out P9.out)
  have HV9 := Lib.hid (HX.out.below HS.out HB9.out)
  refine (kept_any 1048576 _ (by omega) (Nat.le_refl _) _ _ w9 (New w3.heap.size w9) S (Grn.isG HG9.out) HV9.out (fun _ h => h.2) (HS.out.mono HB9.out.size)).mono ?_
  rintro e w10 ⟨rfl, hb⟩
  have HB10 := Lib.hid (HB9.out.trans (hb.mono (by omega)))
  have P10 := Lib.hid (P9.out.trans (hb.mono P9.out.size))
  have Q1 := Lib.hid (blk_below R1.out hb (by omega))
  have Q2 := Lib.hid (blk_below R2.out hb (by omega))
  have Q3 := Lib.hid (blk_below R3.out hb (by omega))
  have hz10 : w9.heap.size ≤ w10.heap.size := hb.size
  have O7' := Lib.hid (own_below O7.out hb)
  have O8 := Lib.hid (own_below O8'.out hb)
  clear a0 a1 a2 a3 a4 a5 a6 a7 e0 e1 e2 e3 e4 e5 e6 e7 hb R1 R2 R3 P9 HB9 O6' O7 O8' hcv6 hcv7 hcv8 HG9 HV9
  obtain ⟨a0, a1, a2, a3, a4, a5, a6, a7⟩ := blk8 Q3.out
  obtain ⟨e0, e1, e2, e3, e4, e5, e6, e7⟩ := blk8 Q1.out
  go_wp2_with fail
  have HG9 := Lib.hid (Grn.below HG5.out P10.out)
  have HV9 := Lib.hid (HX.out.below HS.out HB10.out)
  refine (whole_refl 1048576 _ (by omega) (Nat.le_refl _) HOX.out _ _ w10 (New w3.heap.size w10) S (Grn.isG HG9.out).isV HV9.out (fun _ h => h.2) (HS.out.mono HB10.out.size)).mono ?_
  rintro e w11 ⟨rfl, hb⟩
  have HB11 := Lib.hid (HB10.out.trans (hb.mono (by omega)))
  have P11 := Lib.hid (P10.out.trans (hb.mono P10.out.size))
  have R1 := Lib.hid (blk_below Q1.out hb (by omega))
  have R2 := Lib.hid (blk_below Q2.out hb (by omega))
  have R3 := Lib.hid (blk_below Q3.out hb (by omega))
  have hz11 : w10.heap.size ≤ w11.heap.size := hb.size
  have O7 := Lib.hid (own_below O7'.out hb)
  have O8' := Lib.hid (own_below O8.out hb)
  clear a0 a1 a2 a3 a4 a5 a6 a7 e0 e1 e2 e3 e4 e5 e6 e7 hb Q1 Q2 Q3 P10 HB10 O7' O8 HG9 HV9
  go_wp2_with fail
  refine (apart_any w6.heap.size (fun j => match j with | 0 => .slice A7 T.length c7 | _ => .slice A8 T.length c8) (fun _ => T.length) w11.heap.size _ (by simp; omega) (heap_alloc_new _ _) (fun j hj => ?_) (fun j j' hj hj' hne b hb => ?_) (fun _ _ => by have := HLX.out; omega)).mono ?_
  · rcases j with _ | j
    · exact ⟨zs T, O7.out.alloc _⟩
    · exact ⟨zs T, (own_mono O8'.out (by omega)).alloc _⟩
  · have e7 : ∀ b, (Value.slice A7 T.length c7).ownBlock = some b → b < w7.heap.size := L7.out
    have e8 : ∀ b, (Value.slice A8 T.length c8).ownBlock = some b → w7.heap.size ≤ b := fun b hb => (O8'.out.lt b hb).1
    rcases j with _ | j
    · rcases j' with _ | j'
      · exact absurd rfl hne
      · intro e
        have h1 := e7 b hb
        have h2 := e8 b e
        omega
    · rcases j' with _ | j'
      · intro e
        have h1 := e8 b hb
        have h2 := e7 b e
        omega
      · exact absurd (by omega) hne
  rintro e w13 ⟨rfl, hb⟩
  have hbA : Below w11.heap.size w11 (w11.alloc (.cells #[.slice A7 T.length c7, .slice A8 T.length c8] 31)) := (Below.refl _ _).alloc (Nat.le_refl _) _
  have hb' : Below w6.heap.size w11 w13 := (hbA.mono (by omega)).trans hb
  have HB13 := Lib.hid (HB11.out.trans (hb'.mono (by omega)))
  have P13 := Lib.hid (P11.out.trans (hb'.mono hz6))
  have Q2 := Lib.hid (blk_below R2.out hb' (by omega))
  have Q3 := Lib.hid (blk_below R3.out hb' (by omega))
  have hz13 : w6.heap.size ≤ w13.heap.size := by have := hb.size; simp at this; omega
  have LG13 := Lib.hid (LG.out.keep recG (fun b _ h => P13.out.block b (by omega)))
  have LF13 := Lib.hid (LF.out.keep recH (fun b _ h => P13.out.block b (by omega)))
  have hgm : g < m ∧ lo ≤ g ∧ m ≤ g' ∧ g' < hi := ⟨LG.out.2.1, LG.out.1, LF.out.1, LF.out.2.1⟩
  have HU0 := Lib.hid (ust_start (S := S) (YC := #[.int .i64 k2, .bool b2, .int .i64 i2, .float .f64 f2, .string t2, .string s2, .slice C is2.length d, .slice C' fs2.length d']) (GC := #[.int .i64 k, .bool b, .int .i64 i, .float .f64 f, .string t, .string s, .slice (some ⟨g, 0, none⟩) is.length cg, .slice (some ⟨g', 0, none⟩) fs.length cg']) HB13.out Q2.out Q3.out LG13.out LF13.out)
  have HYV := Lib.hid (fun (W : World) (hW : Below w.heap.size w W) => IsV.more (S' := S2 w lo m g) (HY.out.below HS.out hW) (fun b hb => .inl (HS.out b hb)))
  have HYF := Lib.hid (fun (W : World) (hW : Below w.heap.size w W) => IsV.more (S' := S2 w m hi g') (HY.out.below HS.out hW) (fun b hb => .inl (HS.out b hb)))
  clear hb hbA hb' R1 R2 R3 P11 HB11 O7 O8' L7 hz7 hz8 hz9 hz10 hz11 LG LF LG13 LF13 P13 HB13 Q2 Q3 N6 N7 N8 HVG HG5 hBg
  go_wp2_with fail
  go_loopw [14] (fun vq W => ∃ q : Nat, q ≤ is.length ∧ q ≤ 3 ∧ vq = .int .i64 (q : Int) ∧ Hid (Ust w lo m hi K g g' #[.int .i64 k2, .bool b2, .int .i64 i2, .float .f64 f2, .string t2, .string s2, .slice C is2.length d, .slice C' fs2.length d'] #[.int .i64 k, .bool b, .int .i64 i, .float .f64 f, .string t, .string s, .slice (some ⟨g, 0, none⟩) is.length cg, .slice (some ⟨g', 0, none⟩) fs.length cg'] W (rpI (.mk k2 b2 i2 f2 t2 s2 is2 fs2) is q) fs)) (fun v _ => 3 - (intOf v).toNat)
  case atStart => exact ⟨0, Nat.zero_le _, by omega, rfl, HU0⟩
  case round =>
    obtain ⟨q, hq, hq3, rfl, HU⟩ := hrel
    clear HU0
    obtain ⟨a0, a1, a2, a3, a4, a5, a6, a7⟩ := blk8 HU.out.r3
    clear a0 a1 a2 a3 a4 a5 a7
    by_cases hlt : q < is.length
    · have hlq : (q : Int) < (is.length : Int) := by omega
      have h0q : (0 : Int) ≤ (q : Int) := by omega
      by_cases hlt3 : q < 3
      · have hlq3 : (q : Int) < 3 := by omega
        obtain ⟨e0, e1, e2, e3, e4, e5, e6, e7⟩ := blk8 HU.out.r2
        obtain ⟨v, hv⟩ : ∃ v, (rpI (.mk k2 b2 i2 f2 t2 s2 is2 fs2) is q)[q]? = some v := ⟨_, List.getElem?_eq_getElem (by rw [rpI_len]; exact hlt)⟩
        obtain ⟨cs, hc1, hc2⟩ := HU.out.it q v hv
        obtain ⟨k3, b3, i3, f3, t3, s3, is3, fs3⟩ := v
        simp only [IsV] at hc2
        obtain ⟨A3, c3, A3', c3', rfl, _⟩ := hc2
        obtain ⟨d0, d1, d2, d3, d4, d5, d6, d7⟩ := hc1.eight
        rw [add_zero_off] at d0 d1 d2 d3 d4 d5 d6 d7
        simp only at d0 d1 d2 d3 d4 d5 d6 d7
        obtain ⟨cur, hcur⟩ := HU.out.bg
        have hcs : q * 8 + 8 ≤ cur.size := by
          rw [cell_blk hcur] at d7
          have := (Array.getElem?_eq_some_iff.1 d7).1
          omega
        have hp := Lib.hid (stp_put hcur hcs (.int .i64 k2) (.bool b2) (.int .i64 i2) (.float .f64 f2) (.string t2) (.string s2) (.slice C is2.length d) (.slice C' fs2.length d'))
        have z0 := blk_frozen hcur (q * 8)
        have z1 := blk_frozen hcur (q * 8 + 1)
        have z2 := blk_frozen hcur (q * 8 + 2)
        have z3 := blk_frozen hcur (q * 8 + 3)
        have z4 := blk_frozen hcur (q * 8 + 4)
        have z5 := blk_frozen hcur (q * 8 + 5)
        have z6 := blk_frozen hcur (q * 8 + 6)
        have z7 := blk_frozen hcur (q * 8 + 7)
        clear hc1 hcur hcs hv
        go_wp2_with fail
        have hn := HU.out.putI (by omega) hgm hl4 hp.out (HYV.out _ HU.out.be)
        exact ⟨⟨q + 1, by omega, by omega, by go_num, Lib.hid hn⟩, by simp [intOf]; omega⟩
      · have hlq3 : ¬ (q : Int) < 3 := by omega
        go_wp2_with fail
        go_loopw [15] (fun vq W => ∃ p : Nat, p ≤ fs.length ∧ p ≤ 3 ∧ vq = .int .i64 (p : Int) ∧ Hid (Ust w lo m hi K g g' #[.int .i64 k2, .bool b2, .int .i64 i2, .float .f64 f2, .string t2, .string s2, .slice C is2.length d, .slice C' fs2.length d'] #[.int .i64 k, .bool b, .int .i64 i, .float .f64 f, .string t, .string s, .slice (some ⟨g, 0, none⟩) is.length cg, .slice (some ⟨g', 0, none⟩) fs.length cg'] W (rpI (.mk k2 b2 i2 f2 t2 s2 is2 fs2) is q) (rpF (.mk k2 b2 i2 f2 t2 s2 is2 fs2) fs p))) (fun v _ => 3 - (intOf v).toNat)
        case atStart => exact ⟨0, Nat.zero_le _, by omega, rfl, HU⟩
        case round =>
          clear HU
          obtain ⟨p, hp, hp3, rfl, HU⟩ := hrel
          obtain ⟨a0, a1, a2, a3, a4, a5, a6, a7⟩ := blk8 HU.out.r3
          clear a0 a1 a2 a3 a4 a5 a6
          by_cases hltp : p < fs.length
          · have hlp : (p : Int) < (fs.length : Int) := by omega
            have h0p : (0 : Int) ≤ (p : Int) := by omega
            by_cases hltp3 : p < 3
            · have hlp3 : (p : Int) < 3 := by omega
              obtain ⟨e0, e1, e2, e3, e4, e5, e6, e7⟩ := blk8 HU.out.r2
              obtain ⟨v, hv⟩ : ∃ v, (rpF (.mk k2 b2 i2 f2 t2 s2 is2 fs2) fs p)[p]? = some v := ⟨_, List.getElem?_eq_getElem (by rw [rpF_len]; exact hltp)⟩
              obtain ⟨cs, hc1, hc2⟩ := HU.out.ft p v hv
              obtain ⟨n3, k3, b3, i3, f3, t3, s3, is3, fs3⟩ := v
              simp only [IsV] at hc2
              obtain ⟨A3, c3, A3', c3', rfl, _⟩ := hc2
              obtain ⟨dd, d0, d1, d2, d3, d4, d5, d6, d7⟩ := hc1.nine
              rw [add_zero_off] at d0 d1 d2 d3 d4 d5 d6 d7
              simp only at d0 d1 d2 d3 d4 d5 d6 d7
              obtain ⟨cur, hcur⟩ := HU.out.bf
              have hcs : p * 9 + 1 + 8 ≤ cur.size := by
                rw [cell_blk hcur] at d7
                have := (Array.getElem?_eq_some_iff.1 d7).1
                omega
              have hpp := Lib.hid (stp_put hcur hcs (.int .i64 k2) (.bool b2) (.int .i64 i2) (.float .f64 f2) (.string t2) (.string s2) (.slice C is2.length d) (.slice C' fs2.length d'))
              have z0 := blk_frozen hcur (p * 9 + 1)
              have z1 := blk_frozen hcur (p * 9 + 1 + 1)
              have z2 := blk_frozen hcur (p * 9 + 1 + 2)
              have z3 := blk_frozen hcur (p * 9 + 1 + 3)
              have z4 := blk_frozen hcur (p * 9 + 1 + 4)
              have z5 := blk_frozen hcur (p * 9 + 1 + 5)
              have z6 := blk_frozen hcur (p * 9 + 1 + 6)
              have z7 := blk_frozen hcur (p * 9 + 1 + 7)
              clear hc1 hcur hcs hv
              go_wp2_with fail
              have hn := HU.out.putF (by omega) hgm hl4 hpp.out (HYF.out _ HU.out.be)
              exact ⟨⟨p + 1, by omega, by omega, by go_num, Lib.hid hn⟩, by simp [intOf]; omega⟩
            · have hlp3 : ¬ (p : Int) < 3 := by omega
              go_upto_region 22 with (fail)
              have hz := HU.out.val (cg := cg) (cg' := cg') hgm hl4 k b i f t s
              rw [rpI_len, rpF_len] at hz
              have HZ := Lib.hid hz
              have HBU := Lib.hid HU.out.be
              have R3 := Lib.hid HU.out.r3
              have hbz : Bel (fun b => b < wr.heap.size) wr.heap.size := fun _ h => h
              have hwz : wt (.mk k b i f t s (rpI (.mk k2 b2 i2 f2 t2 s2 is2 fs2) is q) (rpF (.mk k2 b2 i2 f2 t2 s2 is2 fs2) fs p)) ≤ 16777216 := by
                have e1 := HWT.out
                have e2 := rpI_wt (.mk k2 b2 i2 f2 t2 s2 is2 fs2) is q
                have e3 := rpF_wt (.mk k2 b2 i2 f2 t2 s2 is2 fs2) fs p
                have e4 := Nat.mul_le_mul_right (wt (.mk k2 b2 i2 f2 t2 s2 is2 fs2)) hq3
                have e5 := Nat.mul_le_mul_right (wt (.mk k2 b2 i2 f2 t2 s2 is2 fs2)) hp3
                have e6 : wt (.mk k b i f t s is fs) = 1 + t.size + s.size + wts is + wtf fs := by rw [wt]
                have e7 : wt (.mk k b i f t s (rpI (.mk k2 b2 i2 f2 t2 s2 is2 fs2) is q) (rpF (.mk k2 b2 i2 f2 t2 s2 is2 fs2) fs p)) = 1 + t.size + s.size + wts (rpI (.mk k2 b2 i2 f2 t2 s2 is2 fs2) is q) + wtf (rpF (.mk k2 b2 i2 f2 t2 s2 is2 fs2) fs p) := by rw [wt]
                omega
              have hsz : sz (.mk k b i f t s (rpI (.mk k2 b2 i2 f2 t2 s2 is2 fs2) is q) (rpF (.mk k2 b2 i2 f2 t2 s2 is2 fs2) fs p)) ≤ 1048576 := by
                have e2 := rpI_sz (.mk k2 b2 i2 f2 t2 s2 is2 fs2) is q
                have e3 := rpF_sz (.mk k2 b2 i2 f2 t2 s2 is2 fs2) fs p
                have e4 := Nat.mul_le_mul_right (sz (.mk k2 b2 i2 f2 t2 s2 is2 fs2)) hq3
                have e5 := Nat.mul_le_mul_right (sz (.mk k2 b2 i2 f2 t2 s2 is2 fs2)) hp3
                have e6 : sz (.mk k b i f t s is fs) = 1 + szs is + szf fs := by rw [sz]
                have e7 : sz (.mk k b i f t s (rpI (.mk k2 b2 i2 f2 t2 s2 is2 fs2) is q) (rpF (.mk k2 b2 i2 f2 t2 s2 is2 fs2) fs p)) = 1 + szs (rpI (.mk k2 b2 i2 f2 t2 s2 is2 fs2) is q) + szf (rpF (.mk k2 b2 i2 f2 t2 s2 is2 fs2) fs p) := by rw [sz]
                omega
              have hokz : ok (.mk k b i f t s (rpI (.mk k2 b2 i2 f2 t2 s2 is2 fs2) is q) (rpF (.mk k2 b2 i2 f2 t2 s2 is2 fs2) fs p)) := by
                have e1 := HOX.out
                simp only [ok] at e1 ⊢
                exact ⟨e1.1, rpI_ok _ HOY.out _ e1.2.1 q, rpF_ok _ HOY.out _ e1.2.2 p⟩
              have H1 := Lib.hid ((size_any _ _ wr _ hwz hsz hokz HZ.out hbz (HE.out.below HBU.out)).mono fun _ _ h => lenS h)
              have H2 := Lib.hid (fun (W : World) (hW : Below wr.heap.size wr W) => (rlen_any _ _ W _ hwz hsz hokz (HZ.out.below hbz hW) (hbz.mono hW.size)).mono fun _ _ h => lenR h)
              have H3 := Lib.hid (fun (W : World) (hW : Below wr.heap.size wr W) => writes_any _ _ W _ hwz hsz hokz (HZ.out.below hbz hW) (hbz.mono hW.size) ((HE.out.below HBU.out).below hW))
              clear hwz hsz hokz hbz HU hz HZ
              generalize txt0 (.mk k b i f t s (rpI (.mk k2 b2 i2 f2 t2 s2 is2 fs2) is q) (rpF (.mk k2 b2 i2 f2 t2 s2 is2 fs2) fs p)) = Tz at *
              generalize lk (.mk k b i f t s (rpI (.mk k2 b2 i2 f2 t2 s2 is2 fs2) is q) (rpF (.mk k2 b2 i2 f2 t2 s2 is2 fs2) fs p)) = rz at *
              obtain ⟨a0, a1, a2, a3, a4, a5, a6, a7⟩ := blk8 R3.out
              have hKw := blk_lt R3.out
              go_wp2_with fail
              refine H1.out.mono ?_
              rintro e w14 ⟨rfl, hb1⟩
              have R4 := Lib.hid (blk_below R3.out hb1 hKw)
              have HD := Lib.hid (H2.out w14 hb1)
              have hb1' := Lib.hid hb1
              clear a0 a1 a2 a3 a4 a5 a6 a7 hb1
              obtain ⟨a0, a1, a2, a3, a4, a5, a6, a7⟩ := blk8 R4.out
              go_wp2_with fail
              refine HD.out.mono ?_
              rintro e w15 ⟨rfl, hb2⟩
              have hb2' := Lib.hid (hb1'.out.trans (hb2.mono hb1'.out.size))
              have R5 := Lib.hid (blk_below R3.out hb2'.out hKw)
              have HF := Lib.hid (H3.out w15 hb2'.out)
              clear a0 a1 a2 a3 a4 a5 a6 a7 hb2 HD
              obtain ⟨a0, a1, a2, a3, a4, a5, a6, a7⟩ := blk8 R5.out
              go_wp2_with fail
              refine HF.out.mono ?_
              rintro e w16 ⟨rfl, hb3⟩
              have hb3' := Lib.hid (HBU.out.trans ((hb2'.out.trans (hb3.mono hb2'.out.size)).mono HBU.out.size))
              clear a0 a1 a2 a3 a4 a5 a6 a7 hb3
              go_wp2_with fail
              go_ret
              exact ⟨by simp, hb3'.out⟩
          · have hlp : ¬ (p : Int) < (fs.length : Int) := by omega
            go_upto_region 22 with (fail)
            have hz := HU.out.val (cg := cg) (cg' := cg') hgm hl4 k b i f t s
            rw [rpI_len, rpF_len] at hz
            have HZ := Lib.hid hz
            have HBU := Lib.hid HU.out.be
            have R3 := Lib.hid HU.out.r3
            have hbz : Bel (fun b => b < wr.heap.size) wr.heap.size := fun _ h => h
            have hwz : wt (.mk k b i f t s (rpI (.mk k2 b2 i2 f2 t2 s2 is2 fs2) is q) (rpF (.mk k2 b2 i2 f2 t2 s2 is2 fs2) fs p)) ≤ 16777216 := by
              have e1 := HWT.out
              have e2 := rpI_wt (.mk k2 b2 i2 f2 t2 s2 is2 fs2) is q
              have e3 := rpF_wt (.mk k2 b2 i2 f2 t2 s2 is2 fs2) fs p
              have e4 := Nat.mul_le_mul_right (wt (.mk k2 b2 i2 f2 t2 s2 is2 fs2)) hq3
              have e5 := Nat.mul_le_mul_right (wt (.mk k2 b2 i2 f2 t2 s2 is2 fs2)) hp3
              have e6 : wt (.mk k b i f t s is fs) = 1 + t.size + s.size + wts is + wtf fs := by rw [wt]
              have e7 : wt (.mk k b i f t s (rpI (.mk k2 b2 i2 f2 t2 s2 is2 fs2) is q) (rpF (.mk k2 b2 i2 f2 t2 s2 is2 fs2) fs p)) = 1 + t.size + s.size + wts (rpI (.mk k2 b2 i2 f2 t2 s2 is2 fs2) is q) + wtf (rpF (.mk k2 b2 i2 f2 t2 s2 is2 fs2) fs p) := by rw [wt]
              omega
            have hsz : sz (.mk k b i f t s (rpI (.mk k2 b2 i2 f2 t2 s2 is2 fs2) is q) (rpF (.mk k2 b2 i2 f2 t2 s2 is2 fs2) fs p)) ≤ 1048576 := by
              have e2 := rpI_sz (.mk k2 b2 i2 f2 t2 s2 is2 fs2) is q
              have e3 := rpF_sz (.mk k2 b2 i2 f2 t2 s2 is2 fs2) fs p
              have e4 := Nat.mul_le_mul_right (sz (.mk k2 b2 i2 f2 t2 s2 is2 fs2)) hq3
              have e5 := Nat.mul_le_mul_right (sz (.mk k2 b2 i2 f2 t2 s2 is2 fs2)) hp3
              have e6 : sz (.mk k b i f t s is fs) = 1 + szs is + szf fs := by rw [sz]
              have e7 : sz (.mk k b i f t s (rpI (.mk k2 b2 i2 f2 t2 s2 is2 fs2) is q) (rpF (.mk k2 b2 i2 f2 t2 s2 is2 fs2) fs p)) = 1 + szs (rpI (.mk k2 b2 i2 f2 t2 s2 is2 fs2) is q) + szf (rpF (.mk k2 b2 i2 f2 t2 s2 is2 fs2) fs p) := by rw [sz]
              omega
            have hokz : ok (.mk k b i f t s (rpI (.mk k2 b2 i2 f2 t2 s2 is2 fs2) is q) (rpF (.mk k2 b2 i2 f2 t2 s2 is2 fs2) fs p)) := by
              have e1 := HOX.out
              simp only [ok] at e1 ⊢
              exact ⟨e1.1, rpI_ok _ HOY.out _ e1.2.1 q, rpF_ok _ HOY.out _ e1.2.2 p⟩
            have H1 := Lib.hid ((size_any _ _ wr _ hwz hsz hokz HZ.out hbz (HE.out.below HBU.out)).mono fun _ _ h => lenS h)
            have H2 := Lib.hid (fun (W : World) (hW : Below wr.heap.size wr W) => (rlen_any _ _ W _ hwz hsz hokz (HZ.out.below hbz hW) (hbz.mono hW.size)).mono fun _ _ h => lenR h)
            have H3 := Lib.hid (fun (W : World) (hW : Below wr.heap.size wr W) => writes_any _ _ W _ hwz hsz hokz (HZ.out.below hbz hW) (hbz.mono hW.size) ((HE.out.below HBU.out).below hW))
            clear hwz hsz hokz hbz HU hz HZ
            generalize txt0 (.mk k b i f t s (rpI (.mk k2 b2 i2 f2 t2 s2 is2 fs2) is q) (rpF (.mk k2 b2 i2 f2 t2 s2 is2 fs2) fs p)) = Tz at *
            generalize lk (.mk k b i f t s (rpI (.mk k2 b2 i2 f2 t2 s2 is2 fs2) is q) (rpF (.mk k2 b2 i2 f2 t2 s2 is2 fs2) fs p)) = rz at *
            obtain ⟨a0, a1, a2, a3, a4, a5, a6, a7⟩ := blk8 R3.out
            have hKw := blk_lt R3.out
            go_wp2_with fail
            refine H1.out.mono ?_
            rintro e w14 ⟨rfl, hb1⟩
            have R4 := Lib.hid (blk_below R3.out hb1 hKw)
            have HD := Lib.hid (H2.out w14 hb1)
            have hb1' := Lib.hid hb1
            clear a0 a1 a2 a3 a4 a5 a6 a7 hb1
            obtain ⟨a0, a1, a2, a3, a4, a5, a6, a7⟩ := blk8 R4.out
            go_wp2_with fail
            refine HD.out.mono ?_
            rintro e w15 ⟨rfl, hb2⟩
            have hb2' := Lib.hid (hb1'.out.trans (hb2.mono hb1'.out.size))
            have R5 := Lib.hid (blk_below R3.out hb2'.out hKw)
            have HF := Lib.hid (H3.out w15 hb2'.out)
            clear a0 a1 a2 a3 a4 a5 a6 a7 hb2 HD
            obtain ⟨a0, a1, a2, a3, a4, a5, a6, a7⟩ := blk8 R5.out
            go_wp2_with fail
            refine HF.out.mono ?_
            rintro e w16 ⟨rfl, hb3⟩
            have hb3' := Lib.hid (HBU.out.trans ((hb2'.out.trans (hb3.mono hb2'.out.size)).mono HBU.out.size))
            clear a0 a1 a2 a3 a4 a5 a6 a7 hb3
            go_wp2_with fail
            go_ret
            exact ⟨by simp, hb3'.out⟩
    · have hlq : ¬ (q : Int) < (is.length : Int) := by omega
      go_wp2_with fail
      go_loopw [15] (fun vq W => ∃ p : Nat, p ≤ fs.length ∧ p ≤ 3 ∧ vq = .int .i64 (p : Int) ∧ Hid (Ust w lo m hi K g g' #[.int .i64 k2, .bool b2, .int .i64 i2, .float .f64 f2, .string t2, .string s2, .slice C is2.length d, .slice C' fs2.length d'] #[.int .i64 k, .bool b, .int .i64 i, .float .f64 f, .string t, .string s, .slice (some ⟨g, 0, none⟩) is.length cg, .slice (some ⟨g', 0, none⟩) fs.length cg'] W (rpI (.mk k2 b2 i2 f2 t2 s2 is2 fs2) is q) (rpF (.mk k2 b2 i2 f2 t2 s2 is2 fs2) fs p))) (fun v _ => 3 - (intOf v).toNat)
      case atStart => exact ⟨0, Nat.zero_le _, by omega, rfl, HU⟩
      case round =>
        clear HU
        obtain ⟨p, hp, hp3, rfl, HU⟩ := hrel
        obtain ⟨a0, a1, a2, a3, a4, a5, a6, a7⟩ := blk8 HU.out.r3
        clear a0 a1 a2 a3 a4 a5 a6
        by_cases hltp : p < fs.length
        · have hlp : (p : Int) < (fs.length : Int) := by omega
          have h0p : (0 : Int) ≤ (p : Int) := by omega
          by_cases hltp3 : p < 3
          · have hlp3 : (p : Int) < 3 := by omega
            obtain ⟨e0, e1, e2, e3, e4, e5, e6, e7⟩ := blk8 HU.out.r2
            obtain ⟨v, hv⟩ : ∃ v, (rpF (.mk k2 b2 i2 f2 t2 s2 is2 fs2) fs p)[p]? = some v := ⟨_, List.getElem?_eq_getElem (by rw [rpF_len]; exact hltp)⟩
            obtain ⟨cs, hc1, hc2⟩ := HU.out.ft p v hv
            obtain ⟨n3, k3, b3, i3, f3, t3, s3, is3, fs3⟩ := v
            simp only [IsV] at hc2
            obtain ⟨A3, c3, A3', c3', rfl, _⟩ := hc2
            obtain ⟨dd, d0, d1, d2, d3, d4, d5, d6, d7⟩ := hc1.nine
            rw [add_zero_off] at d0 d1 d2 d3 d4 d5 d6 d7
            simp only at d0 d1 d2 d3 d4 d5 d6 d7
            obtain ⟨cur, hcur⟩ := HU.out.bf
            have hcs : p * 9 + 1 + 8 ≤ cur.size := by
              rw [cell_blk hcur] at d7
              have := (Array.getElem?_eq_some_iff.1 d7).1
              omega
            have hpp := Lib.hid (stp_put hcur hcs (.int .i64 k2) (.bool b2) (.int .i64 i2) (.float .f64 f2) (.string t2) (.string s2) (.slice C is2.length d) (.slice C' fs2.length d'))
            have z0 := blk_frozen hcur (p * 9 + 1)
            have z1 := blk_frozen hcur (p * 9 + 1 + 1)
            have z2 := blk_frozen hcur (p * 9 + 1 + 2)
            have z3 := blk_frozen hcur (p * 9 + 1 + 3)
            have z4 := blk_frozen hcur (p * 9 + 1 + 4)
            have z5 := blk_frozen hcur (p * 9 + 1 + 5)
            have z6 := blk_frozen hcur (p * 9 + 1 + 6)
            have z7 := blk_frozen hcur (p * 9 + 1 + 7)
            clear hc1 hcur hcs hv
            go_wp2_with fail
            have hn := HU.out.putF (by omega) hgm hl4 hpp.out (HYF.out _ HU.out.be)
            exact ⟨⟨p + 1, by omega, by omega, by go_num, Lib.hid hn⟩, by simp [intOf]; omega⟩
          · have hlp3 : ¬ (p : Int) < 3 := by omega
            go_upto_region 22 with (fail)
            have hz := HU.out.val (cg := cg) (cg' := cg') hgm hl4 k b i f t s
            rw [rpI_len, rpF_len] at hz
            have HZ := Lib.hid hz
            have HBU := Lib.hid HU.out.be
            have R3 := Lib.hid HU.out.r3
            have hbz : Bel (fun b => b < wr.heap.size) wr.heap.size := fun _ h => h
            have hwz : wt (.mk k b i f t s (rpI (.mk k2 b2 i2 f2 t2 s2 is2 fs2) is q) (rpF (.mk k2 b2 i2 f2 t2 s2 is2 fs2) fs p)) ≤ 16777216 := by
              have e1 := HWT.out
              have e2 := rpI_wt (.mk k2 b2 i2 f2 t2 s2 is2 fs2) is q
              have e3 := rpF_wt (.mk k2 b2 i2 f2 t2 s2 is2 fs2) fs p
              have e4 := Nat.mul_le_mul_right (wt (.mk k2 b2 i2 f2 t2 s2 is2 fs2)) hq3
              have e5 := Nat.mul_le_mul_right (wt (.mk k2 b2 i2 f2 t2 s2 is2 fs2)) hp3
              have e6 : wt (.mk k b i f t s is fs) = 1 + t.size + s.size + wts is + wtf fs := by rw [wt]
              have e7 : wt (.mk k b i f t s (rpI (.mk k2 b2 i2 f2 t2 s2 is2 fs2) is q) (rpF (.mk k2 b2 i2 f2 t2 s2 is2 fs2) fs p)) = 1 + t.size + s.size + wts (rpI (.mk k2 b2 i2 f2 t2 s2 is2 fs2) is q) + wtf (rpF (.mk k2 b2 i2 f2 t2 s2 is2 fs2) fs p) := by rw [wt]
              omega
            have hsz : sz (.mk k b i f t s (rpI (.mk k2 b2 i2 f2 t2 s2 is2 fs2) is q) (rpF (.mk k2 b2 i2 f2 t2 s2 is2 fs2) fs p)) ≤ 1048576 := by
              have e2 := rpI_sz (.mk k2 b2 i2 f2 t2 s2 is2 fs2) is q
              have e3 := rpF_sz (.mk k2 b2 i2 f2 t2 s2 is2 fs2) fs p
              have e4 := Nat.mul_le_mul_right (sz (.mk k2 b2 i2 f2 t2 s2 is2 fs2)) hq3
              have e5 := Nat.mul_le_mul_right (sz (.mk k2 b2 i2 f2 t2 s2 is2 fs2)) hp3
              have e6 : sz (.mk k b i f t s is fs) = 1 + szs is + szf fs := by rw [sz]
              have e7 : sz (.mk k b i f t s (rpI (.mk k2 b2 i2 f2 t2 s2 is2 fs2) is q) (rpF (.mk k2 b2 i2 f2 t2 s2 is2 fs2) fs p)) = 1 + szs (rpI (.mk k2 b2 i2 f2 t2 s2 is2 fs2) is q) + szf (rpF (.mk k2 b2 i2 f2 t2 s2 is2 fs2) fs p) := by rw [sz]
              omega
            have hokz : ok (.mk k b i f t s (rpI (.mk k2 b2 i2 f2 t2 s2 is2 fs2) is q) (rpF (.mk k2 b2 i2 f2 t2 s2 is2 fs2) fs p)) := by
              have e1 := HOX.out
              simp only [ok] at e1 ⊢
              exact ⟨e1.1, rpI_ok _ HOY.out _ e1.2.1 q, rpF_ok _ HOY.out _ e1.2.2 p⟩
            have H1 := Lib.hid ((size_any _ _ wr _ hwz hsz hokz HZ.out hbz (HE.out.below HBU.out)).mono fun _ _ h => lenS h)
            have H2 := Lib.hid (fun (W : World) (hW : Below wr.heap.size wr W) => (rlen_any _ _ W _ hwz hsz hokz (HZ.out.below hbz hW) (hbz.mono hW.size)).mono fun _ _ h => lenR h)
            have H3 := Lib.hid (fun (W : World) (hW : Below wr.heap.size wr W) => writes_any _ _ W _ hwz hsz hokz (HZ.out.below hbz hW) (hbz.mono hW.size) ((HE.out.below HBU.out).below hW))
            clear hwz hsz hokz hbz HU hz HZ
            generalize txt0 (.mk k b i f t s (rpI (.mk k2 b2 i2 f2 t2 s2 is2 fs2) is q) (rpF (.mk k2 b2 i2 f2 t2 s2 is2 fs2) fs p)) = Tz at *
            generalize lk (.mk k b i f t s (rpI (.mk k2 b2 i2 f2 t2 s2 is2 fs2) is q) (rpF (.mk k2 b2 i2 f2 t2 s2 is2 fs2) fs p)) = rz at *
            obtain ⟨a0, a1, a2, a3, a4, a5, a6, a7⟩ := blk8 R3.out
            have hKw := blk_lt R3.out
            go_wp2_with fail
            refine H1.out.mono ?_
            rintro e w14 ⟨rfl, hb1⟩
            have R4 := Lib.hid (blk_below R3.out hb1 hKw)
            have HD := Lib.hid (H2.out w14 hb1)
            have hb1' := Lib.hid hb1
            clear a0 a1 a2 a3 a4 a5 a6 a7 hb1
            obtain ⟨a0, a1, a2, a3, a4, a5, a6, a7⟩ := blk8 R4.out
            go_wp2_with fail
            refine HD.out.mono ?_
            rintro e w15 ⟨rfl, hb2⟩
            have hb2' := Lib.hid (hb1'.out.trans (hb2.mono hb1'.out.size))
            have R5 := Lib.hid (blk_below R3.out hb2'.out hKw)
            have HF := Lib.hid (H3.out w15 hb2'.out)
            clear a0 a1 a2 a3 a4 a5 a6 a7 hb2 HD
            obtain ⟨a0, a1, a2, a3, a4, a5, a6, a7⟩ := blk8 R5.out
            go_wp2_with fail
            refine HF.out.mono ?_
            rintro e w16 ⟨rfl, hb3⟩
            have hb3' := Lib.hid (HBU.out.trans ((hb2'.out.trans (hb3.mono hb2'.out.size)).mono HBU.out.size))
            clear a0 a1 a2 a3 a4 a5 a6 a7 hb3
            go_wp2_with fail
            go_ret
            exact ⟨by simp, hb3'.out⟩
        · have hlp : ¬ (p : Int) < (fs.length : Int) := by omega
          go_upto_region 22 with (fail)
          have hz := HU.out.val (cg := cg) (cg' := cg') hgm hl4 k b i f t s
          rw [rpI_len, rpF_len] at hz
          have HZ := Lib.hid hz
          have HBU := Lib.hid HU.out.be
          have R3 := Lib.hid HU.out.r3
          have hbz : Bel (fun b => b < wr.heap.size) wr.heap.size := fun _ h => h
          have hwz : wt (.mk k b i f t s (rpI (.mk k2 b2 i2 f2 t2 s2 is2 fs2) is q) (rpF (.mk k2 b2 i2 f2 t2 s2 is2 fs2) fs p)) ≤ 16777216 := by
            have e1 := HWT.out
            have e2 := rpI_wt (.mk k2 b2 i2 f2 t2 s2 is2 fs2) is q
            have e3 := rpF_wt (.mk k2 b2 i2 f2 t2 s2 is2 fs2) fs p
            have e4 := Nat.mul_le_mul_right (wt (.mk k2 b2 i2 f2 t2 s2 is2 fs2)) hq3
            have e5 := Nat.mul_le_mul_right (wt (.mk k2 b2 i2 f2 t2 s2 is2 fs2)) hp3
            have e6 : wt (.mk k b i f t s is fs) = 1 + t.size + s.size + wts is + wtf fs := by rw [wt]
            have e7 : wt (.mk k b i f t s (rpI (.mk k2 b2 i2 f2 t2 s2 is2 fs2) is q) (rpF (.mk k2 b2 i2 f2 t2 s2 is2 fs2) fs p)) = 1 + t.size + s.size + wts (rpI (.mk k2 b2 i2 f2 t2 s2 is2 fs2) is q) + wtf (rpF (.mk k2 b2 i2 f2 t2 s2 is2 fs2) fs p) := by rw [wt]
            omega
          have hsz : sz (.mk k b i f t s (rpI (.mk k2 b2 i2 f2 t2 s2 is2 fs2) is q) (rpF (.mk k2 b2 i2 f2 t2 s2 is2 fs2) fs p)) ≤ 1048576 := by
            have e2 := rpI_sz (.mk k2 b2 i2 f2 t2 s2 is2 fs2) is q
            have e3 := rpF_sz (.mk k2 b2 i2 f2 t2 s2 is2 fs2) fs p
            have e4 := Nat.mul_le_mul_right (sz (.mk k2 b2 i2 f2 t2 s2 is2 fs2)) hq3
            have e5 := Nat.mul_le_mul_right (sz (.mk k2 b2 i2 f2 t2 s2 is2 fs2)) hp3
            have e6 : sz (.mk k b i f t s is fs) = 1 + szs is + szf fs := by rw [sz]
            have e7 : sz (.mk k b i f t s (rpI (.mk k2 b2 i2 f2 t2 s2 is2 fs2) is q) (rpF (.mk k2 b2 i2 f2 t2 s2 is2 fs2) fs p)) = 1 + szs (rpI (.mk k2 b2 i2 f2 t2 s2 is2 fs2) is q) + szf (rpF (.mk k2 b2 i2 f2 t2 s2 is2 fs2) fs p) := by rw [sz]
            omega
          have hokz : ok (.mk k b i f t s (rpI (.mk k2 b2 i2 f2 t2 s2 is2 fs2) is q) (rpF (.mk k2 b2 i2 f2 t2 s2 is2 fs2) fs p)) := by
            have e1 := HOX.out
            simp only [ok] at e1 ⊢
            exact ⟨e1.1, rpI_ok _ HOY.out _ e1.2.1 q, rpF_ok _ HOY.out _ e1.2.2 p⟩
          have H1 := Lib.hid ((size_any _ _ wr _ hwz hsz hokz HZ.out hbz (HE.out.below HBU.out)).mono fun _ _ h => lenS h)
          have H2 := Lib.hid (fun (W : World) (hW : Below wr.heap.size wr W) => (rlen_any _ _ W _ hwz hsz hokz (HZ.out.below hbz hW) (hbz.mono hW.size)).mono fun _ _ h => lenR h)
          have H3 := Lib.hid (fun (W : World) (hW : Below wr.heap.size wr W) => writes_any _ _ W _ hwz hsz hokz (HZ.out.below hbz hW) (hbz.mono hW.size) ((HE.out.below HBU.out).below hW))
          clear hwz hsz hokz hbz HU hz HZ
          generalize txt0 (.mk k b i f t s (rpI (.mk k2 b2 i2 f2 t2 s2 is2 fs2) is q) (rpF (.mk k2 b2 i2 f2 t2 s2 is2 fs2) fs p)) = Tz at *
          generalize lk (.mk k b i f t s (rpI (.mk k2 b2 i2 f2 t2 s2 is2 fs2) is q) (rpF (.mk k2 b2 i2 f2 t2 s2 is2 fs2) fs p)) = rz at *
          obtain ⟨a0, a1, a2, a3, a4, a5, a6, a7⟩ := blk8 R3.out
          have hKw := blk_lt R3.out
          go_wp2_with fail
          refine H1.out.mono ?_
          rintro e w14 ⟨rfl, hb1⟩
          have R4 := Lib.hid (blk_below R3.out hb1 hKw)
          have HD := Lib.hid (H2.out w14 hb1)
          have hb1' := Lib.hid hb1
          clear a0 a1 a2 a3 a4 a5 a6 a7 hb1
          obtain ⟨a0, a1, a2, a3, a4, a5, a6, a7⟩ := blk8 R4.out
          go_wp2_with fail
          refine HD.out.mono ?_
          rintro e w15 ⟨rfl, hb2⟩
          have hb2' := Lib.hid (hb1'.out.trans (hb2.mono hb1'.out.size))
          have R5 := Lib.hid (blk_below R3.out hb2'.out hKw)
          have HF := Lib.hid (H3.out w15 hb2'.out)
          clear a0 a1 a2 a3 a4 a5 a6 a7 hb2 HD
          obtain ⟨a0, a1, a2, a3, a4, a5, a6, a7⟩ := blk8 R5.out
          go_wp2_with fail
          refine HF.out.mono ?_
          rintro e w16 ⟨rfl, hb3⟩
          have hb3' := Lib.hid (HBU.out.trans ((hb2'.out.trans (hb3.mono hb2'.out.size)).mono HBU.out.size))
          clear a0 a1 a2 a3 a4 a5 a6 a7 hb3
          go_wp2_with fail
          go_ret
          exact ⟨by simp, hb3'.out⟩
end Go.Proofs.YtagghdehbkbemaaGreatDoor.look
end
