/- The reference's table: New, Row, Rows. -/
import Derived.Test.YtmicjfdibhoamaaRefCopy
import Derived.Test.YtmicjfdibhoamaaSorted
import Derived.Test.YtmicjfdibhoamaaFresh
import Derived.Test.YtmicjfdibhoamaaPut
import Derived.Test.YtmicjfdibhoamaaUsed
import Derived.Laws.BitsLemmas
namespace Go.Proofs.Ytmicjfdibhoamaa.val
open Go.RowKit mem
attribute [local go_sem] run_store_float

def AnyO (w : World) (e : Ending) (w' : World) : Prop := ∃ g k b i f t y A n c A' n' c', e = .returned (.agg #[.bool g, .int .i64 k, .bool b, .int .i64 i, .float .f64 f, .string t, .string y, .slice A n c, .slice A' n' c']) ∧ Below w.heap.size w w'

theorem infoB' : (Try.prog.info? 4).map (fun i => (i.zero, i.size, i.bytes)) = some (some (.bool false), 1, 1) := by kernel_rfl
set_option maxRecDepth 100000 in
set_option maxHeartbeats 4000000 in
theorem refOutcome_any (o : O) (hsz : sz o.v ≤ 1048576) (cs : List Value) (w : World) (S : Nat → Prop) (hO : IsO w S o cs) (hB : Bel S w.heap.size) : Calls Try.prog 35 #[.agg cs.toArray] w (AnyO w) := by
  obtain ⟨fl, v⟩ := o
  obtain ⟨ds, rfl, hv⟩ := hO
  have HV := Lib.hid hv
  have HB := Lib.hid hB
  obtain ⟨k2, b2, i2, f2, t2, y2, is2, fs2⟩ := v
  simp only [IsV] at hv
  obtain ⟨A2, c2, A2', c2', rfl, _⟩ := hv
  have HC := Lib.hid (fun (W : World) (hW : Below w.heap.size w W) (hWB : w.heap.size ≤ W.heap.size) => refCopy_any 1048576 _ hsz (by omega) _ W S (HV.out.below HB.out hW) (HB.out.mono hWB))
  clear hB HV
  cases fl with
  | true =>
    go_enter Try.func35, Try.ntmps35
    go_wp2_with fail
    exact bodyPost_ret (v := .agg #[.bool true, .int .i64 0, .bool false, .int .i64 0, .float .f64 0, .string ⟨#[]⟩, .string ⟨#[]⟩, .slice none 0 0, .slice none 0 0]) (by simp [results, Try.results35, go_sem]) rfl ⟨_, _, _, _, _, _, _, _, _, _, _, _, _, rfl, ((Below.refl _ _).alloc (Nat.le_refl _) _).alloc (by simp) _⟩
  | false =>
    go_enter Try.func35, Try.ntmps35
    go_wp2_with fail
    refine (HC.out _ (((Below.refl _ _).alloc (Nat.le_refl _) _).alloc (by simp) _) (by simp; omega)).mono ?_
    rintro e wc ⟨k3, b3, i3, f3, t3, y3, A3, n3, c3, A3', n3', c3', rfl, hb⟩
    have hbw : Below w.heap.size w wc := (((Below.refl _ _).alloc (Nat.le_refl _) _).alloc (by simp) _).trans (hb.mono (by simp; omega))
    have hszc := hb.size
    simp only [World.size_alloc] at hszc
    have R := blk_below (g := w.heap.size + 1) (by have := heap_alloc_new (w.alloc (.cells #[.bool false, .int .i64 k2, .bool b2, .int .i64 i2, .float .f64 f2, .string t2, .string y2, .slice A2 is2.length c2, .slice A2' fs2.length c2'] 37)) (.cells #[.bool false, .int .i64 0, .bool false, .int .i64 0, .float .f64 0, .string { data := #[] }, .string { data := #[] }, .slice none 0 0, .slice none 0 0] 37); simpa using this) hb (by simp)
    obtain ⟨j0, j1, j2, j3, j4, j5, j6, j7, j8⟩ := blk9 R
    obtain ⟨f0, f1, f2', f3', f4, f5, f6, f7, f8⟩ := blk9f R
    have hbz := Lib.hid (hbw.trans (grown_below (grown_set (grown_set (grown_set (grown_set (grown_set (grown_set (grown_set (grown_set (grown_set (grown_refl wc (some (w.heap.size + 1))) 0 (.bool false)) 1 (.int .i64 k3)) 2 (.bool b3)) 3 (.int .i64 i3)) 4 (.float .f64 f3)) 5 (.string t3)) 6 (.string y3)) 7 (.slice A3 n3 c3)) 8 (.slice A3' n3' c3')) (show w.heap.size ≤ w.heap.size + 1 by omega) (by omega)))
    clear HC R
    go_wp2_with fail
    exact bodyPost_ret (v := .agg #[.bool false, .int .i64 k3, .bool b3, .int .i64 i3, .float .f64 f3, .string t3, .string y3, .slice A3 n3 c3, .slice A3' n3' c3']) (by simp [results, Try.results35, go_sem, j0, j1, j2, j3, j4, j5, j6, j7, j8]) rfl ⟨_, _, _, _, _, _, _, _, _, _, _, _, _, rfl, hbz.out⟩

def kys (es : List (C × O)) : List C := es.map (·.1)
theorem kys_len (es : List (C × O)) : (kys es).length = es.length := by simp [kys]
def ccs (cs : List C) : List Value := (cs.map C.cs).flatten
theorem ccs_snoc (cs : List C) (c : C) : ccs (cs ++ [c]) = ccs cs ++ c.cs := by simp [ccs]
theorem ccs_len (cs : List C) : (ccs cs).length = cs.length * 4 := by
  induction cs with
  | nil => rfl
  | cons c r ih =>
    have h : ccs (c :: r) = c.cs ++ ccs r := rfl
    rw [h, List.length_append, ih]
    simp [C.cs]
    omega
def Apart (u v : Value) : Prop := ∀ b, u.ownBlock = some b → v.ownBlock ≠ some b
theorem Apart.symm {u v : Value} (h : Apart u v) : Apart v u := fun b hb hu => h b hu hb
theorem apart_app {w : World} {u v v' : Value} (h : Apart u v) (hat : v'.ownBlock = v.ownBlock ∨ v'.ownBlock = some w.heap.size) (hlt : ∀ b, u.ownBlock = some b → b < w.heap.size) : Apart u v' := fun b hb e => by
  rcases hat with ha | ha
  · rw [ha] at e
    exact h b hb e
  · rw [ha] at e
    injection e with e
    have := hlt b hb
    omega
theorem apart_nil (v : Value) : Apart (.slice none 0 0) v := fun b hb => by simp [Value.ownBlock] at hb
theorem own_apart {w w' : World} {base : Nat} {e : TypeId} {size n : Nat} {u v : Value} {xs : List Value} (h : w.ownsRow base e size u n xs) (hg : w.grownBy w' v.ownBlock) (ha : Apart u v) : w'.ownsRow base e size u n xs :=
  h.kept hg (by
    cases hu : u.ownBlock with
    | none => exact .inl rfl
    | some b => exact .inr (fun e => ha b hu e.symm))

/-- the table that is being made: its calls, its outcomes, which come first -/
def St (W : World) (g : Nat) (cs : List C) (vc vf vu : Value) (i j k : Nat) : Prop := W.heap[g]? = some (.cells #[.slice none 0 0, .slice none 0 0, .slice none 0 0, .slice none 0 0] 55) ∧ W.heap[g + 1]? = some (.cells #[vc, .slice none 0 0, vf, vu] 55) ∧
  W.ownsRow (g + 2) 25 4 vc i (ccs (cs.take i)) ∧ W.ownsRow (g + 2) 4 1 vf j (List.replicate j (.bool false)) ∧ (∃ xs, W.ownsRow (g + 2) 37 9 vu k xs) ∧ Apart vc vf ∧ Apart vc vu ∧ Apart vf vu ∧ g + 2 ≤ W.heap.size
theorem St.below {W W' : World} {g : Nat} {cs : List C} {vc vf vu : Value} {i j k : Nat} (h : St W g cs vc vf vu i j k) (hb : Below W.heap.size W W') : St W' g cs vc vf vu i j k := by
  obtain ⟨h1, h2, h3, h4, ⟨xs, h5⟩, h6, h7, h8, h9⟩ := h
  have := hb.size
  exact ⟨blk_below h1 hb (blk_lt h1), blk_below h2 hb (blk_lt h2), own_below h3 hb, own_below h4 hb, ⟨xs, own_below h5 hb⟩, h6, h7, h8, by omega⟩
theorem St.calls {W w5 : World} {g : Nat} {cs : List C} {vc vf vu v5 : Value} {i j k : Nat} (h : St W g cs vc vf vu i j k) (ys : List Value) (hy : ccs (cs.take i) ++ ys = ccs (cs.take (i + 1))) (hown : w5.ownsRow (g + 2) 25 4 v5 (i + 1) (ccs (cs.take i) ++ ys)) (hg : W.grownBy w5 vc.ownBlock) (hat : v5.ownBlock = vc.ownBlock ∨ v5.ownBlock = some W.heap.size) :
    St (w5.setCell ⟨g + 1, 0, none⟩ v5) g cs v5 vf vu (i + 1) j k := by
  obtain ⟨h1, h2, h3, h4, ⟨xs, h5⟩, h6, h7, h8, h9⟩ := h
  have hs := hg.size
  refine ⟨blk_far (blk_grown h1 hg (own_ne h3 (by omega))) (show g ≠ g + 1 by omega) _, by simpa using blk_set (blk_grown h2 hg (own_ne h3 (by omega))) 0 v5, ownsRow_setCell_below (hy ▸ hown) (show g + 1 < g + 2 by omega) _, ownsRow_setCell_below (own_apart h4 hg h6.symm) (show g + 1 < g + 2 by omega) _, ⟨xs, ownsRow_setCell_below (own_apart h5 hg h7.symm) (show g + 1 < g + 2 by omega) _⟩,
    (apart_app h6.symm hat (fun b hb => (h4.lt b hb).2)).symm, (apart_app h7.symm hat (fun b hb => (h5.lt b hb).2)).symm, h8, by simp [World.setCell]; omega⟩
theorem St.outs {W w5 : World} {g : Nat} {cs : List C} {vc vf vu v5 : Value} {i j k : Nat} (h : St W g cs vc vf vu i j k) {zs : List Value} (hown : w5.ownsRow (g + 2) 37 9 v5 (k + 1) zs) (hg : W.grownBy w5 vu.ownBlock) (hat : v5.ownBlock = vu.ownBlock ∨ v5.ownBlock = some W.heap.size) :
    St (w5.setCell ⟨g + 1, 3, none⟩ v5) g cs vc vf v5 i j (k + 1) := by
  obtain ⟨h1, h2, h3, h4, ⟨xs, h5⟩, h6, h7, h8, h9⟩ := h
  have hs := hg.size
  refine ⟨blk_far (blk_grown h1 hg (own_ne h5 (by omega))) (show g ≠ g + 1 by omega) _, by simpa using blk_set (blk_grown h2 hg (own_ne h5 (by omega))) 3 v5, ownsRow_setCell_below (own_apart h3 hg h7) (show g + 1 < g + 2 by omega) _, ownsRow_setCell_below (own_apart h4 hg h8) (show g + 1 < g + 2 by omega) _, ⟨_, ownsRow_setCell_below hown (show g + 1 < g + 2 by omega) _⟩,
    h6, apart_app h7 hat (fun b hb => (h3.lt b hb).2), apart_app h8 hat (fun b hb => (h4.lt b hb).2), by simp [World.setCell]; omega⟩
theorem St.firsts {W w5 : World} {g : Nat} {cs : List C} {vc vf vu v5 : Value} {i j k : Nat} (h : St W g cs vc vf vu i j k) (hown : w5.ownsRow (g + 2) 4 1 v5 (j + 1) (List.replicate j (.bool false) ++ [.bool false])) (hg : W.grownBy w5 vf.ownBlock) (hat : v5.ownBlock = vf.ownBlock ∨ v5.ownBlock = some W.heap.size) :
    St (w5.setCell ⟨g + 1, 2, none⟩ v5) g cs vc v5 vu i (j + 1) k := by
  obtain ⟨h1, h2, h3, h4, ⟨xs, h5⟩, h6, h7, h8, h9⟩ := h
  have hs := hg.size
  refine ⟨blk_far (blk_grown h1 hg (own_ne h4 (by omega))) (show g ≠ g + 1 by omega) _, by simpa using blk_set (blk_grown h2 hg (own_ne h4 (by omega))) 2 v5, ownsRow_setCell_below (own_apart h3 hg h6) (show g + 1 < g + 2 by omega) _, ownsRow_setCell_below (by rw [List.replicate_succ']; exact hown) (show g + 1 < g + 2 by omega) _, ⟨xs, ownsRow_setCell_below (own_apart h5 hg h8.symm) (show g + 1 < g + 2 by omega) _⟩,
    apart_app h6 hat (fun b hb => (h3.lt b hb).2), h7, (apart_app h8.symm hat (fun b hb => (h5.lt b hb).2)).symm, by simp [World.setCell]; omega⟩
theorem below_app3 {g : Nat} {B : Nat} {w W w5 : World} {e : TypeId} {size n : Nat} {v : Value} {xs : List Value} (hb : Below B w W) (hB : B ≤ g) (hBs : B ≤ W.heap.size) (h : W.ownsRow (g + 2) e size v n xs) (hg : W.grownBy w5 v.ownBlock) (i : Nat) (u : Value) : Below B w (w5.setCell ⟨g + 1, i, none⟩ u) :=
  (hb.grown hg hBs (fun k hk => by have := (h.lt k hk).1; omega)).setCell (show B ≤ g + 1 by omega) u

theorem c_split {a b : C} (h : a ≠ b) : ¬ a.p.toList = b.p.toList ∨ (a.p.toList = b.p.toList ∧ ¬ a.q.toList = b.q.toList) ∨ (a.p.toList = b.p.toList ∧ a.q.toList = b.q.toList ∧ ¬ a.f.toList = b.f.toList) ∨ (a.p.toList = b.p.toList ∧ a.q.toList = b.q.toList ∧ a.f.toList = b.f.toList ∧ ¬ a.a.toList = b.a.toList) := by
  obtain ⟨a1, a2, a3, a4⟩ := a
  obtain ⟨b1, b2, b3, b4⟩ := b
  by_cases h1 : a1.toList = b1.toList
  · by_cases h2 : a2.toList = b2.toList
    · by_cases h3 : a3.toList = b3.toList
      · by_cases h4 : a4.toList = b4.toList
        · exact absurd (by rw [toList_inj h1, toList_inj h2, toList_inj h3, toList_inj h4]) h
        · exact .inr (.inr (.inr ⟨h1, h2, h3, h4⟩))
      · exact .inr (.inr (.inl ⟨h1, h2, h3⟩))
    · exact .inr (.inl ⟨h1, h2⟩)
  · exact .inl h1
def firstB (cs : List C) (k : Nat) : Bool := decide (keyAt cs k ∉ cs.take k)
theorem firstB_iff {cs : List C} {k : Nat} (hk : k < cs.length) : firstB cs k = true ↔ ∀ j, j < k → keyAt cs j ≠ keyAt cs k := by
  unfold firstB
  rw [decide_eq_true_iff]
  constructor
  · intro h j hj e
    refine h ?_
    rw [← e]
    have : keyAt cs j = cs[j]'(by omega) := by simp [keyAt, show j < cs.length by omega]
    rw [this]
    exact List.mem_iff_getElem?.2 ⟨j, by rw [List.getElem?_take, if_pos hj]; exact List.getElem?_eq_getElem (by omega)⟩
  · intro h hm
    obtain ⟨j, hj⟩ := List.mem_iff_getElem?.1 hm
    rw [List.getElem?_take] at hj
    split at hj
    · rename_i hlt
      exact h j hlt (by simp [keyAt, hj])
    · cases hj
/-- the reference's table -/
def RefAt (w : World) (base : Nat) (cs : List C) (vs : List Value) : Prop := ∃ Ac cc Ao co Af cf Au nu cu l, vs = [.slice Ac cs.length cc, .slice Ao cs.length co, .slice Af cs.length cf, .slice Au nu cu] ∧ w.ownsRow base 25 4 (.slice Ac cs.length cc) cs.length (ccs cs) ∧ InOrder (keyAt cs) l 0 cs.length ∧
  w.ownsRow base 3 1 (.slice Ao cs.length co) cs.length (l.map iv) ∧ w.ownsRow base 4 1 (.slice Af cs.length cf) cs.length ((List.range cs.length).map fun k => .bool (firstB cs k))
def RefPost (w : World) (cs : List C) (e : Ending) (w' : World) : Prop := ∃ vs, e = .returned (.agg vs.toArray) ∧ RefAt w' w.heap.size cs vs ∧ Below w.heap.size w w'
theorem ccs_lat {w : World} {base : Nat} {A : Option Addr} {n c : Nat} {cs : List C} (h : w.ownsRow base 25 4 (.slice A n c) n (ccs cs)) (hn : n = cs.length) : LAt 4 IsC w (New base w) cs A := by
  subst hn
  exact lat_more recC (LAt.of_own recC (S := fun _ => False) h ⟨by simp, fun j y ds h1 h2 => by rw [List.getElem?_map, h1] at h2; exact (Option.some.inj h2).symm⟩) (fun b hb => hb.elim False.elim id)
/-- the numbers marked so far -/
def Marks (cs : List C) (l fl : List Nat) (q : Nat) : Prop := ∀ k, k ∈ fl ↔ k ∈ l.take q ∧ ∀ j, j < k → keyAt cs j ≠ keyAt cs k
theorem marks_nil (cs : List C) (l : List Nat) : Marks cs l [] 0 := fun k => by simp
theorem Marks.yes {cs : List C} {l fl : List Nat} {q : Nat} (h : Marks cs l fl q) (hq : q < l.length) (hf : ∀ j, j < l[q] → keyAt cs j ≠ keyAt cs l[q]) : Marks cs l (fl ++ [l[q]]) (q + 1) := fun k => by
  rw [List.mem_append, h k, List.take_succ_eq_append_getElem hq, List.mem_append, List.mem_singleton]
  constructor
  · rintro (⟨h1, h2⟩ | rfl)
    · exact ⟨.inl h1, h2⟩
    · exact ⟨.inr rfl, hf⟩
  · rintro ⟨h1 | rfl, h2⟩
    · exact .inl ⟨h1, h2⟩
    · exact .inr rfl
theorem Marks.no {cs : List C} {l fl : List Nat} {q : Nat} (h : Marks cs l fl q) (hq : q < l.length) (hf : ¬ ∀ j, j < l[q] → keyAt cs j ≠ keyAt cs l[q]) : Marks cs l fl (q + 1) := fun k => by
  rw [h k, List.take_succ_eq_append_getElem hq, List.mem_append, List.mem_singleton]
  constructor
  · rintro ⟨h1, h2⟩
    exact ⟨.inl h1, h2⟩
  · rintro ⟨h1 | rfl, h2⟩
    · exact ⟨h1, h2⟩
    · exact absurd h2 hf
theorem Marks.all {cs : List C} {l fl : List Nat} (h : Marks cs l fl l.length) (hl : InOrder (keyAt cs) l 0 cs.length) : flags cs.length fl = (List.range cs.length).map fun k => .bool (firstB cs k) := by
  unfold flags
  refine List.map_congr_left fun k hk => ?_
  have hk' : k < cs.length := List.mem_range.1 hk
  have hm : k ∈ l := (hl.2.1 k).2 ⟨Nat.zero_le _, hk'⟩
  have := h k
  rw [List.take_of_length_le (Nat.le_refl _)] at this
  congr 1
  cases hb : firstB cs k with
  | true => exact decide_eq_true (this.2 ⟨hm, (firstB_iff hk').1 hb⟩)
  | false => exact decide_eq_false (fun hh => by rw [(firstB_iff hk').2 (this.1 hh).2] at hb; cases hb)
/-- the table behind the sorting -/
def St2 (W : World) (g n : Nat) (cs : List C) (l fl : List Nat) (Ac : Option Addr) (cc : Nat) (Ao : Option Addr) (co : Nat) (Af : Option Addr) (cf : Nat) (vu : Value) : Prop := W.heap[g]? = some (.cells #[.slice none 0 0, .slice none 0 0, .slice none 0 0, .slice none 0 0] 55) ∧ W.heap[g + 1]? = some (.cells #[.slice Ac n cc, .slice Ao n co, .slice Af n cf, vu] 55) ∧
  W.ownsRow (g + 2) 25 4 (.slice Ac n cc) n (ccs cs) ∧ W.ownsRow (g + 2) 3 1 (.slice Ao n co) n (l.map iv) ∧ W.ownsRow (g + 2) 4 1 (.slice Af n cf) n (flags n fl) ∧ Apart (.slice Ac n cc) (.slice Af n cf) ∧ Apart (.slice Ao n co) (.slice Af n cf) ∧ g + 2 ≤ W.heap.size

theorem St2.below {W W' : World} {g n : Nat} {cs : List C} {l fl : List Nat} {Ac : Option Addr} {cc : Nat} {Ao : Option Addr} {co : Nat} {Af : Option Addr} {cf : Nat} {vu : Value} (h : St2 W g n cs l fl Ac cc Ao co Af cf vu) (hb : Below W.heap.size W W') : St2 W' g n cs l fl Ac cc Ao co Af cf vu := by
  obtain ⟨h1, h2, h3, h4, h5, h6, h7, h8⟩ := h
  have := hb.size
  exact ⟨blk_below h1 hb (blk_lt h1), blk_below h2 hb (blk_lt h2), own_below h3 hb, own_below h4 hb, own_below h5 hb, h6, h7, by omega⟩
theorem St2.mark {w W : World} {B g n : Nat} {cs : List C} {l fl : List Nat} {Ac : Option Addr} {cc : Nat} {Ao : Option Addr} {co b cf : Nat} {vu : Value} (h : St2 W g n cs l fl Ac cc Ao co (some ⟨b, 0, none⟩) cf vu) (hb : Below B w W) (hB : B ≤ g) (p : Nat) :
    St2 (W.setCell ⟨b, p, none⟩ (.bool true)) g n cs l (fl ++ [p]) Ac cc Ao co (some ⟨b, 0, none⟩) cf vu ∧ Below B w (W.setCell ⟨b, p, none⟩ (.bool true)) := by
  obtain ⟨h1, h2, h3, h4, h5, h6, h7, h8⟩ := h
  have hlt := (h5.lt b rfl).1
  obtain ⟨hst, hgs⟩ := h5.stored p (.bool true)
  have hs := hgs.size
  refine ⟨⟨blk_far (a := ⟨b, p, none⟩) h1 (show g ≠ b by omega) _, blk_far (a := ⟨b, p, none⟩) h2 (show g + 1 ≠ b by omega) _, own_apart (v := .slice (some ⟨b, 0, none⟩) n cf) h3 hgs h6, own_apart (v := .slice (some ⟨b, 0, none⟩) n cf) h4 hgs h7, by rw [← flags_set]; exact hst, h6, h7, by omega⟩, hb.setCell (show B ≤ b by omega) _⟩

set_option maxRecDepth 100000 in
set_option maxHeartbeats 8000000 in
theorem refNew_any (es : List (C × O)) (hes : szE es ≤ 1048576) (A : Option Addr) (c : Nat) (w : World) (S : Nat → Prop) (hE : LAt 13 IsE w S es A) (hB : Bel S w.heap.size) : Calls Try.prog 20 #[.slice A es.length c] w (RefPost w (kys es)) := by
  have hl1 := szE_len es
  have HEs := Lib.hid hE
  have HB := Lib.hid hB
  obtain ⟨ic, hic, hc0, hc1, hc2⟩ := info_parts infoC
  obtain ⟨io, hio, ho0, ho1, ho2⟩ := info_parts infoO
  obtain ⟨ib, hib, hb0, hb1, hb2'⟩ := info_parts infoB'
  clear hE hB
  go_enter Try.func20, Try.ntmps20
  go_wp2_with fail
  have hSt : St ((w.alloc (.cells #[.slice none 0 0, .slice none 0 0, .slice none 0 0, .slice none 0 0] 55)).alloc (.cells #[.slice none 0 0, .slice none 0 0, .slice none 0 0, .slice none 0 0] 55)) w.heap.size (kys es) (.slice none 0 0) (.slice none 0 0) (.slice none 0 0) 0 0 0 := ⟨blk_alloc (heap_alloc_new w _) _, by simpa using heap_alloc_new (w.alloc (.cells #[.slice none 0 0, .slice none 0 0, .slice none 0 0, .slice none 0 0] 55)) (.cells #[.slice none 0 0, .slice none 0 0, .slice none 0 0, .slice none 0 0] 55), World.ownsRow_nil _ _ _ _, World.ownsRow_nil _ _ _ _, ⟨[], World.ownsRow_nil _ _ _ _⟩, apart_nil _, apart_nil _, apart_nil _, by simp⟩
  have hbw : Below w.heap.size w ((w.alloc (.cells #[.slice none 0 0, .slice none 0 0, .slice none 0 0, .slice none 0 0] 55)).alloc (.cells #[.slice none 0 0, .slice none 0 0, .slice none 0 0, .slice none 0 0] 55)) := ((Below.refl _ _).alloc (Nat.le_refl _) _).alloc (by simp) _
  generalize ((w.alloc (.cells #[.slice none 0 0, .slice none 0 0, .slice none 0 0, .slice none 0 0] 55)).alloc (.cells #[.slice none 0 0, .slice none 0 0, .slice none 0 0, .slice none 0 0] 55)) = w0 at *
  have HSt := Lib.hid hSt
  clear hSt
  go_loopw [11] (fun vi W => ∃ (q : Nat) (vc vf vu : Value), q ≤ es.length ∧ vi = .int .i64 (q : Int) ∧ Hid (St W w.heap.size (kys es) vc vf vu q q q) ∧ Below w.heap.size w W) (fun i _ => es.length - (intOf i).toNat)
  case atStart => exact ⟨0, _, _, _, Nat.zero_le _, rfl, HSt, hbw⟩
  case round =>
    obtain ⟨q, vc, vf, vu, hq, rfl, HS, hb⟩ := hrel
    clear HSt hbw
    have hszr := HS.out.2.2.2.2.2.2.2.2
    by_cases hlt : q < es.length
    · have hx : es[q]? = some es[q] := List.getElem?_eq_getElem hlt
      have hts : Hid (ccs ((kys es).take (q + 1)) = ccs ((kys es).take q) ++ es[q].1.cs) := Lib.hid (by
        rw [List.take_succ_eq_append_getElem (by rw [kys_len]; exact hlt), ccs_snoc]
        simp [kys])
      have hsx := szE_get hx
      obtain ⟨ad, cs, rfl, hadB, hcs, ds, rfl, hvx⟩ := (HEs.out.below recE HB.out hb) q _ hx
      generalize es[q] = x at *
      obtain ⟨⟨x1, x2, x3, x4⟩, xf, v⟩ := x
      have HIO : Hid (IsO wr S ⟨xf, v⟩ (.bool xf :: ds)) := Lib.hid ⟨ds, rfl, hvx⟩
      obtain ⟨k2, b2, i2, f2, t2, y2, is2, fs2⟩ := v
      simp only [IsV] at hvx
      obtain ⟨A2, c2, A2', c2', rfl, _⟩ := hvx
      obtain ⟨d0, d1, d2, d3, d4, d5, d6, d7, d8, d9, d10, d11, d12⟩ := hcs.thirteen
      simp only at d0 d1 d2 d3 d4 hsx
      clear hcs hx
      have gE := heap_alloc_new wr (.cells #[.string x1, .string x2, .string x3, .string x4, .bool xf, .int .i64 k2, .bool b2, .int .i64 i2, .float .f64 f2, .string t2, .string y2, .slice A2 is2.length c2, .slice A2' fs2.length c2'] 39)
      have HS1 := Lib.hid (HS.out.below ((Below.refl _ _).alloc (Nat.le_refl _) (.cells #[.string x1, .string x2, .string x3, .string x4, .bool xf, .int .i64 k2, .bool b2, .int .i64 i2, .float .f64 f2, .string t2, .string y2, .slice A2 is2.length c2, .slice A2' fs2.length c2'] 39)))
      have T1 := HS1.out.2.1
      have t0 := cell_of_row (wr.alloc (.cells #[.string x1, .string x2, .string x3, .string x4, .bool xf, .int .i64 k2, .bool b2, .int .i64 i2, .float .f64 f2, .string t2, .string y2, .slice A2 is2.length c2, .slice A2' fs2.length c2'] 39)) (w.heap.size + 1) 0 _ _ (0, 0) T1
      have GE := Lib.hid gE
      clear gE T1
      go_wp2_with (at_builtin; go_must (refine wpList_app _ rfl (.tmp 16) (.tmp 19) _ rfl (w.heap.size + 2) 25 ic _ 4 64 Try.underlying23 hic hc0 hc1 hc2 rfl (by omega) vc q (ccs ((kys es).take q)) rfl ((HS1.out.2.2.1).alloc _) (wr.heap.size + 1 + 1) (some ⟨wr.heap.size + 1, 0, none⟩) 1 1 (C.cs ⟨x1, x2, x3, x4⟩) rfl rfl (Rd.newAt (wr.alloc (.cells #[.string x1, .string x2, .string x3, .string x4, .bool xf, .int .i64 k2, .bool b2, .int .i64 i2, .float .f64 f2, .string t2, .string y2, .slice A2 is2.length c2, .slice A2' fs2.length c2'] 39)) (wr.heap.size + 1) _ 25 (by simp)) (fun h => by cases h) (fun u hu => by simp [C.cs] at hu; rcases hu with rfl | rfl | rfl | rfl <;> rfl) (by unfold maxLen; omega) (by omega) (by simp; omega) ?_); intro v5 w5 hown5 hgrow5 hat5; obtain ⟨A5, c5, rfl, _⟩ := own_form hown5; have R3w := blk_grown (blk_alloc HS1.out.2.1 (.cells #[.string x1, .string x2, .string x3, .string x4] 25)) hgrow5 (own_ne HS1.out.2.2.1 (by omega)); have j0w := cell_of_row w5 (w.heap.size + 1) 0 _ _ (0, 0) R3w; have jfw := blk_frozen R3w 0; have HX5 := Lib.hid (And.intro hown5 (And.intro hgrow5 hat5)); clear R3w hown5 hgrow5 hat5)
      have hnb : some wr.heap.size ≠ vc.ownBlock := fun e => by have := (HS.out.2.2.1.lt _ e.symm).2; omega
      have hS2 : St (w5.setCell ⟨w.heap.size + 1, 0, none⟩ (.slice A5 (q + 1) c5)) w.heap.size (kys es) (.slice A5 (q + 1) c5) vf vu (q + 1) q q := (HS1.out.below ((Below.refl _ _).alloc (Nat.le_refl _) (.cells #[.string x1, .string x2, .string x3, .string x4] 25))).calls _ hts.out.symm HX5.out.1 HX5.out.2.1 HX5.out.2.2
      have hbr1 : Below w.heap.size wr ((wr.alloc (.cells #[.string x1, .string x2, .string x3, .string x4, .bool xf, .int .i64 k2, .bool b2, .int .i64 i2, .float .f64 f2, .string t2, .string y2, .slice A2 is2.length c2, .slice A2' fs2.length c2'] 39)).alloc (.cells #[.string x1, .string x2, .string x3, .string x4] 25)) := ((Below.refl w.heap.size wr).alloc (by omega) _).alloc (by simp; omega) _
      have hbr : Below w.heap.size wr (w5.setCell ⟨w.heap.size + 1, 0, none⟩ (.slice A5 (q + 1) c5)) := (hbr1.grown HX5.out.2.1 (by simp; omega) (fun k hk => by have := (HS.out.2.2.1.lt k hk).1; omega)).setCell (show w.heap.size ≤ w.heap.size + 1 by omega) _
      have gE2 := blk_far (a := ⟨w.heap.size + 1, 0, none⟩) (blk_grown (blk_alloc GE.out (.cells #[.string x1, .string x2, .string x3, .string x4] 25)) HX5.out.2.1 hnb) (show wr.heap.size ≠ w.heap.size + 1 by omega) (.slice A5 (q + 1) c5)
      have hsz5 : wr.heap.size + 2 ≤ (w5.setCell ⟨w.heap.size + 1, 0, none⟩ (.slice A5 (q + 1) c5)).heap.size := by
        have := HX5.out.2.1.size
        simp at this
        simp [World.setCell]
        omega
      clear HX5 j0w jfw t0 GE HS1 hbr1
      generalize (w5.setCell ⟨w.heap.size + 1, 0, none⟩ (.slice A5 (q + 1) c5)) = W2 at *
      have hb2 := hb.trans hbr
      have HS2 := Lib.hid hS2
      have HC := Lib.hid (refOutcome_any ⟨xf, .mk k2 b2 i2 f2 t2 y2 is2 fs2⟩ (by simp only; omega) _ W2.drew S (recO.keep (fun p hp => hbr.cell (HB.out _ hp)) (fun _ h => h) HIO.out) (HB.out.mono (by simp; omega)))
      obtain ⟨m0, m1, m2, m3, m4, m5, m6, m7, m8, m9, m10, m11, m12⟩ := blk13 gE2
      have gl0 := blk_lt hS2.1
      have gl1 := blk_lt hS2.2.1
      have gl2 := blk_lt gE2
      have tc3 := cell_of_row W2 (w.heap.size + 1) 3 _ _ (0, 0) hS2.2.1
      clear gE2 hS2 m0 m1 m2 m3 HIO
      go_region_law (first
        | (refine step_app _ rfl (.tmp 23) (.tmp 27) _ rfl (w.heap.size + 2) 37 io _ 9 120 Try.underlying53 hio ho0 ho1 ho2 rfl (by omega) vu q xs rfl (HU.out.alloc _) (wc.heap.size + 1) (some ⟨wc.heap.size, 0, none⟩) 1 1 ([.bool g3, .int .i64 k3, .bool b3, .int .i64 i3, .float .f64 f3, .string t3, .string y3, .slice A3 n3 c3, .slice A3' n3' c3'] : List Value) rfl rfl (Rd.new wc ([.bool g3, .int .i64 k3, .bool b3, .int .i64 i3, .float .f64 f3, .string t3, .string y3, .slice A3 n3 c3, .slice A3' n3' c3'] : List Value) 37) (by simp) (by simp; exact ⟨rfl, rfl, rfl, rfl, rfl, rfl, rfl, rfl, rfl⟩) (by unfold maxLen; omega) (by omega) (by simp; omega) ?_; intro v7 w7 hown7 hgrow7 hat7; have R3w := blk_grown (blk_alloc HS3.out.2.1 (.cells #[.bool g3, .int .i64 k3, .bool b3, .int .i64 i3, .float .f64 f3, .string t3, .string y3, .slice A3 n3 c3, .slice A3' n3' c3'] 37)) hgrow7 (own_ne HU.out (by omega)); have j3w := cell_of_row w7 (w.heap.size + 1) 3 _ _ (0, 0) R3w; have jfw := blk_frozen R3w 3; have HX7 := Lib.hid (And.intro hown7 (And.intro hgrow7 hat7)); obtain ⟨A7, c7, rfl, _⟩ := own_form hown7; clear R3w hown7 hgrow7 hat7)
        | (go_simp; go_at_call 35; go_must (refine HC.out.mono ?_; rintro e wc ⟨g3, k3, b3, i3, f3, t3, y3, A3, n3, c3, A3', n3', c3', rfl, hbc⟩; have hb23 : Below W2.heap.size W2 wc := ((Below.refl _ _).drew).trans (hbc.mono (by simp)); have HS3 := Lib.hid (HS2.out.below hb23); obtain ⟨xs, hxs⟩ := HS3.out.2.2.2.2.1; have HU := Lib.hid hxs; have hsc := hb23.size; have t3c := cell_of_row wc (w.heap.size + 1) 3 _ _ (0, 0) HS3.out.2.1; have gl1c := blk_lt HS3.out.2.1; clear hxs hbc)))
      all_goals
        have hS3 := (HS3.out.below ((Below.refl _ _).alloc (Nat.le_refl _) (.cells #[.bool g3, .int .i64 k3, .bool b3, .int .i64 i3, .float .f64 f3, .string t3, .string y3, .slice A3 n3 c3, .slice A3' n3' c3'] 37))).outs HX7.out.1 HX7.out.2.1 HX7.out.2.2
        have hb3 : Below w.heap.size w (w7.setCell ⟨w.heap.size + 1, 3, none⟩ (.slice A7 (q + 1) c7)) := below_app3 (((hb2.trans (hb23.mono (by omega)))).alloc (by omega) (.cells #[.bool g3, .int .i64 k3, .bool b3, .int .i64 i3, .float .f64 f3, .string t3, .string y3, .slice A3 n3 c3, .slice A3' n3' c3'] 37)) (Nat.le_refl _) (by simp; omega) (HU.out.alloc _) HX7.out.2.1 3 _
        clear HX7 HU HS3 HS2 j3w jfw t3c tc3 HC m4 m5 m6 m7 m8 m9 m10 m11 m12
        generalize (w7.setCell ⟨w.heap.size + 1, 3, none⟩ (.slice A7 (q + 1) c7)) = W3 at *
        have HS4 := Lib.hid hS3
        have t2 := cell_of_row W3 (w.heap.size + 1) 2 _ _ (0, 0) hS3.2.1
        have hsz3 := hS3.2.2.2.2.2.2.2.2
        clear hS3
        go_wp2_with (at_builtin; go_must (refine wpList_app _ rfl (.tmp 31) (.tmp 32) _ rfl (w.heap.size + 2) 4 ib _ 1 1 Try.underlying51 hib hb0 hb1 hb2' rfl (by omega) vf q (List.replicate q (.bool false)) rfl ((HS4.out.2.2.2.1).alloc _) (W3.heap.size + 1) (some ⟨W3.heap.size, 0, none⟩) 1 1 [.bool false] rfl rfl (Rd.new W3 [.bool false] 4) (fun h => by cases h) (by simp; rfl) (by unfold maxLen; omega) (by omega) (by simp; omega) ?_); intro v8 w8 hown8 hgrow8 hat8; have R3w := blk_grown (blk_alloc HS4.out.2.1 (.cells #[.bool false] 4)) hgrow8 (own_ne HS4.out.2.2.2.1 (by omega)); have j2w := cell_of_row w8 (w.heap.size + 1) 2 _ _ (0, 0) R3w; have jfw := blk_frozen R3w 2; have HX8 := Lib.hid (And.intro hown8 (And.intro hgrow8 hat8)); obtain ⟨A8, c8, rfl, _⟩ := own_form hown8; clear R3w hown8 hgrow8 hat8)
        have HS5 := Lib.hid ((HS4.out.below ((Below.refl _ _).alloc (Nat.le_refl _) (.cells #[.bool false] 4))).firsts HX8.out.1 HX8.out.2.1 HX8.out.2.2)
        have hb5 : Below w.heap.size w (w8.setCell ⟨w.heap.size + 1, 2, none⟩ (.slice A8 (q + 1) c8)) := below_app3 (hb3.alloc (by omega) (.cells #[.bool false] 4)) (Nat.le_refl _) (by simp; omega) (HS4.out.2.2.2.1.alloc _) HX8.out.2.1 2 _
        go_roundw
        case rel => exact ⟨q + 1, _, _, _, by omega, by go_num, HS5, hb5⟩
        case measure => simp [intOf]; omega
    · obtain rfl : q = es.length := by omega
      obtain ⟨S1, S2, S3, S4, ⟨xs, S5⟩, S6, S7, S8, S9⟩ := HS.out
      rw [List.take_of_length_le (by rw [kys_len]; exact Nat.le_refl _)] at S3
      obtain ⟨Ac, cc, rfl, _⟩ := own_form S3
      obtain ⟨Af, cf, rfl, _⟩ := own_form S4
      obtain ⟨Au, cu, rfl, _⟩ := own_form S5
      have hso := sorted_any (kys es) (by rw [kys_len]; omega) Ac cc wr _ (ccs_lat S3 (kys_len es).symm) (fun b hb => hb.2) es.length 0 es.length (by omega) (Nat.zero_le _) (by rw [kys_len]; exact Nat.le_refl _) wr (Below.refl _ _)
      rw [kys_len] at hso
      have HSo := Lib.hid hso
      have T0 := cell_of_row wr (w.heap.size + 1) 0 _ _ (0, 0) S2
      have H1 := Lib.hid S1
      have H2 := Lib.hid S2
      have H3 := Lib.hid S3
      have H4 := Lib.hid S4
      have H6 := Lib.hid S6
      clear hso S1 S2 S3 S4 S5 S6 S7 S8 HS HEs
      go_wp2_with fail
      refine HSo.out.mono ?_
      rintro e w2 ⟨l, hl, vo, rfl, hown, hb2⟩
      have hln := hl.2.2
      rw [Nat.sub_zero] at hln
      rw [hln] at hown
      obtain ⟨Ao, co, rfl, _⟩ := own_form hown
      have R3 := blk_below H2.out hb2 (by omega)
      have jf := blk_frozen R3 1
      have j1 := cell_of_row w2 (w.heap.size + 1) 1 _ _ (0, 0) R3
      have hs2 := hb2.size
      have hS2 : St2 (w2.setCell ⟨w.heap.size + 1, 1, none⟩ (.slice Ao es.length co)) w.heap.size es.length (kys es) l [] Ac cc Ao co Af cf (.slice Au es.length cu) := by
        refine ⟨blk_far (blk_below H1.out hb2 (by omega)) (show w.heap.size ≠ w.heap.size + 1 by omega) _, by simpa using blk_set R3 1 (.slice Ao es.length co), ownsRow_setCell_below (own_below H3.out hb2) (show w.heap.size + 1 < w.heap.size + 2 by omega) _, ownsRow_setCell_below (own_base hown (by omega)) (show w.heap.size + 1 < w.heap.size + 2 by omega) _, ?_, H6.out, fun b hb' e => ?_, by simp [World.setCell]; omega⟩
        · rw [← flags_nil]
          exact ownsRow_setCell_below (own_below H4.out hb2) (show w.heap.size + 1 < w.heap.size + 2 by omega) _
        · have h1 := (hown.lt b hb').1
          have h2 := (H4.out.lt b e).2
          omega
      have hb02 : Below w.heap.size w (w2.setCell ⟨w.heap.size + 1, 1, none⟩ (.slice Ao es.length co)) := (hb.trans (hb2.mono (by omega))).setCell (show w.heap.size ≤ w.heap.size + 1 by omega) _
      have HL := Lib.hid hl
      have HLn := Lib.hid hln
      have HS2 := Lib.hid hS2
      clear R3 hown hl hS2 H1 H2 H3 H4 H6 HSo T0 hln
      go_wp2_with fail
      clear j1 jf
      generalize (w2.setCell ⟨w.heap.size + 1, 1, none⟩ (.slice Ao es.length co)) = w3 at *
      go_loopw [46] (fun vi W => ∃ (q : Nat) (fl : List Nat), q ≤ es.length ∧ vi = .int .i64 (q : Int) ∧ Hid (St2 W w.heap.size es.length (kys es) l fl Ac cc Ao co Af cf (.slice Au es.length cu)) ∧ Hid (Marks (kys es) l fl q) ∧ Below w.heap.size w W) (fun i _ => es.length - (intOf i).toNat)
      case atStart => exact ⟨0, [], Nat.zero_le _, rfl, HS2, Lib.hid (marks_nil _ _), hb02⟩
      case round =>
        obtain ⟨q, fl, hq, rfl, HS, HM, hb⟩ := hrel
        clear HS2 hb02
        by_cases hlt : q < es.length
        · have hql : q < l.length := by rw [HLn.out]; exact hlt
          obtain ⟨s1, s2, s3, s4, s5, _, _, _⟩ := HS.out
          obtain ⟨ao, rfl, haoB, co1⟩ := (Rd.of_own s4).at_ (k := q) (by simpa using hql)
          obtain ⟨bf, cf', cur, hef, hbf1, hbf2, _⟩ := own_block s5 (by omega)
          injection hef with hef1 hef2 hef3
          subst hef1 hef3
          simp only [List.getElem_map, iv] at co1
          obtain ⟨p, HP⟩ : ∃ p : Nat, Hid (l[q] = p) := ⟨l[q], Lib.hid rfl⟩
          have hpn : p < es.length := by
            have := ((HL.out.2.1 _).1 (List.getElem_mem hql)).2
            rw [HP.out] at this
            exact this
          rw [HP.out] at co1
          have HY : Hid ((∀ j, j < p → keyAt (kys es) j ≠ keyAt (kys es) p) → Marks (kys es) l (fl ++ [p]) (q + 1)) := Lib.hid (fun h => by
            have := HM.out.yes hql (by rw [HP.out]; exact h)
            rw [HP.out] at this
            exact this)
          have HN : Hid (¬ (∀ j, j < p → keyAt (kys es) j ≠ keyAt (kys es) p) → Marks (kys es) l fl (q + 1)) := Lib.hid (fun h => HM.out.no hql (by rw [HP.out]; exact h))
          have T0 := cell_of_row wr (w.heap.size + 1) 0 _ _ (0, 0) s2
          have T1 := cell_of_row wr (w.heap.size + 1) 1 _ _ (0, 0) s2
          have HQn : ∀ n, Hid (St2 (wr.drewN n) w.heap.size es.length (kys es) l fl Ac cc (some ao) co (some ⟨bf, 0, none⟩) cf (.slice Au es.length cu)) := fun n => Lib.hid (HS.out.below (below_drewN (Below.refl _ _) n))
          have hbn : ∀ n, Below w.heap.size w (wr.drewN n) := fun n => below_drewN hb n
          by_cases hq0 : q = 0
          · have hqi : ((q : Int) == 0) = true := by simp; omega
            have HMn := Lib.hid (HY.out (by
              have := (first_iff HL.out hql).1 (.inl hq0)
              rw [HP.out] at this
              exact this))
            clear hq0
            clear HY HN s1 s2 s3 s4 s5
            go_wp2_with fail
            go_quiet (fail)
            have HQ := HQn nq
            have hbq := hbn nq
            clear HQn hbn T0 T1
            generalize wr.drewN nq = w4 at *
            have T2 := cell_of_row w4 (w.heap.size + 1) 2 _ _ (0, 0) HQ.out.2.1
            have hcell := (HQ.out.2.2.2.2.1.cellAt p (by omega)).trans (flags_get fl hpn)
            have hfz := HQ.out.2.2.2.2.1.frozenAt p
            obtain ⟨hmk, hbm⟩ := HQ.out.mark hbq (Nat.le_refl _) p
            have HMK := Lib.hid hmk
            clear hmk
            go_wp2_with fail
            go_roundw
            case rel => exact ⟨q + 1, fl ++ [p], by omega, by go_num, HMK, HMn, hbm⟩
            case measure => simp [intOf]; omega
          · have hq1 : q - 1 < l.length := by omega
            obtain ⟨ao', hao', _, cq⟩ := (Rd.of_own s4).at_ (k := q - 1) (by simpa using hq1)
            obtain rfl : ao = ao' := by injection hao'
            simp only [List.getElem_map, iv] at cq
            obtain ⟨p', HP'⟩ : ∃ p' : Nat, Hid (l[q - 1] = p') := ⟨l[q - 1], Lib.hid rfl⟩
            have hpn' : p' < es.length := by
              have := ((HL.out.2.1 _).1 (List.getElem_mem hq1)).2
              rw [HP'.out] at this
              exact this
            rw [HP'.out] at cq
            obtain ⟨r, hr⟩ : ∃ r, q = r + 1 := ⟨q - 1, by omega⟩
            rw [show q - 1 = r by omega] at cq
            have hrn : (r : Int) < (es.length : Int) := by omega
            have hr0 : (0 : Int) ≤ (r : Int) := by omega
            have hft := first_iff HL.out hql
            rw [HP.out] at hft
            have hL := ccs_lat s3 (kys_len es).symm
            obtain ⟨ca1, hca⟩ : ∃ x, (kys es)[p]? = some x := ⟨_, List.getElem?_eq_getElem (by rw [kys_len]; exact hpn)⟩
            obtain ⟨cb1, hcb⟩ : ∃ x, (kys es)[p']? = some x := ⟨_, List.getElem?_eq_getElem (by rw [kys_len]; exact hpn')⟩
            obtain ⟨ad, xa, rfl, hadB, hxa, rfl⟩ := hL p _ hca
            obtain ⟨ad', xb, hAd, hadB', hxb, rfl⟩ := hL p' _ hcb
            obtain rfl : ad = ad' := by injection hAd
            have hka := keyAt_get hca
            have hkb := keyAt_get hcb
            obtain ⟨d0, d1, d2, d3⟩ := hxa.four
            obtain ⟨n0, n1, n2, n3⟩ := hxb.four
            have HFT : Hid (cb1 ≠ ca1 ↔ ∀ j, j < p → keyAt (kys es) j ≠ keyAt (kys es) p) := Lib.hid (by
              rw [← hft]
              constructor
              · intro h
                refine .inr ⟨hq1, ?_⟩
                rw [HP'.out, hka, hkb]
                exact h
              · rintro (h | ⟨_, h⟩)
                · omega
                · rw [HP'.out, hka, hkb] at h
                  exact h)
            obtain ⟨x1, x2, x3, x4⟩ := ca1
            obtain ⟨y1, y2, y3, y4⟩ := cb1
            simp only at d0 d1 d2 d3 n0 n1 n2 n3
            have hqi : ((q : Int) == 0) = false := by simp; omega
            have hqs : IntKind.i64.wrap ((q : Int) - 1) = (r : Int) := by rw [show (q : Int) - 1 = (r : Int) by omega]; rw [IntKind.wrap_i64]; omega
            clear hr
            clear hL hxa hxb hca hcb hAd hka hkb hft hao' s1 s2 s3 s4 s5
            by_cases hne : (⟨y1, y2, y3, y4⟩ : C) = ⟨x1, x2, x3, x4⟩
            · have HMn := Lib.hid (HN.out (fun h => (HFT.out.2 h) hne))
              clear HY HN HFT
              injection hne with e1 e2 e3 e4
              subst e1 e2 e3 e4
              go_wp2_with fail
              go_quiet (fail)
              have HQ := HQn nq
              have hbq := hbn nq
              clear HQn hbn T0 T1 d0 d1 d2 d3 n0 n1 n2 n3 cq
              generalize wr.drewN nq = w4 at *
              go_wp2_with fail
              go_roundw
              case rel => exact ⟨q + 1, fl, by omega, by go_num, HQ, HMn, hbq⟩
              case measure => simp [intOf]; omega
            · have HMn := Lib.hid (HY.out (HFT.out.1 hne))
              have hsp := c_split hne
              clear hne HY HN HFT
              simp only at hsp
              rcases hsp with e1 | ⟨e1, e2⟩ | ⟨e1, e2, e3⟩ | ⟨e1, e2, e3, e4⟩
              all_goals
                go_wp2_with fail
                go_quiet (fail)
                have HQ := HQn nq
                have hbq := hbn nq
                clear HQn hbn T0 T1 d0 d1 d2 d3 n0 n1 n2 n3 cq
                generalize wr.drewN nq = w4 at *
                have T2 := cell_of_row w4 (w.heap.size + 1) 2 _ _ (0, 0) HQ.out.2.1
                have hcell := (HQ.out.2.2.2.2.1.cellAt p (by omega)).trans (flags_get fl hpn)
                have hfz := HQ.out.2.2.2.2.1.frozenAt p
                obtain ⟨hmk, hbm⟩ := HQ.out.mark hbq (Nat.le_refl _) p
                have HMK := Lib.hid hmk
                clear hmk
                go_wp2_with fail
                go_roundw
                case rel => exact ⟨q + 1, fl ++ [p], by omega, by go_num, HMK, HMn, hbm⟩
                case measure => simp [intOf]; omega
        · obtain rfl : q = es.length := by omega
          have HMa := HM.out
          rw [← HLn.out] at HMa
          have hfl := HMa.all (by rw [kys_len]; exact HL.out)
          rw [kys_len] at hfl
          obtain ⟨s1, s2, s3, s4, s5, _, _, _⟩ := HS.out
          rw [hfl] at s5
          obtain ⟨m0, m1, m2, m3⟩ := blk4 s2
          obtain ⟨r0, r1, r2, r3⟩ := blk4 s1
          have f0 := blk_frozen s1 0
          have f1 := blk_frozen s1 1
          have f2 := blk_frozen s1 2
          have f3 := blk_frozen s1 3
          have G3 := Lib.hid s3
          have G4 := Lib.hid s4
          have G5 := Lib.hid s5
          clear HMa hfl HM HS s1 s2 s3 s4 s5
          go_wp2_with fail
          have hsb : ∀ {e : TypeId} {size : Nat} {v : Value} {n : Nat} {xs : List Value}, wr.ownsRow (w.heap.size + 2) e size v n xs → ((((wr.setCell ⟨w.heap.size, 0, none⟩ (.slice Ac es.length cc)).setCell ⟨w.heap.size, 1, none⟩ (.slice Ao es.length co)).setCell ⟨w.heap.size, 2, none⟩ (.slice Af es.length cf)).setCell ⟨w.heap.size, 3, none⟩ (.slice Au es.length cu)).ownsRow w.heap.size e size v n xs := fun h =>
            own_base (ownsRow_setCell_below (ownsRow_setCell_below (ownsRow_setCell_below (ownsRow_setCell_below h (show w.heap.size < w.heap.size + 2 by omega) _) (show w.heap.size < w.heap.size + 2 by omega) _) (show w.heap.size < w.heap.size + 2 by omega) _) (show w.heap.size < w.heap.size + 2 by omega) _) (by omega)
          have k3 := hsb G3.out
          have k4 := hsb G4.out
          have k5 := hsb G5.out
          have hln := kys_len es
          refine bodyPost_ret (v := .agg #[.slice Ac es.length cc, .slice Ao es.length co, .slice Af es.length cf, .slice Au es.length cu]) (by simp [results, Try.results20, go_sem, r0, r1, r2, r3]) rfl ⟨_, rfl, ⟨Ac, cc, Ao, co, Af, cf, Au, es.length, cu, l, by rw [hln], by rw [hln]; exact k3, by rw [hln]; exact HL.out, by rw [hln]; exact k4, by rw [hln]; exact k5⟩, (((hb.setCell (Nat.le_refl _) _).setCell (Nat.le_refl _) _).setCell (Nat.le_refl _) _).setCell (Nat.le_refl _) _⟩
end Go.Proofs.Ytmicjfdibhoamaa.val
