/- The reference's put of a list, an object; of any value without a fault. The reference's put, whatever the value without a fault. -/
import Derived.Test.YtagghdehbkbemaaGreatDoorGStr2
section
namespace Go.Proofs.YtagghdehbkbemaaGreatDoor.look
open Go.RowKit mem txt app smap val
attribute [local go_sem] run_store_float
set_option linter.unusedVariables false

/-- within the region: the row as it stands, the box, all else as it was -/
structure Cur (W0 : World) (B : Nat) (v : Value) (bx : Nat) (bo : Obj) (u : Value) (n : Nat) (ys : List Value) (W : World) : Prop where
  own : W.ownsRow B 5 1 u n ys
  grown : W0.grownBy W v.ownBlock
  nxt : Nxt W0 v u
  le : B ≤ W.heap.size
  box : W.heap[bx]? = some bo
theorem Cur.alloc {W0 W : World} {B bx n : Nat} {v u : Value} {bo : Obj} {ys : List Value} (h : Cur W0 B v bx bo u n ys W) (o : Obj) : Cur W0 B v bx bo u n ys (W.alloc o) :=
  ⟨h.own.alloc o, ⟨h.grown.os, h.grown.tape, h.grown.output, by have := h.grown.size; simp; omega, fun k hk hne => (Lib.alloc_old W o k (Nat.lt_of_lt_of_le hk h.grown.size)).trans (h.grown.block k hk hne)⟩, h.nxt, by have := h.le; simp; omega, (Lib.alloc_old W o bx (Array.getElem?_eq_some_iff.1 h.box).1).trans h.box⟩
theorem Cur.drew {W0 W : World} {B bx n : Nat} {v u : Value} {bo : Obj} {ys : List Value} (h : Cur W0 B v bx bo u n ys W) : Cur W0 B v bx bo u n ys W.drew :=
  ⟨h.own, ⟨h.grown.os, h.grown.tape, h.grown.output, h.grown.size, h.grown.block⟩, h.nxt, h.le, h.box⟩
/-- a literal of one byte that is not the row -/
def Lit1 (z : Int) (u : Value) (g : Nat) (W : World) : Prop := W.heap[g]? = some (.cells #[.int .u8 z] 5 (0, 0)) ∧ some g ≠ u.ownBlock
theorem Lit1.alloc {z : Int} {u : Value} {g : Nat} {W : World} (h : Lit1 z u g W) (o : Obj) : Lit1 z u g (W.alloc o) := ⟨(Lib.alloc_old W o g (Array.getElem?_eq_some_iff.1 h.1).1).trans h.1, h.2⟩
theorem Lit1.new {z : Int} {W0 W : World} {B bx n : Nat} {v u : Value} {bo : Obj} {ys : List Value} (h : Cur W0 B v bx bo u n ys W) : Lit1 z u W.heap.size (W.alloc (.cells #[.int .u8 z] 5)) :=
  ⟨heap_alloc_new W _, fun e => by have := (h.own.lt _ e.symm).2; omega⟩
theorem Lit1.new_at {z : Int} {W0 W : World} {B bx n g : Nat} {v u : Value} {bo : Obj} {ys : List Value} (hg : g = W.heap.size) (h : Cur W0 B v bx bo u n ys W) : Lit1 z u g (W.alloc (.cells #[.int .u8 z] 5)) := by
  subst hg
  exact Lit1.new h
theorem lit_rd {w : World} {g : Nat} {x : Value} {t : TypeId} (h : w.heap[g]? = some (.cells #[x] t (0, 0))) : Rd w (g + 1) (some ⟨g, 0, none⟩) [x] := Rd.of_cells h fun j u hu => by simpa using hu
/-- an append of such a literal, in a region -/
theorem step_lit {W0 W : World} {B bx n g : Nat} {v u : Value} {bo : Obj} {ys : List Value} {z : Int} {ops : Array Oper} {o : Oper} {a : Act} {K : Act → World → Prop} {Q : Exit → Act → World → Prop} {E : Prop} (hgd : o.guard = none) (s x : Operand)
    (ho : o.op = .call { callee := .builtin .append, args := #[s, x], argTypes := #[31, 31] }) (hs : a.eval s = u) (hx : a.eval x = .slice (some ⟨g, 0, none⟩) 1 1)
    (hc : Cur W0 B v bx bo u n ys W) (hl : W.heap[g]? = some (.cells #[.int .u8 z] 5 (0, 0))) (hn : n ≤ 2199023255552) (hbo : ∀ c, bo ≠ .cells c 5 (0, 0))
    (h : ∀ u' W', Cur W0 B v bx bo u' (n + 1) (ys ++ [.int .u8 z]) W' → (∀ y g', Lit1 y u g' W → Lit1 y u' g' W') → K (a.put o.dst u') W') :
    if Region.wanted o (yielded ops a.tmps) = true then Oper.wp Tryz.prog o a W K Q else E := by
  obtain ⟨iv, hiv, hv0, hv1, hv2⟩ := info_parts infoB
  refine step_app W hgd s x _ ho B 5 iv (.int .u8 0) 1 1 Tryz.underlying31 hiv hv0 hv1 hv2 rfl (by omega) u n ys hs hc.own (g + 1) (some ⟨g, 0, none⟩) 1 1 [.int .u8 z] hx rfl (lit_rd hl) (by simp) (by intro q hq; simp at hq; subst hq; rfl) (by unfold maxLen; omega) (by omega) hc.le ?_
  intro u' W' hown hgrow hat
  refine h u' W' ⟨hown, ⟨hgrow.os.trans hc.grown.os, hgrow.tape.trans hc.grown.tape, hgrow.output.trans hc.grown.output, Nat.le_trans hc.grown.size hgrow.size, fun k hk hne => ?_⟩, ?_, Nat.le_trans hc.le hgrow.size, grown_keeps hgrow hc.own hc.box hbo⟩ fun y g' hg' => ⟨(hgrow.block g' (Array.getElem?_eq_some_iff.1 hg'.1).1 hg'.2).trans hg'.1, fun e => ?_⟩
  · refine (hgrow.block k (Nat.lt_of_lt_of_le hk hc.grown.size) ?_).trans (hc.grown.block k hk hne)
    rcases hc.nxt with e | ⟨j, e, hj⟩
    · rw [e]; exact hne
    · rw [e]; intro h3; injection h3 with h3; omega
  · rcases hat with e | e
    · rcases hc.nxt with e2 | ⟨j, e2, hj⟩
      · exact .inl (e.trans e2)
      · exact .inr ⟨j, e.trans e2, hj⟩
    · exact .inr ⟨_, e, hc.grown.size⟩
  · rcases hat with e2 | e2
    · exact hg'.2 (e.trans e2)
    · rw [e2] at e
      injection e with e
      have := (Array.getElem?_eq_some_iff.1 hg'.1).1
      omega
/-- a call that writes the row on -/
theorem Cur.call {W0 W W' : World} {B bx n : Nat} {v u u' : Value} {bo : Obj} {ys : List Value} {out : List Int} (hc : Cur W0 B v bx bo u n ys W) (hbo : ∀ c, bo ≠ .cells c 5 (0, 0)) (ho : W'.ownsRow B 5 1 u' (n + out.length) (ys ++ zs out)) (hg : W.grownBy W' u.ownBlock) (hn : Nxt W u u') :
    Cur W0 B v bx bo u' (n + out.length) (ys ++ zs out) W' ∧ ∀ y g', Lit1 y u g' W → Lit1 y u' g' W' := by
  refine ⟨⟨ho, ⟨hg.os.trans hc.grown.os, hg.tape.trans hc.grown.tape, hg.output.trans hc.grown.output, Nat.le_trans hc.grown.size hg.size, fun k hk hne => ?_⟩, hc.nxt.trans hc.grown.size hn, Nat.le_trans hc.le hg.size, grown_keeps hg hc.own hc.box hbo⟩, fun y g' hg' => ⟨(hg.block g' (Array.getElem?_eq_some_iff.1 hg'.1).1 hg'.2).trans hg'.1, fun e => ?_⟩⟩
  · refine (hg.block k (Nat.lt_of_lt_of_le hk hc.grown.size) ?_).trans (hc.grown.block k hk hne)
    rcases hc.nxt with e | ⟨j, e, hj⟩
    · rw [e]; exact hne
    · rw [e]; intro h3; injection h3 with h3; omega
  · rcases hn with e2 | ⟨j, e2, hj⟩
    · exact hg'.2 (e.trans e2)
    · rw [e2] at e
      injection e with e
      have := (Array.getElem?_eq_some_iff.1 hg'.1).1
      omega
section
variable (b : Bool) (i : Int) (f : Nat) (t y : ByteArray) (A A' : Option Addr) (n m c c' : Nat) (B : Nat) (v : Value) (l : Nat) (xs : List Value) (w : World)
set_option maxRecDepth 100000 in
set_option maxHeartbeats 4000000 in
theorem put_items (T : List Int) (hown : w.ownsRow B 5 1 v l xs) (hB : B ≤ w.heap.size) (hl : l + T.length + 2 ≤ 1099511627776)
    (hc : ∀ v l xs W, Below B w W → W.ownsRow B 5 1 v l xs → B ≤ W.heap.size → l + T.length ≤ 1099511627776 → Calls Tryz.prog 33 #[v, .slice A n c] W (RowP B l v xs T W)) :
    Calls Tryz.prog 18 #[v, .agg #[.int .i64 5, .bool b, .int .i64 i, .float .f64 f, .string t, .string y, .slice A n c, .slice A' m c']] w (RowP B l v xs (91 :: (T ++ [93])) w) := by
  have HO := Lib.hid hown
  have HC := Lib.hid hc
  clear hown hc
  go_enter Tryz.func18, Tryz.ntmps18
  go_upto_region 14 with (fail)
  have gB := heap_alloc_new w (.cells #[.int .i64 5, .bool b, .int .i64 i, .float .f64 f, .string t, .string y, .slice A n c, .slice A' m c'] 27)
  have hb0 := grown_alloc w (.cells #[.int .i64 5, .bool b, .int .i64 i, .float .f64 f, .string t, .string y, .slice A n c, .slice A' m c'] 27) v.ownBlock
  have hsz0 : w.heap.size + 1 = (w.alloc (.cells #[.int .i64 5, .bool b, .int .i64 i, .float .f64 f, .string t, .string y, .slice A n c, .slice A' m c'] 27)).heap.size := by simp
  have HO0 := Lib.hid (HO.out.alloc (.cells #[.int .i64 5, .bool b, .int .i64 i, .float .f64 f, .string t, .string y, .slice A n c, .slice A' m c'] 27))
  generalize (w.alloc (.cells #[.int .i64 5, .bool b, .int .i64 i, .float .f64 f, .string t, .string y, .slice A n c, .slice A' m c'] 27)) = W0 at *
  obtain ⟨bx, hbx⟩ : ∃ bx, w.heap.size = bx := ⟨_, rfl⟩
  rw [hbx] at gB hsz0
  rw [hbx]
  have HC0 : Hid (Cur W0 B v bx (.cells #[.int .i64 5, .bool b, .int .i64 i, .float .f64 f, .string t, .string y, .slice A n c, .slice A' m c'] 27) v l xs W0) := Lib.hid ⟨HO0.out, grown_refl _ _, Nxt.refl _ _, by omega, gB⟩
  have HBO : Hid (∀ cc, Obj.cells #[.int .i64 5, .bool b, .int .i64 i, .float .f64 f, .string t, .string y, .slice A n c, .slice A' m c'] 27 (0, 0) ≠ .cells cc 5 (0, 0)) := Lib.hid (box_ne (by decide))
  have m6 := blk_cell gB (i := 6) (by simp)
  simp only [List.getElem_toArray, List.getElem_cons_zero, List.getElem_cons_succ] at m6
  have HB0 := Lib.hid hb0
  have hlt : bx < W0.heap.size := by omega
  clear gB HO0 hb0 hsz0
  have HIT : Hid (∀ u nn ys W, Cur W0 B v bx (.cells #[.int .i64 5, .bool b, .int .i64 i, .float .f64 f, .string t, .string y, .slice A n c, .slice A' m c'] 27) u nn ys W → nn ≤ l + 1 → Calls Tryz.prog 33 #[u, .slice A n c] W fun e w' => ∃ u', e = .returned u' ∧ Cur W0 B v bx (.cells #[.int .i64 5, .bool b, .int .i64 i, .float .f64 f, .string t, .string y, .slice A n c, .slice A' m c'] 27) u' (nn + T.length) (ys ++ zs T) w' ∧ ∀ y g', Lit1 y u g' W → Lit1 y u' g' w') := Lib.hid fun u nn ys W hc hnn => (HC.out u nn ys W (below_grown (grown_trans HB0.out (.inl rfl) hc.grown) HO.out hB) hc.own hc.le (by omega)).mono fun e w' ⟨u', he, ho, hg, hn⟩ => ⟨u', he, hc.call HBO.out ho hg hn⟩
  have HT := Lib.hid (show T.length ≤ 1099511627776 by omega)
  have tok : True := trivial
  have tok2 : True := trivial
  go_region_law (first
    | (have _t := tok; go_must (refine step_lit (u := v) rfl (.tmp 44) (.tmp 45) rfl rfl rfl (by first | exact HC0.out.alloc _ | exact (HC0.out.alloc _).alloc _ | exact (HC0.out.alloc _).drew | exact ((HC0.out.alloc _).alloc _).drew) (by first | exact heap_alloc_new _ _ | exact (Lib.alloc_old _ _ _ (by simp)).trans (heap_alloc_new _ _) | exact heap_alloc_at _ _ _ (by simp)) (by omega) HBO.out ?_); intro u1 W1 hc1 hk1; have HC1 := Lib.hid hc1; have m6a := blk_cell hc1.box (i := 6) (by simp); simp only [List.getElem_toArray, List.getElem_cons_zero, List.getElem_cons_succ] at m6a; have hlt1 := (Array.getElem?_eq_some_iff.1 hc1.box).1; have HK1 := Lib.hid hk1; clear hc1 hk1 tok)
    | (go_simp; go_at_call 33; go_must ((refine (HIT.out _ (l + 1) (xs ++ [.int .u8 91]) _ (by first | exact HC1.out | exact HC1.out.alloc _ | exact HC1.out.drew | exact (HC1.out.alloc _).drew) (Nat.le_refl _)).mono ?_); rintro e w2 ⟨u2, rfl, hc2, hk2⟩; have HC2 := Lib.hid hc2; have HK2 := Lib.hid hk2; clear hc2 hk2))
    | (have _t := tok2; refine step_lit (u := u2) rfl (.tmp 49) (.tmp 50) rfl rfl rfl (by first | exact HC2.out | exact HC2.out.alloc _ | exact HC2.out.drew | exact (HC2.out.alloc _).drew) (by first | exact heap_alloc_new _ _ | exact (HK2.out 93 _ (Lit1.new HC1.out)).1 | exact (HK2.out 93 _ (HK1.out 93 _ ((Lit1.new HC0.out).alloc _))).1 | exact (HK2.out 93 _ (HK1.out 93 _ (Lit1.new_at (by simp) (HC0.out.alloc _)))).1) (by have := HT.out; omega) HBO.out ?_; intro u3 W3 hc3 hk3; have HC3 := Lib.hid hc3; clear hc3 hk3 tok2))
  all_goals
    clear HIT HC
    go_wp2_with fail
    go_ret
    refine ⟨_, rfl, ?_, grown_trans HB0.out (.inl rfl) HC3.out.grown, (Nxt.refl w v).trans HB0.out.size HC3.out.nxt⟩
    have h := HC3.out.own
    have e1 : l + ((91 : Int) :: (T ++ [93])).length = l + 1 + T.length + 1 := by simp; omega
    have e2 : xs ++ zs ((91 : Int) :: (T ++ [93])) = xs ++ [.int .u8 91] ++ zs T ++ [.int .u8 93] := by simp [zs]
    rw [e1, e2]
    exact h
set_option maxRecDepth 100000 in
set_option maxHeartbeats 4000000 in
theorem put_members (T : List Int) (hown : w.ownsRow B 5 1 v l xs) (hB : B ≤ w.heap.size) (hl : l + T.length + 2 ≤ 1099511627776)
    (hc : ∀ v l xs W, Below B w W → W.ownsRow B 5 1 v l xs → B ≤ W.heap.size → l + T.length ≤ 1099511627776 → Calls Tryz.prog 34 #[v, .slice A' m c'] W (RowP B l v xs T W)) :
    Calls Tryz.prog 18 #[v, .agg #[.int .i64 6, .bool b, .int .i64 i, .float .f64 f, .string t, .string y, .slice A n c, .slice A' m c']] w (RowP B l v xs (123 :: (T ++ [125])) w) := by
  have HO := Lib.hid hown
  have HC := Lib.hid hc
  clear hown hc
  go_enter Tryz.func18, Tryz.ntmps18
  go_upto_region 16 with (fail)
  have gB := heap_alloc_new w (.cells #[.int .i64 6, .bool b, .int .i64 i, .float .f64 f, .string t, .string y, .slice A n c, .slice A' m c'] 27)
  have hb0 := grown_alloc w (.cells #[.int .i64 6, .bool b, .int .i64 i, .float .f64 f, .string t, .string y, .slice A n c, .slice A' m c'] 27) v.ownBlock
  have hsz0 : w.heap.size + 1 = (w.alloc (.cells #[.int .i64 6, .bool b, .int .i64 i, .float .f64 f, .string t, .string y, .slice A n c, .slice A' m c'] 27)).heap.size := by simp
  have HO0 := Lib.hid (HO.out.alloc (.cells #[.int .i64 6, .bool b, .int .i64 i, .float .f64 f, .string t, .string y, .slice A n c, .slice A' m c'] 27))
  generalize (w.alloc (.cells #[.int .i64 6, .bool b, .int .i64 i, .float .f64 f, .string t, .string y, .slice A n c, .slice A' m c'] 27)) = W0 at *
  obtain ⟨bx, hbx⟩ : ∃ bx, w.heap.size = bx := ⟨_, rfl⟩
  rw [hbx] at gB hsz0
  rw [hbx]
  have HC0 : Hid (Cur W0 B v bx (.cells #[.int .i64 6, .bool b, .int .i64 i, .float .f64 f, .string t, .string y, .slice A n c, .slice A' m c'] 27) v l xs W0) := Lib.hid ⟨HO0.out, grown_refl _ _, Nxt.refl _ _, by omega, gB⟩
  have HBO : Hid (∀ cc, Obj.cells #[.int .i64 6, .bool b, .int .i64 i, .float .f64 f, .string t, .string y, .slice A n c, .slice A' m c'] 27 (0, 0) ≠ .cells cc 5 (0, 0)) := Lib.hid (box_ne (by decide))
  have m7 := blk_cell gB (i := 7) (by simp)
  simp only [List.getElem_toArray, List.getElem_cons_zero, List.getElem_cons_succ] at m7
  have HB0 := Lib.hid hb0
  have hlt : bx < W0.heap.size := by omega
  clear gB HO0 hb0 hsz0
  have HIT : Hid (∀ u nn ys W, Cur W0 B v bx (.cells #[.int .i64 6, .bool b, .int .i64 i, .float .f64 f, .string t, .string y, .slice A n c, .slice A' m c'] 27) u nn ys W → nn ≤ l + 1 → Calls Tryz.prog 34 #[u, .slice A' m c'] W fun e w' => ∃ u', e = .returned u' ∧ Cur W0 B v bx (.cells #[.int .i64 6, .bool b, .int .i64 i, .float .f64 f, .string t, .string y, .slice A n c, .slice A' m c'] 27) u' (nn + T.length) (ys ++ zs T) w' ∧ ∀ y g', Lit1 y u g' W → Lit1 y u' g' w') := Lib.hid fun u nn ys W hc hnn => (HC.out u nn ys W (below_grown (grown_trans HB0.out (.inl rfl) hc.grown) HO.out hB) hc.own hc.le (by omega)).mono fun e w' ⟨u', he, ho, hg, hn⟩ => ⟨u', he, hc.call HBO.out ho hg hn⟩
  have HT := Lib.hid (show T.length ≤ 1099511627776 by omega)
  have tok : True := trivial
  have tok2 : True := trivial
  go_region_law (first
    | (have _t := tok; go_must (refine step_lit (u := v) rfl (.tmp 54) (.tmp 55) rfl rfl rfl (by first | exact HC0.out.alloc _ | exact (HC0.out.alloc _).alloc _ | exact (HC0.out.alloc _).drew | exact ((HC0.out.alloc _).alloc _).drew) (by first | exact heap_alloc_new _ _ | exact (Lib.alloc_old _ _ _ (by simp)).trans (heap_alloc_new _ _) | exact heap_alloc_at _ _ _ (by simp)) (by omega) HBO.out ?_); intro u1 W1 hc1 hk1; have HC1 := Lib.hid hc1; have m7a := blk_cell hc1.box (i := 7) (by simp); simp only [List.getElem_toArray, List.getElem_cons_zero, List.getElem_cons_succ] at m7a; have hlt1 := (Array.getElem?_eq_some_iff.1 hc1.box).1; have HK1 := Lib.hid hk1; clear hc1 hk1 tok)
    | (go_simp; go_at_call 34; go_must ((refine (HIT.out _ (l + 1) (xs ++ [.int .u8 123]) _ (by first | exact HC1.out | exact HC1.out.alloc _ | exact HC1.out.drew | exact (HC1.out.alloc _).drew) (Nat.le_refl _)).mono ?_); rintro e w2 ⟨u2, rfl, hc2, hk2⟩; have HC2 := Lib.hid hc2; have HK2 := Lib.hid hk2; clear hc2 hk2))
    | (have _t := tok2; refine step_lit (u := u2) rfl (.tmp 59) (.tmp 60) rfl rfl rfl (by first | exact HC2.out | exact HC2.out.alloc _ | exact HC2.out.drew | exact (HC2.out.alloc _).drew) (by first | exact heap_alloc_new _ _ | exact (HK2.out 125 _ (Lit1.new HC1.out)).1 | exact (HK2.out 125 _ (HK1.out 125 _ ((Lit1.new HC0.out).alloc _))).1 | exact (HK2.out 125 _ (HK1.out 125 _ (Lit1.new_at (by simp) (HC0.out.alloc _)))).1) (by have := HT.out; omega) HBO.out ?_; intro u3 W3 hc3 hk3; have HC3 := Lib.hid hc3; clear hc3 hk3 tok2))
  all_goals
    clear HIT HC
    go_wp2_with fail
    go_ret
    refine ⟨_, rfl, ?_, grown_trans HB0.out (.inl rfl) HC3.out.grown, (Nxt.refl w v).trans HB0.out.size HC3.out.nxt⟩
    have h := HC3.out.own
    have e1 : l + ((123 : Int) :: (T ++ [125])).length = l + 1 + T.length + 1 := by simp; omega
    have e2 : xs ++ zs ((123 : Int) :: (T ++ [125])) = xs ++ [.int .u8 123] ++ zs T ++ [.int .u8 125] := by simp [zs]
    rw [e1, e2]
    exact h
end
end Go.Proofs.YtagghdehbkbemaaGreatDoor.look
end
section
namespace Go.Proofs.YtagghdehbkbemaaGreatDoor.look
open Go.RowKit mem txt app smap val
set_option linter.unusedVariables false

theorem lk_string {b : Bool} {i : Int} {f : Nat} {t y : ByteArray} {is : List V} {fs : List (ByteArray × V)} (h : lk (.mk 4 b i f t y is fs) = 0) : Lib.validD t.data.toList = true := by
  simp only [lk] at h
  rw [if_neg (by omega), if_neg (by omega), if_pos trivial] at h
  cases hv : Lib.validD t.data.toList with
  | true => rfl
  | false => rw [hv] at h; simp at h
theorem lk_items {b : Bool} {i : Int} {f : Nat} {t y : ByteArray} {is : List V} {fs : List (ByteArray × V)} (h : lk (.mk 5 b i f t y is fs) = 0) : lks is = 0 := by
  simp only [lk] at h
  rwa [if_neg (by omega), if_neg (by omega), if_neg (by omega), if_pos trivial] at h
theorem lk_members {b : Bool} {i : Int} {f : Nat} {t y : ByteArray} {is : List V} {fs : List (ByteArray × V)} (h : lk (.mk 6 b i f t y is fs) = 0) : nmE [] fs = 0 ∧ lkf fs = 0 := by
  simp only [lk] at h
  rw [if_neg (by omega), if_neg (by omega), if_neg (by omega), if_neg (by omega), if_pos trivial] at h
  split at h
  · exact ⟨by assumption, h⟩
  · exact absurd h (by assumption)
theorem put_any : ∀ (N : Nat) (x : V), sz x ≤ N → N ≤ 1048576 → ok x → lk x = 0 → ∀ (cs : List Value) (B : Nat) (v : Value) (l : Nat) (xs : List Value) (w : World) (S : Nat → Prop), IsV w S x cs → Bel S B → w.ownsRow B 5 1 v l xs → B ≤ w.heap.size → l + (tx x).length ≤ 1099511627776 →
    Calls Tryz.prog 18 #[v, .agg cs.toArray] w (RowP B l v xs (tx x) w) := by
  intro N
  induction N with
  | zero => intro v hv; have := sz_pos v; omega
  | succ N ih =>
    intro x hv hN hok hlk cs B v l xs w S hV hS hown hB hl
    obtain ⟨k, b, i, f, t, y, is, fs⟩ := x
    simp only [IsV] at hV
    obtain ⟨A, c, A', c', rfl, hA, hA', his, hfs⟩ := hV
    simp only [sz] at hv
    simp only [ok] at hok
    obtain ⟨⟨hi1, hi2, hf, ht, hy⟩, hos, hof⟩ := hok
    have hl1 := szs_len is
    have hl2 := szf_len fs
    have hl0 : l ≤ 1099511627776 := by omega
    by_cases c4 : k = 4
    · subst c4
      have e : tx (.mk 4 b i f t y is fs) = quoteZ t.data.toList := by simp [tx]
      rw [e]
      exact put_string b i f t y A A' _ _ c c' B v l xs w 4 rfl ht (lk_string hlk) hown hB hl0
    by_cases c5 : k = 5
    · subst c5
      have e : tx (.mk 5 b i f t y is fs) = 91 :: (txs is ++ [93]) := by simp [tx]
      rw [e] at hl ⊢
      simp only [List.length_cons, List.length_append, List.length_nil] at hl
      exact put_items b i f t y A A' _ _ c c' B v l xs w (txs is) hown hB (by omega) (fun v2 l2 xs2 W hW ho2 hB2 hl2 =>
        items_any A _ c B v2 l2 xs2 W S 1099511627776 (Nat.le_refl _) is rfl (by omega) (his.below hS hW) hS ho2 hB2 hl2 (fun j x hx cs v l xs W hV hW ho hB hl => ih x (by have := szs_get hx; omega) (by omega) (oks_get hos hx) (lks_get (lk_items hlk) hx) cs B v l xs W S hV hS ho hB hl))
    by_cases c6 : k = 6
    · subst c6
      have e : tx (.mk 6 b i f t y is fs) = 123 :: (txf fs ++ [125]) := by simp [tx]
      obtain ⟨e1, e2⟩ := lk_members hlk
      rw [e] at hl ⊢
      simp only [List.length_cons, List.length_append, List.length_nil] at hl
      exact put_members b i f t y A A' _ _ c c' B v l xs w (txf fs) hown hB (by omega) (fun v2 l2 xs2 W hW ho2 hB2 hl2 =>
        members_any A' _ c' B v2 l2 xs2 W S 1099511627776 (Nat.le_refl _) fs rfl (by omega) (hfs.below hS hW) hS hof e1 ho2 hB2 hl2 (fun j s x hx cs v l xs W hV hW ho hB hl => ih x (by have := szf_get hx; simp only at this; omega) (by omega) (okf_get hof hx).2 (lkf_get e2 hx) cs B v l xs W S hV hS ho hB hl))
    simp only [tx] at hl ⊢
    by_cases c1 : k = 1
    · rw [if_pos c1]
      exact put_bool b i f t y A A' _ _ c c' B v l xs w k c1 hown hB hl0
    rw [if_neg c1] at hl ⊢
    by_cases c2 : k = 2
    · rw [if_pos c2]
      exact put_int b i f t y A A' _ _ c c' B v l xs w k c2 hi1 hi2 hown hB hl0
    rw [if_neg c2] at hl ⊢
    by_cases c3 : k = 3
    · rw [if_pos c3]
      exact put_float b i f t y A A' _ _ c c' B v l xs w k c3 hf hown hB hl0
    rw [if_neg c3, if_neg c4, if_neg c5, if_neg c6]
    exact put_null b i f t y A A' _ _ c c' B v l xs w k (by omega) hown hB hl0
end Go.Proofs.YtagghdehbkbemaaGreatDoor.look
end
