/- Two byte rows, marked, then grown: what stays apart (JsonoutKeeps' apart, the plain part). apart: two byte rows are marked, grown and looked at: true. -/
import Derived.Test.YtagghdehbkbemaaGreatDoorGOwn
import Derived.ArgAppend
import Derived.Test.YtagghdehbkbemaaGreatDoorYGrw
section
namespace Go.Proofs.YtagghdehbkbemaaGreatDoor.val
open Go.RowKit mem app
set_option linter.unusedVariables false

section
variable {P : Program} (w : World)
/-- an append onto an own row: in place, or in a new block with the old one as it was -/
theorem run_app_keep (base : Nat) (t ty e : TypeId) (i : TypeInfo) (z : Value) (size bytes : Nat) (ht : P.underlying t = some (.slice e)) (hi : P.info? e = some i) (hz : i.zero = some z)
    (hsize : i.size = size) (hby : i.bytes = bytes) (hzs : z.cells.size = size) (hsz : 0 < size)
    (v : Value) (n : Nat) (xs : List Value) (hown : w.ownsRow base e size v n xs)
    (a : Addr) (m c : Nat) (news : List Value) (hl : news.length = m * size) (hnews : ∀ j u, news[j]? = some u → w.cell? (a.add j) = some u) (h1 : ∀ u ∈ news, u.oneCell' = true)
    (h63 : n + m ≤ maxLen) (hbytes : (n + m) * bytes ≤ 140737488355328) (hbase : base ≤ w.heap.size) :
    ∃ v' w', (Builtin.append_ #[t, t] ty #[v, .slice (some a) m c]).run P w = .ok v' w' ∧ w'.ownsRow base e size v' (n + m) (xs ++ news) ∧ w.grownBy w' v.ownBlock ∧
      (v'.ownBlock = v.ownBlock ∨ (v'.ownBlock = some w.heap.size ∧ w.grownBy w' none)) := by
  obtain ⟨v', w', hrun, h2, h3, _, h5⟩ := run_append_own_at (P := P) w base t ty e i z size bytes ht hi hz hsize hby hzs hsz v n xs hown a m c news hl hnews h1 h63 hbytes hbase
  refine ⟨v', w', hrun, h2, h3, ?_⟩
  rcases h5 with h5 | h5
  · exact .inl h5
  · rcases hown.2 with ⟨rfl, rfl⟩ | ⟨g, cap, cur, rfl, hbg, hg, hnc, hcm, hcs, htake⟩
    · exact .inr ⟨h5, h3⟩
    · by_cases hroom : n + m ≤ cap
      · have hfit : n * i.size + news.length ≤ cur.size := by rw [hl, hcs, hsize, ← Nat.add_mul]; exact Nat.mul_le_mul_right _ hroom
        have hr := run_append_room (P := P) w t ty e i ht hi g n cap cur hg a m c news (by rw [hl, hsize]) hnews h1 hroom hfit
        rw [hrun] at hr
        injection hr with h6 h7
        rw [h6]
        exact .inl rfl
      · obtain ⟨v2, w2, hr, r1, r2⟩ := run_append_arg_grows (P := P) w t ty e i z size bytes ht hi hz hsize hby hzs hsz ⟨g, 0, none⟩ n cap xs hown.1 (hown.cells (g := g) rfl) a m c news hl hnews (by omega) h63 hbytes
        rw [hrun] at hr
        injection hr with h6 h7
        rw [h7]
        exact .inr ⟨h5, r2⟩
theorem wpList_appk {ops : Array Oper} {rest : List Oper} {o : Oper} {a : Act} {Q : Exit → Act → World → Prop} (hgd : o.guard = none) (s x : Operand) (t : TypeId)
    (ho : o.op = .call { callee := .builtin .append, args := #[s, x], argTypes := #[t, t] })
    (base : Nat) (e : TypeId) (i : TypeInfo) (z : Value) (size bytes : Nat) (ht : P.underlying t = some (.slice e)) (hi : P.info? e = some i) (hz : i.zero = some z)
    (hsize : i.size = size) (hby : i.bytes = bytes) (hzs : z.cells.size = size) (hsz : 0 < size)
    (v : Value) (n : Nat) (xs : List Value) (hs : a.eval s = v) (hown : w.ownsRow base e size v n xs)
    (ad : Addr) (m c : Nat) (news : List Value) (hx : a.eval x = .slice (some ad) m c) (hl : news.length = m * size) (hnews : ∀ j u, news[j]? = some u → w.cell? (ad.add j) = some u) (h1 : ∀ u ∈ news, u.oneCell' = true)
    (h63 : n + m ≤ maxLen) (hbytes : (n + m) * bytes ≤ 140737488355328) (hbase : base ≤ w.heap.size)
    (h : ∀ v' w', w'.ownsRow base e size v' (n + m) (xs ++ news) → w.grownBy w' v.ownBlock → (v'.ownBlock = v.ownBlock ∨ (v'.ownBlock = some w.heap.size ∧ w.grownBy w' none)) → wpList P ops Q rest (a.put o.dst v') w') : wpList P ops Q (o :: rest) a w := by
  refine wpList_plain hgd fun K hK' => ?_
  obtain ⟨v', w', hrun, h2, h3, h4⟩ := run_app_keep (P := P) w base t o.type e i z size bytes ht hi hz hsize hby hzs hsz v n xs hown ad m c news hl hnews h1 h63 hbytes hbase
  unfold Oper.wp execOp
  simp only [ho, resolve, invoke, builtin, Sem.run_bind, Sem.run_pure, Result.andThen_ok, List.map_toArray, List.map_cons, List.map_nil, hs, hx, hrun]
  exact hK' _ _ (h v' w' h2 h3 h4)
end

theorem own_stay {w w' : World} {base : Nat} {e : TypeId} {size n : Nat} {v : Value} {xs : List Value} (h : w.ownsRow base e size v n xs) (hk : ∀ b, v.ownBlock = some b → w'.heap[b]? = w.heap[b]?) : w'.ownsRow base e size v n xs := by
  refine ⟨h.1, ?_⟩
  rcases h.2 with h2 | ⟨g, cap, cur, rfl, hbg, hg, h3⟩
  · exact .inl h2
  · exact .inr ⟨g, cap, cur, rfl, hbg, (hk g rfl).trans hg, h3⟩
theorem own_type {w : World} {base : Nat} {e : TypeId} {size n : Nat} {v : Value} {xs : List Value} (h : w.ownsRow base e size v n xs) : ∀ b, v.ownBlock = some b → ∃ cur, w.heap[b]? = some (.cells cur e (0, 0)) := by
  intro b hb
  rcases h.2 with ⟨rfl, _⟩ | ⟨g, cap, cur, rfl, hbg, hg, h3⟩
  · cases hb
  · injection hb with hb
    subst hb
    exact ⟨cur, hg⟩
def mk1 (j : Nat) : Value := .int .u8 (1 + (j : Int))
def mk2 (j : Nat) : Value := .int .u8 (101 + (j : Int))
section
variable (B : Nat) (r : Nat → Value) (nn : Nat → Nat)
def P0 (W : World) (j : Nat) : Prop := ∃ zs, W.ownsRow B 5 1 (r j) (nn j) zs
def P1 (W : World) (j : Nat) : Prop := ∃ zs, W.ownsRow B 5 1 (r j) (nn j) zs ∧ ∀ t, t < nn j → zs[t]? = some (mk1 j)
def Old (W : World) (j : Nat) : Prop := ∀ t, t < nn j → ∃ g c, r j = .slice (some ⟨g, 0, none⟩) (nn j) c ∧ W.cell? ⟨g, t, none⟩ = some (mk1 j)
def Gr (W : World) (j k : Nat) (g : Value) : Prop :=
  ∃ zs, W.ownsRow B 5 1 g (nn j + k) zs ∧ (∀ t, t < nn j → zs[t]? = some (mk1 j)) ∧ (∀ t, nn j ≤ t → t < nn j + k → zs[t]? = some (mk2 j)) ∧ Old r nn W j
variable {B} {r} {nn}
theorem Old.keep {W W' : World} {j : Nat} (h : Old r nn W j) (hk : ∀ b, (r j).ownBlock = some b → W'.heap[b]? = W.heap[b]?) : Old r nn W' j := fun t ht => by
  obtain ⟨g, c, h1, h2⟩ := h t ht
  exact ⟨g, c, h1, (World.cell?_of_block (hk g (by rw [h1]; rfl))).trans h2⟩
theorem Gr.keep {W W' : World} {j k : Nat} {g : Value} (h : Gr B r nn W j k g) (hk : ∀ b, g.ownBlock = some b → W'.heap[b]? = W.heap[b]?) (hk2 : ∀ b, (r j).ownBlock = some b → W'.heap[b]? = W.heap[b]?) : Gr B r nn W' j k g := by
  obtain ⟨zs, h1, h2, h3, h4⟩ := h
  exact ⟨zs, own_stay h1 hk, h2, h3, h4.keep hk2⟩
theorem P1.keep {W W' : World} {j : Nat} (h : P1 B r nn W j) (hk : ∀ b, (r j).ownBlock = some b → W'.heap[b]? = W.heap[b]?) : P1 B r nn W' j := by
  obtain ⟨zs, h1, h2⟩ := h
  exact ⟨zs, own_stay h1 hk, h2⟩
theorem P0.keep {W W' : World} {j : Nat} (h : P0 B r nn W j) (hk : ∀ b, (r j).ownBlock = some b → W'.heap[b]? = W.heap[b]?) : P0 B r nn W' j := by
  obtain ⟨zs, h1⟩ := h
  exact ⟨zs, own_stay h1 hk⟩
theorem own_old {W : World} {g : Value} {j k : Nat} {zs : List Value} (h : W.ownsRow B 5 1 g (nn j + k) zs) (h1 : ∀ t, t < nn j → zs[t]? = some (mk1 j)) (hg : ∀ b, g.ownBlock = some b → ∀ t, t < nn j → ∃ c, r j = .slice (some ⟨b, 0, none⟩) (nn j) c) : Old r nn W j := by
  intro t ht
  obtain ⟨b, c, cur, rfl, _⟩ := own_block h (by omega)
  obtain ⟨c', hc'⟩ := hg b rfl t ht
  refine ⟨b, c', hc', ?_⟩
  have := h.cells (g := b) rfl t _ (h1 t ht)
  rw [add_zero_off] at this
  exact this
theorem Gr.start {W : World} {j : Nat} (h : P1 B r nn W j) : Gr B r nn W j 0 (r j) := by
  obtain ⟨zs, h1, h2⟩ := h
  refine ⟨zs, h1, h2, fun t h3 h4 => by omega, own_old (k := 0) (g := r j) h1 h2 fun b hb t ht => ?_⟩
  obtain ⟨b', c, cur, he, _⟩ := own_block h1 (by omega)
  rw [he] at hb ⊢
  injection hb with hb
  subst hb
  exact ⟨c, rfl⟩
theorem Gr.step {W w' : World} {j k : Nat} {g v' : Value} {zs : List Value} {o : Obj} (h1 : W.ownsRow B 5 1 g (nn j + k) zs) (h2 : ∀ t, t < nn j → zs[t]? = some (mk1 j)) (h3 : ∀ t, nn j ≤ t → t < nn j + k → zs[t]? = some (mk2 j)) (h4 : Old r nn W j)
    (hR : ∀ b, (r j).ownBlock = some b → b < W.heap.size)
    (hown : w'.ownsRow B 5 1 v' (nn j + k + 1) (zs ++ [mk2 j])) (hgrow : (W.alloc o).grownBy w' g.ownBlock) (hat : v'.ownBlock = g.ownBlock ∨ (v'.ownBlock = some (W.alloc o).heap.size ∧ (W.alloc o).grownBy w' none)) : Gr B r nn w' j (k + 1) v' := by
  have hl : zs.length = nn j + k := by simpa using h1.1
  have hm : ∀ t, t < nn j → (zs ++ [mk2 j])[t]? = some (mk1 j) := fun t ht => by rw [List.getElem?_append_left (by omega)]; exact h2 t ht
  have hAl : ∀ b, (r j).ownBlock = some b → (W.alloc o).heap[b]? = W.heap[b]? := fun b hb => Below.heap_alloc W o b (hR b hb)
  refine ⟨_, hown, hm, fun t h5 h6 => ?_, ?_⟩
  · by_cases ht : t < nn j + k
    · rw [List.getElem?_append_left (by omega)]
      exact h3 t h5 ht
    · rw [List.getElem?_append_right (by omega), show t - zs.length = 0 from by omega]
      rfl
  · rcases hat with e | ⟨_, e⟩
    · by_cases hb : (r j).ownBlock = g.ownBlock
      · refine own_old (k := k + 1) (g := v') hown hm fun b hvb t ht => ?_
        obtain ⟨g', c, e1, _⟩ := h4 t ht
        rw [e, ← hb, e1] at hvb
        injection hvb with hvb
        subst hvb
        exact ⟨c, e1⟩
      · refine h4.keep fun b hb2 => ?_
        rw [hgrow.block b (by simp; have := hR b hb2; omega) (fun e2 => hb (by rw [hb2, e2]))]
        exact hAl b hb2
    · refine h4.keep fun b hb2 => ?_
      rw [e.block b (by simp; have := hR b hb2; omega) (by intro e2; cases e2)]
      exact hAl b hb2
end

/-- the state of the second loop: gs are the rows grown so far -/
structure Lp (w : World) (B : Nat) (r : Nat → Value) (nn : Nat → Nat) (L : Nat) (W : World) (i : Nat) (av : Value) (gs : List Value) : Prop where
  len : gs.length = i
  hL : W.heap[L]? = some (.cells #[r 0, r 1] 31)
  row : W.ownsRow w.heap.size 31 1 av i gs
  fin : ∀ j g, gs[j]? = some g → Gr B r nn W j 17 g
  p1 : ∀ j, i ≤ j → j < 2 → P1 B r nn W j
  d1 : ∀ j g, gs[j]? = some g → ∀ j', j' < 2 → j' ≠ j → ∀ b, g.ownBlock = some b → (r j').ownBlock ≠ some b
  be : Below B w W
theorem Lp.step {w : World} {B : Nat} {r : Nat → Value} {nn : Nat → Nat} {L : Nat} {W W1 w' : World} {i : Nat} {av av' g : Value} {gs : List Value} {o : Obj} (h : Lp w B r nn L W i av gs) (hi : i < 2)
    (hR : ∀ j, j < 2 → ∀ b, (r j).ownBlock = some b → B ≤ b ∧ b < w.heap.size) (hD : ∀ j j', j < 2 → j' < 2 → j' ≠ j → ∀ b, (r j).ownBlock = some b → (r j').ownBlock ≠ some b) (hLw : L < w.heap.size) (hBw : B ≤ w.heap.size)
    (hWw : w.heap.size ≤ W.heap.size)
    (hG : Gr B r nn W1 i 17 g) (hf : W.grownBy W1 (r i).ownBlock) (hn : Nx W (r i) g) (ho : w'.ownsRow w.heap.size 31 1 av' (i + 1) (gs ++ [g])) (hg : (W1.alloc o).grownBy w' av.ownBlock) :
    Lp w B r nn L w' (i + 1) av' (gs ++ [g]) := by
  have hf1 := hf.size
  have ha1 : ∀ b, b < W1.heap.size → av.ownBlock ≠ some b → w'.heap[b]? = W1.heap[b]? := fun b hb hne => by
    rw [hg.block b (by simp; omega) (fun e => hne e.symm)]
    exact Below.heap_alloc W1 o b hb
  have ha2 : ∀ b, b < W.heap.size → av.ownBlock ≠ some b → (r i).ownBlock ≠ some b → w'.heap[b]? = W.heap[b]? := fun b hb hne hne2 => by
    rw [ha1 b (by omega) hne, hf.block b hb (fun e => hne2 e.symm)]
  have hav : ∀ b, b < w.heap.size → av.ownBlock ≠ some b := fun b hb e => by have := (h.row.lt b e).1; omega
  have hrav : ∀ j, j < 2 → ∀ b, (r j).ownBlock = some b → av.ownBlock ≠ some b := fun j hj b hb => hav b (hR j hj b hb).2
  have hri := h.p1 i (Nat.le_refl _) hi
  obtain ⟨zi, hzi, _⟩ := hri
  have hgav : ∀ b, g.ownBlock = some b → av.ownBlock ≠ some b := fun b hb e => by
    rcases hn with e1 | ⟨k, e1, hk⟩
    · rw [e1] at hb
      exact hrav i hi b hb e
    · rw [e1] at hb
      injection hb with hb
      have := (h.row.lt b e).2
      omega
  obtain ⟨zg, hzg, _⟩ := id hG
  refine ⟨by simp [h.len], ?_, ho, fun j g' hj => ?_, fun j hj1 hj2 => ?_, fun j g' hj => ?_, ?_⟩
  · refine (ha2 L (by omega) (hav L hLw) (fun e => ?_)).trans h.hL
    obtain ⟨cur, hcur⟩ := own_type hzi L e
    rw [h.hL] at hcur
    injection hcur with hcur
    injection hcur with _ h1 _
    exact absurd h1 (by decide)
  · rcases Nat.lt_or_ge j gs.length with hlt | hge
    · rw [List.getElem?_append_left hlt] at hj
      have hji : j ≠ i := by have := h.len; omega
      have hj2 : j < 2 := by have := h.len; omega
      have hF := h.fin j g' hj
      obtain ⟨z, hz, _⟩ := id hF
      refine hF.keep (fun b hb => ha2 b (hz.lt b hb).2 (fun e => ?_) (h.d1 j g' hj i hi (Ne.symm hji) b hb)) (fun b hb => ha2 b (by have := (hR j hj2 b hb).2; omega) (hrav j hj2 b hb) (hD j i hj2 hi (Ne.symm hji) b hb))
      obtain ⟨c1, hc1⟩ := own_type hz b hb
      obtain ⟨c2, hc2⟩ := own_type h.row b e
      rw [hc1] at hc2
      injection hc2 with hc2
      injection hc2 with _ h1 _
      exact absurd h1 (by decide)
    · rw [List.getElem?_append_right hge] at hj
      have hj0 : j - gs.length = 0 := by
        have := (List.getElem?_eq_some_iff.1 hj).1
        simp at this
        omega
      rw [hj0] at hj
      have hg' : g = g' := by simpa using hj
      subst hg'
      have hji : j = i := by have := h.len; omega
      subst hji
      exact hG.keep (fun b hb => ha1 b (hzg.lt b hb).2 (hgav b hb)) (fun b hb => ha1 b (by have := (hR j hi b hb).2; omega) (hrav j hi b hb))
  · exact (h.p1 j (by omega) hj2).keep fun b hb => ha2 b (by have := (hR j hj2 b hb).2; omega) (hrav j hj2 b hb) (hD j i hj2 hi (by omega) b hb)
  · rcases Nat.lt_or_ge j gs.length with hlt | hge
    · rw [List.getElem?_append_left hlt] at hj
      exact h.d1 j g' hj
    · rw [List.getElem?_append_right hge] at hj
      have hj0 : j - gs.length = 0 := by
        have := (List.getElem?_eq_some_iff.1 hj).1
        simp at this
        omega
      rw [hj0] at hj
      have hg' : g = g' := by simpa using hj
      subst hg'
      have hji : j = i := by have := h.len; omega
      subst hji
      intro j' hj' hne b hb
      rcases hn with e1 | ⟨k, e1, hk⟩
      · rw [e1] at hb
        exact hD j j' hi hj' hne b hb
      · intro e
        rw [e1] at hb
        injection hb with hb
        have := (hR j' hj' b e).2
        omega
  · have hb1 := h.be.grown hf (by omega) (fun b hb => (hR i hi b hb).1)
    exact (hb1.alloc (by omega) o).grown hg (by simp; omega) (fun b hb => by have := (h.row.lt b hb).1; omega)
/-- the state of the first loop -/
structure L1 (w : World) (B : Nat) (r : Nat → Value) (nn : Nat → Nat) (L : Nat) (W : World) (i : Nat) : Prop where
  hL : W.heap[L]? = some (.cells #[r 0, r 1] 31)
  p1 : ∀ j, j < i → j < 2 → P1 B r nn W j
  p0 : ∀ j, i ≤ j → j < 2 → P0 B r nn W j
  be : Below B w W
  sz : w.heap.size ≤ W.heap.size
/-- .. and of the loop within -/
structure M1 (w : World) (B : Nat) (r : Nat → Value) (nn : Nat → Nat) (L : Nat) (W : World) (i k : Nat) : Prop where
  hL : W.heap[L]? = some (.cells #[r 0, r 1] 31)
  row : ∃ zs, W.ownsRow B 5 1 (r i) (nn i) zs ∧ ∀ t, t < k → zs[t]? = some (mk1 i)
  p1 : ∀ j, j < i → j < 2 → P1 B r nn W j
  p0 : ∀ j, i < j → j < 2 → P0 B r nn W j
  be : Below B w W
  sz : w.heap.size ≤ W.heap.size
theorem L1.go {w : World} {B : Nat} {r : Nat → Value} {nn : Nat → Nat} {L : Nat} {W : World} {i : Nat} (h : L1 w B r nn L W i) (hi : i < 2) : M1 w B r nn L W i 0 := by
  obtain ⟨zs, hz⟩ := h.p0 i (Nat.le_refl _) hi
  exact ⟨h.hL, ⟨zs, hz, fun t ht => by omega⟩, h.p1, fun j h1 h2 => h.p0 j (by omega) h2, h.be, h.sz⟩
theorem M1.stop {w : World} {B : Nat} {r : Nat → Value} {nn : Nat → Nat} {L : Nat} {W : World} {i : Nat} (h : M1 w B r nn L W i (nn i)) : L1 w B r nn L W (i + 1) := by
  refine ⟨h.hL, fun j h1 h2 => ?_, fun j h1 h2 => h.p0 j (by omega) h2, h.be, h.sz⟩
  by_cases hj : j = i
  · subst hj
    exact h.row
  · exact h.p1 j (by omega) h2
theorem M1.store {w : World} {B : Nat} {r : Nat → Value} {nn : Nat → Nat} {L : Nat} {W : World} {i k g c : Nat} (h : M1 w B r nn L W i k) (hi : i < 2) (hk : k < nn i) (hr : r i = .slice (some ⟨g, 0, none⟩) (nn i) c)
    (hD : ∀ j j', j < 2 → j' < 2 → j' ≠ j → ∀ b, (r j).ownBlock = some b → (r j').ownBlock ≠ some b) : M1 w B r nn L (W.setCell ⟨g, k, none⟩ (mk1 i)) i (k + 1) := by
  obtain ⟨zs, hz, hz2⟩ := h.row
  have hg := (hz.lt g (by rw [hr]; rfl))
  obtain ⟨cur, hcur⟩ := own_type hz g (by rw [hr]; rfl)
  have hlz : zs.length = nn i := by simpa using hz.1
  have hst := (hr ▸ hz).stored k (mk1 i)
  have hk2 : ∀ j, j < 2 → j ≠ i → ∀ b, (r j).ownBlock = some b → (W.setCell ⟨g, k, none⟩ (mk1 i)).heap[b]? = W.heap[b]? := fun j hj hne b hb => Below.heap_setCell _ _ _ b (fun e => hD i j hi hj hne g (by rw [hr]; rfl) (by rw [hb, e]))
  refine ⟨?_, ⟨zs.set k (mk1 i), by rw [hr]; exact hst.1, fun t ht => ?_⟩, fun j h1 h2 => (h.p1 j h1 h2).keep (hk2 j h2 (by omega)), fun j h1 h2 => (h.p0 j h1 h2).keep (hk2 j h2 (by omega)), h.be.setCell (show B ≤ g from hg.1) _, by simpa [World.setCell] using h.sz⟩
  · refine (Below.heap_setCell _ _ _ L (fun e => ?_)).trans h.hL
    have e : L = g := e
    rw [← e, h.hL] at hcur
    injection hcur with hcur
    injection hcur with _ h1 _
    exact absurd h1 (by decide)
  · rw [List.getElem?_set]
    by_cases e : k = t
    · rw [if_pos e, if_pos (by omega)]
    · rw [if_neg e]
      exact hz2 t (by omega)
theorem L1.lp {w : World} {B : Nat} {r : Nat → Value} {nn : Nat → Nat} {L : Nat} {W : World} (h : L1 w B r nn L W 2) : Lp w B r nn L W 0 (.slice none 0 0) [] :=
  ⟨rfl, h.hL, World.ownsRow_nil _ _ _ _, fun j g hj => by simp at hj, fun j _ hj => h.p1 j hj hj, fun j g hj => by simp at hj, h.be⟩
end Go.Proofs.YtagghdehbkbemaaGreatDoor.val
end
section
namespace Go.Proofs.YtagghdehbkbemaaGreatDoor.val
open Go.RowKit mem app
set_option linter.unusedVariables false
theorem infoB : (Tryz.prog.info? 5).map (fun i => (i.zero, i.size, i.bytes)) = some (some (.int .u8 0), 1, 1) := by kernel_rfl
theorem infoL : (Tryz.prog.info? 31).map (fun i => (i.zero, i.size, i.bytes)) = some (some (.slice none 0 0), 1, 24) := by kernel_rfl
def AptPost (B : Nat) (w : World) (e : Ending) (w' : World) : Prop := e = .returned (.bool true) ∧ Below B w w'
theorem two_cells {W : World} {L : Nat} {x y : Value} {T : TypeId} {r : Nat → Value} (h : W.heap[L]? = some (.cells #[r 0, r 1] T)) {i : Nat} (hi : i < 2) : W.cell? ⟨L, i, none⟩ = some (r i) := by
  rcases i with _ | _ | i
  · exact blk_cell h (i := 0) (by simp)
  · exact blk_cell h (i := 1) (by simp)
  · omega
set_option maxRecDepth 100000 in
set_option maxHeartbeats 8000000 in
theorem apart_any (B : Nat) (r : Nat → Value) (nn : Nat → Nat) (L : Nat) (w : World) (hBw : B ≤ w.heap.size) (hL : w.heap[L]? = some (.cells #[r 0, r 1] 31)) (h0 : ∀ j, j < 2 → P0 B r nn w j)
    (hD : ∀ j j', j < 2 → j' < 2 → j' ≠ j → ∀ b, (r j).ownBlock = some b → (r j').ownBlock ≠ some b) (hn : ∀ j, j < 2 → nn j ≤ 70368744177664) :
    Calls Tryz.prog 12 #[.slice (some ⟨L, 0, none⟩) 2 2] w (AptPost B w) := by
  have hR : ∀ j, j < 2 → ∀ b, (r j).ownBlock = some b → B ≤ b ∧ b < w.heap.size := fun j hj b hb => by
    obtain ⟨zs, hz⟩ := h0 j hj
    exact hz.lt b hb
  have hLw : L < w.heap.size := blk_lt hL
  have HS : L1 w B r nn L w 0 := ⟨hL, fun j h => by omega, fun j _ h => h0 j h, Below.refl _ _, Nat.le_refl _⟩
  obtain ⟨iv, hiv, hv0, hv1, hv2⟩ := info_parts infoB
  obtain ⟨il, hil, hl0, hl1, hl2⟩ := info_parts infoL
  have HF := Lib.hid (fun j (hj : j < 2) => (show ∃ A c, r j = .slice A (nn j) c from by obtain ⟨zs, hz⟩ := h0 j hj; obtain ⟨A, c, h, _⟩ := own_form hz; exact ⟨A, c, h⟩))
  have HN := Lib.hid hn
  have HR := Lib.hid hR
  have HD := Lib.hid hD
  clear hn hR hD h0 hL
  go_enter Tryz.func12, Tryz.ntmps12
  go_wp2_with fail
  go_loopw [4] (fun vi W => ∃ i : Nat, i ≤ 2 ∧ vi = .int .i64 (i : Int) ∧ L1 w B r nn L W i) (fun i _ => 2 - (intOf i).toNat)
  case atStart => exact ⟨0, by omega, rfl, HS⟩
  case round =>
    obtain ⟨i, hi, rfl, H1⟩ := hrel
    clear HS
    by_cases hlt : i < 2
    · have hlt' : (i : Int) < 2 := by omega
      have h0i : (0 : Int) ≤ (i : Int) := by omega
      go_wp2_with fail
      go_loopw [5] (fun vi W => ∃ k : Nat, k ≤ nn i ∧ vi = .int .i64 (k : Int) ∧ M1 w B r nn L W i k) (fun i2 _ => nn i - (intOf i2).toNat)
      case atStart => exact ⟨0, Nat.zero_le _, rfl, H1.go hlt⟩
      case round =>
        obtain ⟨k, hk, rfl, H2⟩ := hrel
        clear H1
        have hLi := two_cells (x := .bool true) (y := .bool true) H2.hL hlt
        have hnn := HN.out i hlt
        by_cases hkl : k < nn i
        · obtain ⟨zs, hz, hz2⟩ := H2.row
          obtain ⟨g, c, cur, hri, hbg, hgl, _⟩ := own_block hz (by omega)
          rw [hri] at hLi
          have hkl' : (k : Int) < (nn i : Int) := by omega
          have h0k : (0 : Int) ≤ (k : Int) := by omega
          have hc : wr.cell? ⟨g, k, none⟩ = some (zs[k]'(by have := hz.1; omega)) := by
            have := (hri ▸ hz).cellAt k (by omega)
            rw [this]
            exact List.getElem?_eq_getElem _
          have hfz : wr.frozen? ⟨g, k, none⟩ = false := (hri ▸ hz).frozenAt k
          go_wp2_with fail
          exact ⟨⟨k + 1, by omega, by go_num, H2.store hlt hkl hri HD.out⟩, by simp [intOf]; omega⟩
        · obtain rfl : k = nn i := by omega
          obtain ⟨zs, hz, hz2⟩ := H2.row
          obtain ⟨Ai, ci, hri, _⟩ := own_form hz
          rw [hri] at hLi
          clear hz hz2
          go_wp2_with fail
          exact ⟨⟨i + 1, by omega, by go_num, H2.stop⟩, by simp [intOf]; omega⟩
    · have hi2 : i = 2 := by omega
      have hlt' : ¬ ((i : Int) < 2) := by omega
      go_wp2_with fail
      have HQ := (hi2 ▸ H1).lp
      have hsz0 := H1.sz
      clear H1
      go_loopw [3, 6] (fun va vi W => ∃ (i : Nat) (gs : List Value) (Aa : Option Addr) (ca : Nat), i ≤ 2 ∧ vi = .int .i64 (i : Int) ∧ va = .slice Aa i ca ∧ Lp w B r nn L W i (.slice Aa i ca) gs ∧ w.heap.size ≤ W.heap.size) (fun _ i _ => 2 - (intOf i).toNat)
      case atStart => exact ⟨0, [], none, 0, by omega, rfl, rfl, HQ, hsz0⟩
      case round =>
        obtain ⟨i, gs, Aa, ca, hi, rfl, rfl, H3, hsz⟩ := hrel
        clear HQ hsz0
        by_cases hlt : i < 2
        · have hlt' : (i : Int) < 2 := by omega
          have h0i : (0 : Int) ≤ (i : Int) := by omega
          have hLi := two_cells (x := .bool true) (y := .bool true) H3.hL hlt
          have hG0 := Gr.start (H3.p1 i (Nat.le_refl _) hlt)
          obtain ⟨zs0, hz0, _⟩ := id hG0
          obtain ⟨Ai, ci, hri, _⟩ := own_form hz0
          have hLi2 := hLi
          rw [hri] at hLi
          clear hz0
          go_wp2_with fail
          go_loopw [7, 8] (fun vg vk W => ∃ (k : Nat) (Ag : Option Addr) (cg : Nat), k ≤ 17 ∧ vk = .int .i64 (k : Int) ∧ vg = .slice Ag (nn i + k) cg ∧ Gr B r nn W i k (.slice Ag (nn i + k) cg) ∧ wr.grownBy W (r i).ownBlock ∧ Nx wr (r i) (.slice Ag (nn i + k) cg)) (fun _ k _ => 17 - (intOf k).toNat)
          case atStart => exact ⟨0, Ai, ci, by omega, rfl, rfl, hri ▸ hG0, grown_refl wr _, hri ▸ Nx.refl _ _⟩
          case round =>
            obtain ⟨k, Ag, cg, hk, rfl, rfl, hG, hf, hnx⟩ := hrel
            clear hG0
            by_cases hkl : k < 17
            · have hkl' : (k : Int) < 17 := by omega
              obtain ⟨zs, z1, z2, z3, z4⟩ := hG
              have hnn := HN.out i hlt
              have hBr : B ≤ wr.heap.size := by have := hf.size; omega
              have Z1 := Lib.hid z1
              have Z2 := Lib.hid z2
              have Z3 := Lib.hid z3
              have Z4 := Lib.hid z4
              clear z1 z2 z3 z4
              go_wp2_with (at_builtin; go_must (refine wpList_appk _ rfl (.tmp 49) (.tmp 53) _ rfl B 5 iv _ 1 1 Tryz.underlying31 hiv hv0 hv1 hv2 rfl (by omega) (.slice Ag (nn i + k) cg) _ zs rfl (Z1.out.alloc _) ⟨wr.heap.size, 0, none⟩ 1 1 [mk2 i] rfl rfl (cell_one_new _ _ _) (by intro u hu; simp at hu; subst hu; rfl) (by unfold maxLen; omega) (by omega) (by simp; omega) ?_; intro v' w5 hown' hgrow hat; have HO := Lib.hid hown'; obtain ⟨A5, c5, rfl, _, _, _⟩ := own_form hown'; have HG := Lib.hid hgrow; have HA := Lib.hid hat; clear hown' hgrow hat))
              have hst := Gr.step Z1.out Z2.out Z3.out Z4.out (fun b hb => by have := (HR.out i hlt b hb).2; have := hf.size; omega) HO.out HG.out HA.out
              have hg5 := gtrans (galloc wr (.cells #[mk2 i] 5) (Value.slice Ag (nn i + k) cg).ownBlock) (Nx.refl wr (.slice Ag (nn i + k) cg)) HG.out
              refine ⟨⟨k + 1, _, _, by omega, by go_num, rfl, hst, gtrans hf hnx hg5, hnx.trans hf.size ?_⟩, by simp [intOf]; omega⟩
              rcases HA.out with e | ⟨e, _⟩
              · exact .inl e
              · exact .inr ⟨_, e, by simp⟩
            · have hk17 : k = 17 := by omega
              have hkl' : ¬ ((k : Int) < 17) := by omega
              rw [hk17] at hG hnx
              have hWsz := hf.size
              have hrow : wr.ownsRow w.heap.size 31 1 (.slice Aa i ca) i gs := own_stay H3.row fun b hb => hf.block b (H3.row.lt b hb).2 (fun e => by have h1 := (HR.out i hlt b e.symm).2; have h2 := (H3.row.lt b hb).1; omega)
              have HW := Lib.hid hrow
              clear hrow
              have hgl : gs.length = i := H3.len
              go_wp2_with (at_builtin; go_must (refine wpList_app _ rfl (.tmp 55) (.tmp 57) _ rfl w.heap.size 31 il _ 1 24 Tryz.underlying39 hil hl0 hl1 hl2 rfl (by omega) (.slice Aa i ca) _ gs rfl (HW.out.alloc _) (wr.heap.size + 1) (some ⟨wr.heap.size, 0, none⟩) 1 1 [(.slice Ag (nn i + 17) cg)] rfl rfl (Rd.one wr (.slice Ag (nn i + 17) cg) 31) (by simp) (by intro u hu; simp at hu; subst hu; rfl) (by unfold maxLen; omega) (by omega) (by simp; omega) ?_; intro v' w5 hown' hgrow hat; have HO := Lib.hid hown'; obtain ⟨A5, c5, rfl, _, _, _⟩ := own_form hown'; have HG := Lib.hid hgrow; clear hown' hgrow hat))
              have hst := H3.step hlt HR.out HD.out hLw hBw hsz hG hf hnx HO.out HG.out
              refine ⟨⟨i + 1, _, _, _, by omega, by go_num, rfl, hst, ?_⟩, by simp [intOf]; omega⟩
              have := HG.out.size
              simp at this
              omega
        · have hi2 : i = 2 := by omega
          have hlt' : ¬ ((i : Int) < 2) := by omega
          go_wp2_with fail
          have HQ : Lp w B r nn L wr 2 (.slice Aa 2 ca) gs := by rw [← hi2]; rw [hi2] at H3 ⊢; exact H3
          obtain ⟨ab, ca', cura, hav, _⟩ := own_block HQ.row (by omega)
          injection hav with h1 _ h3
          subst h1 h3
          clear H3
          have HQ := Lib.hid HQ
          go_loopw [9] (fun vj W => ∃ j : Nat, j ≤ 2 ∧ vj = .int .i64 (j : Int) ∧ W = wr) (fun j _ => 2 - (intOf j).toNat)
          case atStart => exact ⟨0, by omega, rfl, rfl⟩
          case round =>
            obtain ⟨j, hj, rfl, hW⟩ := hrel
            subst hW
            by_cases hjl : j < 2
            · obtain ⟨g, hg⟩ : ∃ g, gs[j]? = some g := ⟨_, List.getElem?_eq_getElem (by rw [HQ.out.len]; omega)⟩
              obtain ⟨zs, z1, z2, z3, z4⟩ := HQ.out.fin j g hg
              obtain ⟨gb, cg, curg, rfl, _⟩ := own_block z1 (by omega)
              have hLj := two_cells (x := .bool true) (y := .bool true) HQ.out.hL hjl
              have hAj := (HQ.out.row.cellAt j (by omega)).trans hg
              obtain ⟨Aj, cj, hrj⟩ := HF.out j hjl
              have hLj0 := hLj
              rw [hrj] at hLj
              have hnn := HN.out j hjl
              have hjl' : (j : Int) < 2 := by omega
              have hji : (j : Int) < (i : Int) := by omega
              have h0j : (0 : Int) ≤ (j : Int) := by omega
              have Z1 := Lib.hid z1
              have Z2 := Lib.hid z2
              have Z3 := Lib.hid z3
              have Z4 := Lib.hid z4
              clear z1 z2 z3 z4
              go_wp2_with fail
              go_loopw [10] (fun vk W => ∃ k : Nat, k ≤ nn j + 17 ∧ vk = .int .i64 (k : Int) ∧ W = wr) (fun k _ => nn j + 17 - (intOf k).toNat)
              case atStart => exact ⟨0, by omega, rfl, rfl⟩
              case round =>
                obtain ⟨k, hk, rfl, hW⟩ := hrel
                subst hW
                by_cases hkl : k < nn j + 17
                · have hkl' : (k : Int) < (nn j : Int) + 17 := by omega
                  have h0k : (0 : Int) ≤ (k : Int) := by omega
                  by_cases hkn : k < nn j
                  · obtain ⟨g', c', hr', hcell⟩ := Z4.out k hkn
                    rw [hr'] at hLj0
                    clear hLj hrj
                    have hz := (Z1.out.cellAt k (by omega)).trans (Z2.out k hkn)
                    simp only [mk1] at hz hcell
                    have hkn' : (k : Int) < (nn j : Int) := by omega
                    go_wp2_with fail
                    exact ⟨⟨k + 1, by omega, by go_num, trivial⟩, by simp [intOf]; omega⟩
                  · clear hLj0
                    have hz := (Z1.out.cellAt k (by omega)).trans (Z3.out k (by omega) hkl)
                    simp only [mk2] at hz
                    have hkn' : ¬ ((k : Int) < (nn j : Int)) := by omega
                    have hkn2 : (nn j : Int) ≤ (k : Int) := by omega
                    go_wp2_with fail
                    exact ⟨⟨k + 1, by omega, by go_num, trivial⟩, by simp [intOf]; omega⟩
                · have hkl' : ¬ ((k : Int) < (nn j : Int) + 17) := by omega
                  clear hLj0
                  go_wp2_with fail
                  exact ⟨⟨j + 1, by omega, by go_num, trivial⟩, by simp [intOf]; omega⟩
            · have hjl' : ¬ ((j : Int) < 2) := by omega
              go_wp2_with fail
              go_ret
              exact ⟨rfl, HQ.out.be⟩
end Go.Proofs.YtagghdehbkbemaaGreatDoor.val
end
