/- The iterator of the ordered table, at any rows. -/
import Derived.Test.YtmicjfdibhoamaaRange
import Derived.Test.YtmicjfdibhoamaaRefRows
import Derived.Sort.CutIn
import Derived.Stop.RegionWithIn
namespace Go.Proofs.Ytmicjfdibhoamaa.val
open Go.RowKit mem
attribute [local go_sem] run_store_float Oper.semAt_some

theorem wpListIn_app {F : Fence} {n0 : Nat} {P : Program} (w : World) {ops : Array Oper} {rest : List Oper} {o : Oper} {a : Act} {Q : Exit → Act → World → Prop} (hgd : o.guard = none) (s x : Operand) (t : TypeId)
    (ho : o.op = .call { callee := .builtin .append, args := #[s, x], argTypes := #[t, t] })
    (base : Nat) (e : TypeId) (i : TypeInfo) (z : Value) (size bytes : Nat) (ht : P.underlying t = some (.slice e)) (hi : P.info? e = some i) (hz : i.zero = some z)
    (hsize : i.size = size) (hby : i.bytes = bytes) (hzs : z.cells.size = size) (hsz : 0 < size)
    (v : Value) (n : Nat) (xs : List Value) (hs : a.eval s = v) (hown : w.ownsRow base e size v n xs)
    (B : Nat) (A : Option Addr) (m c : Nat) (news : List Value) (hx : a.eval x = .slice A m c) (hl : news.length = m * size) (hr : Rd w B A news) (hnz : A = none → m = 0) (h1 : ∀ u ∈ news, u.oneCell' = true)
    (h63 : n + m ≤ maxLen) (hbytes : (n + m) * bytes ≤ 140737488355328) (hbase : base ≤ w.heap.size)
    (h : ∀ v' w', w'.ownsRow base e size v' (n + m) (xs ++ news) → w.grownBy w' v.ownBlock → (v'.ownBlock = v.ownBlock ∨ v'.ownBlock = some w.heap.size) → wpListIn F n0 P ops Q rest (a.put o.dst v') w') : wpListIn F n0 P ops Q (o :: rest) a w := by
  refine wpListIn_plain hgd fun K hK' => ?_
  obtain ⟨v', w', hrun, r1, r2, r3⟩ := run_app (P := P) w base t o.type e i z size bytes ht hi hz hsize hby hzs hsz v n xs hown B A m c news hl hr hnz h1 h63 hbytes hbase
  unfold Oper.wpIn
  refine ⟨?_, ?_⟩
  · simp [Oper.about, ho, resolve, Target.leads, Sem.run_pure]
  · rw [Oper.semAt_plain F _ _ (by rw [ho]; intro c hc'; cases hc')]
    simp [execOp, ho, resolve, invoke, builtin, hs, hx, hrun, Result.andThen]
    exact hK' _ _ (h v' w' r1 r2 r3)

theorem own_keep {w w' : World} {base : Nat} {e : TypeId} {size n : Nat} {v : Value} {xs : List Value} (h : w.ownsRow base e size v n xs) (hk : ∀ k, base ≤ k → k < w.heap.size → w'.heap[k]? = w.heap[k]?) : w'.ownsRow base e size v n xs := by
  obtain ⟨h1, h2⟩ := h
  refine ⟨h1, ?_⟩
  rcases h2 with h2 | ⟨g, cap, cur, hv, hg, hh, r⟩
  · exact .inl h2
  · exact .inr ⟨g, cap, cur, hv, hg, (hk g hg (blk_lt hh)).trans hh, r⟩
/-- what the table hands to round q -/
def encR (rows : List (C × O)) (n : Nat) (q : Nat) (W : World) (args : Array Value) : Prop := ∃ (c : C) (o : O) (cs : List Value), rows[q]? = some (c, o) ∧ args = #[.agg #[.string c.p, .string c.q, .string c.f, .string c.a], .agg cs.toArray] ∧ IsO W (fun b => b < n) o cs

set_option maxRecDepth 100000 in
set_option maxHeartbeats 8000000 in
theorem ordAll_seq (w : World) (n b g lo : Nat) (rows : List (C × O)) (hwn : w.heap.size ≤ n) (hO : OrdAt w g lo rows) (hn : rows.length ≤ 1048576) :
    SeqB Try.prog 45 #[.pointer (some ⟨b, 0, none⟩)] rows.length (fun _ => encR rows n) n (fun W => W.cell? ⟨b, 0, none⟩ = some (.pointer (some ⟨g + 1, 0, none⟩)) ∧ Below w.heap.size w W) := by
  intro l W J Jx hpre hnW hJ hJx hY h0 m
  obtain ⟨hb, hW⟩ := hpre
  refine callsIn_wide.2 ((callsIn_wide (n := 4)).1 ?_)
  have hsw := hW.size
  obtain ⟨K, U, css, h1, h2, h3, h4, h5, h6, h7, h8⟩ := hO
  obtain ⟨A, c, rfl, hA, _⟩ := own_form h5
  obtain ⟨A', c', rfl, hA', _⟩ := own_form h6
  obtain ⟨ic, hic, hc0, hc1, hc2⟩ := info_parts infoC
  obtain ⟨io, hio, ho0, ho1, ho2⟩ := info_parts infoO
  have h3W := blk_below h3 hW (blk_lt h3)
  have c0 := cell_of_row W (g + 1) 1 _ _ (0, 0) h3W
  have H3 := Lib.hid h3W
  have HY := Lib.hid hY
  have hek : (rows.map fun e => e.1.cs).flatten = ccs (rows.map (·.1)) := by simp [ccs, Function.comp_def]
  rw [hek] at h5
  have R5 := Lib.hid (Rd.of_own (own_below h5 hW))
  have R6 := Lib.hid (Rd.of_own (own_below h6 hW))
  have E8 : Hid (∀ W' : World, Below w.heap.size w W' → Elems IsO W' (fun b => b < n) (rows.map fun e => e.2) css) := Lib.hid (fun W' hW' => h8.keep recO (fun p hp => hW'.cell hp.2.1) (fun b hb => Nat.lt_of_lt_of_le hb.2.1 hwn))
  have L6 : Hid (css.flatten.length = rows.length * 9) := Lib.hid (by have := elems_flat recO h8; simpa using this)
  have O6 := Lib.hid (elems_one recO h8)
  have L5 : Hid ((ccs (rows.map (·.1))).length = rows.length * 4) := Lib.hid (by rw [ccs_len]; simp)
  have O5 : Hid (∀ u ∈ ccs (rows.map (·.1)), u.oneCell' = true) := Lib.hid (fun u hu => by
    obtain ⟨cs, hcs, hu⟩ := List.mem_flatten.1 hu
    obtain ⟨e, _, rfl⟩ := List.mem_map.1 hcs
    simp [C.cs] at hu
    rcases hu with rfl | rfl | rfl | rfl <;> rfl)
  clear h3 h4 h5 h6 h7 h8 h1 h2 hY h3W hek
  show CallsIn Fence.wide 4 Try.prog 45 #[.func (.yield l) #[] #[], .pointer (some ⟨b, 0, none⟩)] W _
  refine callsIn_of_wp Try.func45 rfl trivial ?_ rfl
  simp only [Try.ntmps45, List.size_toArray, List.length_cons, List.length_nil, Nat.reduceAdd, Nat.reduceSub, Array.replicate_succ, Array.replicate_zero, List.push_toArray, List.append_toArray, List.nil_append, List.cons_append]
  gi_wp2_with (gi_at_builtin; first
    | (refine wpListIn_app _ rfl (.const (.slice none 0 0)) (.tmp 12) 23 rfl W.heap.size 25 ic _ 4 64 Try.underlying23 hic hc0 hc1 hc2 rfl (by omega) (.slice none 0 0) 0 [] rfl (World.ownsRow_nil _ _ _ _) W.heap.size A rows.length c _ rfl L5.out R5.out hA O5.out (by unfold maxLen; omega) (by omega) (Nat.le_refl _) ?_; intro v1 w1 hown1 hgrow1 _; simp only [Nat.zero_add, List.nil_append] at hown1; obtain ⟨A1, c1, rfl, _⟩ := own_form hown1; have hj1 := (Below.refl W.heap.size W).grown hgrow1 (Nat.le_refl _) (fun k hk => by cases hk); have k1 := (World.cell?_of_block (hgrow1.block _ (World.block_lt_of_cell? W _ hb) (by simp [Value.ownBlock]))).trans hb; have cc1 := cell_of_row w1 (g + 1) 2 _ _ (0, 0) (blk_grown H3.out hgrow1 (by simp [Value.ownBlock])))
    | (refine wpListIn_app _ rfl (.const (.slice none 0 0)) (.tmp 17) 53 rfl W.heap.size 37 io _ 9 120 Try.underlying53 hio ho0 ho1 ho2 rfl (by omega) (.slice none 0 0) 0 [] rfl (World.ownsRow_nil _ _ _ _) W.heap.size A' rows.length c' _ rfl L6.out (R6.out.below hj1) hA' O6.out (by unfold maxLen; omega) (by omega) hj1.size ?_; intro v2 w2 hown2 hgrow2 _; simp only [Nat.zero_add, List.nil_append] at hown2; obtain ⟨A2, c2, rfl, _⟩ := own_form hown2; have hj2 := hj1.grown hgrow2 hj1.size (fun k hk => by cases hk)))
  have hj12 : Below w1.heap.size w1 w2 := (Below.refl _ _).grown hgrow2 (Nat.le_refl _) (fun k hk => by cases hk)
  have HK2 := Lib.hid (own_below hown1 hj12)
  have HU2 := Lib.hid hown2
  have hw2 : Below w.heap.size w w2 := hW.trans (hj2.mono hsw)
  have hn2 : n ≤ w2.heap.size := Nat.le_trans hnW hj2.size
  have hJ0 : Hid (J 0 w2) := Lib.hid (hJ 0 W w2 h0 hj2)
  have hs2 := hj2.size
  clear hown1 hown2 hgrow1 hgrow2 hj12 R5 R6 L5 L6 O5 O6 h0 cc1 k1 H3 c0 hb
  gi_loopw [21] (fun vi wr => ∃ q : Nat, q ≤ rows.length ∧ vi = .int .i64 (q : Int) ∧ Hid (J q wr) ∧ Keep n W.heap.size w2 wr) (fun i _ => rows.length - (intOf i).toNat)
  case atStart => exact ⟨0, Nat.zero_le _, rfl, hJ0, Keep.refl _ _ _⟩
  case round =>
    obtain ⟨q, hq, rfl, HJ, hkp⟩ := hrel
    clear hJ0
    have hszr := hkp.1.size
    have hbw : Below w.heap.size w wr := hw2.trans (hkp.1.mono hwn)
    by_cases hlt : q < rows.length
    · have hx : rows[q]? = some rows[q] := List.getElem?_eq_getElem hlt
      obtain ⟨ad, xa, rfl, hadB, hxa, rfl⟩ := ccs_lat (own_keep HK2.out hkp.2) (by simp) q _ (show (rows.map (·.1))[q]? = some rows[q].1 by simp [hx])
      obtain ⟨gu, cu, xo, hve, hgu1, hgu2, hxo, hIO⟩ := own_at' recO (l := rows.map fun e => e.2) (by simpa using own_keep HU2.out hkp.2) (E8.out wr hbw) (show (rows.map (·.2))[q]? = some rows[q].2 by simp [hx])
      injection hve with hv1 hvl hv2
      clear hvl
      subst hv1 hv2
      obtain ⟨ae, hae⟩ : ∃ ae : Addr, (⟨gu, 0, none⟩ : Addr) = ae := ⟨_, rfl⟩
      rw [hae] at hxo ⊢
      have hxq := Lib.hid hx
      clear hae hx hgu1 hgu2
      generalize rows[q] = x at *
      obtain ⟨⟨x1, x2, x3, x4⟩, xf, v⟩ := x
      have HIO := Lib.hid hIO
      obtain ⟨ds, rfl, hv⟩ := hIO
      obtain ⟨k2, b2, i2, f2, t2, y2, is2, fs2⟩ := v
      simp only [IsV] at hv
      obtain ⟨A3, c3, A3', c3', rfl, _⟩ := hv
      obtain ⟨d0, d1, d2, d3⟩ := hxa.four
      obtain ⟨e0, e1, e2, e3, e4, e5, e6, e7, e8⟩ := hxo.nine
      simp only at d0 d1 d2 d3 e0
      have hq0 : (0 : Int) ≤ (q : Int) := by omega
      have hqn : (q : Int) < (rows.length : Int) := by omega
      clear hxa hxo
      have hbx : Below wr.heap.size wr (wr.alloc (.cells #[.string x1, .string x2, .string x3, .string x4] 25)).drew := ((Below.refl _ _).alloc (Nat.le_refl _) _).drew
      have hnr : n ≤ wr.heap.size := by omega
      have hkx : Keep n W.heap.size w2 (wr.alloc (.cells #[.string x1, .string x2, .string x3, .string x4] 25)).drew := hkp.trans (Keep.of_below hbx hnr)
      obtain ⟨fn, tmps, assign, body, hy, hR⟩ := HY.out 3 q (wr.alloc (.cells #[.string x1, .string x2, .string x3, .string x4] 25)).drew #[.agg #[.string x1, .string x2, .string x3, .string x4], .agg #[.bool xf, .int .i64 k2, .bool b2, .int .i64 i2, .float .f64 f2, .string t2, .string y2, .slice A3 is2.length c3, .slice A3' fs2.length c3']] hlt (hJ q wr _ HJ.out (hbx.mono (by omega)))
        ⟨⟨x1, x2, x3, x4⟩, ⟨xf, .mk k2 b2 i2 f2 t2 y2 is2 fs2⟩, _, hxq.out, rfl, recO.keep (fun p hp => hbx.cell (Nat.lt_of_lt_of_le hp hnr)) (fun _ h => h) HIO.out⟩ (by have := hbx.size; omega) ((hj2.mono hnW).trans hkx.1)
      have HR := Lib.hid (RoundIn.mono hR (R' := fun e W' => ∃ bb : Bool, e = .returned (.bool bb) ∧ Keep n W.heap.size (wr.alloc (.cells #[.string x1, .string x2, .string x3, .string x4] 25)).drew W' ∧ (bb = true → J (q + 1) W') ∧ (bb = false → Jx W')) (fun e W' h => by
        obtain ⟨hk, (⟨rfl, hJ'⟩ | ⟨rfl, hJx'⟩)⟩ := h
        · exact ⟨true, rfl, hk, (fun _ => hJ'), (fun h => by cases h)⟩
        · exact ⟨false, rfl, hk, (fun h => by cases h), (fun _ => hJx')⟩))
      obtain ⟨m0, m1, m2, m3⟩ := blk4 (heap_alloc_new wr (.cells #[.string x1, .string x2, .string x3, .string x4] 25))
      clear hR
      gi_upto_region 6 with (fail)
      have kk := fun (a : Addr) (u : Value) (hh : wr.cell? a = some u) => (((Below.refl wr.heap.size wr).alloc (Nat.le_refl _) (.cells #[.string x1, .string x2, .string x3, .string x4] 25)).cell (p := a) (World.block_lt_of_cell? wr a hh)).trans hh
      replace e0 := kk _ _ e0
      replace e1 := kk _ _ e1
      replace e2 := kk _ _ e2
      replace e3 := kk _ _ e3
      replace e4 := kk _ _ e4
      replace e5 := kk _ _ e5
      replace e6 := kk _ _ e6
      replace e7 := kk _ _ e7
      replace e8 := kk _ _ e8
      clear kk
      gi_region_with (refine HR.out.mono ?_; rintro e W' ⟨bb, rfl, hk, hJ1, hJ2⟩)
      all_goals
        have hkn := hkx.trans hk
        have HJ1 := Lib.hid hJ1
        have HJ2 := Lib.hid hJ2
        clear hJ1 hJ2 m0 m1 m2 m3 e0 e1 e2 e3 e4 e5 e6 e7 e8 d0 d1 d2 d3
        cases bb with
        | true =>
          gi_wp2_with fail
          exact ⟨⟨q + 1, by omega, by go_num, Lib.hid (HJ1.out rfl), hkn⟩, by simp [intOf]; omega⟩
        | false =>
          gi_wp2_with fail
          refine bodyPost_ret (results_none rfl _ _ _) rfl ⟨⟨_, rfl⟩, .inr (HJ2.out (by trivial))⟩
    · obtain rfl : q = rows.length := by omega
      gi_wp2_with fail
      go_end0
      exact ⟨⟨_, rfl⟩, .inl HJ.out⟩
end Go.Proofs.Ytmicjfdibhoamaa.val
