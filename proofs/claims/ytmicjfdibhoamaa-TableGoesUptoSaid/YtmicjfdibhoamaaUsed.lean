/- The walk of TableUsed. -/
import Derived.Test.YtmicjfdibhoamaaOutAt
import Derived.Test.YtmicjfdibhoamaaUsedLaw
namespace Go.Proofs.Ytmicjfdibhoamaa.val
open Go.RowKit mem
attribute [local go_sem] run_store_float

theorem infoB : (Try.prog.info? 4).map (fun i => (i.zero, i.size, i.bytes)) = some (some (.bool false), 1, 1) := by kernel_rfl
/-- one more element behind an owned list -/
theorem OwnL.push {α : Type} {T : TypeId} {size : Nat} {R : World → (Nat → Prop) → α → List Value → Prop} (hR : Rec size R) {w w2 : World} {o : Obj} {base : Nat} {v v' : Value} {l : List α} {css : List (List Value)} {x : α} {cs : List Value}
    (h : Elems R w (Kids w base v) l css) (hx : R w (Kids w base v) x cs) (hown : w2.ownsRow base T size v' (l.length + 1) (css.flatten ++ cs)) (hg : (w.alloc o).grownBy w2 v.ownBlock) (hat : v'.ownBlock = v.ownBlock ∨ v'.ownBlock = some (w.alloc o).heap.size) : OwnL T size R w2 base v' (l ++ [x]) :=
  ⟨css ++ [cs], by rw [List.length_append, List.flatten_append]; simpa using hown, h.app hR hx hg hat⟩
theorem pick_in {es : List (C × O)} {n : Nat} {e : C × O} (h : es[n]? = some e) : pickOf es (n : Int) = [e.1] := by
  unfold pickOf
  rw [if_pos (by omega), Int.toNat_natCast, h]
theorem pick_out {es : List (C × O)} {i : Int} (h : ¬ (0 ≤ i ∧ i < es.length)) : pickOf es i = [] := by
  unfold pickOf
  split
  · rw [List.getElem?_eq_none (by omega)]
  · rfl

theorem isV_V0 (w : World) (S : Nat → Prop) : IsV w S V0 [.int .i64 0, .bool false, .int .i64 0, .float .f64 0, .string ⟨#[]⟩, .string ⟨#[]⟩, .slice none 0 0, .slice none 0 0] := by
  simp only [V0, IsV]
  exact ⟨none, 0, none, 0, rfl, fun _ => rfl, fun _ => rfl, by simp only [IsVs], by simp only [IsFs]⟩
theorem rowsOf_sz (tr : List C) : szE (rowsOf tr) = tr.length := by
  induction tr with
  | nil => rfl
  | cons c r ih =>
    have h : szE (rowsOf (c :: r)) = sz V0 + szE (rowsOf r) := rfl
    rw [h, ih]
    simp [sz, V0, szs, szf]
    omega
def flags (n : Nat) (l : List Nat) : List Value := (List.range n).map fun j => .bool (decide (j ∈ l))
theorem flags_nil (n : Nat) : List.replicate n (Value.bool false) = flags n [] := by
  apply List.ext_getElem
  · simp [flags]
  · intro i h1 h2
    simp [flags]
theorem flags_get {n j : Nat} (l : List Nat) (h : j < n) : (flags n l)[j]? = some (.bool (decide (j ∈ l))) := by simp [flags, h]
theorem flags_set (n i : Nat) (l : List Nat) : (flags n l).set i (.bool true) = flags n (l ++ [i]) := by
  apply List.ext_getElem
  · simp [flags]
  · intro j h1 h2
    rw [List.getElem_set]
    simp only [flags, List.getElem_map, List.getElem_range, List.mem_append, List.mem_singleton]
    by_cases hj : i = j
    · rw [if_pos hj]
      simp [hj]
    · rw [if_neg hj]
      have : ¬ j = i := fun e => hj e.symm
      simp [this]
theorem flag_idle {es : List (C × O)} {tr : List C} {k : Nat} (hk : k < es.length) : decide (k ∈ idl es tr es.length) = idleAt es tr k := by
  cases h : idleAt es tr k with
  | true => exact decide_eq_true ((mem_idl es.length).2 ⟨hk, h⟩)
  | false => exact decide_eq_false (fun hm => by rw [((mem_idl es.length).1 hm).2] at h; cases h)

set_option maxRecDepth 100000 in
set_option maxHeartbeats 40000000 in
theorem used_any (es : List (C × O)) (ps : List Int) (hes : szE es ≤ 1048576) (hps : ps.length ≤ 1048576) (hok : ∀ e ∈ es, e.1.ok) (A : Option Addr) (c : Nat) (A' : Option Addr) (c' : Nat) (w : World) (S : Nat → Prop)
    (hE : LAt 13 IsE w S es A) (hP : Rd w w.heap.size A' (ps.map (.int .i64))) (hB : Bel S w.heap.size) :
    Calls Try.prog 5 #[.slice A es.length c, .slice A' ps.length c'] w (TruePost w) := by
  have hl1 := szE_len es
  have HEs := Lib.hid hE
  have HP := Lib.hid hP
  have HB := Lib.hid hB
  have HK := Lib.hid hok
  obtain ⟨ic, hiv, hv0, hv1, hv2⟩ := info_parts infoC
  obtain ⟨ib, hbv, hb0, hbq1, hbq2⟩ := info_parts infoB
  clear hE hP hB hok
  go_enter Try.func5, Try.ntmps5
  go_wp2_with fail
  refine (works_any _).mono ?_
  rintro e w1 ⟨rfl, hb1⟩
  have hs1 := hb1.size
  go_wp2_with fail
  refine (wide_any es hes A c w1 S (HEs.out.below recE HB.out hb1) (HB.out.mono hs1)).mono ?_
  rintro e w2 ⟨rfl, hb2⟩
  have hs2 := hb2.size
  have hb02 : Below w.heap.size w w2 := hb1.trans (hb2.mono hs1)
  cases hw : wideN es 0 with
  | true =>
    clear hw
    go_wp2_with fail
    go_ret
    exact ⟨rfl, hb02⟩
  | false =>
    clear hw
    go_wp2_with fail
    go_loopw [5, 30] (fun v5 vi W => ∃ (q : Nat) (vv : Value), q ≤ ps.length ∧ vi = .int .i64 (q : Int) ∧ vv = v5 ∧ Hid (OwnL 25 4 IsC W w2.heap.size vv (trOf es (ps.take q))) ∧ Below w2.heap.size w2 W) (fun _ i _ => ps.length - (intOf i).toNat)
    case atStart => exact ⟨0, _, Nat.zero_le _, rfl, rfl, Lib.hid ⟨[], World.ownsRow_nil _ _ _ _, Elems.nil⟩, Below.refl _ _⟩
    case round =>
      obtain ⟨q, vv, hq, rfl, rfl, HO, hb⟩ := hrel
      have hszr := hb.size
      have hbw := hb02.trans (hb.mono (by omega))
      by_cases hlt : q < ps.length
      · have hts := Lib.hid (List.take_succ_eq_append_getElem hlt)
        obtain ⟨ad, rfl, hadB, hc⟩ := (HP.out.below hbw).at_ (k := q) (by simpa using hlt)
        simp only [List.getElem_map] at hc
        generalize ps[q] = p at *
        by_cases hin : 0 ≤ p ∧ p < es.length
        · obtain ⟨hp0, hp1⟩ := hin
          obtain ⟨n, rfl⟩ := Int.eq_ofNat_of_zero_le hp0
          have hn : n < es.length := by omega
          have hx : es[n]? = some es[n] := List.getElem?_eq_getElem hn
          have HN := Lib.hid (pick_in hx)
          obtain ⟨ad2, cs, rfl, hadB2, hcs, ds, rfl, hvx⟩ := (HEs.out.below recE HB.out hbw) n _ hx
          generalize es[n] = x at *
          obtain ⟨⟨x1, x2, x3, x4⟩, xf, v⟩ := x
          obtain ⟨k2, b2, i2, f2, t2, y2, is2, fs2⟩ := v
          simp only [IsV] at hvx
          obtain ⟨A2, c2, A2', c2', rfl, _⟩ := hvx
          obtain ⟨d0, d1, d2, d3, _⟩ := hcs.thirteen
          simp only at d0 d1 d2 d3
          clear hcs hx
          obtain ⟨css, hown, hel⟩ := HO.out
          have HW := Lib.hid hown
          have HL := Lib.hid hel
          have htl := trOf_len es (ps.take q)
          have htq : (ps.take q).length ≤ q := List.length_take_le _ _
          clear hown hel
          go_wp2_with (at_builtin; go_must (refine wpList_app _ rfl (.tmp 42) (.tmp 48) _ rfl w2.heap.size 25 ic _ 4 64 Try.underlying23 hiv hv0 hv1 hv2 rfl (by omega) vv (trOf es (ps.take q)).length css.flatten rfl (HW.out.alloc _) (wr.heap.size + 1) (some ⟨wr.heap.size, 0, none⟩) 1 1 [.string x1, .string x2, .string x3, .string x4] rfl rfl (Rd.new wr [.string x1, .string x2, .string x3, .string x4] 25) (fun h => by cases h) (by simp; exact ⟨rfl, rfl, rfl, rfl⟩) (by unfold maxLen; omega) (by omega) (by simp; omega) ?_); intro v6 w6 hown6 hgrow6 hat6)
          have HOn : Hid (OwnL 25 4 IsC w6 w2.heap.size v6 (trOf es (ps.take (q + 1)))) := Lib.hid (by
            rw [hts.out, trOf_snoc, HN.out]
            exact OwnL.push recC HL.out rfl hown6 hgrow6 hat6)
          have hbn := below_app1 hb HW.out (Nat.le_refl _) hszr hgrow6
          clear hown6 hgrow6 hat6
          go_wp2_with fail
          go_roundw
          case rel => exact ⟨q + 1, _, by omega, by go_num, rfl, HOn, hbn⟩
          case measure => simp [intOf]; omega
        · have HN := Lib.hid (pick_out hin)
          have HOn : Hid (OwnL 25 4 IsC wr w2.heap.size vv (trOf es (ps.take (q + 1)))) := Lib.hid (by
            rw [hts.out, trOf_snoc, HN.out, List.append_nil]
            exact HO.out)
          by_cases hp0 : 0 ≤ p
          · have hp1 : (es.length : Int) ≤ p := by omega
            clear hin
            go_wp2_with fail
            go_roundw
            case rel => exact ⟨q + 1, _, by omega, by go_num, rfl, HOn, hb⟩
            case measure => simp [intOf]; omega
          · have hp1 : p < 0 := by omega
            clear hin
            go_wp2_with fail
            go_roundw
            case rel => exact ⟨q + 1, _, by omega, by go_num, rfl, HOn, hb⟩
            case measure => simp [intOf]; omega
      · obtain rfl : q = ps.length := by omega
        obtain ⟨tr, Htr⟩ : ∃ tr, Hid (trOf es ps = tr) := ⟨_, rfl⟩
        have hOt : OwnL 25 4 IsC wr w2.heap.size vv tr := by
          have := HO.out
          rw [List.take_of_length_le (Nat.le_refl _), Htr.out] at this
          exact this
        have htl : tr.length ≤ 1048576 := by
          have := trOf_len es ps
          rw [Htr.out] at this
          omega
        have HKt : Hid (∀ c ∈ tr, c.ok) := Lib.hid (fun c hc => by
          rw [← Htr.out] at hc
          obtain ⟨e, he, rfl⟩ := List.mem_map.1 (mem_trOf hc)
          exact HK.out e he)
        obtain ⟨A5, c5, rfl, _, hL5⟩ := hOt.lat recC
        have HT0 := Lib.hid hOt
        clear hOt hL5 HO
        obtain ⟨w3, rfl⟩ : ∃ w3 : World, w3 = wr := ⟨_, rfl⟩
        go_wp2_with fail
        refine (tabNew_any es hes HK.out A c _ S (HEs.out.below recE HB.out hbw) (HB.out.mono (by omega))).mono ?_
        rintro e w4 ⟨rfl, hT4, hb4⟩
        have hs4 := hb4.size
        clear hT4
        have HT4 := Lib.hid (HT0.out.below recC hb4)
        have hbw4 : Below w.heap.size w w4 := hbw.trans (hb4.mono (by omega))
        go_wp2_with fail
        obtain ⟨A5', c5', ee, _, hL5⟩ := HT4.out.lat recC
        injection ee with ee1 _ ee2
        subst ee1 ee2
        refine (idle_any es tr hes htl HK.out HKt.out A c A5 c5 _ (fun b => S b ∨ New w2.heap.size w4 b) (lat_more recE (HEs.out.below recE HB.out hbw4) (fun b h => .inl h)) (lat_more recC hL5 (fun b h => .inr h)) (fun b h => by
          rcases h with h | h
          · exact Nat.lt_of_lt_of_le (HB.out b h) hbw4.size
          · exact h.2)).mono ?_
        rintro e w5 ⟨v9, rfl, hI5, hb5⟩
        have hs5 := hb5.size
        obtain ⟨I, HIe⟩ : ∃ I, Hid (idl es tr es.length = I) := ⟨_, rfl⟩
        have hIl : I.length ≤ es.length := by have := idl_le es tr es.length; rw [HIe.out] at this; exact this
        have hIs := Lib.hid (idl_sorted es tr es.length)
        have hIm := Lib.hid (fun j => mem_idl (es := es) (tr := tr) (j := j) es.length)
        rw [HIe.out] at hI5 hIs hIm
        obtain ⟨A9, c9, rfl, hn9, _⟩ := own_form hI5
        have HI5 := Lib.hid hI5
        have hbw5 : Below w.heap.size w w5 := hbw4.trans (hb5.mono (by omega))
        clear hI5 hn9
        go_wp2_with (refine wpList_make_full _ rfl (.tmp 59) (.tmp 59) 51 rfl w5.heap.size 4 ib _ 1 Try.underlying51 hbv hb0 hbq1 .i64 .i64 (es.length : Int) (es.length : Int) es.length rfl rfl rfl rfl (by rw [hbq2]; omega) (by unfold maxLen; omega) (Nat.le_refl _) ?_; intro w6 hown6 hgrow6)
        have hF6 : w6.ownsRow w5.heap.size 4 1 (.slice (some ⟨w5.heap.size, 0, none⟩) es.length es.length) es.length (flags es.length (I.take 0)) := by
          have := hown6
          simp only [Value.cells, Nat.mul_one, toList_madeCells_one, flags_nil] at this
          exact this
        have HF6 := Lib.hid hF6
        have hs6 := hgrow6.size
        have hb56 : Below w5.heap.size w5 w6 := (Below.refl _ _).grown hgrow6 (Nat.le_refl _) (fun k hk => by cases hk)
        clear hF6 hown6 hgrow6
        go_wp2_with fail
        go_loopw [11, 63] (fun v11 vi W => ∃ q : Nat, q ≤ I.length ∧ vi = .int .i64 (q : Int) ∧ v11 = .int .i64 (lastOf I q) ∧ Hid (W.ownsRow w5.heap.size 4 1 (.slice (some ⟨w5.heap.size, 0, none⟩) es.length es.length) es.length (flags es.length (I.take q))) ∧ Below w5.heap.size w5 W) (fun _ i _ => I.length - (intOf i).toNat)
        case atStart => exact ⟨0, Nat.zero_le _, rfl, rfl, HF6, hb56⟩
        case round =>
          clear HF6 hb56 hs6
          obtain ⟨q, hq, rfl, rfl, HF, hbq⟩ := hrel
          have hszq := hbq.size
          by_cases hlt : q < I.length
          · have hts := Lib.hid (List.take_succ_eq_append_getElem hlt)
            have hgt := last_lt hIs.out hlt
            have hmi := ((hIm.out (I[q])).1 (List.getElem_mem hlt)).1
            obtain ⟨ad, rfl, hadB, hc⟩ := ((Rd.of_own HI5.out).below hbq).at_ (k := q) (by simpa using hlt)
            simp only [List.getElem_map, iv] at hc
            have hgd : Hid (lastOf I (q + 1) = ((I[q] : Nat) : Int)) := Lib.hid (by simp [lastOf, hlt])
            generalize I[q] = i at *
            have hcell := (HF.out.cellAt i (by omega)).trans (flags_get (I.take q) hmi)
            have hfz := HF.out.frozenAt i
            obtain ⟨hst, hgs⟩ := HF.out.stored i (.bool true)
            have HFn : Hid ((World.setCell wr ⟨w5.heap.size, i, none⟩ (.bool true)).ownsRow w5.heap.size 4 1 (.slice (some ⟨w5.heap.size, 0, none⟩) es.length es.length) es.length (flags es.length (I.take (q + 1)))) := Lib.hid (by rw [hts.out, ← flags_set]; exact hst)
            have hbn := hbq.grown hgs hszq (fun k hk => by injection hk; omega)
            clear hst hgs
            go_wp2_with fail
            go_roundw
            case rel => exact ⟨q + 1, by omega, by go_num, by rw [hgd.out], HFn, hbn⟩
            case measure => simp [intOf]; omega
          · obtain rfl : q = I.length := by omega
            have HFe := HF.out
            rw [List.take_of_length_le (Nat.le_refl _)] at HFe
            have HF7 := Lib.hid HFe
            clear HFe HF
            obtain ⟨w7, rfl⟩ : ∃ w7 : World, w7 = wr := ⟨_, rfl⟩
            have hT7 : OwnL 25 4 IsC w7 w2.heap.size (.slice A5 tr.length c5) tr := (HT4.out.below recC (hb5.trans (hbq.mono hs5)))
            obtain ⟨A5', c5', ee, _, hL7⟩ := hT7.lat recC
            injection ee with ee1 _ ee2
            subst ee1 ee2
            have HL7 := Lib.hid hL7
            have hbw7 : Below w.heap.size w w7 := hbw5.trans (hbq.mono hbw5.size)
            clear hT7 hL7
            go_wp2_with fail
            go_loopw [83] (fun vi W => ∃ q : Nat, q ≤ tr.length ∧ vi = .int .i64 (q : Int) ∧ Below w7.heap.size w7 W) (fun i _ => tr.length - (intOf i).toNat)
            case atStart => exact ⟨0, Nat.zero_le _, rfl, Below.refl _ _⟩
            case round =>
              obtain ⟨q, hq, rfl, hb7⟩ := hrel
              have hsz7 := hb7.size
              by_cases hlt : q < tr.length
              · have hx : tr[q]? = some tr[q] := List.getElem?_eq_getElem hlt
                have hmem := Lib.hid (List.getElem_mem hlt)
                obtain ⟨ad, cs, rfl, hadB, hcs, rfl⟩ := (HL7.out.below recC (fun b hb => hb.2) hb7) q _ hx
                generalize tr[q] = x at *
                obtain ⟨x1, x2, x3, x4⟩ := x
                obtain ⟨d0, d1, d2, d3⟩ := hcs.four
                simp only at d0 d1 d2 d3
                clear hcs hx
                have gC := Lib.hid (heap_alloc_new wr (.cells #[.string x1, .string x2, .string x3, .string x4] 25))
                have hb8 : Below w7.heap.size w7 (wr.alloc (.cells #[.string x1, .string x2, .string x3, .string x4] 25)) := hb7.alloc hsz7 _
                have hs8 : wr.heap.size + 1 ≤ (wr.alloc (.cells #[.string x1, .string x2, .string x3, .string x4] 25)).heap.size := by simp
                go_wp2_with fail
                generalize (wr.alloc (.cells #[.string x1, .string x2, .string x3, .string x4] 25)) = w8 at *
                clear d0 d1 d2 d3
                obtain ⟨gc, hgc⟩ : ∃ gc : Nat, gc = wr.heap.size := ⟨_, rfl⟩
                rw [← hgc] at gC hs8 hsz7 ⊢
                clear hgc hb7
                have hwr := hb8.size
                go_loopw [16, 89] (fun v16 vi W => ∃ k : Nat, k ≤ es.length ∧ vi = .int .i64 (k : Int) ∧ v16 = .int .i64 (cntU es tr ⟨x1, x2, x3, x4⟩ k : Int) ∧ Below w8.heap.size w8 W) (fun _ i _ => es.length - (intOf i).toNat)
                case atStart => exact ⟨0, Nat.zero_le _, rfl, rfl, Below.refl _ _⟩
                case round =>
                  obtain ⟨k, hk, rfl, rfl, hb9⟩ := hrel
                  have hs9 := hb9.size
                  have hb79 : Below w7.heap.size w7 wr := hb8.trans (hb9.mono hwr)
                  by_cases hlk : k < es.length
                  · have hx : es[k]? = some es[k] := List.getElem?_eq_getElem hlk
                    have hcu : Hid (cntU es tr ⟨x1, x2, x3, x4⟩ (k + 1) = cntU es tr ⟨x1, x2, x3, x4⟩ k + if es[k].1 = ⟨x1, x2, x3, x4⟩ ∧ idleAt es tr k = false then 1 else 0) := Lib.hid (by simp only [cntU, hx])
                    have hcb := cntU_le es tr ⟨x1, x2, x3, x4⟩ k
                    obtain ⟨ad2, cs, rfl, hadB2, hcs, ds, rfl, hvx⟩ := (HEs.out.below recE HB.out (hbw7.trans (hb79.mono (by have := hbw7.size; omega)))) k _ hx
                    generalize es[k] = y at *
                    obtain ⟨⟨z1, z2, z3, z4⟩, xf, v⟩ := y
                    obtain ⟨k2, b2, i2, f2, t2, y2, is2, fs2⟩ := v
                    simp only [IsV] at hvx
                    obtain ⟨A2, c2, A2', c2', rfl, _⟩ := hvx
                    obtain ⟨d0, d1, d2, d3, d4, d5, d6, d7, d8, d9, d10, d11, d12⟩ := hcs.thirteen
                    simp only at d0 d1 d2 d3 d4 hcu
                    clear hcs hx
                    have hcell := (((own_below HF7.out hb79).alloc (.cells #[.string z1, .string z2, .string z3, .string z4, .bool xf, .int .i64 k2, .bool b2, .int .i64 i2, .float .f64 f2, .string t2, .string y2, .slice A2 is2.length c2, .slice A2' fs2.length c2'] 39)).cellAt k (by omega)).trans (flags_get I hlk)
                    have hfl := flag_idle (tr := tr) hlk
                    rw [HIe.out] at hfl
                    rw [hfl] at hcell
                    clear hfl
                    obtain ⟨fl, Hfl⟩ : ∃ fl : Bool, Hid (idleAt es tr k = fl) := ⟨_, rfl⟩
                    rw [Hfl.out] at hcell hcu
                    obtain ⟨m0, m1, m2, m3⟩ := blk4 (blk_below gC.out hb9 (by omega))
                    have gl9 : gc < wr.heap.size := by omega
                    go_upto_region 33 with (fail)
                    go_cut [104] (fun s wx => ∃ b : Bool, s = .bool b ∧ Hid (b = (decide ((⟨z1, z2, z3, z4⟩ : C) = ⟨x1, x2, x3, x4⟩) && !fl)) ∧ wx = wr.alloc (.cells #[.string z1, .string z2, .string z3, .string z4, .bool xf, .int .i64 k2, .bool b2, .int .i64 i2, .float .f64 f2, .string t2, .string y2, .slice A2 is2.length c2, .slice A2' fs2.length c2'] 39))
                    case first =>
                      go_wp2_with fail
                      all_goals
                        go_meet
                        case rel => first | exact ⟨_, rfl, Lib.hid (by rw [← c_eq (by assumption) (by assumption) (by assumption) (by assumption)]; simp), rfl⟩ | exact ⟨_, rfl, Lib.hid (by rw [← c_ne1 (by assumption)]; simp), rfl⟩ | exact ⟨_, rfl, Lib.hid (by rw [← c_ne2 (by assumption)]; simp), rfl⟩ | exact ⟨_, rfl, Lib.hid (by rw [← c_ne3 (by assumption)]; simp), rfl⟩ | exact ⟨_, rfl, Lib.hid (by rw [← c_ne4 (by assumption)]; simp), rfl⟩
                    case rest =>
                    obtain ⟨b, rfl, Hb, rfl⟩ := hcut
                    cases b with
                    | true =>
                      have hcn : Hid (cntU es tr ⟨x1, x2, x3, x4⟩ (k + 1) = cntU es tr ⟨x1, x2, x3, x4⟩ k + 1) := Lib.hid (by
                        have h1 := Hb.out
                        simp at h1
                        rw [hcu.out, if_pos ⟨by simp [h1.1], h1.2⟩])
                      clear hcu
                      go_wp2_with fail
                      go_roundw
                      case rel => exact ⟨k + 1, by omega, by go_num, by rw [hcn.out]; go_num, hb9.alloc hs9 _⟩
                      case measure => simp [intOf]; omega
                    | false =>
                      have hcn : Hid (cntU es tr ⟨x1, x2, x3, x4⟩ (k + 1) = cntU es tr ⟨x1, x2, x3, x4⟩ k) := Lib.hid (by
                        have h1 := Hb.out
                        rw [hcu.out, if_neg (fun h2 => by rw [decide_eq_true h2.1, h2.2] at h1; simp at h1)]
                        rfl)
                      clear hcu
                      go_wp2_with fail
                      go_roundw
                      case rel => exact ⟨k + 1, by omega, by go_num, by rw [hcn.out], hb9.alloc hs9 _⟩
                      case measure => simp [intOf]; omega
                  · obtain rfl : k = es.length := by omega
                    have hone : cntU es tr ⟨x1, x2, x3, x4⟩ es.length = 1 := by
                      rw [cntU_eq hmem.out es.length (Nat.le_refl _), if_pos]
                      unfold keys
                      rw [List.take_of_length_le (Nat.le_refl _)]
                      exact mem_trOf (by rw [Htr.out]; exact hmem.out)
                    rw [hone]
                    clear hone
                    go_wp2_with fail
                    go_roundw
                    case rel => exact ⟨q + 1, by omega, by go_num, hb79⟩
                    case measure => simp [intOf]; omega
              · obtain rfl : q = tr.length := by omega
                go_wp2_with fail
                have hbw8 : Below w.heap.size w wr := hbw7.trans (hb7.mono hbw7.size)
                have htm : Hid (∀ c ∈ tr, c ∈ es.map (·.1)) := Lib.hid (fun c hc => mem_trOf (by rw [Htr.out]; exact hc))
                have haw := awake_len htm.out
                rw [HIe.out] at haw
                have HAw := Lib.hid haw
                obtain ⟨L, HLn⟩ : ∃ L : Nat, Hid ((tabR (rowsOf tr)).length = L) := ⟨_, rfl⟩
                rw [HLn.out] at haw
                refine (tabNew_own [] 0 rfl (by simp [szE]) (fun e he => by cases he) none 0 _ wr.heap.size ⟨[], World.ownsRow_nil _ _ _ _, Elems.nil⟩).mono ?_
                rintro e w9 ⟨rfl, _, hb9⟩
                have hs9 := hb9.size
                obtain ⟨ie, hev, he0, he1, he2⟩ := info_parts infoE
                go_wp2_with fail
                go_loopw [21, 119] (fun v21 vi W => ∃ (q : Nat) (vv : Value), q ≤ tr.length ∧ vi = .int .i64 (q : Int) ∧ vv = v21 ∧ Hid (OwnL 39 13 IsE W w9.heap.size vv (rowsOf (tr.take q))) ∧ Below w9.heap.size w9 W) (fun _ i _ => tr.length - (intOf i).toNat)
                case atStart => exact ⟨0, _, Nat.zero_le _, rfl, rfl, Lib.hid ⟨[], World.ownsRow_nil _ _ _ _, Elems.nil⟩, Below.refl _ _⟩
                case round =>
                  obtain ⟨q, vv, hq, rfl, rfl, HO, hbq⟩ := hrel
                  have hszq := hbq.size
                  by_cases hlq : q < tr.length
                  · have hx : tr[q]? = some tr[q] := List.getElem?_eq_getElem hlq
                    have hts := Lib.hid (List.take_succ_eq_append_getElem hlq)
                    obtain ⟨ad, cs, rfl, hadB, hcs, rfl⟩ := (HL7.out.below recC (fun b hb => hb.2) ((hb7.trans (hb9.mono hsz7)).trans (hbq.mono (by omega)))) q _ hx
                    generalize tr[q] = x at *
                    obtain ⟨x1, x2, x3, x4⟩ := x
                    obtain ⟨d0, d1, d2, d3⟩ := hcs.four
                    simp only at d0 d1 d2 d3
                    clear hcs hx
                    obtain ⟨css, hown, hel⟩ := HO.out
                    have hlr : (rowsOf (tr.take q)).length ≤ q := by simp [rowsOf]; omega
                    have HW := Lib.hid (hown.alloc (.cells #[.string x1, .string x2, .string x3, .string x4] 25))
                    have HL := Lib.hid (hel.below recE ((Below.refl _ _).alloc (Nat.le_refl _) (.cells #[.string x1, .string x2, .string x3, .string x4] 25)))
                    have hba := hbq.alloc hszq (.cells #[.string x1, .string x2, .string x3, .string x4] 25)
                    have hsa : wr.heap.size + 1 ≤ (wr.alloc (.cells #[.string x1, .string x2, .string x3, .string x4] 25)).heap.size := by simp
                    clear hown hel
                    go_wp2_with (at_builtin; go_must (refine wpList_app _ rfl (.tmp 123) (.tmp 126) _ rfl w9.heap.size 39 ie _ 13 184 Try.underlying22 hev he0 he1 he2 rfl (by omega) vv (rowsOf (tr.take q)).length css.flatten rfl (HW.out.alloc _) (wr.heap.size + 1 + 1) (some ⟨wr.heap.size + 1, 0, none⟩) 1 1 [.string x1, .string x2, .string x3, .string x4, .bool false, .int .i64 0, .bool false, .int .i64 0, .float .f64 0, .string ⟨#[]⟩, .string ⟨#[]⟩, .slice none 0 0, .slice none 0 0] rfl rfl (Rd.newAt (wr.alloc (.cells #[.string x1, .string x2, .string x3, .string x4] 25)) (wr.heap.size + 1) [.string x1, .string x2, .string x3, .string x4, .bool false, .int .i64 0, .bool false, .int .i64 0, .float .f64 0, .string ⟨#[]⟩, .string ⟨#[]⟩, .slice none 0 0, .slice none 0 0] 39 (by simp)) (fun h => by cases h) (isE_one' (isV_V0 wr (fun _ => True)) x1 x2 x3 x4 false) (by unfold maxLen; omega) (by omega) (by simp; omega) ?_); intro v6 w6' hown6 hgrow6 hat6)
                    have HOn : Hid (OwnL 39 13 IsE w6' w9.heap.size v6 (rowsOf (tr.take (q + 1)))) := Lib.hid (by
                      have : rowsOf (tr.take (q + 1)) = rowsOf (tr.take q) ++ [(⟨x1, x2, x3, x4⟩, O0)] := by rw [hts.out]; simp [rowsOf]
                      rw [this]
                      exact OwnL.push recE HL.out ⟨_, rfl, isV_V0 _ _⟩ hown6 hgrow6 hat6)
                    have hbn := below_app1 hba HW.out (Nat.le_refl _) (by omega) hgrow6
                    clear hown6 hgrow6 hat6
                    go_wp2_with fail
                    go_roundw
                    case rel => exact ⟨q + 1, _, by omega, by go_num, rfl, HOn, hbn⟩
                    case measure => simp [intOf]; omega
                  · obtain rfl : q = tr.length := by omega
                    have hOe := HO.out
                    rw [List.take_of_length_le (Nat.le_refl _)] at hOe
                    obtain ⟨A8, c8, rfl, _⟩ := hOe.lat recE
                    have HOe := Lib.hid hOe
                    clear hOe HO
                    obtain ⟨w10, rfl⟩ : ∃ w10 : World, w10 = wr := ⟨_, rfl⟩
                    go_wp2_with fail
                    refine (tabNew_own (rowsOf tr) _ rfl (by rw [rowsOf_sz]; exact htl) (fun e he => by
                      obtain ⟨c, hc, rfl⟩ := List.mem_map.1 he
                      exact HKt.out c hc) A8 c8 _ _ HOe.out).mono ?_
                    rintro e w11 ⟨rfl, hT11, hb11⟩
                    have HT11 := Lib.hid hT11
                    clear hT11
                    go_wp2_with fail
                    refine (tabLen_int w11 _ w10.heap.size _ HT11.out (Below.refl _ _) ((es.length : Int) - (I.length : Int)) (by rw [HLn.out]; omega)).mono ?_
                    rintro e w' ⟨rfl, rfl⟩
                    go_wp2_with fail
                    go_ret
                    exact ⟨ret_bool (by simp), ((hbw8.trans (hb9.mono hbw8.size)).trans (hbq.mono (by have := hbw8.size; omega))).trans (hb11.mono (by have := hbw8.size; omega))⟩
end Go.Proofs.Ytmicjfdibhoamaa.val
