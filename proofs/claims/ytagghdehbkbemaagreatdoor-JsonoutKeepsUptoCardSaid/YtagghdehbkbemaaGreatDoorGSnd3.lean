/- The reference's parts: a value's parts in their order. The reference's Clean; its flaw of a part. The reference's flaw of an object's names; flaw of any part. -/
import Derived.Test.YtagghdehbkbemaaGreatDoorGSnd1
import Derived.Test.YtagghdehbkbemaaGreatDoorGFtx
import Derived.BigQuiet
section
namespace Go.Proofs.YtagghdehbkbemaaGreatDoor.look
open Go.RowKit mem txt app smap val
attribute [local go_sem] run_store_float
set_option linter.unusedVariables false

theorem prtf_kids : ∀ fs : List (ByteArray × V), prtf fs = prts (fs.map (·.2))
  | [] => rfl
  | (s, v) :: r => by simp only [prtf, List.map_cons, prts, prtf_kids r]
theorem szf_kids : ∀ fs : List (ByteArray × V), szf fs = szs (fs.map (·.2))
  | [] => by simp only [szf, List.map_nil, szs]
  | (s, v) :: r => by simp only [szf, List.map_cons, szs, szf_kids r]
theorem prt_kids (x : V) : prt x = x :: prts (kids x) := by
  obtain ⟨k, b, i, f, t, y, is, fs⟩ := x
  simp only [prt, kids]
  by_cases c5 : k = 5
  · rw [if_pos c5, if_pos c5]
  by_cases c6 : k = 6
  · rw [if_neg c5, if_pos c6, if_neg c5, if_pos c6, prtf_kids]
  · rw [if_neg c5, if_neg c6, if_neg c5, if_neg c6]
    simp only [prts]
theorem sz_kids (x : V) : szs (kids x) + 1 ≤ sz x := by
  obtain ⟨k, b, i, f, t, y, is, fs⟩ := x
  have := szf_kids fs
  simp only [sz, kids]
  by_cases c5 : k = 5
  · rw [if_pos c5]; omega
  by_cases c6 : k = 6
  · rw [if_neg c5, if_pos c6]; omega
  · rw [if_neg c5, if_neg c6]
    simp only [szs]
    omega
theorem prts_app (l r : List V) : prts (l ++ r) = prts l ++ prts r := by
  induction l with
  | nil => simp [prts]
  | cons v l ih => simp only [List.cons_append, prts, ih, List.append_assoc]
theorem szs_app (l r : List V) : szs (l ++ r) = szs l + szs r := by
  induction l with
  | nil => simp only [List.nil_append, szs]; omega
  | cons v l ih => simp only [List.cons_append, szs, ih]; omega
theorem szs_cut {l : List V} {q : Nat} {y : V} (h : l[q]? = some y) : szs (l.take q) + sz y ≤ szs l := by
  have e : l = l.take q ++ (y :: l.drop (q + 1)) := by
    have hq := (List.getElem?_eq_some_iff.1 h)
    obtain ⟨h1, h2⟩ := hq
    rw [← h2, ← List.drop_eq_getElem_cons h1, List.take_append_drop]
  have e2 : szs l = szs (l.take q) + szs (y :: l.drop (q + 1)) := by rw [← szs_app, ← e]
  simp only [szs] at e2
  omega
theorem rowStayG {α : Type} {T : TypeId} {size : Nat} {R : World → (Nat → Prop) → α → List Value → Prop} (hR : Rec size R) {w w' : World} {B0 B1 : Nat} {S : Nat → Prop} {v : Value} {l : List α} (h : Row T size R w B0 S v l) (hS : Bel S B1) (hB : Below B1 w w') (hk : ∀ g, v.ownBlock = some g → w'.heap[g]? = w.heap[g]?) : Row T size R w' B0 S v l := by
  obtain ⟨css, h1, h2⟩ := h
  exact ⟨css, own_kept h1 hk, h2.keep hR (fun p hp => hB.cell (hS _ hp)) (fun _ h => h)⟩
/-- the list of parts has grown by those of y -/
def PtsPost (B : Nat) (S : Nat → Prop) (vv : Value) (done : List V) (y : V) (w : World) (e : Ending) (w' : World) : Prop := ∃ u, e = .returned u ∧ Row 60 9 IsPt w' B S u (done ++ prt y) ∧ w.grownBy w' vv.ownBlock ∧ Nx w vv u
def PartsAt (y : V) : Prop := ∀ (cs : List Value) (B Bp : Nat) (vv : Value) (done : List V) (A : Option Addr) (n c : Nat) (lp : List St) (w : World) (S : Nat → Prop), IsV w S y cs → Bel S B → B ≤ w.heap.size → Row 60 9 IsPt w B S vv done → Row 104 3 IsSt w Bp (fun _ => False) (.slice A n c) lp → lp.length = n → n + sz y ≤ 2097152 → done.length + sz y ≤ 4194304 →
    Calls Tryz.prog 43 #[.agg cs.toArray, .slice A n c, vv] w (PtsPost B S vv done y w)
/-- while the parts grow -/
structure PaSt (w : World) (B : Nat) (S : Nat → Prop) (vv uu : Value) (acc : List V) (B1 : Nat) (pv : Value) (lp : List St) (B2 : Nat) (sv : Value) (ls : List St) (B3 : Nat) (kv : Value) (ks : List V) (wr : World) : Prop where
  out : Row 60 9 IsPt wr B S uu acc
  g : w.grownBy wr vv.ownBlock
  nx : Nx w vv uu
  pa : Row 104 3 IsSt wr B1 (fun _ => False) pv lp
  st : Row 104 3 IsSt wr B2 (fun _ => False) sv ls
  ks : Row 27 8 IsV wr B3 S kv ks
theorem PaSt.step {w wr W' : World} {B : Nat} {S : Nat → Prop} {vv uu u' : Value} {acc acc' : List V} {B1 : Nat} {pv : Value} {lp : List St} {B2 : Nat} {sv : Value} {ls : List St} {B3 : Nat} {kv : Value} {ks : List V} (h : PaSt w B S vv uu acc B1 pv lp B2 sv ls B3 kv ks wr) (hS : Bel S B) (hB : B ≤ w.heap.size) (hrow : Row 60 9 IsPt W' B S u' acc') (hg : wr.grownBy W' uu.ownBlock) (hn : Nx wr uu u') : PaSt w B S vv u' acc' B1 pv lp B2 sv ls B3 kv ks W' := by
  have hsz := h.g.size
  have hbl : Below B wr W' := ⟨hg.os, hg.tape, hg.output, hg.size, fun k hk => hg.block k (by omega) (by intro e1; have := (h.out.lt k e1.symm).1; omega)⟩
  have hF : Bel (fun _ : Nat => False) B := fun _ hf => hf.elim
  exact ⟨hrow, gtrans h.g h.nx hg, h.nx.trans hsz hn, rowStayG recSt h.pa hF hbl (fun g hgg => hg.block g (h.pa.lt g hgg).2 (h.pa.ne h.out (by decide) g hgg)), rowStayG recSt h.st hF hbl (fun g hgg => hg.block g (h.st.lt g hgg).2 (h.st.ne h.out (by decide) g hgg)), rowStayG recV h.ks hS hbl (fun g hgg => hg.block g (h.ks.lt g hgg).2 (h.ks.ne h.out (by decide) g hgg))⟩
theorem PaSt.below {w wr W' : World} {B : Nat} {S : Nat → Prop} {vv uu : Value} {acc : List V} {B1 : Nat} {pv : Value} {lp : List St} {B2 : Nat} {sv : Value} {ls : List St} {B3 : Nat} {kv : Value} {ks : List V} (h : PaSt w B S vv uu acc B1 pv lp B2 sv ls B3 kv ks wr) (hS : Bel S B) (hB : B ≤ w.heap.size) (hb : Below wr.heap.size wr W') : PaSt w B S vv uu acc B1 pv lp B2 sv ls B3 kv ks W' := by
  have hsz := h.g.size
  exact h.step hS hB (rowStayG recPt h.out hS (hb.mono (by omega)) (fun g hg => hb.block g (h.out.lt g hg).2)) (gbelow hb _) (.inl rfl)
section
variable (b : Bool) (i : Int) (f : Nat) (t y : ByteArray) (A A' : Option Addr) (n m c c' : Nat)
set_option maxRecDepth 100000 in
set_option maxHeartbeats 4000000 in
theorem parts_step (x : V) (B Bp : Nat) (vv : Value) (done : List V) (Ap : Option Addr) (np cp : Nat) (lp : List St) (w : World) (S : Nat → Prop) (k : Int) (hV : IsV w S x [.int .i64 k, .bool b, .int .i64 i, .float .f64 f, .string t, .string y, .slice A n c, .slice A' m c']) (hS : Bel S B) (hB : B ≤ w.heap.size) (hrow : Row 60 9 IsPt w B S vv done) (hpa : Row 104 3 IsSt w Bp (fun _ => False) (.slice Ap np cp) lp) (hlp : lp.length = np) (hnp : np + sz x ≤ 2097152) (hdn : done.length + sz x ≤ 4194304) (hsz : sz x ≤ 1048576)
    (IH : ∀ (q : Nat) (y : V), (kids x)[q]? = some y → PartsAt y) : Calls Tryz.prog 43 #[.agg #[.int .i64 k, .bool b, .int .i64 i, .float .f64 f, .string t, .string y, .slice A n c, .slice A' m c'], .slice Ap np cp, vv] w (PtsPost B S vv done x w) := by
  obtain ⟨iv, hiv, hv0, hv1, hv2⟩ := info_parts infoPt
  have HK := Lib.hid (fun W hW => children_any x hsz [.int .i64 k, .bool b, .int .i64 i, .float .f64 f, .string t, .string y, .slice A n c, .slice A' m c'] W S (hV.below hS hW) (hS.mono (by have := hW.size; omega)))
  have hpz := sz_pos x
  have hsk := sz_kids x
  have hlk := szs_len (kids x)
  have HPK := Lib.hid (prt_kids x)
  generalize hKS : kids x = ks at *
  clear hKS
  have HIH := Lib.hid IH
  have HS := Lib.hid hS
  have HB := Lib.hid hB
  have HLP := Lib.hid hlp
  have HV := Lib.hid hV
  clear IH hS hlp hV
  go_enter Tryz.func43, Tryz.ntmps43
  have hb0 := (Below.refl w.heap.size w).alloc (Nat.le_refl _) (.cells #[.int .i64 k, .bool b, .int .i64 i, .float .f64 f, .string t, .string y, .slice A n c, .slice A' m c'] 27)
  have hG0 := heap_alloc_new w (.cells #[.int .i64 k, .bool b, .int .i64 i, .float .f64 f, .string t, .string y, .slice A n c, .slice A' m c'] 27)
  have HG0 := Lib.hid hG0
  have HR0 := Lib.hid (hrow.below recPt HS.out HB.out hb0)
  have HP0 := Lib.hid (rowStayG recSt hpa (B1 := 0) (fun _ h => h.elim) (hb0.mono (Nat.zero_le _)) (fun g hg => hb0.block g (hpa.lt g hg).2))
  have HV0 := Lib.hid (HV.out.below HS.out (hb0.mono HB.out))
  have HB0 := Lib.hid hb0
  have hz0 : (w.alloc (.cells #[.int .i64 k, .bool b, .int .i64 i, .float .f64 f, .string t, .string y, .slice A n c, .slice A' m c'] 27)).heap.size = w.heap.size + 1 := by simp
  obtain ⟨m0, m1, m2, m3, m4, m5, m6, m7⟩ := blk8 hG0
  clear hrow hpa hb0 hG0
  generalize hW0 : (w.alloc (.cells #[.int .i64 k, .bool b, .int .i64 i, .float .f64 f, .string t, .string y, .slice A n c, .slice A' m c'] 27)) = W0 at *
  go_wp2_with (at_builtin; go_must (refine wpList_row (T := 60) (size := 9) W0 recPt rfl (.tmp 11) (.tmp 15) _ rfl [.slice Ap np cp, .int .i64 k, .bool b, .int .i64 i, .float .f64 f, .string t, .string y, .slice A n c, .slice A' m c'] iv _ 136 Tryz.underlying56 hiv hv0 hv1 hv2 rfl (by omega) (by omega) B S vv done x rfl (by rw [hz0]; rfl) HR0.out ⟨Ap, np, cp, _, rfl, HV0.out⟩ HS.out (by omega) (by omega) ?_; intro u1 W1 hrow hg hn; have HR1 := Lib.hid hrow; have HG1 := Lib.hid hg; have HN1 := Lib.hid hn; clear hrow hg hn m0 m1 m2 m3 m4 m5 m6 m7; have hszw1 := HG1.out.size; have hG1 : W1.heap[w.heap.size]? = some (.cells #[.int .i64 k, .bool b, .int .i64 i, .float .f64 f, .string t, .string y, .slice A n c, .slice A' m c'] 27 (0, 0)) := (HG1.out.block _ (by omega) (by intro e1; obtain ⟨cur, hcur⟩ := HR0.out.block _ e1.symm; rw [HG0.out] at hcur; injection hcur with hcur; injection hcur with _ hcur; exact absurd hcur (by decide))).trans HG0.out; obtain ⟨m0, m1, m2, m3, m4, m5, m6, m7⟩ := blk8 hG1))
  have hb1 : Below B W0 W1 := ⟨HG1.out.os, HG1.out.tape, HG1.out.output, HG1.out.size, fun q hq => HG1.out.block q (by have := HB.out; omega) (by intro e1; have := (HR0.out.lt q e1.symm).1; omega)⟩
  have hbw1 : Below B w W1 := (HB0.out.mono HB.out).trans hb1
  have HP1 := Lib.hid (rowStayG recSt HP0.out (B1 := B) (fun _ h => h.elim) hb1 (fun g hg => HG1.out.block g (HP0.out.lt g hg).2 (HP0.out.ne HR0.out (by decide) g hg)))
  have HGW := Lib.hid (gtrans (gbelow HB0.out vv.ownBlock) (.inl rfl) HG1.out)
  have HNW : Hid (Nx w vv u1) := Lib.hid ((Nx.refl w vv).trans (by omega) HN1.out)
  have HKW := Lib.hid (HK.out W1 hbw1)
  clear hG1 HK HG0 HP0 HR0 HV0 HB0 HG1 HN1 hb1 hbw1 hW0
  go_wp2_with fail
  refine (HKW.out).mono ?_
  rintro e w2 ⟨A1, c1, A2, c2, ls, hls, rfl, hst, hks, hb2⟩
  have HP : Hid (PaSt w B S vv u1 (done ++ [x]) Bp (.slice Ap np cp) lp W1.heap.size (.slice A1 ks.length c1) ls W1.heap.size (.slice A2 ks.length c2) ks w2) := Lib.hid ⟨rowStayG recPt HR1.out HS.out (hb2.mono (by have := HB.out; omega)) (fun g hg => hb2.block g (HR1.out.lt g hg).2), gtrans HGW.out HNW.out (gbelow hb2 _), HNW.out, rowStayG recSt HP1.out (B1 := 0) (fun _ h => h.elim) (hb2.mono (by omega)) (fun g hg => hb2.block g (HP1.out.lt g hg).2), hst, hks⟩
  have HLS := Lib.hid hls
  clear hst hks hb2 hls HR1 HP1 HGW HNW HKW m0 m1 m2 m3 m4 m5 m6 m7 hszw1 hz0
  generalize W1.heap.size = B2 at *
  go_wp2_with fail
  go_loopw [2, 9, 10] (fun v2 v9 _ wr => ∃ (q : Nat) (uu : Value), q ≤ ks.length ∧ v9 = .int .i64 (q : Int) ∧ uu = v2 ∧ Hid (PaSt w B S vv uu (done ++ (x :: prts (ks.take q))) Bp (.slice Ap np cp) lp B2 (.slice A1 ks.length c1) ls B2 (.slice A2 ks.length c2) ks wr)) (fun _ v _ _ => ks.length - (intOf v).toNat)
  case atStart => exact ⟨0, _, Nat.zero_le _, rfl, rfl, by simpa [prts] using HP⟩
  case round =>
    clear HP
    obtain ⟨q, uu, hq, rfl, rfl, HC⟩ := hrel
    by_cases hlt : q < ks.length
    · obtain ⟨y, hy⟩ : ∃ p, ks[q]? = some p := ⟨_, List.getElem?_eq_getElem hlt⟩
      obtain ⟨ad, cs, rfl, hadl, hcs, hvy⟩ := HC.out.ks.at_ recV hy
      obtain ⟨s, hs⟩ : ∃ p, ls[q]? = some p := ⟨_, List.getElem?_eq_getElem (by rw [HLS.out]; exact hlt)⟩
      obtain ⟨sd, ss, rfl, hsdl, hss, hst⟩ := HC.out.st.at_ recSt hs
      obtain ⟨s0, s1, s2⟩ := s
      unfold IsSt at hst
      subst hst
      have hgz := HC.out.g.size
      have d0 : wr.cell? (sd.add (q * 3)) = some (.string s0) := by
        have h0 := hss 0 _ rfl
        simpa [Addr.add] using h0
      have d1 : wr.cell? ⟨(sd.add (q * 3)).block, (sd.add (q * 3)).off + 1, none⟩ = some (.int .i64 s1) := hss 1 _ rfl
      have d2 : wr.cell? ⟨(sd.add (q * 3)).block, (sd.add (q * 3)).off + 2, none⟩ = some (.bool s2) := hss 2 _ rfl
      obtain ⟨k2, b2, i2, f2, t2, y2, is2, fs2⟩ := y
      have HVY := Lib.hid hvy
      simp only [IsV] at hvy
      obtain ⟨A3, c3, A3', c3', rfl, _⟩ := hvy
      have HCS := Lib.hid hcs
      have hls2 := HLS.out
      have HLG := Lib.hid (longer_any lp Bp Ap np cp (s0, s1, s2) wr HLP.out (by omega) HC.out.pa)
      have HY := Lib.hid hy
      have HCUT := Lib.hid (szs_cut hy)
      have hlq := prts_len (ks.take q)
      have HTK : Hid (done ++ (x :: prts (ks.take (q + 1))) = (done ++ (x :: prts (ks.take q))) ++ prt (.mk k2 b2 i2 f2 t2 y2 is2 fs2)) := Lib.hid (by rw [List.take_add_one, hy, Option.toList_some, prts_app]; simp [prts])
      clear hss hcs hs hy hls2
      go_wp2_with fail
      refine (HLG.out).mono ?_
      rintro e w3 ⟨A5, c5, l5, hl5, rfl, hr5, hb5⟩
      have HC2 := Lib.hid (HC.out.below HS.out HB.out hb5)
      obtain ⟨e0, e1, e2, e3, e4, e5, e6, e7⟩ := (HCS.out.keep (S := fun b => b < wr.heap.size) (by rw [add_block]; exact hadl) (fun p hp => hb5.cell hp)).eight
      have hadl3 : ad.block < w3.heap.size := by have := hb5.size; omega
      have HIH1 := Lib.hid (HIH.out q _ HY.out _ B wr.heap.size uu _ A5 (np + 1) c5 l5 w3 S (HVY.out.below HS.out (hb5.mono (by have := HB.out; omega))) HS.out (by have := HB.out; have := hb5.size; omega) HC2.out.out hr5 hl5 (by have := HCUT.out; have := sz_pos (.mk k2 b2 i2 f2 t2 y2 is2 fs2); omega) (by have := HCUT.out; simp only [List.length_append, List.length_cons]; omega))
      clear hr5 hl5 hb5 d0 d1 d2 hadl hsdl
      go_wp2_with fail
      refine (HIH1.out).mono ?_
      rintro e w4 ⟨u4, rfl, hr4, hg4, hn4⟩
      have HC4 := Lib.hid (HC2.out.step HS.out HB.out hr4 hg4 hn4)
      rw [← HTK.out] at HC4
      clear hr4 hg4 hn4
      go_wp2_with fail
      exact ⟨⟨q + 1, u4, by omega, by go_num, rfl, HC4⟩, by simp [intOf]; omega⟩
    · obtain rfl : q = ks.length := by omega
      have hT : ks.take ks.length = ks := List.take_length
      rw [hT] at HC
      rw [← HPK.out] at HC
      clear hT
      go_wp2_with fail
      go_ret
      exact ⟨_, rfl, HC.out.out, HC.out.g, HC.out.nx⟩
end
theorem parts_any : ∀ (N : Nat) (x : V), sz x ≤ N → N ≤ 1048576 → PartsAt x := by
  intro N
  induction N with
  | zero => intro v hv; have := sz_pos v; omega
  | succ N ih =>
    intro x hv hN cs B Bp vv done Ap np cp lp w S hV hS hB hrow hpa hlp hnp hdn
    have hsk := sz_kids x
    have IH : ∀ (q : Nat) (y : V), (kids x)[q]? = some y → PartsAt y := fun q y hy => ih y (by have := szs_get hy; omega) (by omega)
    have hV2 := hV
    obtain ⟨k, b, i, f, t, y, is, fs⟩ := x
    simp only [IsV] at hV2
    obtain ⟨A, c, A', c', rfl, _⟩ := hV2
    exact parts_step b i f t y A A' _ _ c c' _ B Bp vv done Ap np cp lp w S k hV hS hB hrow hpa hlp hnp hdn (by omega) IH
/-- Parts: a new list -/
def PsPost (S : Nat → Prop) (x : V) (w : World) (e : Ending) (w' : World) : Prop := ∃ A c, e = .returned (.slice A (prt x).length c) ∧ Row 60 9 IsPt w' w.heap.size S (.slice A (prt x).length c) (prt x) ∧ Below w.heap.size w w'
set_option maxRecDepth 100000 in
theorem parts_all (x : V) (hsz : sz x ≤ 1048576) (cs : List Value) (w : World) (S : Nat → Prop) (hV : IsV w S x cs) (hS : Bel S w.heap.size) : Calls Tryz.prog 28 #[.agg cs.toArray] w (PsPost S x w) := by
  have HP := Lib.hid (fun W hW => parts_any _ x (Nat.le_refl _) hsz cs w.heap.size w.heap.size (.slice none 0 0) [] none 0 0 [] W S (hV.below hS hW) hS hW.size (Row.nil _ _ _) (Row.nil _ _ _) rfl (by omega) (by simp; omega))
  obtain ⟨k, b, i, f, t, y, is, fs⟩ := x
  simp only [IsV] at hV
  obtain ⟨A, c, A', c', rfl, _⟩ := hV
  generalize (V.mk k b i f t y is fs) = x at *
  generalize is.length = n at *
  generalize fs.length = m at *
  go_enter Tryz.func28, Tryz.ntmps28
  go_wp2_with fail
  have hb0 := (Below.refl w.heap.size w).alloc (Nat.le_refl _) (.cells #[.int .i64 k, .bool b, .int .i64 i, .float .f64 f, .string t, .string y, .slice A n c, .slice A' m c'] 27)
  generalize (w.alloc (.cells #[.int .i64 k, .bool b, .int .i64 i, .float .f64 f, .string t, .string y, .slice A n c, .slice A' m c'] 27)) = W0 at *
  refine (HP.out W0 hb0).mono ?_
  rintro e w2 ⟨u, rfl, hr, hg, hn⟩
  obtain ⟨A2, c2, rfl, _⟩ := hr.form
  have HR := Lib.hid hr
  have HB : Hid (Below w.heap.size w w2) := Lib.hid (hb0.trans ⟨hg.os, hg.tape, hg.output, hg.size, fun k hk => hg.block k (by have := hb0.size; omega) (by simp [Value.ownBlock])⟩)
  clear hr hg hn hb0 HP
  go_wp2_with fail
  go_ret
  exact ⟨A2, c2, rfl, HR.out, HB.out⟩
end Go.Proofs.YtagghdehbkbemaaGreatDoor.look
end
section
namespace Go.Proofs.YtagghdehbkbemaaGreatDoor.look
open Go.RowKit mem txt app smap val big
attribute [local go_sem] run_store_float
set_option linter.unusedVariables false

theorem sub_inf (w : World) (s : Bool) : ∃ v, (binOp .sub 23 (.float .f64 (9218868437227405312 + sgn s)) (.float .f64 (9218868437227405312 + sgn s))).run Tryz.prog w = .ok (.float .f64 v) w.drew ∧ (Ieee.double.order v 0 != some .eq) = true := by
  have h : FloatKind.f64.format.sub (9218868437227405312 + sgn s) (9218868437227405312 + sgn s) = none := by
    show (((Ieee.double.read (9218868437227405312 + sgn s)).sum (Ieee.double.read (9218868437227405312 + sgn s)).opposite).map Ieee.double.write) = none
    rw [read_inf]
    cases s <;> rfl
  refine ⟨(Question.nanBits .f64 (9218868437227405312 + sgn s) (9218868437227405312 + sgn s)).cut (w.tape w.drawn (.nanBits .f64 (9218868437227405312 + sgn s) (9218868437227405312 + sgn s))), ?_, ?_⟩
  · simp [binOp, Op.floatArith, h, Question.forced]
  · generalize w.tape w.drawn _ = u
    show (Ieee.double.order ((u % 2) * 2 ^ 63 + 0x7ff0000000000000 + 1 + (u / 2) % (2 ^ 52 - 1)) 0 != some .eq) = true
    have e : (u % 2) * 2 ^ 63 + 0x7ff0000000000000 + 1 + (u / 2) % (2 ^ 52 - 1) = (9218868437227405312 + 1 + (u / 2) % (2 ^ 52 - 1)) + sgn (u % 2 == 1) := by
      unfold sgn
      have := Nat.mod_lt u (show 0 < 2 by omega)
      by_cases h1 : u % 2 = 1
      · rw [h1]; simp; omega
      · rw [show u % 2 = 0 by omega]; simp
    have hm : (u / 2) % (2 ^ 52 - 1) < 2 ^ 52 - 1 := Nat.mod_lt _ (by omega)
    rw [e, order_nan (u % 2 == 1) false _ 0 (by omega) (by omega)]
    rfl
theorem sub_fin (s : Bool) (a : Nat) (ha : a < 9218868437227405312) : floatBits .sub .f64 (a + sgn s) (a + sgn s) = some 0 := by
  show (((Ieee.double.read (a + sgn s)).sum (Ieee.double.read (a + sgn s)).opposite).map Ieee.double.write) = some 0
  rw [read_num s a ha]
  generalize spM a = M
  generalize spE a = E
  have e : (Ieee.Datum.number s M E).sum (Ieee.Datum.number s M E).opposite = some (.number false 0 (min E E)) := by
    show (some (Ieee.Datum.number (if Ieee.signed s M (E - min E E).toNat + Ieee.signed (!s) M (E - min E E).toNat = 0 then s && !s else decide (Ieee.signed s M (E - min E E).toNat + Ieee.signed (!s) M (E - min E E).toNat < 0)) (Ieee.signed s M (E - min E E).toNat + Ieee.signed (!s) M (E - min E E).toNat).natAbs (min E E))) = _
    have h0 : Ieee.signed s M (E - min E E).toNat + Ieee.signed (!s) M (E - min E E).toNat = 0 := by
      unfold Ieee.signed
      cases s <;> simp <;> omega
    rw [h0]
    cases s <;> rfl
  rw [e]
  rfl
set_option maxRecDepth 100000 in
theorem rclean_any (l : List UInt8) (hL : l.length ≤ 4194304) (ad : Addr) (c : Nat) (hc : l.length ≤ c) (hc2 : c ≤ maxLen) (w : World) (h : BytesAt w ad l.length (bytesOf l)) :
    Calls Tryz.prog 44 #[.slice (some ad) l.length c] w fun e w' => e = .returned (.bool (Lib.validD l)) ∧ Below w.heap.size w w' := by
  have HD := Lib.hid (decode_any l hL ad c hc hc2 w h)
  have hcm : c ≤ 9223372036854775807 := hc2
  generalize hn : l.length = n at *
  clear h hL hc2
  cases hv : Lib.validD l with
  | true =>
    go_enter Tryz.func44, Tryz.ntmps44
    go_wp2_with fail
    refine HD.out.mono ?_
    rintro e w2 ⟨v, q, rfl, h1, h2, hb⟩
    have hq : q = n := by rw [← hn]; exact (h1 hv).1
    subst hq
    have HB := Lib.hid hb
    clear h1 h2 hb hn hv HD
    go_wp2_with fail
    go_ret
    exact ⟨rfl, HB.out⟩
  | false =>
    go_enter Tryz.func44, Tryz.ntmps44
    go_wp2_with fail
    refine HD.out.mono ?_
    rintro e w2 ⟨v, q, rfl, h1, h2, hb⟩
    have hq : q < n := by rw [← hn]; exact h2 hv
    have HB := Lib.hid hb
    have hb1 : ((q : Int) == (n : Int)) = false := beq_false_of_ne (by omega)
    clear h1 h2 hb hn hv HD
    go_wp2_with fail
    go_ret
    exact ⟨by simp, HB.out⟩
/-- Clean of a string's bytes, just converted -/
theorem rclean_str (s : ByteArray) (hs : s.size ≤ 1048576) (w : World) :
    Calls Tryz.prog 44 #[.slice (some ⟨w.heap.size, 0, none⟩) s.size (grownCap w s.size 0 5)] (Lib.bytesWorld w 5 s) fun e w' => e = .returned (.bool (Lib.validD s.data.toList)) ∧ Below w.heap.size w w' := by
  have hlen : s.data.toList.length = s.size := (Lib.size_eq s).symm
  have hg1 : s.size ≤ grownCap w s.size 0 5 := grownCap_ge w s.size 0 _
  have hg2 : grownCap w s.size 0 5 ≤ maxLen := grownCap_le_maxLen w s.size 0 _ (by unfold maxLen; omega)
  have h := rclean_any s.data.toList (by omega) ⟨w.heap.size, 0, none⟩ (grownCap w s.size 0 5) (by omega) hg2 (Lib.bytesWorld w 5 s) (bytes_at w _ s)
  rw [hlen] at h
  refine h.mono ?_
  rintro e w2 ⟨rfl, hb⟩
  exact ⟨rfl, (below_bytes w 5 s).trans (hb.mono (below_bytes w 5 s).size)⟩
theorem conv_str (s : ByteArray) (w : World) : (convert 9 31 (.string s)).run Tryz.prog w = .ok (.slice (some ⟨w.heap.size, 0, none⟩) s.size (grownCap w s.size 0 5)) (Lib.bytesWorld w 5 s) := Lib.run_convert_string_bytes w 9 31 5 s Tryz.underlying9 Tryz.underlying31 Tryz.underlying5
section
variable (b : Bool) (i : Int) (f : Nat) (t y : ByteArray) (A A' : Option Addr) (n m c c' : Nat) (w : World)
def FlPost (r : Int) (w : World) (e : Ending) (w' : World) : Prop := e = .returned (.int .i64 r) ∧ Below w.heap.size w w'
set_option maxRecDepth 100000 in
set_option maxHeartbeats 4000000 in
theorem flaw_out (k : Int) (h : k < 0 ∨ 7 ≤ k) : Calls Tryz.prog 29 #[.agg #[.int .i64 k, .bool b, .int .i64 i, .float .f64 f, .string t, .string y, .slice A n c, .slice A' m c']] w (FlPost 2 w) := by
  rcases h with h | h
  all_goals
    go_enter Tryz.func29, Tryz.ntmps29
    go_wp2_with fail
    go_ret
    exact ⟨rfl, (Below.refl _ _).alloc (Nat.le_refl _) _⟩
set_option maxRecDepth 100000 in
set_option maxHeartbeats 4000000 in
theorem flaw_flat (k : Int) (h1 : 0 ≤ k) (h7 : k < 7) (h3 : k ≠ 3) (h4 : k ≠ 4) (h6 : k ≠ 6) : Calls Tryz.prog 29 #[.agg #[.int .i64 k, .bool b, .int .i64 i, .float .f64 f, .string t, .string y, .slice A n c, .slice A' m c']] w (FlPost 0 w) := by
  have q3 : (k == 3) = false := beq_false_of_ne h3
  have q4 : (k == 4) = false := beq_false_of_ne h4
  have q6 : (k == 6) = false := beq_false_of_ne h6
  go_enter Tryz.func29, Tryz.ntmps29
  go_wp2_with fail
  go_ret
  exact ⟨rfl, (Below.refl _ _).alloc (Nat.le_refl _) _⟩
set_option maxRecDepth 100000 in
set_option maxHeartbeats 4000000 in
theorem flaw_num (hf : f < 18446744073709551616) : Calls Tryz.prog 29 #[.agg #[.int .i64 3, .bool b, .int .i64 i, .float .f64 f, .string t, .string y, .slice A n c, .slice A' m c']] w (FlPost (if 9218868437227405312 ≤ f % 9223372036854775808 then 6 else 0) w) := by
  obtain ⟨sg, a, ha, rfl⟩ : ∃ (sg : Bool) (a : Nat), a < 9223372036854775808 ∧ f = a + sgn sg := by
    by_cases h : f < 9223372036854775808
    · exact ⟨false, f, h, by unfold sgn; simp⟩
    · exact ⟨true, f - 9223372036854775808, by omega, by unfold sgn; simp; omega⟩
  have hm : (a + sgn sg) % 9223372036854775808 = a := by unfold sgn; split <;> omega
  rw [hm]
  clear hm hf
  by_cases h1 : 9218868437227405312 < a
  · rw [if_pos (by omega)]
    have hn : (FloatKind.f64.format.order (a + sgn sg) (a + sgn sg) != some Ordering.eq) = true := by
      rw [show FloatKind.f64.format.order (a + sgn sg) (a + sgn sg) = none from order_nan sg sg a a ha h1 _]
      rfl
    generalize a + sgn sg = x at *
    clear h1 ha
    go_enter Tryz.func29, Tryz.ntmps29
    go_wp2_with fail
    go_ret
    exact ⟨rfl, (Below.refl _ _).alloc (Nat.le_refl _) _⟩
  have hn : (FloatKind.f64.format.order (a + sgn sg) (a + sgn sg) != some Ordering.eq) = false := by
    rw [show FloatKind.f64.format.order (a + sgn sg) (a + sgn sg) = some .eq from order_self sg a (by omega)]
    rfl
  by_cases h2 : a = 9218868437227405312
  · subst h2
    rw [if_pos (by omega)]
    have HSB := Lib.hid (fun w => sub_inf w sg)
    generalize 9218868437227405312 + sgn sg = x at *
    clear h1 ha
    go_enter Tryz.func29, Tryz.ntmps29
    go_wp2_with fail
    obtain ⟨v, hv1, hv2⟩ := HSB.out (w.alloc (.cells #[.int .i64 3, .bool b, .int .i64 i, .float .f64 x, .string t, .string y, .slice A n c, .slice A' m c'] 27))
    have hv3 : (FloatKind.f64.format.order v 0 != some Ordering.eq) = true := hv2
    rw [hv1]
    clear hv1 hv2 HSB
    go_wp2_with fail
    go_ret
    have hbz := (Below.refl w.heap.size w).alloc (Nat.le_refl _) (.cells #[.int .i64 3, .bool b, .int .i64 i, .float .f64 x, .string t, .string y, .slice A n c, .slice A' m c'] 27)
    exact ⟨rfl, ⟨hbz.os, hbz.tape, hbz.output, hbz.size, hbz.block⟩⟩
  · rw [if_neg (by omega)]
    have HSB := Lib.hid (fun w => run_float_arith (P := Tryz.prog) w .sub 23 .f64 _ _ _ (sub_fin sg a (by omega)))
    have hv3 : (FloatKind.f64.format.order 0 0 != some Ordering.eq) = false := by decide
    generalize a + sgn sg = x at *
    clear h1 ha h2
    go_enter Tryz.func29, Tryz.ntmps29
    go_wp2_with fail
    rw [HSB.out]
    go_wp2_with fail
    go_ret
    exact ⟨rfl, (Below.refl _ _).alloc (Nat.le_refl _) _⟩
set_option maxRecDepth 100000 in
set_option maxHeartbeats 4000000 in
theorem flaw_str (ht : t.size ≤ 1048576) : Calls Tryz.prog 29 #[.agg #[.int .i64 4, .bool b, .int .i64 i, .float .f64 f, .string t, .string y, .slice A n c, .slice A' m c']] w (FlPost (if Lib.validD t.data.toList = true then 0 else 1) w) := by
  have hcv := conv_str t (w.alloc (.cells #[.int .i64 4, .bool b, .int .i64 i, .float .f64 f, .string t, .string y, .slice A n c, .slice A' m c'] 27))
  have HCL := Lib.hid (rclean_str t ht (w.alloc (.cells #[.int .i64 4, .bool b, .int .i64 i, .float .f64 f, .string t, .string y, .slice A n c, .slice A' m c'] 27)))
  have HB0 := Lib.hid ((Below.refl w.heap.size w).alloc (Nat.le_refl _) (.cells #[.int .i64 4, .bool b, .int .i64 i, .float .f64 f, .string t, .string y, .slice A n c, .slice A' m c'] 27))
  have hG0 := heap_alloc_new w (.cells #[.int .i64 4, .bool b, .int .i64 i, .float .f64 f, .string t, .string y, .slice A n c, .slice A' m c'] 27)
  obtain ⟨m0, m1, m2, m3, m4, m5, m6, m7⟩ := blk8 hG0
  have hz0 : (w.alloc (.cells #[.int .i64 4, .bool b, .int .i64 i, .float .f64 f, .string t, .string y, .slice A n c, .slice A' m c'] 27)).heap.size = w.heap.size + 1 := by simp
  have HG0 := Lib.hid hG0
  clear hG0
  generalize hW0 : (w.alloc (.cells #[.int .i64 4, .bool b, .int .i64 i, .float .f64 f, .string t, .string y, .slice A n c, .slice A' m c'] 27)) = W0 at *
  generalize grownCap W0 t.size 0 5 = cc at *
  generalize Lib.bytesWorld W0 5 t = W1 at *
  rw [hz0] at HCL hcv
  cases hv : Lib.validD t.data.toList with
  | true =>
    rw [hv] at HCL
    clear hv
    go_enter Tryz.func29, Tryz.ntmps29
    go_wp2_with fail
    refine HCL.out.mono ?_
    rintro e w2 ⟨rfl, hb⟩
    have HB2 := Lib.hid (HB0.out.trans (hb.mono (Nat.le_succ _)))
    clear m0 m1 m2 m3 m4 m5 m6 m7
    obtain ⟨m0, m1, m2, m3, m4, m5, m6, m7⟩ := blk8 ((hb.block w.heap.size (by omega)).trans HG0.out)
    clear hb hcv HCL
    go_wp2_with fail
    go_ret
    exact ⟨rfl, HB2.out⟩
  | false =>
    rw [hv] at HCL
    clear hv
    go_enter Tryz.func29, Tryz.ntmps29
    go_wp2_with fail
    refine HCL.out.mono ?_
    rintro e w2 ⟨rfl, hb⟩
    have HB2 := Lib.hid (HB0.out.trans (hb.mono (Nat.le_succ _)))
    clear hb hcv HCL
    go_wp2_with fail
    go_ret
    exact ⟨rfl, HB2.out⟩
end
end Go.Proofs.YtagghdehbkbemaaGreatDoor.look
end
section
namespace Go.Proofs.YtagghdehbkbemaaGreatDoor.look
open Go.RowKit mem txt app smap val big
attribute [local go_sem] run_store_float
set_option linter.unusedVariables false

/-- the names ahead of i, the last first -/
def seen (fs : List (ByteArray × V)) (q : Nat) : List ByteArray := ((fs.take q).map (·.1)).reverse
theorem seen_succ {fs : List (ByteArray × V)} {q : Nat} {s : ByteArray} {x : V} (h : fs[q]? = some (s, x)) : seen fs (q + 1) = s :: seen fs q := by
  unfold seen
  rw [List.take_add_one, h]
  simp
theorem mem_seen {fs : List (ByteArray × V)} {q : Nat} {s : ByteArray} : s ∈ seen fs q ↔ ∃ (j : Nat) (p : ByteArray × V), j < q ∧ fs[j]? = some p ∧ p.1 = s := by
  unfold seen
  rw [List.mem_reverse, List.mem_map]
  constructor
  · rintro ⟨p, hp, rfl⟩
    obtain ⟨j, hj⟩ := List.mem_iff_getElem?.1 hp
    rw [List.getElem?_take] at hj
    split at hj
    · exact ⟨j, p, by assumption, hj, rfl⟩
    · cases hj
  · rintro ⟨j, p, hj, hp, rfl⟩
    refine ⟨p, List.mem_iff_getElem?.2 ⟨j, ?_⟩, rfl⟩
    rw [List.getElem?_take, if_pos hj]
    exact hp
theorem drop_get {fs : List (ByteArray × V)} {q : Nat} {s : ByteArray} {x : V} (h : fs[q]? = some (s, x)) : fs.drop q = (s, x) :: fs.drop (q + 1) := by
  obtain ⟨h1, h2⟩ := List.getElem?_eq_some_iff.1 h
  rw [List.drop_eq_getElem_cons h1, h2]
theorem nm_next {fs : List (ByteArray × V)} {q : Nat} {s : ByteArray} {x : V} (h : fs[q]? = some (s, x)) (hv : Lib.validD s.data.toList = true) (hn : s ∉ seen fs q) : nmE (seen fs q) (fs.drop q) = nmE (seen fs (q + 1)) (fs.drop (q + 1)) := by
  rw [drop_get h, seen_succ h, nmE, if_pos hv, if_neg hn]
theorem nm_bad {fs : List (ByteArray × V)} {q : Nat} {s : ByteArray} {x : V} (h : fs[q]? = some (s, x)) (hv : ¬ Lib.validD s.data.toList = true) : nmE (seen fs q) (fs.drop q) = 1 := by
  rw [drop_get h, nmE, if_neg hv]
theorem nm_two {fs : List (ByteArray × V)} {q : Nat} {s : ByteArray} {x : V} (h : fs[q]? = some (s, x)) (hv : Lib.validD s.data.toList = true) (hn : s ∈ seen fs q) : nmE (seen fs q) (fs.drop q) = 5 := by
  rw [drop_get h, nmE, if_pos hv, if_pos hn]
theorem nm_end (fs : List (ByteArray × V)) : nmE (seen fs fs.length) (fs.drop fs.length) = 0 := by
  rw [List.drop_length, nmE]
theorem str_ne {a b : ByteArray} (h : a ≠ b) : (a.toList == b.toList) = false := beq_false_of_ne (fun e => h (by rw [ByteArray.toList_eq, ByteArray.toList_eq] at e; exact ByteArray.ext (Array.toList_inj.mp e)))
/-- the flawed state: the value's box, all old blocks -/
structure FlSt (w : World) (bo : Obj) (wr : World) : Prop where
  be : Below w.heap.size w wr
  box : wr.heap[w.heap.size]? = some bo
section
variable (b : Bool) (i : Int) (f : Nat) (t y : ByteArray) (A A' : Option Addr) (n m c c' : Nat) (w : World) (S : Nat → Prop)
set_option maxRecDepth 100000 in
set_option maxHeartbeats 4000000 in
theorem flaw_obj (fs : List (ByteArray × V)) (hn : fs.length = m) (hn2 : m ≤ 1048576) (hI : IsFs w S fs A' 0) (hS : Bel S w.heap.size) (hok : okf fs) : Calls Tryz.prog 29 #[.agg #[.int .i64 6, .bool b, .int .i64 i, .float .f64 f, .string t, .string y, .slice A n c, .slice A' m c']] w (FlPost (nmE [] fs) w) := by
  have HI := Lib.hid hI
  have HS := Lib.hid hS
  have HN := Lib.hid hn
  have HO := Lib.hid hok
  have HST : Hid (FlSt w (.cells #[.int .i64 6, .bool b, .int .i64 i, .float .f64 f, .string t, .string y, .slice A n c, .slice A' m c'] 27) (w.alloc (.cells #[.int .i64 6, .bool b, .int .i64 i, .float .f64 f, .string t, .string y, .slice A n c, .slice A' m c'] 27))) := Lib.hid ⟨(Below.refl w.heap.size w).alloc (Nat.le_refl _) _, heap_alloc_new w _⟩
  have hz0 : (w.alloc (.cells #[.int .i64 6, .bool b, .int .i64 i, .float .f64 f, .string t, .string y, .slice A n c, .slice A' m c'] 27)).heap.size = w.heap.size + 1 := by simp
  obtain ⟨m0, m1, m2, m3, m4, m5, m6, m7⟩ := blk8 HST.out.box
  have HE : Hid (nmE (seen fs 0) (fs.drop 0) = nmE [] fs) := Lib.hid rfl
  generalize nmE [] fs = r at *
  clear hI hS hn hok
  generalize hW0 : (w.alloc (.cells #[.int .i64 6, .bool b, .int .i64 i, .float .f64 f, .string t, .string y, .slice A n c, .slice A' m c'] 27)) = W0 at *
  go_enter Tryz.func29, Tryz.ntmps29
  go_wp2_with fail
  clear hW0 hz0 m0 m1 m2 m3 m4 m5 m6 m7
  go_loopw [3] (fun v3 wr => ∃ (q : Nat), q ≤ m ∧ v3 = .int .i64 (q : Int) ∧ Hid (FlSt w (.cells #[.int .i64 6, .bool b, .int .i64 i, .float .f64 f, .string t, .string y, .slice A n c, .slice A' m c'] 27) wr) ∧ Hid (nmE (seen fs q) (fs.drop q) = r)) (fun v _ => m - (intOf v).toNat)
  case atStart => exact ⟨0, Nat.zero_le _, rfl, HST, HE⟩
  case round =>
    clear HST HE
    obtain ⟨q, hq, rfl, HC, HE⟩ := hrel
    obtain ⟨m0, m1, m2, m3, m4, m5, m6, m7⟩ := blk8 HC.out.box
    have hszr := HC.out.be.size
    have hszb := (Array.getElem?_eq_some_iff.1 HC.out.box).1
    by_cases hlt : q < m
    · obtain ⟨p, hp⟩ : ∃ p, fs[q]? = some p := ⟨_, List.getElem?_eq_getElem (by rw [HN.out]; exact hlt)⟩
      obtain ⟨s, x⟩ := p
      obtain ⟨ad, cs, rfl, hadB, hcs, hvx⟩ := HI.out.at_ hp
      rw [Nat.zero_add] at hcs
      simp only at hcs
      have hadw : ad.block < w.heap.size := HS.out _ hadB
      have hss := (okf_get HO.out hp).1
      simp only at hss
      have HP := Lib.hid hp
      have d0 : wr.cell? (ad.add (q * 9)) = some (.string s) := by
        have h0 := hcs 0 _ rfl
        rw [HC.out.be.cell (by rw [add_block]; exact hadw)]
        simpa [Addr.add] using h0
      have hcv := conv_str s wr
      have HCL := Lib.hid (rclean_str s hss wr)
      generalize grownCap wr s.size 0 5 = cc at *
      generalize Lib.bytesWorld wr 5 s = W1 at *
      clear hcs hvx hp
      go_wp2_with fail
      refine HCL.out.mono ?_
      rintro e w2 ⟨rfl, hb2⟩
      have HC2 := Lib.hid (FlSt.mk (HC.out.be.trans (hb2.mono hszr)) ((hb2.block _ hszb).trans HC.out.box))
      clear hb2 hcv HCL m0 m1 m2 m3 m4 m5 m6 m7 hszr hszb d0
      by_cases hv : Lib.validD s.data.toList = true
      · rw [hv]
        have HV := Lib.hid hv
        clear hv
        obtain ⟨m0, m1, m2, m3, m4, m5, m6, m7⟩ := blk8 HC2.out.box
        have hszr := HC2.out.be.size
        have hszb := (Array.getElem?_eq_some_iff.1 HC2.out.box).1
        have HCE : Hid (∀ (W : World), FlSt w (.cells #[.int .i64 6, .bool b, .int .i64 i, .float .f64 f, .string t, .string y, .slice A n c, .slice (some ad) m c'] 27) W → ∀ (k : Nat) (p : ByteArray × V), fs[k]? = some p → W.cell? (ad.add (k * 9)) = some (.string p.1)) := Lib.hid fun W hW k p hkp => by
          obtain ⟨ad2, cs, e2, hadB, hcs, hvx⟩ := HI.out.at_ hkp
          injection e2 with e2
          subst e2
          rw [Nat.zero_add] at hcs
          have h0 := hcs 0 _ rfl
          rw [hW.be.cell (by rw [add_block]; exact hadw)]
          simpa [Addr.add] using h0
        have hlt2 : (q : Int) < (m : Int) := by omega
        go_wp2_with fail
        go_loopw [4] (fun v4 wr2 => ∃ (j : Nat), j ≤ q ∧ v4 = .int .i64 (j : Int) ∧ Hid (FlSt w (.cells #[.int .i64 6, .bool b, .int .i64 i, .float .f64 f, .string t, .string y, .slice A n c, .slice (some ad) m c'] 27) wr2) ∧ Hid (∀ (k : Nat) (p : ByteArray × V), k < j → fs[k]? = some p → p.1 ≠ s)) (fun v _ => q - (intOf v).toNat)
        case atStart => exact ⟨0, Nat.zero_le _, rfl, HC2, Lib.hid (fun k p hk => by omega)⟩
        case round =>
          clear m0 m1 m2 m3 m4 m5 m6 m7 hszr hszb
          obtain ⟨j, hj, rfl, HC3, HK⟩ := hrel
          obtain ⟨m0, m1, m2, m3, m4, m5, m6, m7⟩ := blk8 HC3.out.box
          have hszr := HC3.out.be.size
          have hszb := (Array.getElem?_eq_some_iff.1 HC3.out.box).1
          by_cases hjl : j < q
          · obtain ⟨p, hp⟩ : ∃ p, fs[j]? = some p := ⟨_, List.getElem?_eq_getElem (by rw [HN.out]; omega)⟩
            obtain ⟨s2, x2⟩ := p
            have e0 := HCE.out _ HC3.out _ _ hp
            have d0 := HCE.out _ HC3.out _ _ HP.out
            simp only at e0 d0
            have HP2 := Lib.hid hp
            have hjm : (j : Int) < (m : Int) := by omega
            have HC4 := Lib.hid (fun nq => FlSt.mk (big.Below.drewN HC3.out.be nq) (show (wr.drewN nq).heap[w.heap.size]? = _ from HC3.out.box))
            clear hp
            by_cases hes : s2 = s
            · have hr : nmE (seen fs q) (fs.drop q) = 5 := nm_two HP.out HV.out (mem_seen.2 ⟨j, _, hjl, HP2.out, hes⟩)
              rw [HE.out] at hr
              subst hr
              subst hes
              go_wp2_with fail
              go_quiet (fail)
              go_wp2_with fail
              go_ret
              exact ⟨rfl, (HC4.out nq).be⟩
            · have hne := str_ne hes
              go_wp2_with fail
              go_quiet (fail)
              go_wp2_with fail
              refine ⟨⟨j + 1, by omega, by go_num, Lib.hid (HC4.out nq), Lib.hid (fun k p hk hkp => ?_)⟩, by simp [intOf]; omega⟩
              by_cases hkj : k = j
              · subst hkj
                have e := HP2.out.symm.trans hkp
                injection e with e
                subst e
                exact hes
              · exact HK.out k p (by omega) hkp
          · obtain rfl : j = q := by omega
            have hr := nm_next HP.out HV.out (fun hm => by
              obtain ⟨k, p, hk, hkp, hps⟩ := mem_seen.1 hm
              exact HK.out k p hk hkp hps)
            rw [HE.out] at hr
            have HE2 := Lib.hid hr.symm
            clear hr
            go_wp2_with fail
            exact ⟨⟨j + 1, by omega, by go_num, HC3, HE2⟩, by simp [intOf]; omega⟩
      · rw [show Lib.validD s.data.toList = false by simpa using hv]
        have HR := nm_bad HP.out hv
        rw [HE.out] at HR
        subst HR
        go_wp2_with fail
        go_ret
        exact ⟨rfl, HC2.out.be⟩
    · obtain rfl : q = m := by omega
      have HR := nm_end fs
      rw [HN.out, HE.out] at HR
      subst HR
      go_wp2_with fail
      go_ret
      exact ⟨rfl, HC.out.be⟩
end
theorem flaw_any (x : V) (hsz : sz x ≤ 1048576) (hok : ok x) (cs : List Value) (w : World) (S : Nat → Prop) (hV : IsV w S x cs) (hS : Bel S w.heap.size) : Calls Tryz.prog 29 #[.agg cs.toArray] w (FlPost (own x) w) := by
  obtain ⟨k, b, i, f, t, y, is, fs⟩ := x
  simp only [IsV] at hV
  obtain ⟨A, c, A', c', rfl, hA, hA', his, hfs⟩ := hV
  simp only [sz] at hsz
  simp only [ok] at hok
  obtain ⟨⟨hi1, hi2, hf, ht, hy⟩, hos, hof⟩ := hok
  have hl2 := szf_len fs
  simp only [own]
  by_cases c0 : k < 0 ∨ 6 < k
  · rw [if_pos c0]
    exact flaw_out b i f t y A A' _ _ c c' w k (by omega)
  rw [if_neg c0]
  by_cases c3 : k = 3
  · subst c3
    have h := flaw_num b i f t y A A' is.length fs.length c c' w hf
    by_cases hb : 9218868437227405312 ≤ f % 9223372036854775808
    · rw [if_pos hb] at h
      rw [if_pos ⟨rfl, hb⟩]
      exact h
    · rw [if_neg hb] at h
      rw [if_neg (by simp; omega), if_neg (by omega), if_neg (by omega)]
      exact h
  rw [if_neg (fun h => c3 h.1)]
  by_cases c4 : k = 4
  · subst c4
    have h := flaw_str b i f t y A A' is.length fs.length c c' w ht
    by_cases hb : Lib.validD t.data.toList = true
    · rw [if_pos hb] at h
      rw [if_neg (fun h => h.2 hb), if_neg (by omega)]
      exact h
    · rw [if_neg hb] at h
      rw [if_pos ⟨rfl, hb⟩]
      exact h
  rw [if_neg (fun h => c4 h.1)]
  by_cases c6 : k = 6
  · rw [if_pos c6]
    subst c6
    exact flaw_obj b i f t y A A' is.length _ c c' w S fs rfl (by omega) hfs hS hof
  rw [if_neg c6]
  exact flaw_flat b i f t y A A' _ _ c c' w k (by omega) (by omega) c3 c4 c6
end Go.Proofs.YtagghdehbkbemaaGreatDoor.look
end
