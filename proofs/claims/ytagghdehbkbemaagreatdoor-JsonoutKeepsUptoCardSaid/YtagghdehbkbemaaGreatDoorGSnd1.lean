/- The reference's kind, longer, Children. The reference's Children. -/
import Derived.Test.YtagghdehbkbemaaGreatDoorGOwn
import Derived.Test.YtagghdehbkbemaaGreatDoorGPut3
section
namespace Go.Proofs.YtagghdehbkbemaaGreatDoor.look
open Go.RowKit mem txt app smap val
attribute [local go_sem] run_store_float
set_option linter.unusedVariables false

theorem infoSt : (Tryz.prog.info? 104).map (fun i => (i.zero, i.size, i.bytes)) = some (some (.agg #[.string ⟨#[]⟩, .int .i64 0, .bool false]), 3, 32) := by kernel_rfl
theorem infoVl : (Tryz.prog.info? 27).map (fun i => (i.zero, i.size, i.bytes)) = some (some (.agg #[.int .i64 0, .bool false, .int .i64 0, .float .f64 0, .string ⟨#[]⟩, .string ⟨#[]⟩, .slice none 0 0, .slice none 0 0]), 8, 112) := by kernel_rfl
theorem infoPt : (Tryz.prog.info? 60).map (fun i => (i.zero, i.size, i.bytes)) = some (some (.agg #[.slice none 0 0, .int .i64 0, .bool false, .int .i64 0, .float .f64 0, .string ⟨#[]⟩, .string ⟨#[]⟩, .slice none 0 0, .slice none 0 0]), 9, 136) := by kernel_rfl
def kd (k : Int) : Int := if k < 0 ∨ 7 < k then 0 else k
section
variable (b : Bool) (i : Int) (f : Nat) (t y : ByteArray) (A A' : Option Addr) (n m c c' : Nat) (w : World)
set_option maxRecDepth 100000 in
theorem kind_any (k : Int) : Calls Tryz.prog 70 #[.agg #[.int .i64 k, .bool b, .int .i64 i, .float .f64 f, .string t, .string y, .slice A n c, .slice A' m c']] w fun e w' => e = .returned (.int .i64 (kd k)) ∧ Below w.heap.size w w' := by
  have HK : ∀ r : Int, Hid (r = r) := fun r => Lib.hid rfl
  by_cases h : k < 0 ∨ 7 < k
  · have hk : kd k = 0 := if_pos h
    rw [hk]
    clear hk
    rcases h with h | h
    all_goals
      go_enter Tryz.func70, Tryz.ntmps70
      go_wp2_with fail
      first | (exfalso; omega) | skip
      all_goals first
        | (exfalso; omega)
        | (go_ret; exact ⟨rfl, (Below.refl _ _).alloc (Nat.le_refl _) _⟩)
  · have hk : kd k = k := if_neg h
    rw [hk]
    clear hk
    have h1 : ¬ k < 0 := fun e => h (.inl e)
    have h2 : ¬ 7 < k := fun e => h (.inr e)
    clear h
    go_enter Tryz.func70, Tryz.ntmps70
    go_wp2_with fail
    go_ret
    exact ⟨rfl, (Below.refl _ _).alloc (Nat.le_refl _) _⟩
end
abbrev St := ByteArray × Int × Bool
/-- a list of steps, one longer, in new memory -/
def LgPost (n : Nat) (w : World) (e : Ending) (w' : World) : Prop := ∃ A c, ∃ l : List St, l.length = n ∧ e = .returned (.slice A n c) ∧ Row 104 3 IsSt w' w.heap.size (fun _ => False) (.slice A n c) l ∧ Below w.heap.size w w'
set_option maxRecDepth 100000 in
set_option maxHeartbeats 4000000 in
theorem longer_any (l : List St) (B : Nat) (A : Option Addr) (n c : Nat) (x : St) (w : World) (hl : l.length = n) (hn : n ≤ 2097152) (hr : Row 104 3 IsSt w B (fun _ => False) (.slice A n c) l) :
    Calls Tryz.prog 60 #[.slice A n c, .agg #[.string x.1, .int .i64 x.2.1, .bool x.2.2]] w (LgPost (n + 1) w) := by
  obtain ⟨iv, hiv, hv0, hv1, hv2⟩ := info_parts infoSt
  obtain ⟨xs, xi, xb⟩ := x
  have HR := Lib.hid hr
  have HL := Lib.hid hl
  have hS : Bel (fun _ : Nat => False) w.heap.size := fun _ h => h.elim
  have HSS := Lib.hid hS
  clear hr hl hS
  go_enter Tryz.func60, Tryz.ntmps60
  go_wp2_with (refine wpList_make_own _ rfl _ _ _ rfl w.heap.size 104 iv _ 3 Tryz.underlying46 hiv hv0 hv1 .i64 .i64 _ (n + 1) rfl rfl (by simp) (by rw [hv2]; omega) (by unfold maxLen; omega) (by simp) ?_; intro w1 hown1 hgrow1)
  have gB := heap_alloc_new w (.cells #[.string xs, .int .i64 xi, .bool xb] 104)
  have hb0 := (Below.refl w.heap.size w).alloc (Nat.le_refl _) (.cells #[.string xs, .int .i64 xi, .bool xb] 104)
  have hz0 : w.heap.size + 1 = (w.alloc (.cells #[.string xs, .int .i64 xi, .bool xb] 104)).heap.size := by simp
  generalize (w.alloc (.cells #[.string xs, .int .i64 xi, .bool xb] 104)) = W0 at *
  have hb1 : Below W0.heap.size W0 w1 := ⟨hgrow1.os, hgrow1.tape, hgrow1.output, hgrow1.size, fun k hk => hgrow1.block k hk (by simp)⟩
  have gB1 := Lib.hid ((hb1.block w.heap.size (by omega)).trans gB)
  have hbw1 : Below w.heap.size w w1 := hb0.trans (hb1.mono (by omega))
  have HRow1 : Hid (Row 104 3 IsSt w1 w.heap.size (fun _ => False) (.slice (some ⟨w.heap.size + 1, 0, none⟩) 0 (n + 1)) ([] : List St)) := Lib.hid (by rw [hz0]; exact ⟨[], hown1, Elems.nil⟩)
  have hz1 := hb1.size
  have hz2 : w.heap.size + 1 ≤ W0.heap.size := by omega
  clear gB hb0 hown1 hgrow1 hz0
  go_wp2_with fail
  go_loopw [5, 6] (fun v5 v6 wr => ∃ (q : Nat) (vv : Value) (done : List St), q ≤ n ∧ v6 = .int .i64 (q : Int) ∧ vv = v5 ∧ done.length = q ∧ Hid (Row 104 3 IsSt wr w.heap.size (fun _ => False) vv done) ∧ Below w.heap.size w wr ∧ Hid (wr.heap[w.heap.size]? = some (.cells #[.string xs, .int .i64 xi, .bool xb] 104 (0, 0)) ∧ ∀ g, vv.ownBlock = some g → w.heap.size < g)) (fun _ v _ => n - (intOf v).toNat)
  case atStart => exact ⟨0, _, [], Nat.zero_le _, rfl, rfl, rfl, HRow1, hbw1, Lib.hid ⟨gB1.out, fun g hg => by simp [Value.ownBlock] at hg; omega⟩⟩
  case round =>
    clear HRow1 hbw1 gB1 hb1 hz1
    obtain ⟨q, vv, done, hq, rfl, rfl, hdl, HD, hbr, HBX⟩ := hrel
    have hszr := hbr.size
    obtain ⟨A3, c3, hA3, _⟩ := HD.out.form
    by_cases hlt : q < n
    · have hil : q < l.length := by rw [HL.out]; exact hlt
      obtain ⟨s, hx⟩ : ∃ p, l[q]? = some p := ⟨_, List.getElem?_eq_getElem hil⟩
      obtain ⟨ad, cs, rfl, hadB, hcs, hst⟩ := HR.out.at_ recSt hx
      obtain ⟨s0, s1, s2⟩ := s
      unfold IsSt at hst
      subst hst
      have d0 := (hbr.cell (p := ad.add (q * 3)) (by rw [add_block]; exact hadB)).trans (by simpa [Addr.add] using hcs 0 _ rfl)
      have d1 := (hbr.cell (p := ⟨(ad.add (q * 3)).block, (ad.add (q * 3)).off + 1, none⟩) (by show (ad.add (q * 3)).block < _; rw [add_block]; exact hadB)).trans (hcs 1 _ rfl)
      have d2 := (hbr.cell (p := ⟨(ad.add (q * 3)).block, (ad.add (q * 3)).off + 2, none⟩) (by show (ad.add (q * 3)).block < _; rw [add_block]; exact hadB)).trans (hcs 2 _ rfl)
      simp only at d0 d1 d2
      have hadr : ad.block < wr.heap.size := by omega
      clear hcs hx hil
      have HG : Hid (∀ (u' : Value) (W' : World), wr.grownBy W' vv.ownBlock → Nx wr vv u' → Below w.heap.size w W' ∧ W'.heap[w.heap.size]? = some (.cells #[.string xs, .int .i64 xi, .bool xb] 104 (0, 0)) ∧ ∀ g, u'.ownBlock = some g → w.heap.size < g) := Lib.hid fun u' W' hg hn => by
        have hbl : Below w.heap.size wr W' := ⟨hg.os, hg.tape, hg.output, hg.size, fun k hk => hg.block k (by omega) (by intro e1; have := (HD.out.lt k e1.symm).1; omega)⟩
        have hlt := (Array.getElem?_eq_some_iff.1 HBX.out.1).1
        refine ⟨hbr.trans hbl, (hg.block _ hlt (by intro e1; have := HBX.out.2 _ e1.symm; omega)).trans HBX.out.1, fun g hgg => ?_⟩
        rcases hn with e | ⟨j, e, hj⟩
        · rw [e] at hgg; exact HBX.out.2 g hgg
        · rw [e] at hgg; injection hgg with hgg; omega
      go_wp2_with (at_builtin; go_must (refine wpList_row (T := 104) (size := 3) wr recSt rfl _ _ _ rfl [.string s0, .int .i64 s1, .bool s2] iv _ 32 Tryz.underlying46 hiv hv0 hv1 hv2 rfl (by omega) (by omega) w.heap.size (fun _ => False) vv done (s0, s1, s2) rfl rfl HD.out rfl HSS.out (by omega) hszr ?_; intro u' W' hrow hg hn; have HD2 := Lib.hid hrow; have HG2 := Lib.hid (HG.out u' W' hg hn); clear hrow hg hn))
      exact ⟨⟨q + 1, _, done ++ [(s0, s1, s2)], by omega, by go_num, rfl, by simp [hdl], HD2, HG2.out.1, Lib.hid HG2.out.2⟩, by simp [intOf]; omega⟩
    · obtain rfl : q = n := by omega
      have m0 := blk_cell HBX.out.1 (i := 0) (by simp)
      have m1 := blk_cell HBX.out.1 (i := 1) (by simp)
      have m2 := blk_cell HBX.out.1 (i := 2) (by simp)
      simp only [List.getElem_toArray, List.getElem_cons_zero, List.getElem_cons_succ] at m0 m1 m2
      go_wp2_with (at_builtin; go_must (refine wpList_row (T := 104) (size := 3) wr recSt rfl _ _ _ rfl [.string xs, .int .i64 xi, .bool xb] iv _ 32 Tryz.underlying46 hiv hv0 hv1 hv2 rfl (by omega) (by omega) w.heap.size (fun _ => False) vv done (xs, xi, xb) rfl rfl HD.out rfl HSS.out (by omega) hszr ?_; intro u' W' hrow hg hn; have HD2 := Lib.hid hrow; have HG2 := Lib.hid hg; clear hrow hg hn))
      obtain ⟨A5, c5, rfl, _⟩ := HD2.out.form
      go_ret
      have hln : (done ++ [(xs, xi, xb)]).length = q + 1 := by simp [hdl]
      have hfin := HD2.out
      rw [hln] at hfin ⊢
      refine ⟨A5, c5, _, hln, rfl, hfin, hbr.trans ⟨HG2.out.os, HG2.out.tape, HG2.out.output, HG2.out.size, fun k hk => HG2.out.block k (by omega) (by intro e1; have := (HD.out.lt k e1.symm).1; omega)⟩⟩
end Go.Proofs.YtagghdehbkbemaaGreatDoor.look
end
section
namespace Go.Proofs.YtagghdehbkbemaaGreatDoor.look
open Go.RowKit mem txt app smap val
attribute [local go_sem] run_store_float
set_option linter.unusedVariables false

/-- the steps and the children, in new memory -/
def ChPost (S : Nat → Prop) (kids : List V) (w : World) (e : Ending) (w' : World) : Prop := ∃ A1 c1 A2 c2, ∃ l : List St, l.length = kids.length ∧ e = .returned (.tuple #[.slice A1 kids.length c1, .slice A2 kids.length c2]) ∧
  Row 104 3 IsSt w' w.heap.size (fun _ => False) (.slice A1 kids.length c1) l ∧ Row 27 8 IsV w' w.heap.size S (.slice A2 kids.length c2) kids ∧ Below w.heap.size w w'
/-- while the lists grow -/
structure ChSt (w : World) (S : Nat → Prop) (bo : Obj) (sv vv : Value) (l : List St) (done : List V) (wr : World) : Prop where
  st : Row 104 3 IsSt wr w.heap.size (fun _ => False) sv l
  vs : Row 27 8 IsV wr w.heap.size S vv done
  be : Below w.heap.size w wr
  box : wr.heap[w.heap.size]? = some bo
  s1 : ∀ g, sv.ownBlock = some g → w.heap.size < g
  v1 : ∀ g, vv.ownBlock = some g → w.heap.size < g
theorem ChSt.step {w wr W' : World} {S : Nat → Prop} {bo : Obj} {sv vv u' : Value} {l : List St} {done : List V} {x : St} (h : ChSt w S bo sv vv l done wr) (hS : Bel S w.heap.size) (hrow : Row 104 3 IsSt W' w.heap.size (fun _ => False) u' (l ++ [x])) (hg : wr.grownBy W' sv.ownBlock) (hn : Nx wr sv u') : ChSt w S bo u' vv (l ++ [x]) done W' := by
  have hbl : Below w.heap.size wr W' := ⟨hg.os, hg.tape, hg.output, hg.size, fun k hk => hg.block k (by have := h.be.size; omega) (by intro e1; have := h.s1 k e1.symm; omega)⟩
  refine ⟨hrow, h.vs.stay recV hS hbl (fun g hgg => hg.block g (h.vs.lt g hgg).2 (h.vs.ne h.st (by decide) g hgg)), h.be.trans hbl, (hg.block _ (Array.getElem?_eq_some_iff.1 h.box).1 (by intro e1; have := h.s1 _ e1.symm; omega)).trans h.box, fun g hgg => ?_, h.v1⟩
  rcases hn with e | ⟨j, e, hj⟩
  · rw [e] at hgg; exact h.s1 g hgg
  · rw [e] at hgg
    injection hgg with hgg
    have := (Array.getElem?_eq_some_iff.1 h.box).1
    omega
theorem ChSt.val {w wr W' : World} {S : Nat → Prop} {bo : Obj} {sv vv u' : Value} {l : List St} {done : List V} {x : V} (h : ChSt w S bo sv vv l done wr) (hS : Bel S w.heap.size) (hrow : Row 27 8 IsV W' w.heap.size S u' (done ++ [x])) (hg : wr.grownBy W' vv.ownBlock) (hn : Nx wr vv u') : ChSt w S bo sv u' l (done ++ [x]) W' := by
  have hbl : Below w.heap.size wr W' := ⟨hg.os, hg.tape, hg.output, hg.size, fun k hk => hg.block k (by have := h.be.size; omega) (by intro e1; have := h.v1 k e1.symm; omega)⟩
  refine ⟨h.st.stay recSt (fun _ hf => hf.elim) hbl (fun g hgg => hg.block g (h.st.lt g hgg).2 (h.st.ne h.vs (by decide) g hgg)), hrow, h.be.trans hbl, (hg.block _ (Array.getElem?_eq_some_iff.1 h.box).1 (by intro e1; have := h.v1 _ e1.symm; omega)).trans h.box, h.s1, fun g hgg => ?_⟩
  rcases hn with e | ⟨j, e, hj⟩
  · rw [e] at hgg; exact h.v1 g hgg
  · rw [e] at hgg
    injection hgg with hgg
    have := (Array.getElem?_eq_some_iff.1 h.box).1
    omega
section
variable (b : Bool) (i : Int) (f : Nat) (t y : ByteArray) (A A' : Option Addr) (n m c c' : Nat) (w : World) (S : Nat → Prop)
set_option maxRecDepth 100000 in
set_option maxHeartbeats 4000000 in
theorem kids_none (k : Int) (h : k ≠ 5 ∧ k ≠ 6) : Calls Tryz.prog 59 #[.agg #[.int .i64 k, .bool b, .int .i64 i, .float .f64 f, .string t, .string y, .slice A n c, .slice A' m c']] w (ChPost S [] w) := by
  have q5 : (kd k == 5) = false := beq_false_of_ne (by unfold kd; split <;> omega)
  have q6 : (kd k == 6) = false := beq_false_of_ne (by unfold kd; split <;> omega)
  have HK := Lib.hid (fun W => kind_any b i f t y A A' n m c c' W k)
  generalize kd k = kk at *
  clear h
  go_enter Tryz.func59, Tryz.ntmps59
  go_wp2_with fail
  refine (HK.out _).mono ?_
  rintro e w2 ⟨rfl, hb⟩
  have HB := Lib.hid (((Below.refl w.heap.size w).alloc (Nat.le_refl _) _).trans (hb.mono (by simp)))
  clear hb HK
  go_wp2_with fail
  go_ret2
  exact ⟨none, 0, none, 0, [], rfl, rfl, Row.nil _ _ _, Row.nil _ _ _, HB.out⟩
set_option maxRecDepth 100000 in
set_option maxHeartbeats 4000000 in
theorem kids_items (is : List V) (hn : is.length = n) (hn2 : n ≤ 1048576) (hI : IsVs w S is A 0) (hS : Bel S w.heap.size) : Calls Tryz.prog 59 #[.agg #[.int .i64 5, .bool b, .int .i64 i, .float .f64 f, .string t, .string y, .slice A n c, .slice A' m c']] w (ChPost S is w) := by
  obtain ⟨iv, hiv, hv0, hv1, hv2⟩ := info_parts infoSt
  obtain ⟨jv, hjv, hj0, hj1, hj2⟩ := info_parts infoVl
  have HK := Lib.hid (fun W => kind_any b i f t y A A' n m c c' W 5)
  rw [show kd 5 = 5 from rfl] at HK
  have HI := Lib.hid hI
  have HS := Lib.hid hS
  have HN := Lib.hid hn
  clear hI hS hn
  go_enter Tryz.func59, Tryz.ntmps59
  go_wp2_with fail
  have gB := heap_alloc_new w (.cells #[.int .i64 5, .bool b, .int .i64 i, .float .f64 f, .string t, .string y, .slice A n c, .slice A' m c'] 27)
  have hb0 := (Below.refl w.heap.size w).alloc (Nat.le_refl _) (.cells #[.int .i64 5, .bool b, .int .i64 i, .float .f64 f, .string t, .string y, .slice A n c, .slice A' m c'] 27)
  have hz0 : w.heap.size < (w.alloc (.cells #[.int .i64 5, .bool b, .int .i64 i, .float .f64 f, .string t, .string y, .slice A n c, .slice A' m c'] 27)).heap.size := by simp
  generalize (w.alloc (.cells #[.int .i64 5, .bool b, .int .i64 i, .float .f64 f, .string t, .string y, .slice A n c, .slice A' m c'] 27)) = W0 at *
  refine (HK.out W0).mono ?_
  rintro e w2 ⟨rfl, hb2⟩
  have HST : Hid (ChSt w S (.cells #[.int .i64 5, .bool b, .int .i64 i, .float .f64 f, .string t, .string y, .slice A n c, .slice A' m c'] 27) (.slice none 0 0) (.slice none 0 0) [] [] w2) := Lib.hid ⟨Row.nil _ _ _, Row.nil _ _ _, hb0.trans (hb2.mono (by omega)), (hb2.block _ hz0).trans gB, fun g hg => by simp [Value.ownBlock] at hg, fun g hg => by simp [Value.ownBlock] at hg⟩
  clear gB hb0 hz0 hb2 HK
  go_wp2_with fail
  go_loopw [4, 5, 6] (fun v4 v5 v6 wr => ∃ (q : Nat) (sv vv : Value) (l : List St), q ≤ n ∧ v6 = .int .i64 (q : Int) ∧ sv = v4 ∧ vv = v5 ∧ l.length = q ∧ Hid (ChSt w S (.cells #[.int .i64 5, .bool b, .int .i64 i, .float .f64 f, .string t, .string y, .slice A n c, .slice A' m c'] 27) sv vv l (is.take q) wr)) (fun _ _ v _ => n - (intOf v).toNat)
  case atStart => exact ⟨0, _, _, [], Nat.zero_le _, rfl, rfl, rfl, rfl, by simpa using HST⟩
  case round =>
    clear HST
    obtain ⟨q, sv, vv, l, hq, rfl, rfl, rfl, hll, HC⟩ := hrel
    have hszr := HC.out.be.size
    have hszb := (Array.getElem?_eq_some_iff.1 HC.out.box).1
    obtain ⟨m0, m1, m2, m3, m4, m5, m6, m7⟩ := blk8 HC.out.box
    have htk : (is.take q).length ≤ q := List.length_take_le _ _
    by_cases hlt : q < n
    · have hil : q < is.length := by rw [HN.out]; exact hlt
      obtain ⟨x, hx⟩ : ∃ p, is[q]? = some p := ⟨_, List.getElem?_eq_getElem hil⟩
      obtain ⟨ad, cs, rfl, hadB, hcs, hvx⟩ := HI.out.at_ hx
      rw [Nat.zero_add] at hcs
      have HTK : Hid (is.take (q + 1) = is.take q ++ [x]) := Lib.hid (by rw [List.take_add_one, hx]; rfl)
      have hadw : ad.block < w.heap.size := HS.out _ hadB
      have HCS := Lib.hid hcs
      have HVX := Lib.hid hvx
      obtain ⟨k2, b2, i2, f2, t2, y2, is2, fs2⟩ := x
      simp only [IsV] at hvx
      obtain ⟨A2, c2, A2', c2', rfl, _⟩ := hvx
      clear hcs hx hil
      obtain ⟨dn, hdn⟩ : ∃ dn, is.take q = dn := ⟨_, rfl⟩
      rw [hdn] at HC HTK htk
      clear hdn
      go_wp2_with (at_builtin; go_must (first
        | (refine wpList_row (T := 104) (size := 3) wr recSt rfl (.tmp 19) (.tmp 22) _ rfl [.string ⟨#[]⟩, .int .i64 (q : Int), .bool true] iv _ 32 Tryz.underlying46 hiv hv0 hv1 hv2 rfl (by omega) (by omega) w.heap.size (fun _ => False) sv l (⟨#[]⟩, (q : Int), true) rfl rfl HC.out.st rfl (fun _ hf => hf.elim) (by omega) hszr ?_; intro u1 W1 hrow hg hn; have HC1 := Lib.hid (HC.out.step HS.out hrow hg hn); clear hrow hg hn m0 m1 m2 m3 m4 m5 m6 m7; obtain ⟨m0, m1, m2, m3, m4, m5, m6, m7⟩ := blk8 HC1.out.box; have hszr1 := HC1.out.be.size; have hszb1 := (Array.getElem?_eq_some_iff.1 HC1.out.box).1; obtain ⟨d0, d1, d2, d3, d4, d5, d6, d7⟩ := (HCS.out.keep (S := fun b => b < w.heap.size) (by rw [add_block]; exact hadw) (fun p hp => HC1.out.be.cell hp)).eight)
        | (refine wpList_row (T := 27) (size := 8) W1 recV rfl (.tmp 24) (.tmp 30) _ rfl [.int .i64 k2, .bool b2, .int .i64 i2, .float .f64 f2, .string t2, .string y2, .slice A2 is2.length c2, .slice A2' fs2.length c2'] jv _ 112 Tryz.underlying24 hjv hj0 hj1 hj2 rfl (by omega) (by omega) w.heap.size S vv dn (.mk k2 b2 i2 f2 t2 y2 is2 fs2) rfl rfl HC1.out.vs (HVX.out.below HS.out HC1.out.be) HS.out (by omega) hszr1 ?_; intro u2 W2 hrow hg hn; have HC2 := Lib.hid (HC1.out.val HS.out hrow hg hn); clear hrow hg hn)))
      exact ⟨⟨q + 1, _, _, l ++ [(⟨#[]⟩, (q : Int), true)], by omega, by go_num, rfl, rfl, by simp [hll], by rw [HTK.out]; exact HC2⟩, by simp [intOf]; omega⟩
    · obtain rfl : q = n := by omega
      have hT : is.take q = is := List.take_of_length_le (by rw [HN.out]; exact Nat.le_refl _)
      rw [hT] at HC
      obtain ⟨A1, c1, hA1, _⟩ := HC.out.st.form
      obtain ⟨A2, c2, hA2, _⟩ := HC.out.vs.form
      rw [hll] at hA1
      rw [HN.out] at hA2
      clear hT htk
      subst hA1 hA2
      go_wp2_with fail
      go_ret2
      have h1 := HC.out.st
      have h2 := HC.out.vs
      rw [← HN.out] at h1 h2 ⊢
      exact ⟨A1, c1, A2, c2, l, by rw [hll, HN.out], rfl, h1, h2, HC.out.be⟩
set_option maxRecDepth 100000 in
set_option maxHeartbeats 4000000 in
theorem kids_members (fs : List (ByteArray × V)) (hn : fs.length = m) (hn2 : m ≤ 1048576) (hI : IsFs w S fs A' 0) (hS : Bel S w.heap.size) : Calls Tryz.prog 59 #[.agg #[.int .i64 6, .bool b, .int .i64 i, .float .f64 f, .string t, .string y, .slice A n c, .slice A' m c']] w (ChPost S (fs.map (·.2)) w) := by
  obtain ⟨iv, hiv, hv0, hv1, hv2⟩ := info_parts infoSt
  obtain ⟨jv, hjv, hj0, hj1, hj2⟩ := info_parts infoVl
  have HK := Lib.hid (fun W => kind_any b i f t y A A' n m c c' W 6)
  rw [show kd 6 = 6 from rfl] at HK
  have HI := Lib.hid hI
  have HS := Lib.hid hS
  have HN := Lib.hid hn
  clear hI hS hn
  go_enter Tryz.func59, Tryz.ntmps59
  go_wp2_with fail
  have gB := heap_alloc_new w (.cells #[.int .i64 6, .bool b, .int .i64 i, .float .f64 f, .string t, .string y, .slice A n c, .slice A' m c'] 27)
  have hb0 := (Below.refl w.heap.size w).alloc (Nat.le_refl _) (.cells #[.int .i64 6, .bool b, .int .i64 i, .float .f64 f, .string t, .string y, .slice A n c, .slice A' m c'] 27)
  have hz0 : w.heap.size < (w.alloc (.cells #[.int .i64 6, .bool b, .int .i64 i, .float .f64 f, .string t, .string y, .slice A n c, .slice A' m c'] 27)).heap.size := by simp
  generalize (w.alloc (.cells #[.int .i64 6, .bool b, .int .i64 i, .float .f64 f, .string t, .string y, .slice A n c, .slice A' m c'] 27)) = W0 at *
  refine (HK.out W0).mono ?_
  rintro e w2 ⟨rfl, hb2⟩
  have HST : Hid (ChSt w S (.cells #[.int .i64 6, .bool b, .int .i64 i, .float .f64 f, .string t, .string y, .slice A n c, .slice A' m c'] 27) (.slice none 0 0) (.slice none 0 0) [] [] w2) := Lib.hid ⟨Row.nil _ _ _, Row.nil _ _ _, hb0.trans (hb2.mono (by omega)), (hb2.block _ hz0).trans gB, fun g hg => by simp [Value.ownBlock] at hg, fun g hg => by simp [Value.ownBlock] at hg⟩
  clear gB hb0 hz0 hb2 HK
  go_wp2_with fail
  go_loopw [4, 5, 7] (fun v4 v5 v6 wr => ∃ (q : Nat) (sv vv : Value) (l : List St), q ≤ m ∧ v6 = .int .i64 (q : Int) ∧ sv = v4 ∧ vv = v5 ∧ l.length = q ∧ Hid (ChSt w S (.cells #[.int .i64 6, .bool b, .int .i64 i, .float .f64 f, .string t, .string y, .slice A n c, .slice A' m c'] 27) sv vv l ((fs.take q).map (·.2)) wr)) (fun _ _ v _ => m - (intOf v).toNat)
  case atStart => exact ⟨0, _, _, [], Nat.zero_le _, rfl, rfl, rfl, rfl, by simpa using HST⟩
  case round =>
    clear HST
    obtain ⟨q, sv, vv, l, hq, rfl, rfl, rfl, hll, HC⟩ := hrel
    have hszr := HC.out.be.size
    have hszb := (Array.getElem?_eq_some_iff.1 HC.out.box).1
    obtain ⟨m0, m1, m2, m3, m4, m5, m6, m7⟩ := blk8 HC.out.box
    have htk : ((fs.take q).map (·.2)).length ≤ q := by rw [List.length_map]; exact List.length_take_le _ _
    by_cases hlt : q < m
    · have hil : q < fs.length := by rw [HN.out]; exact hlt
      obtain ⟨p, hx⟩ : ∃ p, fs[q]? = some p := ⟨_, List.getElem?_eq_getElem hil⟩
      obtain ⟨s, x⟩ := p
      obtain ⟨ad, cs, rfl, hadB, hcs, hvx⟩ := HI.out.at_ hx
      rw [Nat.zero_add] at hcs
      simp only at hcs hvx
      have HTK : Hid ((fs.take (q + 1)).map (·.2) = (fs.take q).map (·.2) ++ [x]) := Lib.hid (by rw [List.take_add_one, hx, Option.toList_some, List.map_append]; rfl)
      have hadw : ad.block < w.heap.size := HS.out _ hadB
      have HCS := Lib.hid hcs
      have HVX := Lib.hid hvx
      obtain ⟨k2, b2, i2, f2, t2, y2, is2, fs2⟩ := x
      simp only [IsV] at hvx
      obtain ⟨A2, c2, A2', c2', rfl, _⟩ := hvx
      clear hcs hx hil
      obtain ⟨dn, hdn⟩ : ∃ dn, (fs.take q).map (·.2) = dn := ⟨_, rfl⟩
      rw [hdn] at HC HTK htk
      clear hdn
      obtain ⟨d0, d1, d2, d3, d4, d5, d6, d7, d8⟩ := (HCS.out.keep (S := fun b => b < w.heap.size) (by rw [add_block]; exact hadw) (fun p hp => HC.out.be.cell hp)).nine
      go_wp2_with (at_builtin; go_must (first
        | (refine wpList_row (T := 104) (size := 3) wr recSt rfl (.tmp 41) (.tmp 49) _ rfl [.string s, .int .i64 0, .bool false] iv _ 32 Tryz.underlying46 hiv hv0 hv1 hv2 rfl (by omega) (by omega) w.heap.size (fun _ => False) sv l (s, 0, false) rfl rfl HC.out.st rfl (fun _ hf => hf.elim) (by omega) hszr ?_; intro u1 W1 hrow hg hn; have HC1 := Lib.hid (HC.out.step HS.out hrow hg hn); clear hrow hg hn m0 m1 m2 m3 m4 m5 m6 m7 d0 d1 d2 d3 d4 d5 d6 d7 d8; obtain ⟨m0, m1, m2, m3, m4, m5, m6, m7⟩ := blk8 HC1.out.box; have hszr1 := HC1.out.be.size; have hszb1 := (Array.getElem?_eq_some_iff.1 HC1.out.box).1; obtain ⟨d0, d1, d2, d3, d4, d5, d6, d7, d8⟩ := (HCS.out.keep (S := fun b => b < w.heap.size) (by rw [add_block]; exact hadw) (fun p hp => HC1.out.be.cell hp)).nine)
        | (refine wpList_row (T := 27) (size := 8) W1 recV rfl (.tmp 51) (.tmp 58) _ rfl [.int .i64 k2, .bool b2, .int .i64 i2, .float .f64 f2, .string t2, .string y2, .slice A2 is2.length c2, .slice A2' fs2.length c2'] jv _ 112 Tryz.underlying24 hjv hj0 hj1 hj2 rfl (by omega) (by omega) w.heap.size S vv dn (.mk k2 b2 i2 f2 t2 y2 is2 fs2) rfl rfl HC1.out.vs (HVX.out.below HS.out HC1.out.be) HS.out (by omega) hszr1 ?_; intro u2 W2 hrow hg hn; have HC2 := Lib.hid (HC1.out.val HS.out hrow hg hn); clear hrow hg hn)))
      exact ⟨⟨q + 1, _, _, l ++ [(s, 0, false)], by omega, by go_num, rfl, rfl, by simp [hll], by rw [HTK.out]; exact HC2⟩, by simp [intOf]; omega⟩
    · obtain rfl : q = m := by omega
      have hT : fs.take q = fs := List.take_of_length_le (by rw [HN.out]; exact Nat.le_refl _)
      rw [hT] at HC
      obtain ⟨A1, c1, hA1, _⟩ := HC.out.st.form
      obtain ⟨A2, c2, hA2, _⟩ := HC.out.vs.form
      have hN2 : (fs.map (·.2)).length = q := by rw [List.length_map]; exact HN.out
      rw [hll] at hA1
      rw [hN2] at hA2
      have HN2 := Lib.hid hN2
      clear hN2
      clear hT htk
      subst hA1 hA2
      go_wp2_with fail
      go_ret2
      have h1 := HC.out.st
      have h2 := HC.out.vs
      rw [← HN2.out] at h1 h2 ⊢
      exact ⟨A1, c1, A2, c2, l, by rw [hll, HN2.out], rfl, h1, h2, HC.out.be⟩
end
def kids : V → List V
  | .mk k _ _ _ _ _ is fs => if k = 5 then is else if k = 6 then fs.map (·.2) else []
theorem children_any (x : V) (hsz : sz x ≤ 1048576) (cs : List Value) (w : World) (S : Nat → Prop) (hV : IsV w S x cs) (hS : Bel S w.heap.size) : Calls Tryz.prog 59 #[.agg cs.toArray] w (ChPost S (kids x) w) := by
  obtain ⟨k, b, i, f, t, y, is, fs⟩ := x
  simp only [IsV] at hV
  obtain ⟨A, c, A', c', rfl, hA, hA', his, hfs⟩ := hV
  simp only [sz] at hsz
  have hl1 := szs_len is
  have hl2 := szf_len fs
  simp only [kids]
  by_cases c5 : k = 5
  · rw [if_pos c5]
    subst c5
    exact kids_items b i f t y A A' _ _ c c' w S is rfl (by omega) his hS
  rw [if_neg c5]
  by_cases c6 : k = 6
  · rw [if_pos c6]
    subst c6
    exact kids_members b i f t y A A' _ _ c c' w S fs rfl (by omega) hfs hS
  rw [if_neg c6]
  exact kids_none b i f t y A A' _ _ c c' w S k ⟨c5, c6⟩
end Go.Proofs.YtagghdehbkbemaaGreatDoor.look
end
