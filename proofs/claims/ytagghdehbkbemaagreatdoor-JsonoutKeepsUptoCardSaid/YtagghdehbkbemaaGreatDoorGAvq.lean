/- appendValue of a value without children. appendValue of a list. appendValue of an object; of any value. -/
import Derived.Test.YtagghdehbkbemaaGreatDoorGLkq
import Derived.Lib.AppendStr
section
namespace Go.Proofs.YtagghdehbkbemaaGreatDoor.look
open Go.RowKit mem txt app smap val
attribute [local go_sem] run_store_float
set_option linter.unusedVariables false

theorem strCells_zs (s : ByteArray) : Lib.strCells s = zs (bz s) := by
  unfold Lib.strCells zs bz
  simp
/-- all that was there, but rows of bytes, stands behind a call that only makes memory -/
theorem kept_below {a w w' : World} (h : Lib.OthersKept 5 none a w) (ha : a.heap.size ≤ w.heap.size) (hb : Below w.heap.size w w') : Lib.OthersKept 5 none a w' :=
  fun j o hj hbl ho => by
    have hlt : j < a.heap.size := (Array.getElem?_eq_some_iff.1 hj).1
    rw [hb.block j (by omega)]
    exact h j o hj hbl ho
theorem kept_app0 {a w w' : World} {base n : Nat} {v : Value} {xs : List Value} (h : Lib.OthersKept 5 none a w) (hown : w.ownsRow base 5 1 v n xs) (hg : w.grownBy w' v.ownBlock) : Lib.OthersKept 5 none a w' :=
  h.grown hg fun g hgv => by
    obtain ⟨cur, hc⟩ := own_cells hown g hgv
    exact ⟨cur, _, hc⟩
theorem own_below {w w' : World} {base : Nat} {e : TypeId} {size n : Nat} {v : Value} {xs : List Value} (h : w.ownsRow base e size v n xs) (hb : Below w.heap.size w w') : w'.ownsRow base e size v n xs := own_kept h fun g hg => hb.block g (h.lt g hg).2
section
variable (b : Bool) (i : Int) (f : Nat) (t y : ByteArray) (A A' : Option Addr) (n m c c' : Nat) (B : Nat) (v : Value) (l : Nat) (xs : List Value) (w : World)
set_option maxRecDepth 100000 in
set_option maxHeartbeats 4000000 in
theorem app_null (k : Int) (h : k < 1 ∨ 6 < k) (hown : w.ownsRow B 5 1 v l xs) (hB : B ≤ w.heap.size) (hl : l ≤ 1099511627776) : Calls Tryz.prog 22 #[v, .agg #[.int .i64 k, .bool b, .int .i64 i, .float .f64 f, .string t, .string y, .slice A n c, .slice A' m c']] w (RowPost B l xs [110, 117, 108, 108] w) := by
  obtain ⟨iv, hiv, hv0, hv1, hv2⟩ := info_parts infoB
  have HO := Lib.hid hown
  have q1 : (k == 1) = false := beq_false_of_ne (by omega)
  have q2 : (k == 2) = false := beq_false_of_ne (by omega)
  have q3 : (k == 3) = false := beq_false_of_ne (by omega)
  have q4 : (k == 4) = false := beq_false_of_ne (by omega)
  have q5 : (k == 5) = false := beq_false_of_ne (by omega)
  have q6 : (k == 6) = false := beq_false_of_ne (by omega)
  clear hown h
  go_enter Tryz.func22, Tryz.ntmps22
  go_wp2_with (at_builtin; go_must (refine Lib.wpList_append_own_string _ rfl _ _ _ _ rfl B 5 iv Tryz.underlying31 Tryz.underlying9 hiv hv0 hv1 hv2 v l xs rfl (HO.out.alloc _) ⟨#[110, 117, 108, 108]⟩ rfl (show l + 4 ≤ maxLen by unfold maxLen; omega) (show l + 4 ≤ 140737488355328 by omega) (by simp; omega) ?_; intro v' w5 hown' hgrow' _))
  go_ret
  exact ⟨v', rfl, hown', below_app1 (Below.refl _ _) HO.out (Nat.le_refl _) hB hgrow', kept_app (Lib.OthersKept.refl _ _ _) HO.out hgrow'⟩
set_option maxRecDepth 100000 in
set_option maxHeartbeats 4000000 in
theorem app_bool (k : Int) (h : k = 1) (hown : w.ownsRow B 5 1 v l xs) (hB : B ≤ w.heap.size) (hl : l ≤ 1099511627776) : Calls Tryz.prog 22 #[v, .agg #[.int .i64 k, .bool b, .int .i64 i, .float .f64 f, .string t, .string y, .slice A n c, .slice A' m c']] w (RowPost B l xs (tfz b) w) := by
  obtain ⟨iv, hiv, hv0, hv1, hv2⟩ := info_parts infoB
  have HO := Lib.hid hown
  subst h
  clear hown
  cases b with
  | true =>
    go_enter Tryz.func22, Tryz.ntmps22
    go_wp2_with (at_builtin; go_must (refine Lib.wpList_append_own_string _ rfl _ _ _ _ rfl B 5 iv Tryz.underlying31 Tryz.underlying9 hiv hv0 hv1 hv2 v l xs rfl (HO.out.alloc _) ⟨#[116, 114, 117, 101]⟩ rfl (show l + 4 ≤ maxLen by unfold maxLen; omega) (show l + 4 ≤ 140737488355328 by omega) (by simp; omega) ?_; intro v' w5 hown' hgrow' _))
    go_ret
    exact ⟨v', rfl, hown', below_app1 (Below.refl _ _) HO.out (Nat.le_refl _) hB hgrow', kept_app (Lib.OthersKept.refl _ _ _) HO.out hgrow'⟩
  | false =>
    go_enter Tryz.func22, Tryz.ntmps22
    go_wp2_with (at_builtin; go_must (refine Lib.wpList_append_own_string _ rfl _ _ _ _ rfl B 5 iv Tryz.underlying31 Tryz.underlying9 hiv hv0 hv1 hv2 v l xs rfl (HO.out.alloc _) ⟨#[102, 97, 108, 115, 101]⟩ rfl (show l + 5 ≤ maxLen by unfold maxLen; omega) (show l + 5 ≤ 140737488355328 by omega) (by simp; omega) ?_; intro v' w5 hown' hgrow' _))
    go_ret
    exact ⟨v', rfl, hown', below_app1 (Below.refl _ _) HO.out (Nat.le_refl _) hB hgrow', kept_app (Lib.OthersKept.refl _ _ _) HO.out hgrow'⟩
set_option maxRecDepth 100000 in
set_option maxHeartbeats 4000000 in
theorem app_int (k : Int) (h : k = 2) (hi1 : -9223372036854775808 ≤ i) (hi2 : i ≤ 9223372036854775807) (hE : Env w) (hown : w.ownsRow B 5 1 v l xs) (hB : B ≤ w.heap.size) (hl : l ≤ 1099511627776) : Calls Tryz.prog 22 #[v, .agg #[.int .i64 k, .bool b, .int .i64 i, .float .f64 f, .string t, .string y, .slice A n c, .slice A' m c']] w (RowPost B l xs (wz i) w) := by
  obtain ⟨iv, hiv, hv0, hv1, hv2⟩ := info_parts infoB
  have HO := Lib.hid hown
  have HC := Lib.hid (fun W (hW : Below w.heap.size w W) => pg.wholeT_any i W hi1 hi2 (hE.below hW).num.tab)
  have hlen := wz_len i hi1 hi2
  subst h
  clear hown hE
  go_enter Tryz.func22, Tryz.ntmps22
  go_wp2_with fail
  have hb1 := (Below.refl w.heap.size w).alloc (Nat.le_refl _) (.cells #[.int .i64 2, .bool b, .int .i64 i, .float .f64 f, .string t, .string y, .slice A n c, .slice A' m c'] 27)
  have HO1 := Lib.hid (HO.out.alloc (.cells #[.int .i64 2, .bool b, .int .i64 i, .float .f64 f, .string t, .string y, .slice A n c, .slice A' m c'] 27))
  have hk1 := (Lib.OthersKept.refl 5 none w).alloc (.cells #[.int .i64 2, .bool b, .int .i64 i, .float .f64 f, .string t, .string y, .slice A n c, .slice A' m c'] 27)
  generalize (w.alloc (.cells #[.int .i64 2, .bool b, .int .i64 i, .float .f64 f, .string t, .string y, .slice A n c, .slice A' m c'] 27)) = W1 at *
  refine (HC.out W1 hb1).mono ?_
  rintro e w2 ⟨rfl, hb2⟩
  have HO2 := Lib.hid (own_below HO1.out hb2)
  have hk2 := kept_below hk1 hb1.size hb2
  have hb3 : Below B w w2 := (hb1.trans (hb2.mono hb1.size)).mono hB
  have hz3 : B ≤ w2.heap.size := Nat.le_trans hB hb3.size
  have hsz : (big.strN (big.wtx i)).size ≤ 30 := by rw [← bz_length]; exact hlen
  have HZ := Lib.hid (strCells_zs (big.strN (big.wtx i)))
  have HW : Hid (bz (big.strN (big.wtx i)) = wz i) := Lib.hid rfl
  generalize big.strN (big.wtx i) = T at *
  clear hb1 hb2 hk1 HO1 HC HO hlen
  go_wp2_with (at_builtin; go_must (refine Lib.wpList_append_own_string _ rfl _ _ _ _ rfl B 5 iv Tryz.underlying31 Tryz.underlying9 hiv hv0 hv1 hv2 v l xs rfl HO2.out T rfl (show l + T.size ≤ maxLen by unfold maxLen; omega) (show l + T.size ≤ 140737488355328 by omega) hz3 ?_; intro v' w5 hown' hgrow' _))
  go_ret
  refine ⟨v', rfl, ?_, below_app hb3 HO2.out (Nat.le_refl _) hz3 hgrow', kept_app0 hk2 HO2.out hgrow'⟩
  rw [← HW.out, bz_length, ← HZ.out]
  exact hown'
set_option maxRecDepth 100000 in
set_option maxHeartbeats 4000000 in
theorem app_float (k : Int) (h : k = 3) (hf : f < 18446744073709551616) (hE : Env w) (hown : w.ownsRow B 5 1 v l xs) (hB : B ≤ w.heap.size) (hl : l ≤ 1099511627776) : Calls Tryz.prog 22 #[v, .agg #[.int .i64 k, .bool b, .int .i64 i, .float .f64 f, .string t, .string y, .slice A n c, .slice A' m c']] w (RowPost B l xs (fz f) w) := by
  obtain ⟨iv, hiv, hv0, hv1, hv2⟩ := info_parts infoB
  have HO := Lib.hid hown
  have HC := Lib.hid (fun W (hW : Below w.heap.size w W) => pg.floatText_any f hf W (hE.below hW).num)
  have hlen := fz_len f
  subst h
  clear hown hE
  go_enter Tryz.func22, Tryz.ntmps22
  go_wp2_with fail
  have hb1 := (Below.refl w.heap.size w).alloc (Nat.le_refl _) (.cells #[.int .i64 3, .bool b, .int .i64 i, .float .f64 f, .string t, .string y, .slice A n c, .slice A' m c'] 27)
  have HO1 := Lib.hid (HO.out.alloc (.cells #[.int .i64 3, .bool b, .int .i64 i, .float .f64 f, .string t, .string y, .slice A n c, .slice A' m c'] 27))
  have hk1 := (Lib.OthersKept.refl 5 none w).alloc (.cells #[.int .i64 3, .bool b, .int .i64 i, .float .f64 f, .string t, .string y, .slice A n c, .slice A' m c'] 27)
  generalize (w.alloc (.cells #[.int .i64 3, .bool b, .int .i64 i, .float .f64 f, .string t, .string y, .slice A n c, .slice A' m c'] 27)) = W1 at *
  refine (HC.out W1 hb1).mono ?_
  rintro e w2 ⟨rfl, hb2⟩
  have HO2 := Lib.hid (own_below HO1.out hb2)
  have hk2 := kept_below hk1 hb1.size hb2
  have hb3 : Below B w w2 := (hb1.trans (hb2.mono hb1.size)).mono hB
  have hz3 : B ≤ w2.heap.size := Nat.le_trans hB hb3.size
  have hsz : (pg.ftx f).size ≤ 1001 := by rw [← bz_length]; exact hlen
  have HZ := Lib.hid (strCells_zs (pg.ftx f))
  have HW : Hid (bz (pg.ftx f) = fz f) := Lib.hid rfl
  generalize pg.ftx f = T at *
  clear hb1 hb2 hk1 HO1 HC HO hlen
  go_wp2_with (at_builtin; go_must (refine Lib.wpList_append_own_string _ rfl _ _ _ _ rfl B 5 iv Tryz.underlying31 Tryz.underlying9 hiv hv0 hv1 hv2 v l xs rfl HO2.out T rfl (show l + T.size ≤ maxLen by unfold maxLen; omega) (show l + T.size ≤ 140737488355328 by omega) hz3 ?_; intro v' w5 hown' hgrow' _))
  go_ret
  refine ⟨v', rfl, ?_, below_app hb3 HO2.out (Nat.le_refl _) hz3 hgrow', kept_app0 hk2 HO2.out hgrow'⟩
  rw [← HW.out, bz_length, ← HZ.out]
  exact hown'
set_option maxRecDepth 100000 in
set_option maxHeartbeats 4000000 in
theorem app_string (k : Int) (h : k = 4) (ht : t.size ≤ 1048576) (hown : w.ownsRow B 5 1 v l xs) (hB : B ≤ w.heap.size) (hl : l ≤ 1099511627776) : Calls Tryz.prog 22 #[v, .agg #[.int .i64 k, .bool b, .int .i64 i, .float .f64 f, .string t, .string y, .slice A n c, .slice A' m c']] w (RowPost B l xs (quoteZ t.data.toList) w) := by
  have HO := Lib.hid hown
  subst h
  clear hown
  go_enter Tryz.func22, Tryz.ntmps22
  go_wp2_with fail
  have hb1 := (Below.refl B w).alloc hB (.cells #[.int .i64 4, .bool b, .int .i64 i, .float .f64 f, .string t, .string y, .slice A n c, .slice A' m c'] 27)
  have HO1 := Lib.hid (HO.out.alloc (.cells #[.int .i64 4, .bool b, .int .i64 i, .float .f64 f, .string t, .string y, .slice A n c, .slice A' m c'] 27))
  have hk1 := (Lib.OthersKept.refl 5 none w).alloc (.cells #[.int .i64 4, .bool b, .int .i64 i, .float .f64 f, .string t, .string y, .slice A n c, .slice A' m c'] 27)
  have hz1 := hb1.size
  generalize (w.alloc (.cells #[.int .i64 4, .bool b, .int .i64 i, .float .f64 f, .string t, .string y, .slice A n c, .slice A' m c'] 27)) = W1 at *
  refine (appendText_any t (by omega) B v l xs W1 HO1.out (by omega) hl).mono ?_
  rintro e w2 ⟨v2, rfl, ho2, hb2, hk2⟩
  have HO2 := Lib.hid ho2
  clear ho2
  go_wp2_with fail
  go_ret
  exact ⟨v2, rfl, HO2.out, hb1.trans hb2, hk1.trans hk2⟩
end
end Go.Proofs.YtagghdehbkbemaaGreatDoor.look
end
section
namespace Go.Proofs.YtagghdehbkbemaaGreatDoor.look
open Go.RowKit mem txt app smap val
attribute [local go_sem] run_store_float
set_option linter.unusedVariables false

theorem kept_box {a w : World} (h : Lib.OthersKept 5 none a w) {k : Nat} {cs : Array Value} {t : TypeId} (hk : a.heap[k]? = some (.cells cs t (0, 0))) (ht : t ≠ 5) : w.heap[k]? = some (.cells cs t (0, 0)) :=
  h k _ hk (by simp) (fun c fz e => by injection e with _ e2; exact ht e2)
theorem row_next {w : World} {B l : Nat} {v : Value} {xs : List Value} {out more : List Int} (h : w.ownsRow B 5 1 v (l + out.length + more.length) (xs ++ zs out ++ zs more)) : w.ownsRow B 5 1 v (l + (out ++ more).length) (xs ++ zs (out ++ more)) := by
  rw [List.length_append, ← Nat.add_assoc, zs_append, ← List.append_assoc]
  exact h
theorem pre_len {a b c : List Int} (h : a ++ b = c) : a.length + b.length = c.length := by rw [← h, List.length_append]
section
variable (b : Bool) (i : Int) (f : Nat) (t y : ByteArray) (A A' : Option Addr) (n m c c' : Nat) (B : Nat) (v : Value) (l : Nat) (xs : List Value) (w : World) (S : Nat → Prop)
set_option maxRecDepth 100000 in
set_option maxHeartbeats 4000000 in
theorem app_items (M : Nat) (hM : M ≤ 1099511627776) (is : List V) (hn : is.length = n) (hn2 : n ≤ 1048576) (hI : IsVs w S is A 0) (hS : Bel S B) (hown : w.ownsRow B 5 1 v l xs) (hB : B ≤ w.heap.size) (hl : l + ((91 : Int) :: (txs is ++ [93])).length ≤ M)
    (hc : ∀ (j : Nat) (x : V), is[j]? = some x → ∀ cs v l xs W, IsV W S x cs → Below B w W → W.ownsRow B 5 1 v l xs → B ≤ W.heap.size → l + (tx x).length ≤ M → Calls Tryz.prog 22 #[v, .agg cs.toArray] W (RowPost B l xs (tx x) W)) :
    Calls Tryz.prog 22 #[v, .agg #[.int .i64 5, .bool b, .int .i64 i, .float .f64 f, .string t, .string y, .slice A n c, .slice A' m c']] w (RowPost B l xs (91 :: (txs is ++ [93])) w) := by
  obtain ⟨iv, hiv, hv0, hv1, hv2⟩ := info_parts infoB
  have HO := Lib.hid hown
  have HI := Lib.hid hI
  have HS := Lib.hid hS
  have HC := Lib.hid hc
  have HN := Lib.hid hn
  have hlT : l + ((txs is).length + 2) ≤ M := by simp only [List.length_cons, List.length_append, List.length_nil] at hl; omega
  clear hown hI hS hc hn hl
  go_enter Tryz.func22, Tryz.ntmps22
  go_upto_region 1 with (fail)
  have gB := heap_alloc_new w (.cells #[.int .i64 5, .bool b, .int .i64 i, .float .f64 f, .string t, .string y, .slice A n c, .slice A' m c'] 27)
  have hb0 : Below B w (w.alloc (.cells #[.int .i64 5, .bool b, .int .i64 i, .float .f64 f, .string t, .string y, .slice A n c, .slice A' m c'] 27)) := (Below.refl _ _).alloc hB _
  have hk0 : Lib.OthersKept 5 none w (w.alloc (.cells #[.int .i64 5, .bool b, .int .i64 i, .float .f64 f, .string t, .string y, .slice A n c, .slice A' m c'] 27)) := (Lib.OthersKept.refl _ _ _).alloc _
  have hz0 : w.heap.size + 1 = (w.alloc (.cells #[.int .i64 5, .bool b, .int .i64 i, .float .f64 f, .string t, .string y, .slice A n c, .slice A' m c'] 27)).heap.size := by simp
  have HO0 := Lib.hid (HO.out.alloc (.cells #[.int .i64 5, .bool b, .int .i64 i, .float .f64 f, .string t, .string y, .slice A n c, .slice A' m c'] 27))
  generalize (w.alloc (.cells #[.int .i64 5, .bool b, .int .i64 i, .float .f64 f, .string t, .string y, .slice A n c, .slice A' m c'] 27)) = W0 at *
  clear HO
  obtain ⟨m0, m1, m2, m3, m4, m5, m6, m7⟩ := blk8 gB
  have GB := Lib.hid gB
  clear gB
  go_wp2_with (at_builtin; go_must (refine wpList_app _ rfl _ _ _ rfl B 5 iv (.int .u8 0) 1 1 Tryz.underlying31 hiv hv0 hv1 hv2 rfl (by omega) v l xs rfl (HO0.out.alloc _) (W0.heap.size + 1) (some ⟨W0.heap.size, 0, none⟩) 1 1 [.int .u8 91] rfl rfl (Rd.new W0 [.int .u8 91] 5) (by simp) (by intro u hu; simp at hu; subst hu; rfl) (by unfold maxLen; omega) (by omega) (by simp; omega) ?_; intro v1 w1 hown1 hgrow1 hat1; have HO1 := Lib.hid hown1; have HG1 := Lib.hid hgrow1; have hk1 := kept_app hk0 HO0.out HG1.out; have GB1 := Lib.hid (kept_box (kept_app (Lib.OthersKept.refl 5 none W0) HO0.out HG1.out) GB.out (by decide)); clear m0 m1 m2 m3 m4 m5 m6 m7; obtain ⟨m0, m1, m2, m3, m4, m5, m6, m7⟩ := blk8 GB1.out; clear hown1 hgrow1 hat1))
  have hb1 : Below B w w1 := below_app1 hb0 HO0.out (Nat.le_refl _) (by omega) HG1.out
  clear m0 m1 m2 m3 m4 m5 m6 m7 hb0 hk0 HO0 HG1
  go_loopw [0, 47] (fun v0 v47 wr => ∃ (q : Nat) (vv : Value) (done : List Int), q ≤ n ∧ v47 = .int .i64 (q : Int) ∧ vv = v0 ∧ Hid (wr.ownsRow B 5 1 vv (l + done.length) (xs ++ zs done)) ∧ Hid (done ++ tailS q (is.drop q) = 91 :: txs is) ∧ Below B w wr ∧ Lib.OthersKept 5 none w wr) (fun _ v _ => n - (intOf v).toNat)
  case atStart => exact ⟨0, _, [91], Nat.zero_le _, rfl, rfl, HO1, Lib.hid (by simp [tailS]), hb1, hk1⟩
  case round =>
    clear HO1 hb1 hk1 hz0 GB GB1
    obtain ⟨q, vv, done, hq, rfl, rfl, HOr, HAC, hbr, hkr⟩ := hrel
    have hzr : B ≤ wr.heap.size := by have := hbr.size; omega
    have hdl := pre_len HAC.out
    simp only [List.length_cons] at hdl
    by_cases hlt : q < n
    · have hil : q < is.length := by rw [HN.out]; exact hlt
      obtain ⟨x, hx⟩ : ∃ p, is[q]? = some p := ⟨_, List.getElem?_eq_getElem hil⟩
      obtain ⟨ad, cs, rfl, hadB, hcs, hvx⟩ := (HI.out.below HS.out hbr).at_ hx
      rw [Nat.zero_add] at hcs
      have HK := Lib.hid (HC.out q x hx)
      have hdr : is.drop q = x :: is.drop (q + 1) := by
        obtain ⟨h1, h2⟩ := List.getElem?_eq_some_iff.1 hx
        rw [List.drop_eq_getElem_cons h1, h2]
      have HST0 : Hid (q = 0 → tailS q (is.drop q) = tx x ++ tailS (q + 1) (is.drop (q + 1))) := Lib.hid fun h => by subst h; rw [hdr, tailS_first]
      have HST1 : Hid (0 < q → tailS q (is.drop q) = 44 :: (tx x ++ tailS (q + 1) (is.drop (q + 1)))) := Lib.hid fun h => by rw [hdr, tailS_more h]
      have hvx2 := Lib.hid hvx
      have hadr : ad.block < wr.heap.size := Nat.lt_of_lt_of_le (HS.out _ hadB) hzr
      obtain ⟨T, hT⟩ : ∃ T, tx x = T := ⟨_, rfl⟩
      rw [hT] at HK HST0 HST1
      clear hT
      obtain ⟨k2, b2, i2, f2, t2, y2, is2, fs2⟩ := x
      simp only [IsV] at hvx
      obtain ⟨A2, c2, A2', c2', rfl, _⟩ := hvx
      obtain ⟨d0, d1, d2, d3, d4, d5, d6, d7⟩ := hcs.eight
      clear hcs hx hil hdr
      obtain ⟨R, hR⟩ : ∃ R, tailS (q + 1) (is.drop (q + 1)) = R := ⟨_, rfl⟩
      rw [hR] at HST0 HST1
      have HR := Lib.hid hR
      clear hR
      obtain ⟨R0, hR0⟩ : ∃ R0, tailS q (is.drop q) = R0 := ⟨_, rfl⟩
      rw [hR0] at HST0 HST1 HAC hdl
      clear hR0
      have gM := heap_alloc_new wr (.cells #[.int .i64 k2, .bool b2, .int .i64 i2, .float .f64 f2, .string t2, .string y2, .slice A2 is2.length c2, .slice A2' fs2.length c2'] 27)
      have hbM : Below B w (wr.alloc (.cells #[.int .i64 k2, .bool b2, .int .i64 i2, .float .f64 f2, .string t2, .string y2, .slice A2 is2.length c2, .slice A2' fs2.length c2'] 27)) := hbr.alloc hzr _
      have hkM : Lib.OthersKept 5 none w (wr.alloc (.cells #[.int .i64 k2, .bool b2, .int .i64 i2, .float .f64 f2, .string t2, .string y2, .slice A2 is2.length c2, .slice A2' fs2.length c2'] 27)) := hkr.alloc _
      have hzM : wr.heap.size + 1 = (wr.alloc (.cells #[.int .i64 k2, .bool b2, .int .i64 i2, .float .f64 f2, .string t2, .string y2, .slice A2 is2.length c2, .slice A2' fs2.length c2'] 27)).heap.size := by simp
      have HOM := Lib.hid (HOr.out.alloc (.cells #[.int .i64 k2, .bool b2, .int .i64 i2, .float .f64 f2, .string t2, .string y2, .slice A2 is2.length c2, .slice A2' fs2.length c2'] 27))
      have HVM := Lib.hid (hvx2.out.below HS.out ((Below.refl B wr).alloc hzr (.cells #[.int .i64 k2, .bool b2, .int .i64 i2, .float .f64 f2, .string t2, .string y2, .slice A2 is2.length c2, .slice A2' fs2.length c2'] 27)))
      go_upto_region 17 with (fail)
      clear d0 d1 d2 d3 d4 d5 d6 d7
      generalize (wr.alloc (.cells #[.int .i64 k2, .bool b2, .int .i64 i2, .float .f64 f2, .string t2, .string y2, .slice A2 is2.length c2, .slice A2' fs2.length c2'] 27)) = W1 at *
      obtain ⟨d0, d1, d2, d3, d4, d5, d6, d7⟩ := blk8 gM
      have GM := Lib.hid gM
      clear gM
      rcases Nat.eq_zero_or_pos q with h0 | h0
      rotate_left
      · have hgt : decide ((q : Int) > 0) = true := decide_eq_true (by omega)
        have HE := Lib.hid (HST1.out h0)
        have hdl2 : R0.length = T.length + R.length + 1 := by rw [HE.out]; simp
        go_wp2_with (at_builtin; go_must (refine wpList_app _ rfl _ _ _ rfl B 5 iv (.int .u8 0) 1 1 Tryz.underlying31 hiv hv0 hv1 hv2 rfl (by omega) vv (l + done.length) (xs ++ zs done) rfl (HOM.out.alloc _) (W1.heap.size + 1) (some ⟨W1.heap.size, 0, none⟩) 1 1 [.int .u8 44] rfl rfl (Rd.new W1 [.int .u8 44] 5) (by simp) (by intro u hu; simp at hu; subst hu; rfl) (by unfold maxLen; omega) (by omega) (by simp; omega) ?_; intro v2 w2 hown2 hgrow2 hat2; have HG2 := Lib.hid hgrow2; have HO2 := Lib.hid (row_next (out := done) (more := [44]) hown2); have hb2 := below_app1 hbM HOM.out (Nat.le_refl _) (by omega) HG2.out; have hk2 := kept_app hkM HOM.out HG2.out; have GM2 := Lib.hid (kept_box (kept_app (Lib.OthersKept.refl 5 none W1) HOM.out HG2.out) GM.out (by decide)); have hb21 := below_app1 (Below.refl B W1) HOM.out (Nat.le_refl _) (by omega) HG2.out; clear d0 d1 d2 d3 d4 d5 d6 d7; obtain ⟨d0, d1, d2, d3, d4, d5, d6, d7⟩ := blk8 GM2.out; have hz2 := hb2.size; clear hown2 hgrow2 hat2))
        have HV2 := Lib.hid (HVM.out.below HS.out hb21)
        clear d0 d1 d2 d3 d4 d5 d6 d7 hb21 HVM hvx2
        refine (HK.out _ v2 (l + (done ++ [44]).length) (xs ++ zs (done ++ [44])) w2 HV2.out hb2 HO2.out (by omega) (by simp; omega)).mono ?_
        rintro e w6 ⟨v6, rfl, ho6, hb6, hk6⟩
        have HO6 := Lib.hid (row_next (out := done ++ [44]) (more := T) ho6)
        have hb7 : Below B w w6 := hb2.trans hb6
        have hk7 : Lib.OthersKept 5 none w w6 := hk2.trans hk6
        have HAC2 : Hid ((done ++ [44] ++ T) ++ tailS (q + 1) (is.drop (q + 1)) = 91 :: txs is) := Lib.hid (by rw [HR.out, ← HAC.out, HE.out]; simp)
        clear ho6 hb6 hk6 HO2 HE HAC HST0 HST1 HR HK hdl hdl2
        go_wp2_with fail
        exact ⟨⟨q + 1, _, done ++ [44] ++ T, by omega, by go_num, rfl, HO6, HAC2, hb7, hk7⟩, by simp [intOf]; omega⟩
      · have hgt : decide ((q : Int) > 0) = false := decide_eq_false (by omega)
        have HE := Lib.hid (HST0.out h0)
        have hdl2 : R0.length = T.length + R.length := by rw [HE.out]; simp
        go_wp2_with fail
        clear d0 d1 d2 d3 d4 d5 d6 d7 hvx2
        refine (HK.out _ vv (l + done.length) (xs ++ zs done) W1 HVM.out hbM HOM.out (by omega) (by omega)).mono ?_
        rintro e w6 ⟨v6, rfl, ho6, hb6, hk6⟩
        have HO6 := Lib.hid (row_next (out := done) (more := T) ho6)
        have hb7 : Below B w w6 := hbM.trans hb6
        have hk7 : Lib.OthersKept 5 none w w6 := hkM.trans hk6
        have HAC2 : Hid ((done ++ T) ++ tailS (q + 1) (is.drop (q + 1)) = 91 :: txs is) := Lib.hid (by rw [HR.out, ← HAC.out, HE.out]; simp)
        clear ho6 hb6 hk6 HE HAC HST0 HST1 HR HK hdl hdl2
        go_wp2_with fail
        exact ⟨⟨q + 1, _, done ++ T, by omega, by go_num, rfl, HO6, HAC2, hb7, hk7⟩, by simp [intOf]; omega⟩
    · obtain rfl : q = n := by omega
      have HE : Hid (done = 91 :: txs is) := Lib.hid (by rw [← HAC.out, List.drop_eq_nil_of_le (by rw [HN.out]; exact Nat.le_refl _), tailS_nil, List.append_nil])
      have hdl3 : done.length = (txs is).length + 1 := by rw [HE.out]; rfl
      clear HAC hdl
      go_wp2_with (at_builtin; go_must (refine wpList_app _ rfl _ _ _ rfl B 5 iv (.int .u8 0) 1 1 Tryz.underlying31 hiv hv0 hv1 hv2 rfl (by omega) vv (l + done.length) (xs ++ zs done) rfl (HOr.out.alloc _) (wr.heap.size + 1) (some ⟨wr.heap.size, 0, none⟩) 1 1 [.int .u8 93] rfl rfl (Rd.new wr [.int .u8 93] 5) (by simp) (by intro u hu; simp at hu; subst hu; rfl) (by unfold maxLen; omega) (by omega) (by simp; omega) ?_; intro v5 w5 hown5 hgrow5 hat5; have HO5 := Lib.hid hown5; have HG5 := Lib.hid hgrow5; clear hown5 hgrow5 hat5))
      go_ret
      exact ⟨v5, rfl, by rw [show (91 : Int) :: (txs is ++ [93]) = done ++ [93] by rw [HE.out]; rfl]; exact row_next (out := done) (more := [93]) HO5.out, below_app1 hbr HOr.out (Nat.le_refl _) (by omega) HG5.out, kept_app hkr HOr.out HG5.out⟩
end
end Go.Proofs.YtagghdehbkbemaaGreatDoor.look
end
section
namespace Go.Proofs.YtagghdehbkbemaaGreatDoor.look
open Go.RowKit mem txt app smap val
attribute [local go_sem] run_store_float
set_option linter.unusedVariables false

theorem blk9 {w : World} {g : Nat} {t : TypeId} {s c0 c1 c2 c3 c4 c5 c6 c7 : Value} (h : w.heap[g]? = some (.cells #[s, c0, c1, c2, c3, c4, c5, c6, c7] t (0, 0))) :
    w.cell? ⟨g, 0, none⟩ = some s ∧ w.cell? ⟨g, 1, none⟩ = some c0 ∧ w.cell? ⟨g, 2, none⟩ = some c1 ∧ w.cell? ⟨g, 3, none⟩ = some c2 ∧ w.cell? ⟨g, 4, none⟩ = some c3 ∧ w.cell? ⟨g, 5, none⟩ = some c4 ∧ w.cell? ⟨g, 6, none⟩ = some c5 ∧ w.cell? ⟨g, 7, none⟩ = some c6 ∧ w.cell? ⟨g, 8, none⟩ = some c7 :=
  ⟨cell_of_row w g 0 _ t (0, 0) h, cell_of_row w g 1 _ t (0, 0) h, cell_of_row w g 2 _ t (0, 0) h, cell_of_row w g 3 _ t (0, 0) h, cell_of_row w g 4 _ t (0, 0) h, cell_of_row w g 5 _ t (0, 0) h, cell_of_row w g 6 _ t (0, 0) h, cell_of_row w g 7 _ t (0, 0) h, cell_of_row w g 8 _ t (0, 0) h⟩
section
variable (b : Bool) (i : Int) (f : Nat) (t y : ByteArray) (A A' : Option Addr) (n m c c' : Nat) (B : Nat) (v : Value) (l : Nat) (xs : List Value) (w : World) (S : Nat → Prop)
set_option maxRecDepth 100000 in
set_option maxHeartbeats 4000000 in
theorem app_members (M : Nat) (hM : M ≤ 1099511627776) (fs : List (ByteArray × V)) (hn : fs.length = m) (hn2 : m ≤ 1048576) (hI : IsFs w S fs A' 0) (hS : Bel S B) (hok : okf fs) (hown : w.ownsRow B 5 1 v l xs) (hB : B ≤ w.heap.size) (hl : l + ((123 : Int) :: (txf fs ++ [125])).length ≤ M)
    (hc : ∀ (j : Nat) (s : ByteArray) (x : V), fs[j]? = some (s, x) → ∀ cs v l xs W, IsV W S x cs → Below B w W → W.ownsRow B 5 1 v l xs → B ≤ W.heap.size → l + (tx x).length ≤ M → Calls Tryz.prog 22 #[v, .agg cs.toArray] W (RowPost B l xs (tx x) W)) :
    Calls Tryz.prog 22 #[v, .agg #[.int .i64 6, .bool b, .int .i64 i, .float .f64 f, .string t, .string y, .slice A n c, .slice A' m c']] w (RowPost B l xs (123 :: (txf fs ++ [125])) w) := by
  obtain ⟨iv, hiv, hv0, hv1, hv2⟩ := info_parts infoB
  have HO := Lib.hid hown
  have HI := Lib.hid hI
  have HS := Lib.hid hS
  have HC := Lib.hid hc
  have HN := Lib.hid hn
  have HOK := Lib.hid hok
  have hlT : l + ((txf fs).length + 2) ≤ M := by simp only [List.length_cons, List.length_append, List.length_nil] at hl; omega
  clear hown hI hS hc hn hl hok
  go_enter Tryz.func22, Tryz.ntmps22
  go_upto_region 1 with (fail)
  have gB := heap_alloc_new w (.cells #[.int .i64 6, .bool b, .int .i64 i, .float .f64 f, .string t, .string y, .slice A n c, .slice A' m c'] 27)
  have hb0 : Below B w (w.alloc (.cells #[.int .i64 6, .bool b, .int .i64 i, .float .f64 f, .string t, .string y, .slice A n c, .slice A' m c'] 27)) := (Below.refl _ _).alloc hB _
  have hk0 : Lib.OthersKept 5 none w (w.alloc (.cells #[.int .i64 6, .bool b, .int .i64 i, .float .f64 f, .string t, .string y, .slice A n c, .slice A' m c'] 27)) := (Lib.OthersKept.refl _ _ _).alloc _
  have hz0 : w.heap.size + 1 = (w.alloc (.cells #[.int .i64 6, .bool b, .int .i64 i, .float .f64 f, .string t, .string y, .slice A n c, .slice A' m c'] 27)).heap.size := by simp
  have HO0 := Lib.hid (HO.out.alloc (.cells #[.int .i64 6, .bool b, .int .i64 i, .float .f64 f, .string t, .string y, .slice A n c, .slice A' m c'] 27))
  generalize (w.alloc (.cells #[.int .i64 6, .bool b, .int .i64 i, .float .f64 f, .string t, .string y, .slice A n c, .slice A' m c'] 27)) = W0 at *
  clear HO
  obtain ⟨m0, m1, m2, m3, m4, m5, m6, m7⟩ := blk8 gB
  have GB := Lib.hid gB
  clear gB
  go_wp2_with (at_builtin; go_must (refine wpList_app _ rfl _ _ _ rfl B 5 iv (.int .u8 0) 1 1 Tryz.underlying31 hiv hv0 hv1 hv2 rfl (by omega) v l xs rfl (HO0.out.alloc _) (W0.heap.size + 1) (some ⟨W0.heap.size, 0, none⟩) 1 1 [.int .u8 123] rfl rfl (Rd.new W0 [.int .u8 123] 5) (by simp) (by intro u hu; simp at hu; subst hu; rfl) (by unfold maxLen; omega) (by omega) (by simp; omega) ?_; intro v1 w1 hown1 hgrow1 hat1; have HO1 := Lib.hid hown1; have HG1 := Lib.hid hgrow1; have hk1 := kept_app hk0 HO0.out HG1.out; have GB1 := Lib.hid (kept_box (kept_app (Lib.OthersKept.refl 5 none W0) HO0.out HG1.out) GB.out (by decide)); clear m0 m1 m2 m3 m4 m5 m6 m7; obtain ⟨m0, m1, m2, m3, m4, m5, m6, m7⟩ := blk8 GB1.out; clear hown1 hgrow1 hat1))
  have hb1 : Below B w w1 := below_app1 hb0 HO0.out (Nat.le_refl _) (by omega) HG1.out
  clear m0 m1 m2 m3 m4 m5 m6 m7 hb0 hk0 HO0 HG1
  go_loopw [0, 72] (fun v0 v47 wr => ∃ (q : Nat) (vv : Value) (done : List Int), q ≤ m ∧ v47 = .int .i64 (q : Int) ∧ vv = v0 ∧ Hid (wr.ownsRow B 5 1 vv (l + done.length) (xs ++ zs done)) ∧ Hid (done ++ tailF q (fs.drop q) = 123 :: txf fs) ∧ Below B w wr ∧ Lib.OthersKept 5 none w wr) (fun _ v _ => m - (intOf v).toNat)
  case atStart => exact ⟨0, _, [123], Nat.zero_le _, rfl, rfl, HO1, Lib.hid (by simp [tailF]), hb1, hk1⟩
  case round =>
    clear HO1 hb1 hk1 hz0 GB GB1
    obtain ⟨q, vv, done, hq, rfl, rfl, HOr, HAC, hbr, hkr⟩ := hrel
    have hzr : B ≤ wr.heap.size := by have := hbr.size; omega
    have hdl := pre_len HAC.out
    simp only [List.length_cons] at hdl
    by_cases hlt : q < m
    · have hil : q < fs.length := by rw [HN.out]; exact hlt
      obtain ⟨p, hx⟩ : ∃ p, fs[q]? = some p := ⟨_, List.getElem?_eq_getElem hil⟩
      obtain ⟨s, x⟩ := p
      obtain ⟨ad, cs, rfl, hadB, hcs, hvx⟩ := (HI.out.below HS.out hbr).at_ hx
      rw [Nat.zero_add] at hcs
      simp only at hcs hvx
      have hsz := (okf_get HOK.out hx).1
      simp only at hsz
      have HK := Lib.hid (HC.out q s x hx)
      have hdr : fs.drop q = (s, x) :: fs.drop (q + 1) := by
        obtain ⟨h1, h2⟩ := List.getElem?_eq_some_iff.1 hx
        rw [List.drop_eq_getElem_cons h1, h2]
      have HST0 : Hid (q = 0 → tailF q (fs.drop q) = quoteZ s.data.toList ++ (58 :: (tx x ++ tailF (q + 1) (fs.drop (q + 1))))) := Lib.hid fun h => by subst h; rw [hdr, tailF_first]
      have HST1 : Hid (0 < q → tailF q (fs.drop q) = 44 :: (quoteZ s.data.toList ++ (58 :: (tx x ++ tailF (q + 1) (fs.drop (q + 1)))))) := Lib.hid fun h => by rw [hdr, tailF_more h]
      have hvx2 := Lib.hid hvx
      have hadr : ad.block < wr.heap.size := Nat.lt_of_lt_of_le (HS.out _ hadB) hzr
      obtain ⟨T, hT⟩ : ∃ T, tx x = T := ⟨_, rfl⟩
      rw [hT] at HK HST0 HST1
      clear hT
      obtain ⟨Q, hQ⟩ : ∃ Q, quoteZ s.data.toList = Q := ⟨_, rfl⟩
      have HAT := Lib.hid (fun v n xs W ho hB hn => appendText_any s (by omega) B v n xs W ho hB hn)
      rw [hQ] at HST0 HST1 HAT
      clear hQ
      obtain ⟨k2, b2, i2, f2, t2, y2, is2, fs2⟩ := x
      simp only [IsV] at hvx
      obtain ⟨A2, c2, A2', c2', rfl, _⟩ := hvx
      obtain ⟨d0, d1, d2, d3, d4, d5, d6, d7, d8⟩ := hcs.nine
      clear hcs hx hil hdr
      obtain ⟨R, hR⟩ : ∃ R, tailF (q + 1) (fs.drop (q + 1)) = R := ⟨_, rfl⟩
      rw [hR] at HST0 HST1
      have HR := Lib.hid hR
      clear hR
      obtain ⟨R0, hR0⟩ : ∃ R0, tailF q (fs.drop q) = R0 := ⟨_, rfl⟩
      rw [hR0] at HST0 HST1 HAC hdl
      clear hR0
      have gM := heap_alloc_new wr (.cells #[.string s, .int .i64 k2, .bool b2, .int .i64 i2, .float .f64 f2, .string t2, .string y2, .slice A2 is2.length c2, .slice A2' fs2.length c2'] 41)
      have hbM : Below B w (wr.alloc (.cells #[.string s, .int .i64 k2, .bool b2, .int .i64 i2, .float .f64 f2, .string t2, .string y2, .slice A2 is2.length c2, .slice A2' fs2.length c2'] 41)) := hbr.alloc hzr _
      have hkM : Lib.OthersKept 5 none w (wr.alloc (.cells #[.string s, .int .i64 k2, .bool b2, .int .i64 i2, .float .f64 f2, .string t2, .string y2, .slice A2 is2.length c2, .slice A2' fs2.length c2'] 41)) := hkr.alloc _
      have hzM : wr.heap.size + 1 = (wr.alloc (.cells #[.string s, .int .i64 k2, .bool b2, .int .i64 i2, .float .f64 f2, .string t2, .string y2, .slice A2 is2.length c2, .slice A2' fs2.length c2'] 41)).heap.size := by simp
      have HOM := Lib.hid (HOr.out.alloc (.cells #[.string s, .int .i64 k2, .bool b2, .int .i64 i2, .float .f64 f2, .string t2, .string y2, .slice A2 is2.length c2, .slice A2' fs2.length c2'] 41))
      have HVM := Lib.hid (hvx2.out.below HS.out ((Below.refl B wr).alloc hzr (.cells #[.string s, .int .i64 k2, .bool b2, .int .i64 i2, .float .f64 f2, .string t2, .string y2, .slice A2 is2.length c2, .slice A2' fs2.length c2'] 41)))
      go_upto_region 27 with (fail)
      clear d0 d1 d2 d3 d4 d5 d6 d7 d8
      generalize (wr.alloc (.cells #[.string s, .int .i64 k2, .bool b2, .int .i64 i2, .float .f64 f2, .string t2, .string y2, .slice A2 is2.length c2, .slice A2' fs2.length c2'] 41)) = W1 at *
      obtain ⟨d0, d1, d2, d3, d4, d5, d6, d7, d8⟩ := blk9 gM
      have GM := Lib.hid gM
      clear gM
      rcases Nat.eq_zero_or_pos q with h0 | h0
      rotate_left
      · have hgt : decide ((q : Int) > 0) = true := decide_eq_true (by omega)
        have HE := Lib.hid (HST1.out h0)
        have hdl2 : R0.length = Q.length + T.length + R.length + 2 := by rw [HE.out]; simp; omega
        go_wp2_with (at_builtin; go_must (refine wpList_app _ rfl (.tmp 79) (.tmp 80) _ rfl B 5 iv (.int .u8 0) 1 1 Tryz.underlying31 hiv hv0 hv1 hv2 rfl (by omega) vv (l + done.length) (xs ++ zs done) rfl (HOM.out.alloc _) (W1.heap.size + 1) (some ⟨W1.heap.size, 0, none⟩) 1 1 [.int .u8 44] rfl rfl (Rd.new W1 [.int .u8 44] 5) (by simp) (by intro u hu; simp at hu; subst hu; rfl) (by unfold maxLen; omega) (by omega) (by simp; omega) ?_; intro v2 w2 hown2 hgrow2 hat2; have HG2 := Lib.hid hgrow2; have HO2 := Lib.hid (row_next (out := done) (more := [44]) hown2); have hb2 := below_app1 hbM HOM.out (Nat.le_refl _) (by omega) HG2.out; have hk2 := kept_app hkM HOM.out HG2.out; have GM2 := Lib.hid (kept_box (kept_app (Lib.OthersKept.refl 5 none W1) HOM.out HG2.out) GM.out (by decide)); have hb21 := below_app1 (Below.refl B W1) HOM.out (Nat.le_refl _) (by omega) HG2.out; clear d0 d1 d2 d3 d4 d5 d6 d7 d8; obtain ⟨d0, d1, d2, d3, d4, d5, d6, d7, d8⟩ := blk9 GM2.out; have hz2 := hb2.size; clear hown2 hgrow2 hat2))
        have HV2 := Lib.hid (HVM.out.below HS.out hb21)
        clear hb21 HVM hvx2
        refine (HAT.out v2 (l + (done ++ [44]).length) (xs ++ zs (done ++ [44])) w2 HO2.out (by omega) (by simp; omega)).mono ?_
        rintro e w3 ⟨v3, rfl, ho3, hb3, hk3⟩
        have HO3 := Lib.hid (row_next (out := done ++ [44]) (more := Q) ho3)
        have GM3 := Lib.hid (kept_box hk3 GM2.out (by decide))
        have HV3 := Lib.hid (HV2.out.below HS.out hb3)
        clear d0 d1 d2 d3 d4 d5 d6 d7 d8
        obtain ⟨d0, d1, d2, d3, d4, d5, d6, d7, d8⟩ := blk9 GM3.out
        have hb4 : Below B w w3 := hb2.trans hb3
        have hk4 : Lib.OthersKept 5 none w w3 := hk2.trans hk3
        have hz3 : B ≤ w3.heap.size := by have := hb4.size; omega
        have hl3 : (done ++ [44] ++ Q).length = done.length + 1 + Q.length := by simp; omega
        clear ho3 hb3 hk3 hb2 hk2 HV2 GM2 HO2
        go_wp2_with (at_builtin; go_must (refine wpList_app _ rfl (.tmp 85) (.tmp 86) _ rfl B 5 iv (.int .u8 0) 1 1 Tryz.underlying31 hiv hv0 hv1 hv2 rfl (by omega) v3 (l + (done ++ [44] ++ Q).length) (xs ++ zs (done ++ [44] ++ Q)) rfl (HO3.out.alloc _) (w3.heap.size + 1) (some ⟨w3.heap.size, 0, none⟩) 1 1 [.int .u8 58] rfl rfl (Rd.new w3 [.int .u8 58] 5) (by simp) (by intro u hu; simp at hu; subst hu; rfl) (by unfold maxLen; omega) (by omega) (by simp; omega) ?_; intro v4 w4 hown4 hgrow4 hat4; have HG4 := Lib.hid hgrow4; have HO4 := Lib.hid (row_next (out := done ++ [44] ++ Q) (more := [58]) hown4); have hb5 := below_app1 hb4 HO3.out (Nat.le_refl _) (by omega) HG4.out; have hk5 := kept_app hk4 HO3.out HG4.out; have GM4 := Lib.hid (kept_box (kept_app (Lib.OthersKept.refl 5 none w3) HO3.out HG4.out) GM3.out (by decide)); have hb41 := below_app1 (Below.refl B w3) HO3.out (Nat.le_refl _) (by omega) HG4.out; clear d0 d1 d2 d3 d4 d5 d6 d7 d8; obtain ⟨d0, d1, d2, d3, d4, d5, d6, d7, d8⟩ := blk9 GM4.out; have hz4 : B ≤ w4.heap.size := Nat.le_trans hB hb5.size; clear hown4 hgrow4 hat4))
        have HV4 := Lib.hid (HV3.out.below HS.out hb41)
        clear d0 d1 d2 d3 d4 d5 d6 d7 d8 hb41 HV3
        refine (HK.out _ v4 (l + (done ++ [44] ++ Q ++ [58]).length) (xs ++ zs (done ++ [44] ++ Q ++ [58])) w4 HV4.out hb5 HO4.out hz4 (by simp; omega)).mono ?_
        rintro e w6 ⟨v6, rfl, ho6, hb6, hk6⟩
        have HO6 := Lib.hid (row_next (out := done ++ [44] ++ Q ++ [58]) (more := T) ho6)
        have hb7 : Below B w w6 := hb5.trans hb6
        have hk7 : Lib.OthersKept 5 none w w6 := hk5.trans hk6
        have HAC2 : Hid ((done ++ [44] ++ Q ++ [58] ++ T) ++ tailF (q + 1) (fs.drop (q + 1)) = 123 :: txf fs) := Lib.hid (by rw [HR.out, ← HAC.out, HE.out]; simp)
        clear ho6 hb6 hk6 HO4 HE HAC HST0 HST1 HR HK hdl hdl2 hl3 HAT
        go_wp2_with fail
        exact ⟨⟨q + 1, _, done ++ [44] ++ Q ++ [58] ++ T, by omega, by go_num, rfl, HO6, HAC2, hb7, hk7⟩, by simp [intOf]; omega⟩
      · have hgt : decide ((q : Int) > 0) = false := decide_eq_false (by omega)
        have HE := Lib.hid (HST0.out h0)
        have hdl2 : R0.length = Q.length + T.length + R.length + 1 := by rw [HE.out]; simp; omega
        go_wp2_with fail
        clear hvx2
        refine (HAT.out vv (l + done.length) (xs ++ zs done) W1 HOM.out (by omega) (by omega)).mono ?_
        rintro e w3 ⟨v3, rfl, ho3, hb3, hk3⟩
        have HO3 := Lib.hid (row_next (out := done) (more := Q) ho3)
        have GM3 := Lib.hid (kept_box hk3 GM.out (by decide))
        have HV3 := Lib.hid (HVM.out.below HS.out hb3)
        clear d0 d1 d2 d3 d4 d5 d6 d7 d8
        obtain ⟨d0, d1, d2, d3, d4, d5, d6, d7, d8⟩ := blk9 GM3.out
        have hb4 : Below B w w3 := hbM.trans hb3
        have hk4 : Lib.OthersKept 5 none w w3 := hkM.trans hk3
        have hz3 : B ≤ w3.heap.size := by have := hb4.size; omega
        have hl3 : (done ++ Q).length = done.length + Q.length := by simp
        clear ho3 hb3 hk3 hbM hkM HVM GM HOM
        go_wp2_with (at_builtin; go_must (refine wpList_app _ rfl (.tmp 85) (.tmp 86) _ rfl B 5 iv (.int .u8 0) 1 1 Tryz.underlying31 hiv hv0 hv1 hv2 rfl (by omega) v3 (l + (done ++ Q).length) (xs ++ zs (done ++ Q)) rfl (HO3.out.alloc _) (w3.heap.size + 1) (some ⟨w3.heap.size, 0, none⟩) 1 1 [.int .u8 58] rfl rfl (Rd.new w3 [.int .u8 58] 5) (by simp) (by intro u hu; simp at hu; subst hu; rfl) (by unfold maxLen; omega) (by omega) (by simp; omega) ?_; intro v4 w4 hown4 hgrow4 hat4; have HG4 := Lib.hid hgrow4; have HO4 := Lib.hid (row_next (out := done ++ Q) (more := [58]) hown4); have hb5 := below_app1 hb4 HO3.out (Nat.le_refl _) (by omega) HG4.out; have hk5 := kept_app hk4 HO3.out HG4.out; have GM4 := Lib.hid (kept_box (kept_app (Lib.OthersKept.refl 5 none w3) HO3.out HG4.out) GM3.out (by decide)); have hb41 := below_app1 (Below.refl B w3) HO3.out (Nat.le_refl _) (by omega) HG4.out; clear d0 d1 d2 d3 d4 d5 d6 d7 d8; obtain ⟨d0, d1, d2, d3, d4, d5, d6, d7, d8⟩ := blk9 GM4.out; have hz4 : B ≤ w4.heap.size := Nat.le_trans hB hb5.size; clear hown4 hgrow4 hat4))
        have HV4 := Lib.hid (HV3.out.below HS.out hb41)
        clear d0 d1 d2 d3 d4 d5 d6 d7 d8 hb41 HV3
        refine (HK.out _ v4 (l + (done ++ Q ++ [58]).length) (xs ++ zs (done ++ Q ++ [58])) w4 HV4.out hb5 HO4.out hz4 (by simp; omega)).mono ?_
        rintro e w6 ⟨v6, rfl, ho6, hb6, hk6⟩
        have HO6 := Lib.hid (row_next (out := done ++ Q ++ [58]) (more := T) ho6)
        have hb7 : Below B w w6 := hb5.trans hb6
        have hk7 : Lib.OthersKept 5 none w w6 := hk5.trans hk6
        have HAC2 : Hid ((done ++ Q ++ [58] ++ T) ++ tailF (q + 1) (fs.drop (q + 1)) = 123 :: txf fs) := Lib.hid (by rw [HR.out, ← HAC.out, HE.out]; simp)
        clear ho6 hb6 hk6 HO4 HE HAC HST0 HST1 HR HK hdl hdl2 hl3 HAT
        go_wp2_with fail
        exact ⟨⟨q + 1, _, done ++ Q ++ [58] ++ T, by omega, by go_num, rfl, HO6, HAC2, hb7, hk7⟩, by simp [intOf]; omega⟩
    · obtain rfl : q = m := by omega
      have HE : Hid (done = 123 :: txf fs) := Lib.hid (by rw [← HAC.out, List.drop_eq_nil_of_le (by rw [HN.out]; exact Nat.le_refl _), tailF_nil, List.append_nil])
      have hdl3 : done.length = (txf fs).length + 1 := by rw [HE.out]; rfl
      clear HAC hdl
      go_wp2_with (at_builtin; go_must (refine wpList_app _ rfl _ _ _ rfl B 5 iv (.int .u8 0) 1 1 Tryz.underlying31 hiv hv0 hv1 hv2 rfl (by omega) vv (l + done.length) (xs ++ zs done) rfl (HOr.out.alloc _) (wr.heap.size + 1) (some ⟨wr.heap.size, 0, none⟩) 1 1 [.int .u8 125] rfl rfl (Rd.new wr [.int .u8 125] 5) (by simp) (by intro u hu; simp at hu; subst hu; rfl) (by unfold maxLen; omega) (by omega) (by simp; omega) ?_; intro v5 w5 hown5 hgrow5 hat5; have HO5 := Lib.hid hown5; have HG5 := Lib.hid hgrow5; clear hown5 hgrow5 hat5))
      go_ret
      exact ⟨v5, rfl, by rw [show (123 : Int) :: (txf fs ++ [125]) = done ++ [125] by rw [HE.out]; rfl]; exact row_next (out := done) (more := [125]) HO5.out, below_app1 hbr HOr.out (Nat.le_refl _) (by omega) HG5.out, kept_app hkr HOr.out HG5.out⟩
end

/-- the tables stand where all below B stands -/
theorem Env.keep {w w' : World} {B : Nat} (h : Env w) (hB : 8 < B) (hb : Below B w w') : Env w' := by
  obtain ⟨⟨h1, h2⟩, h3, h4, h5⟩ := h
  refine ⟨⟨fun c hc => (hb.cell (p := ⟨_, c, none⟩) (by show _ < B; simp [shelf.laysValid_ren]; omega)).trans (h1 c hc), fun i hi => ⟨(hb.cell (p := ⟨_, 2 * i, none⟩) (by show _ < B; simp [shelf.laysValid_ren]; omega)).trans (h2 i hi).1, (hb.cell (p := ⟨_, 2 * i + 1, none⟩) (by show _ < B; simp [shelf.laysValid_ren]; omega)).trans (h2 i hi).2⟩⟩, ?_⟩
  refine ⟨fun i hi => ⟨(hb.cell (p := ⟨5, i * 2, none⟩) (by show 5 < B; omega)).trans (h3 i hi).1, (hb.cell (p := ⟨5, i * 2 + 1, none⟩) (by show 5 < B; omega)).trans (h3 i hi).2⟩, Nat.lt_of_lt_of_le h4 hb.size, ?_⟩
  unfold Lib.TabIs World.var? at *
  have hg : Tryz.prog.globalNamed "internal/strconv.uint64pow10" = some 4 := by kernel_rfl
  rw [hg] at h5 ⊢
  simp only [Option.bind_some] at h5 ⊢
  rw [hb.block _ (by omega)]
  exact h5

/-- appendValue, whatever the value -/
theorem appendValue_any : ∀ (N : Nat) (x : V), sz x ≤ N → N ≤ 1048576 → ok x → ∀ (cs : List Value) (B : Nat) (v : Value) (l : Nat) (xs : List Value) (w : World) (S : Nat → Prop), IsV w S x cs → Bel S B → 8 < B → Env w → w.ownsRow B 5 1 v l xs → B ≤ w.heap.size → l + (tx x).length ≤ 1099511627776 →
    Calls Tryz.prog 22 #[v, .agg cs.toArray] w (RowPost B l xs (tx x) w) := by
  intro N
  induction N with
  | zero => intro v hv; have := sz_pos v; omega
  | succ N ih =>
    intro x hv hN hok cs B v l xs w S hV hS hB13 hE hown hB hl
    obtain ⟨k, b, i, f, t, y, is, fs⟩ := x
    simp only [IsV] at hV
    obtain ⟨A, c, A', c', rfl, hA, hA', his, hfs⟩ := hV
    simp only [sz] at hv
    simp only [ok] at hok
    obtain ⟨⟨hi1, hi2, hf, ht, hy⟩, hos, hof⟩ := hok
    have hl1 := szs_len is
    have hl2 := szf_len fs
    have hl0 : l ≤ 1099511627776 := by omega
    simp only [tx] at hl ⊢
    by_cases c1 : k = 1
    · rw [if_pos c1]
      exact app_bool b i f t y A A' _ _ c c' B v l xs w k c1 hown hB hl0
    rw [if_neg c1] at hl ⊢
    by_cases c2 : k = 2
    · rw [if_pos c2]
      exact app_int b i f t y A A' _ _ c c' B v l xs w k c2 hi1 hi2 hE hown hB hl0
    rw [if_neg c2] at hl ⊢
    by_cases c3 : k = 3
    · rw [if_pos c3]
      exact app_float b i f t y A A' _ _ c c' B v l xs w k c3 hf hE hown hB hl0
    rw [if_neg c3] at hl ⊢
    by_cases c4 : k = 4
    · rw [if_pos c4]
      exact app_string b i f t y A A' _ _ c c' B v l xs w k c4 ht hown hB hl0
    rw [if_neg c4] at hl ⊢
    by_cases c5 : k = 5
    · rw [if_pos c5] at hl ⊢
      subst c5
      exact app_items b i f t y A A' _ _ c c' B v l xs w S 1099511627776 (Nat.le_refl _) is rfl (by omega) his hS hown hB hl
        (fun j x hx cs v l xs W hV hW ho hB hl => ih x (by have := szs_get hx; omega) (by omega) (oks_get hos hx) cs B v l xs W S hV hS hB13 (hE.keep hB13 hW) ho hB hl)
    rw [if_neg c5] at hl ⊢
    by_cases c6 : k = 6
    · rw [if_pos c6] at hl ⊢
      subst c6
      exact app_members b i f t y A A' _ _ c c' B v l xs w S 1099511627776 (Nat.le_refl _) fs rfl (by omega) hfs hS hof hown hB hl
        (fun j s x hx cs v l xs W hV hW ho hB hl => ih x (by have := szf_get hx; simp only at this; omega) (by omega) (okf_get hof hx).2 cs B v l xs W S hV hS hB13 (hE.keep hB13 hW) ho hB hl)
    rw [if_neg c6]
    exact app_null b i f t y A A' _ _ c c' B v l xs w k (by omega) hown hB hl0
end Go.Proofs.YtagghdehbkbemaaGreatDoor.look
end
