/- number.Same of finite floats; tree.plain of values of one kind. tree.Equal, by kinds. -/
import Derived.Test.YthlncdcfppehcaaDoorGInj1
import Derived.Test.YthlncdcfppehcaaDoorGRfu
import Derived.Test.YthlncdcfppehcaaDoorGOwn
import Derived.Test.YthlncdcfppehcaaDoorGBld1
import Derived.Handy
import Derived.WalkSpells
import Derived.WalkLawsBesides
import Derived.Deep.DeepMust
import Derived.Deep.RegionHeld3
import Derived.Deep.RegionLaw
import Derived.Deep.RegionWith
import Derived.Deep.Cut
import Derived.Deep.CutRange
section
namespace Go.Proofs.YthlncdcfppehcaaDoor.look
open Go.RowKit mem txt app smap val
attribute [local go_sem] run_store_float
set_option linter.unusedVariables false

def EqPost (r : Bool) (w : World) (e : Ending) (w' : World) : Prop := e = .returned (.bool r) ∧ Below w.heap.size w w'
theorem fin_half {f : Nat} (hf : f < 18446744073709551616) (hi : f % 9223372036854775808 < 9218868437227405312) : ∃ (s : Bool) (a : Nat), f = a + big.sgn s ∧ a < 9218868437227405312 := by
  obtain ⟨s, a, rfl, ha⟩ := pg.half_of f hf
  have hm : (a + big.sgn s) % 9223372036854775808 = a := by cases s <;> simp [big.sgn] <;> omega
  exact ⟨s, a, rfl, by omega⟩
set_option maxRecDepth 100000 in
theorem nsame_any (f g : Nat) (hf : f < 18446744073709551616) (hi : f % 9223372036854775808 < 9218868437227405312) (hg : g < 18446744073709551616) (hj : g % 9223372036854775808 < 9218868437227405312) (w : World) :
    Calls Tryd.prog 37 #[.float .f64 f, .float .f64 g] w (EqPost (decide (f = g)) w) := by
  obtain ⟨s, a, rfl, ha⟩ := fin_half hf hi
  obtain ⟨s', a', rfl, ha'⟩ := fin_half hg hj
  have H1 := Lib.hid (fun w => pg.isNaN_any s a w (by omega))
  have H2 := Lib.hid (fun w => pg.isNaN_any s' a' w (by omega))
  rw [decide_eq_false (show ¬ 9218868437227405312 < a by omega)] at H1
  rw [decide_eq_false (show ¬ 9218868437227405312 < a' by omega)] at H2
  clear hf hi hg hj ha ha'
  generalize a + big.sgn s = x at *
  generalize a' + big.sgn s' = z at *
  obtain ⟨r, hr⟩ : ∃ r, decide (x = z) = r := ⟨_, rfl⟩
  have hrr : ((x : Int) == (z : Int)) = r := by
    rw [← hr]
    by_cases h : x = z
    · rw [h]; simp
    · rw [decide_eq_false h]; exact beq_false_of_ne (by omega)
  rw [hr]
  clear hr
  go_enter Tryd.func37, Tryd.ntmps37
  go_wp2_with fail
  refine (H1.out _).mono ?_
  rintro e w1 ⟨rfl, rfl⟩
  go_wp2_with fail
  refine (H2.out _).mono ?_
  rintro e w1 ⟨rfl, rfl⟩
  go_wp2_with fail
  rw [pg.run_f64bits]
  go_wp2_with fail
  rw [pg.run_f64bits]
  go_wp2_with fail
  go_ret
  exact ⟨by simp, Below.refl _ _⟩
theorem two_alloc (w : World) (o1 o2 : Obj) {W : World} (hW : (w.alloc o1).alloc o2 = W) : W.heap[w.heap.size]? = some o1 ∧ W.heap[w.heap.size + 1]? = some o2 ∧ Below w.heap.size w W ∧ w.heap.size + 2 = W.heap.size := by
  subst hW
  exact ⟨blk_alloc (heap_alloc_new _ _) _, by simpa using heap_alloc_new (w.alloc o1) o2, ((Below.refl w.heap.size w).alloc (Nat.le_refl _) _).alloc (by simp) _, by simp⟩
section
variable (b b2 : Bool) (i i2 : Int) (f f2 : Nat) (t y t2 y2 : ByteArray) (A A' E E' : Option Addr) (n m c c' n2 m2 e e' : Nat) (w : World)
set_option maxRecDepth 100000 in
set_option maxHeartbeats 2000000 in
theorem plain_null (k : Int) (hk : k = 0) : Calls Tryd.prog 25 #[.agg #[.int .i64 k, .bool b, .int .i64 i, .float .f64 f, .string t, .string y, .slice A n c, .slice A' m c'], .agg #[.int .i64 k, .bool b2, .int .i64 i2, .float .f64 f2, .string t2, .string y2, .slice E n2 e, .slice E' m2 e']] w (EqPost (true) w) := by
  have q1 : (k == 1) = false := by rw [hk]; rfl
  have q2 : (k == 2) = false := by rw [hk]; rfl
  have q3 : (k == 3) = false := by rw [hk]; rfl
  have q4 : (k == 4) = false := by rw [hk]; rfl
  have q7 : (k == 7) = false := by rw [hk]; rfl
  have hkd : kd k = k := if_neg (by omega)
  have HK := Lib.hid (fun W : World => tkind_any b i f t y A A' n m c c' W k)
  rw [hkd] at HK
  clear hkd hk
  obtain ⟨W2, hW2⟩ : ∃ W2, (w.alloc (.cells #[.int .i64 k, .bool b, .int .i64 i, .float .f64 f, .string t, .string y, .slice A n c, .slice A' m c'] 30)).alloc (.cells #[.int .i64 k, .bool b2, .int .i64 i2, .float .f64 f2, .string t2, .string y2, .slice E n2 e, .slice E' m2 e'] 30) = W2 := ⟨_, rfl⟩
  obtain ⟨g1, g2, hb, hz⟩ := two_alloc w _ _ hW2
  have HB := Lib.hid hb
  have G1 := Lib.hid g1
  have G2 := Lib.hid g2
  obtain ⟨m0, m1, m2', m3, m4, m5, m6, m7⟩ := val.blk8 g1
  clear g1 g2 hb
  go_enter Tryd.func25, Tryd.ntmps25
  go_wp2_with fail
  refine (HK.out W2).mono ?_
  rintro e0 w2 ⟨rfl, hb2⟩
  have hb3 := HB.out.trans (hb2.mono (by omega))
  have g1 := blk_below G1.out hb2 (by omega)
  have g2 := blk_below G2.out hb2 (by omega)
  clear m0 m1 m2' m3 m4 m5 m6 m7 HK hb2 HB hW2
  obtain ⟨m0, m1, m2', m3, m4, m5, m6, m7⟩ := val.blk8 g1
  obtain ⟨n0, n1, n2', n3, n4, n5, n6, n7⟩ := val.blk8 g2
  have HB3 := Lib.hid hb3
  clear g1 g2 hb3
  go_wp2_with fail
  go_ret
  exact ⟨by simp, HB3.out⟩
set_option maxRecDepth 100000 in
set_option maxHeartbeats 2000000 in
theorem plain_bool (k : Int) (hk : k = 1) : Calls Tryd.prog 25 #[.agg #[.int .i64 k, .bool b, .int .i64 i, .float .f64 f, .string t, .string y, .slice A n c, .slice A' m c'], .agg #[.int .i64 k, .bool b2, .int .i64 i2, .float .f64 f2, .string t2, .string y2, .slice E n2 e, .slice E' m2 e']] w (EqPost (b == b2) w) := by
  have q1 : (k == 1) = true := by rw [hk]; rfl
  have q2 : (k == 2) = false := by rw [hk]; rfl
  have q3 : (k == 3) = false := by rw [hk]; rfl
  have q4 : (k == 4) = false := by rw [hk]; rfl
  have q7 : (k == 7) = false := by rw [hk]; rfl
  obtain ⟨r, hr⟩ : ∃ r, (b == b2) = r := ⟨_, rfl⟩
  rw [hr]
  have hkd : kd k = k := if_neg (by omega)
  have HK := Lib.hid (fun W : World => tkind_any b i f t y A A' n m c c' W k)
  rw [hkd] at HK
  clear hkd hk
  obtain ⟨W2, hW2⟩ : ∃ W2, (w.alloc (.cells #[.int .i64 k, .bool b, .int .i64 i, .float .f64 f, .string t, .string y, .slice A n c, .slice A' m c'] 30)).alloc (.cells #[.int .i64 k, .bool b2, .int .i64 i2, .float .f64 f2, .string t2, .string y2, .slice E n2 e, .slice E' m2 e'] 30) = W2 := ⟨_, rfl⟩
  obtain ⟨g1, g2, hb, hz⟩ := two_alloc w _ _ hW2
  have HB := Lib.hid hb
  have G1 := Lib.hid g1
  have G2 := Lib.hid g2
  obtain ⟨m0, m1, m2', m3, m4, m5, m6, m7⟩ := val.blk8 g1
  clear g1 g2 hb
  go_enter Tryd.func25, Tryd.ntmps25
  go_wp2_with fail
  refine (HK.out W2).mono ?_
  rintro e0 w2 ⟨rfl, hb2⟩
  have hb3 := HB.out.trans (hb2.mono (by omega))
  have g1 := blk_below G1.out hb2 (by omega)
  have g2 := blk_below G2.out hb2 (by omega)
  clear m0 m1 m2' m3 m4 m5 m6 m7 HK hb2 HB hW2
  obtain ⟨m0, m1, m2', m3, m4, m5, m6, m7⟩ := val.blk8 g1
  obtain ⟨n0, n1, n2', n3, n4, n5, n6, n7⟩ := val.blk8 g2
  have HB3 := Lib.hid hb3
  clear g1 g2 hb3
  go_wp2_with fail
  go_ret
  exact ⟨by simp, HB3.out⟩
set_option maxRecDepth 100000 in
set_option maxHeartbeats 2000000 in
theorem plain_int (k : Int) (hk : k = 2) : Calls Tryd.prog 25 #[.agg #[.int .i64 k, .bool b, .int .i64 i, .float .f64 f, .string t, .string y, .slice A n c, .slice A' m c'], .agg #[.int .i64 k, .bool b2, .int .i64 i2, .float .f64 f2, .string t2, .string y2, .slice E n2 e, .slice E' m2 e']] w (EqPost (i == i2) w) := by
  have q1 : (k == 1) = false := by rw [hk]; rfl
  have q2 : (k == 2) = true := by rw [hk]; rfl
  have q3 : (k == 3) = false := by rw [hk]; rfl
  have q4 : (k == 4) = false := by rw [hk]; rfl
  have q7 : (k == 7) = false := by rw [hk]; rfl
  obtain ⟨r, hr⟩ : ∃ r, (i == i2) = r := ⟨_, rfl⟩
  rw [hr]
  have hkd : kd k = k := if_neg (by omega)
  have HK := Lib.hid (fun W : World => tkind_any b i f t y A A' n m c c' W k)
  rw [hkd] at HK
  clear hkd hk
  obtain ⟨W2, hW2⟩ : ∃ W2, (w.alloc (.cells #[.int .i64 k, .bool b, .int .i64 i, .float .f64 f, .string t, .string y, .slice A n c, .slice A' m c'] 30)).alloc (.cells #[.int .i64 k, .bool b2, .int .i64 i2, .float .f64 f2, .string t2, .string y2, .slice E n2 e, .slice E' m2 e'] 30) = W2 := ⟨_, rfl⟩
  obtain ⟨g1, g2, hb, hz⟩ := two_alloc w _ _ hW2
  have HB := Lib.hid hb
  have G1 := Lib.hid g1
  have G2 := Lib.hid g2
  obtain ⟨m0, m1, m2', m3, m4, m5, m6, m7⟩ := val.blk8 g1
  clear g1 g2 hb
  go_enter Tryd.func25, Tryd.ntmps25
  go_wp2_with fail
  refine (HK.out W2).mono ?_
  rintro e0 w2 ⟨rfl, hb2⟩
  have hb3 := HB.out.trans (hb2.mono (by omega))
  have g1 := blk_below G1.out hb2 (by omega)
  have g2 := blk_below G2.out hb2 (by omega)
  clear m0 m1 m2' m3 m4 m5 m6 m7 HK hb2 HB hW2
  obtain ⟨m0, m1, m2', m3, m4, m5, m6, m7⟩ := val.blk8 g1
  obtain ⟨n0, n1, n2', n3, n4, n5, n6, n7⟩ := val.blk8 g2
  have HB3 := Lib.hid hb3
  clear g1 g2 hb3
  go_wp2_with fail
  go_ret
  exact ⟨by simp, HB3.out⟩
set_option maxRecDepth 100000 in
set_option maxHeartbeats 2000000 in
theorem plain_float (k : Int) (hk : k = 3) (r : Bool) (hS : ∀ W : World, Calls Tryd.prog 37 #[.float .f64 f, .float .f64 f2] W (EqPost r W)) : Calls Tryd.prog 25 #[.agg #[.int .i64 k, .bool b, .int .i64 i, .float .f64 f, .string t, .string y, .slice A n c, .slice A' m c'], .agg #[.int .i64 k, .bool b2, .int .i64 i2, .float .f64 f2, .string t2, .string y2, .slice E n2 e, .slice E' m2 e']] w (EqPost (r) w) := by
  have q1 : (k == 1) = false := by rw [hk]; rfl
  have q2 : (k == 2) = false := by rw [hk]; rfl
  have q3 : (k == 3) = true := by rw [hk]; rfl
  have q4 : (k == 4) = false := by rw [hk]; rfl
  have q7 : (k == 7) = false := by rw [hk]; rfl
  have HS := Lib.hid hS
  clear hS
  have hkd : kd k = k := if_neg (by omega)
  have HK := Lib.hid (fun W : World => tkind_any b i f t y A A' n m c c' W k)
  rw [hkd] at HK
  clear hkd hk
  obtain ⟨W2, hW2⟩ : ∃ W2, (w.alloc (.cells #[.int .i64 k, .bool b, .int .i64 i, .float .f64 f, .string t, .string y, .slice A n c, .slice A' m c'] 30)).alloc (.cells #[.int .i64 k, .bool b2, .int .i64 i2, .float .f64 f2, .string t2, .string y2, .slice E n2 e, .slice E' m2 e'] 30) = W2 := ⟨_, rfl⟩
  obtain ⟨g1, g2, hb, hz⟩ := two_alloc w _ _ hW2
  have HB := Lib.hid hb
  have G1 := Lib.hid g1
  have G2 := Lib.hid g2
  obtain ⟨m0, m1, m2', m3, m4, m5, m6, m7⟩ := val.blk8 g1
  clear g1 g2 hb
  go_enter Tryd.func25, Tryd.ntmps25
  go_wp2_with fail
  refine (HK.out W2).mono ?_
  rintro e0 w2 ⟨rfl, hb2⟩
  have hb3 := HB.out.trans (hb2.mono (by omega))
  have g1 := blk_below G1.out hb2 (by omega)
  have g2 := blk_below G2.out hb2 (by omega)
  clear m0 m1 m2' m3 m4 m5 m6 m7 HK hb2 HB hW2
  obtain ⟨m0, m1, m2', m3, m4, m5, m6, m7⟩ := val.blk8 g1
  obtain ⟨n0, n1, n2', n3, n4, n5, n6, n7⟩ := val.blk8 g2
  have HB3 := Lib.hid hb3
  clear g1 g2 hb3
  go_wp2_with fail
  refine (HS.out _).mono ?_
  rintro e0 w3 ⟨rfl, hb4⟩
  have HB4 := Lib.hid (HB3.out.trans (hb4.mono HB3.out.size))
  clear hb4 m0 m1 m2' m3 m4 m5 m6 m7 n0 n1 n2' n3 n4 n5 n6 n7
  go_wp2_with fail
  go_ret
  exact ⟨by simp, HB4.out⟩
set_option maxRecDepth 100000 in
set_option maxHeartbeats 2000000 in
theorem plain_text (k : Int) (hk : k = 4) : Calls Tryd.prog 25 #[.agg #[.int .i64 k, .bool b, .int .i64 i, .float .f64 f, .string t, .string y, .slice A n c, .slice A' m c'], .agg #[.int .i64 k, .bool b2, .int .i64 i2, .float .f64 f2, .string t2, .string y2, .slice E n2 e, .slice E' m2 e']] w (EqPost (t.toList == t2.toList) w) := by
  have q1 : (k == 1) = false := by rw [hk]; rfl
  have q2 : (k == 2) = false := by rw [hk]; rfl
  have q3 : (k == 3) = false := by rw [hk]; rfl
  have q4 : (k == 4) = true := by rw [hk]; rfl
  have q7 : (k == 7) = false := by rw [hk]; rfl
  obtain ⟨r, hr⟩ : ∃ r, (t.toList == t2.toList) = r := ⟨_, rfl⟩
  rw [hr]
  have hkd : kd k = k := if_neg (by omega)
  have HK := Lib.hid (fun W : World => tkind_any b i f t y A A' n m c c' W k)
  rw [hkd] at HK
  clear hkd hk
  obtain ⟨W2, hW2⟩ : ∃ W2, (w.alloc (.cells #[.int .i64 k, .bool b, .int .i64 i, .float .f64 f, .string t, .string y, .slice A n c, .slice A' m c'] 30)).alloc (.cells #[.int .i64 k, .bool b2, .int .i64 i2, .float .f64 f2, .string t2, .string y2, .slice E n2 e, .slice E' m2 e'] 30) = W2 := ⟨_, rfl⟩
  obtain ⟨g1, g2, hb, hz⟩ := two_alloc w _ _ hW2
  have HB := Lib.hid hb
  have G1 := Lib.hid g1
  have G2 := Lib.hid g2
  obtain ⟨m0, m1, m2', m3, m4, m5, m6, m7⟩ := val.blk8 g1
  clear g1 g2 hb
  go_enter Tryd.func25, Tryd.ntmps25
  go_wp2_with fail
  refine (HK.out W2).mono ?_
  rintro e0 w2 ⟨rfl, hb2⟩
  have hb3 := HB.out.trans (hb2.mono (by omega))
  have g1 := blk_below G1.out hb2 (by omega)
  have g2 := blk_below G2.out hb2 (by omega)
  clear m0 m1 m2' m3 m4 m5 m6 m7 HK hb2 HB hW2
  obtain ⟨m0, m1, m2', m3, m4, m5, m6, m7⟩ := val.blk8 g1
  obtain ⟨n0, n1, n2', n3, n4, n5, n6, n7⟩ := val.blk8 g2
  have HB3 := Lib.hid hb3
  clear g1 g2 hb3
  go_wp2_with fail
  go_ret
  exact ⟨by simp, HB3.out⟩
end
end Go.Proofs.YthlncdcfppehcaaDoor.look
end
section
namespace Go.Proofs.YthlncdcfppehcaaDoor.look
open Go.RowKit mem txt app smap val
attribute [local go_sem] run_store_float
set_option linter.unusedVariables false

/-- the two boxes -/
structure Bx (w : World) (o1 o2 : Obj) (W : World) : Prop where
  be : Below w.heap.size w W
  b1 : W.heap[w.heap.size]? = some o1
  b2 : W.heap[w.heap.size + 1]? = some o2
theorem Bx.below {w W W' : World} {o1 o2 : Obj} (h : Bx w o1 o2 W) (hb : Below W.heap.size W W') : Bx w o1 o2 W' := ⟨h.be.trans (hb.mono h.be.size), blk_below h.b1 hb (blk_lt h.b1), blk_below h.b2 hb (blk_lt h.b2)⟩
def EqP (P : Prop) (w : World) (e : Ending) (w' : World) : Prop := ∃ r : Bool, e = .returned (.bool r) ∧ (r = true ↔ P) ∧ Below w.heap.size w w'
section
variable (b b2 : Bool) (i i2 : Int) (f f2 : Nat) (t y t2 y2 : ByteArray) (A A' E E' : Option Addr) (n m c c' n2 m2 e e' : Nat) (w : World) (S S' : Nat → Prop)
set_option maxRecDepth 100000 in
set_option maxHeartbeats 8000000 in
theorem equal_kinds (k k' : Int) (hk : 0 ≤ k ∧ k ≤ 6) (hk' : 0 ≤ k' ∧ k' ≤ 6) (hne : k ≠ k') : Calls Tryd.prog 14 #[.agg #[.int .i64 k, .bool b, .int .i64 i, .float .f64 f, .string t, .string y, .slice A n c, .slice A' m c'], .agg #[.int .i64 k', .bool b2, .int .i64 i2, .float .f64 f2, .string t2, .string y2, .slice E n2 e, .slice E' m2 e']] w (EqP False w) := by
  have hkd : kd k = k := if_neg (by omega)
  have hkd' : kd k' = k' := if_neg (by omega)
  have HK := Lib.hid (fun W : World => tkind_any b i f t y A A' n m c c' W k)
  have HL := Lib.hid (fun W : World => tkind_any b2 i2 f2 t2 y2 E E' n2 m2 e e' W k')
  rw [hkd] at HK
  rw [hkd'] at HL
  clear hkd hkd' hk hk'
  have hq : (k != k') = true := by simp [bne, beq_false_of_ne hne]
  clear hne
  obtain ⟨W2, hW2⟩ : ∃ W2, (w.alloc (.cells #[.int .i64 k, .bool b, .int .i64 i, .float .f64 f, .string t, .string y, .slice A n c, .slice A' m c'] 30)).alloc (.cells #[.int .i64 k', .bool b2, .int .i64 i2, .float .f64 f2, .string t2, .string y2, .slice E n2 e, .slice E' m2 e'] 30) = W2 := ⟨_, rfl⟩
  obtain ⟨g1, g2, hb, hz⟩ := two_alloc w _ _ hW2
  have HB2 : Hid (Bx w (.cells #[.int .i64 k, .bool b, .int .i64 i, .float .f64 f, .string t, .string y, .slice A n c, .slice A' m c'] 30) (.cells #[.int .i64 k', .bool b2, .int .i64 i2, .float .f64 f2, .string t2, .string y2, .slice E n2 e, .slice E' m2 e'] 30) W2) := Lib.hid ⟨hb, g1, g2⟩
  clear g1 g2 hb
  go_enter Tryd.func14, Tryd.ntmps14
  go_upto_region 1 with (fail)
  have hhs : W2.heap.size = w.heap.size + 2 := hz.symm
  clear hW2
  go_cut [12] from 8 to 11 (fun s12 wx => s12 = .bool (k != k') ∧ Hid (Bx w (.cells #[.int .i64 k, .bool b, .int .i64 i, .float .f64 f, .string t, .string y, .slice A n c, .slice A' m c'] 30) (.cells #[.int .i64 k', .bool b2, .int .i64 i2, .float .f64 f2, .string t2, .string y2, .slice E n2 e, .slice E' m2 e'] 30) wx))
  case first =>
    obtain ⟨m0, m1, m2', m3, m4, m5, m6, m7⟩ := val.blk8 HB2.out.b1
    obtain ⟨n0, n1, n2', n3, n4, n5, n6, n7⟩ := val.blk8 HB2.out.b2
    go_region_held3 (fun w' => w'.cell? ⟨w.heap.size, 0, none⟩ = some (.int .i64 k) ∧ w'.cell? ⟨w.heap.size, 1, none⟩ = some (.bool b) ∧ w'.cell? ⟨w.heap.size, 2, none⟩ = some (.int .i64 i) ∧ w'.cell? ⟨w.heap.size, 3, none⟩ = some (.float .f64 f) ∧ w'.cell? ⟨w.heap.size, 4, none⟩ = some (.string t) ∧ w'.cell? ⟨w.heap.size, 5, none⟩ = some (.string y) ∧ w'.cell? ⟨w.heap.size, 6, none⟩ = some (.slice A n c) ∧ w'.cell? ⟨w.heap.size, 7, none⟩ = some (.slice A' m c') ∧ w'.cell? ⟨w.heap.size + 1, 0, none⟩ = some (.int .i64 k') ∧ w'.cell? ⟨w.heap.size + 1, 1, none⟩ = some (.bool b2) ∧ w'.cell? ⟨w.heap.size + 1, 2, none⟩ = some (.int .i64 i2) ∧ w'.cell? ⟨w.heap.size + 1, 3, none⟩ = some (.float .f64 f2) ∧ w'.cell? ⟨w.heap.size + 1, 4, none⟩ = some (.string t2) ∧ w'.cell? ⟨w.heap.size + 1, 5, none⟩ = some (.string y2) ∧ w'.cell? ⟨w.heap.size + 1, 6, none⟩ = some (.slice E n2 e) ∧ w'.cell? ⟨w.heap.size + 1, 7, none⟩ = some (.slice E' m2 e') ∧ Below W2.heap.size W2 w')
      (first | assumption | (refine ⟨?_, ?_, ?_, ?_, ?_, ?_, ?_, ?_, ?_, ?_, ?_, ?_, ?_, ?_, ?_, ?_, ?_⟩; all_goals first | assumption | exact (Below.refl _ _).drew) | (obtain ⟨h0, h1, h2, h3, h4, h5, h6, h7, h8, h9, h10, h11, h12, h13, h14, h15, h16⟩ := ‹_ ∧ _›; exact ⟨(hb3.cell (World.block_lt_of_cell? _ _ h0)).trans h0, (hb3.cell (World.block_lt_of_cell? _ _ h1)).trans h1, (hb3.cell (World.block_lt_of_cell? _ _ h2)).trans h2, (hb3.cell (World.block_lt_of_cell? _ _ h3)).trans h3, (hb3.cell (World.block_lt_of_cell? _ _ h4)).trans h4, (hb3.cell (World.block_lt_of_cell? _ _ h5)).trans h5, (hb3.cell (World.block_lt_of_cell? _ _ h6)).trans h6, (hb3.cell (World.block_lt_of_cell? _ _ h7)).trans h7, (hb3.cell (World.block_lt_of_cell? _ _ h8)).trans h8, (hb3.cell (World.block_lt_of_cell? _ _ h9)).trans h9, (hb3.cell (World.block_lt_of_cell? _ _ h10)).trans h10, (hb3.cell (World.block_lt_of_cell? _ _ h11)).trans h11, (hb3.cell (World.block_lt_of_cell? _ _ h12)).trans h12, (hb3.cell (World.block_lt_of_cell? _ _ h13)).trans h13, (hb3.cell (World.block_lt_of_cell? _ _ h14)).trans h14, (hb3.cell (World.block_lt_of_cell? _ _ h15)).trans h15, h16.trans (hb3.mono h16.size)⟩))
      (first | (go_simp; go_at_call_of 24 c'; refine (HK.out _).mono ?_; rintro e0 wc ⟨rfl, hb3⟩) | (go_simp; go_at_call_of 24 e'; refine (HL.out _).mono ?_; rintro e0 wc ⟨rfl, hb3⟩))
    all_goals
      go_wp2_with fail
      go_meet
      case rel =>
        have hend := ‹(_ = _) ∧ _›
        obtain ⟨_, _, _, _, _, _, _, _, _, _, _, _, _, _, _, _, hbe⟩ := hend
        exact ⟨by first | rfl | simp [*], Lib.hid (HB2.out.below hbe)⟩
  case rest =>
    obtain ⟨rfl, HB3⟩ := hcut
    clear HB2 hz hhs
    go_wp2_with fail
    go_ret
    exact ⟨false, rfl, by simp, HB3.out.be⟩
set_option maxRecDepth 100000 in
set_option maxHeartbeats 8000000 in
theorem equal_plain (k : Int) (hk : 0 ≤ k ∧ k ≤ 6) (h5 : k ≠ 5) (h6 : k ≠ 6) (r : Bool) (hP : ∀ W : World, Below w.heap.size w W → Calls Tryd.prog 25 #[.agg #[.int .i64 k, .bool b, .int .i64 i, .float .f64 f, .string t, .string y, .slice A n c, .slice A' m c'], .agg #[.int .i64 k, .bool b2, .int .i64 i2, .float .f64 f2, .string t2, .string y2, .slice E n2 e, .slice E' m2 e']] W (EqPost r W)) : Calls Tryd.prog 14 #[.agg #[.int .i64 k, .bool b, .int .i64 i, .float .f64 f, .string t, .string y, .slice A n c, .slice A' m c'], .agg #[.int .i64 k, .bool b2, .int .i64 i2, .float .f64 f2, .string t2, .string y2, .slice E n2 e, .slice E' m2 e']] w (EqPost r w) := by
  have hkd : kd k = k := if_neg (by omega)
  have HK := Lib.hid (fun W : World => tkind_any b i f t y A A' n m c c' W k)
  have HL := Lib.hid (fun W : World => tkind_any b2 i2 f2 t2 y2 E E' n2 m2 e e' W k)
  rw [hkd] at HK
  rw [hkd] at HL
  clear hkd hk
  have hq : (k != k) = false := by simp
  have q5 : (k == 5) = false := beq_false_of_ne h5
  have q6 : (k == 6) = false := beq_false_of_ne h6
  have HP := Lib.hid hP
  clear h5 h6 hP
  obtain ⟨W2, hW2⟩ : ∃ W2, (w.alloc (.cells #[.int .i64 k, .bool b, .int .i64 i, .float .f64 f, .string t, .string y, .slice A n c, .slice A' m c'] 30)).alloc (.cells #[.int .i64 k, .bool b2, .int .i64 i2, .float .f64 f2, .string t2, .string y2, .slice E n2 e, .slice E' m2 e'] 30) = W2 := ⟨_, rfl⟩
  obtain ⟨g1, g2, hb, hz⟩ := two_alloc w _ _ hW2
  have HB2 : Hid (Bx w (.cells #[.int .i64 k, .bool b, .int .i64 i, .float .f64 f, .string t, .string y, .slice A n c, .slice A' m c'] 30) (.cells #[.int .i64 k, .bool b2, .int .i64 i2, .float .f64 f2, .string t2, .string y2, .slice E n2 e, .slice E' m2 e'] 30) W2) := Lib.hid ⟨hb, g1, g2⟩
  clear g1 g2 hb
  go_enter Tryd.func14, Tryd.ntmps14
  go_upto_region 1 with (fail)
  have hhs : W2.heap.size = w.heap.size + 2 := hz.symm
  clear hW2
  go_cut [12] from 8 to 11 (fun s12 wx => s12 = .bool (k != k) ∧ Hid (Bx w (.cells #[.int .i64 k, .bool b, .int .i64 i, .float .f64 f, .string t, .string y, .slice A n c, .slice A' m c'] 30) (.cells #[.int .i64 k, .bool b2, .int .i64 i2, .float .f64 f2, .string t2, .string y2, .slice E n2 e, .slice E' m2 e'] 30) wx))
  case first =>
    obtain ⟨m0, m1, m2', m3, m4, m5, m6, m7⟩ := val.blk8 HB2.out.b1
    obtain ⟨n0, n1, n2', n3, n4, n5, n6, n7⟩ := val.blk8 HB2.out.b2
    go_region_held3 (fun w' => w'.cell? ⟨w.heap.size, 0, none⟩ = some (.int .i64 k) ∧ w'.cell? ⟨w.heap.size, 1, none⟩ = some (.bool b) ∧ w'.cell? ⟨w.heap.size, 2, none⟩ = some (.int .i64 i) ∧ w'.cell? ⟨w.heap.size, 3, none⟩ = some (.float .f64 f) ∧ w'.cell? ⟨w.heap.size, 4, none⟩ = some (.string t) ∧ w'.cell? ⟨w.heap.size, 5, none⟩ = some (.string y) ∧ w'.cell? ⟨w.heap.size, 6, none⟩ = some (.slice A n c) ∧ w'.cell? ⟨w.heap.size, 7, none⟩ = some (.slice A' m c') ∧ w'.cell? ⟨w.heap.size + 1, 0, none⟩ = some (.int .i64 k) ∧ w'.cell? ⟨w.heap.size + 1, 1, none⟩ = some (.bool b2) ∧ w'.cell? ⟨w.heap.size + 1, 2, none⟩ = some (.int .i64 i2) ∧ w'.cell? ⟨w.heap.size + 1, 3, none⟩ = some (.float .f64 f2) ∧ w'.cell? ⟨w.heap.size + 1, 4, none⟩ = some (.string t2) ∧ w'.cell? ⟨w.heap.size + 1, 5, none⟩ = some (.string y2) ∧ w'.cell? ⟨w.heap.size + 1, 6, none⟩ = some (.slice E n2 e) ∧ w'.cell? ⟨w.heap.size + 1, 7, none⟩ = some (.slice E' m2 e') ∧ Below W2.heap.size W2 w')
      (first | assumption | (refine ⟨?_, ?_, ?_, ?_, ?_, ?_, ?_, ?_, ?_, ?_, ?_, ?_, ?_, ?_, ?_, ?_, ?_⟩; all_goals first | assumption | exact (Below.refl _ _).drew) | (obtain ⟨h0, h1, h2, h3, h4, h5, h6, h7, h8, h9, h10, h11, h12, h13, h14, h15, h16⟩ := ‹_ ∧ _›; exact ⟨(hb3.cell (World.block_lt_of_cell? _ _ h0)).trans h0, (hb3.cell (World.block_lt_of_cell? _ _ h1)).trans h1, (hb3.cell (World.block_lt_of_cell? _ _ h2)).trans h2, (hb3.cell (World.block_lt_of_cell? _ _ h3)).trans h3, (hb3.cell (World.block_lt_of_cell? _ _ h4)).trans h4, (hb3.cell (World.block_lt_of_cell? _ _ h5)).trans h5, (hb3.cell (World.block_lt_of_cell? _ _ h6)).trans h6, (hb3.cell (World.block_lt_of_cell? _ _ h7)).trans h7, (hb3.cell (World.block_lt_of_cell? _ _ h8)).trans h8, (hb3.cell (World.block_lt_of_cell? _ _ h9)).trans h9, (hb3.cell (World.block_lt_of_cell? _ _ h10)).trans h10, (hb3.cell (World.block_lt_of_cell? _ _ h11)).trans h11, (hb3.cell (World.block_lt_of_cell? _ _ h12)).trans h12, (hb3.cell (World.block_lt_of_cell? _ _ h13)).trans h13, (hb3.cell (World.block_lt_of_cell? _ _ h14)).trans h14, (hb3.cell (World.block_lt_of_cell? _ _ h15)).trans h15, h16.trans (hb3.mono h16.size)⟩))
      (first | (go_simp; go_at_call_of 24 c'; refine (HK.out _).mono ?_; rintro e0 wc ⟨rfl, hb3⟩) | (go_simp; go_at_call_of 24 e'; refine (HL.out _).mono ?_; rintro e0 wc ⟨rfl, hb3⟩))
    all_goals
      go_wp2_with fail
      go_meet
      case rel =>
        have hend := ‹(_ = _) ∧ _›
        obtain ⟨_, _, _, _, _, _, _, _, _, _, _, _, _, _, _, _, hbe⟩ := hend
        exact ⟨by first | rfl | simp [*], Lib.hid (HB2.out.below hbe)⟩
  case rest =>
    obtain ⟨rfl, HB3⟩ := hcut
    clear HB2 hz hhs
    obtain ⟨m0, m1, m2', m3, m4, m5, m6, m7⟩ := val.blk8 HB3.out.b1
    go_wp2_with fail
    refine (HK.out _).mono ?_
    rintro e0 wk ⟨rfl, hbk⟩
    have HB4 := Lib.hid (HB3.out.below hbk)
    clear m0 m1 m2' m3 m4 m5 m6 m7 hbk HK HL
    obtain ⟨m0, m1, m2', m3, m4, m5, m6, m7⟩ := val.blk8 HB4.out.b1
    obtain ⟨n0, n1, n2', n3, n4, n5, n6, n7⟩ := val.blk8 HB4.out.b2
    go_wp2_with fail
    refine (HP.out _ HB4.out.be).mono ?_
    rintro e0 w5 ⟨rfl, hb5⟩
    have hbe := HB4.out.be.trans (hb5.mono HB4.out.be.size)
    clear hb5 m0 m1 m2' m3 m4 m5 m6 m7 n0 n1 n2' n3 n4 n5 n6 n7 HP
    go_wp2_with fail
    go_ret
    exact ⟨by simp, hbe⟩
set_option maxRecDepth 100000 in
set_option maxHeartbeats 8000000 in
theorem equal_list (k : Int) (hk : 0 ≤ k ∧ k ≤ 6) (hk5 : k = 5) (is is' : List V) (hn : is.length = n) (hn' : is'.length = n2) (hnn : n ≤ 1048576) (hI : IsVs w S is A 0) (hI' : IsVs w S' is' E 0) (hS : Bel S w.heap.size) (hS' : Bel S' w.heap.size)
    (hR : ∀ (W : World) (q : Nat) (x x' : V) (cs cs' : List Value), Below w.heap.size w W → is[q]? = some x → is'[q]? = some x' → IsV W S x cs → IsV W S' x' cs' → Calls Tryd.prog 14 #[.agg cs.toArray, .agg cs'.toArray] W (EqP (tx x = tx x') W)) : Calls Tryd.prog 14 #[.agg #[.int .i64 k, .bool b, .int .i64 i, .float .f64 f, .string t, .string y, .slice A n c, .slice A' m c'], .agg #[.int .i64 k, .bool b2, .int .i64 i2, .float .f64 f2, .string t2, .string y2, .slice E n2 e, .slice E' m2 e']] w (EqP (is.map tx = is'.map tx) w) := by
  have hkd : kd k = k := if_neg (by omega)
  have HK := Lib.hid (fun W : World => tkind_any b i f t y A A' n m c c' W k)
  have HL := Lib.hid (fun W : World => tkind_any b2 i2 f2 t2 y2 E E' n2 m2 e e' W k)
  rw [hkd] at HK
  rw [hkd] at HL
  clear hkd hk
  have hq : (k != k) = false := by simp
  have q5 : (k == 5) = true := by rw [hk5]; rfl
  have HI := Lib.hid hI
  have HI' := Lib.hid hI'
  have HS := Lib.hid hS
  have HS' := Lib.hid hS'
  have HN := Lib.hid hn
  have HN' := Lib.hid hn'
  have HR := Lib.hid hR
  clear hk5 hI hI' hS hS' hR hn hn'
  obtain ⟨W2, hW2⟩ : ∃ W2, (w.alloc (.cells #[.int .i64 k, .bool b, .int .i64 i, .float .f64 f, .string t, .string y, .slice A n c, .slice A' m c'] 30)).alloc (.cells #[.int .i64 k, .bool b2, .int .i64 i2, .float .f64 f2, .string t2, .string y2, .slice E n2 e, .slice E' m2 e'] 30) = W2 := ⟨_, rfl⟩
  obtain ⟨g1, g2, hb, hz⟩ := two_alloc w _ _ hW2
  have HB2 : Hid (Bx w (.cells #[.int .i64 k, .bool b, .int .i64 i, .float .f64 f, .string t, .string y, .slice A n c, .slice A' m c'] 30) (.cells #[.int .i64 k, .bool b2, .int .i64 i2, .float .f64 f2, .string t2, .string y2, .slice E n2 e, .slice E' m2 e'] 30) W2) := Lib.hid ⟨hb, g1, g2⟩
  clear g1 g2 hb
  go_enter Tryd.func14, Tryd.ntmps14
  go_upto_region 1 with (fail)
  have hhs : W2.heap.size = w.heap.size + 2 := hz.symm
  clear hW2
  go_cut [12] from 8 to 11 (fun s12 wx => s12 = .bool (k != k) ∧ Hid (Bx w (.cells #[.int .i64 k, .bool b, .int .i64 i, .float .f64 f, .string t, .string y, .slice A n c, .slice A' m c'] 30) (.cells #[.int .i64 k, .bool b2, .int .i64 i2, .float .f64 f2, .string t2, .string y2, .slice E n2 e, .slice E' m2 e'] 30) wx))
  case first =>
    obtain ⟨m0, m1, m2', m3, m4, m5, m6, m7⟩ := val.blk8 HB2.out.b1
    obtain ⟨n0, n1, n2', n3, n4, n5, n6, n7⟩ := val.blk8 HB2.out.b2
    go_region_held3 (fun w' => w'.cell? ⟨w.heap.size, 0, none⟩ = some (.int .i64 k) ∧ w'.cell? ⟨w.heap.size, 1, none⟩ = some (.bool b) ∧ w'.cell? ⟨w.heap.size, 2, none⟩ = some (.int .i64 i) ∧ w'.cell? ⟨w.heap.size, 3, none⟩ = some (.float .f64 f) ∧ w'.cell? ⟨w.heap.size, 4, none⟩ = some (.string t) ∧ w'.cell? ⟨w.heap.size, 5, none⟩ = some (.string y) ∧ w'.cell? ⟨w.heap.size, 6, none⟩ = some (.slice A n c) ∧ w'.cell? ⟨w.heap.size, 7, none⟩ = some (.slice A' m c') ∧ w'.cell? ⟨w.heap.size + 1, 0, none⟩ = some (.int .i64 k) ∧ w'.cell? ⟨w.heap.size + 1, 1, none⟩ = some (.bool b2) ∧ w'.cell? ⟨w.heap.size + 1, 2, none⟩ = some (.int .i64 i2) ∧ w'.cell? ⟨w.heap.size + 1, 3, none⟩ = some (.float .f64 f2) ∧ w'.cell? ⟨w.heap.size + 1, 4, none⟩ = some (.string t2) ∧ w'.cell? ⟨w.heap.size + 1, 5, none⟩ = some (.string y2) ∧ w'.cell? ⟨w.heap.size + 1, 6, none⟩ = some (.slice E n2 e) ∧ w'.cell? ⟨w.heap.size + 1, 7, none⟩ = some (.slice E' m2 e') ∧ Below W2.heap.size W2 w')
      (first | assumption | (refine ⟨?_, ?_, ?_, ?_, ?_, ?_, ?_, ?_, ?_, ?_, ?_, ?_, ?_, ?_, ?_, ?_, ?_⟩; all_goals first | assumption | exact (Below.refl _ _).drew) | (obtain ⟨h0, h1, h2, h3, h4, h5, h6, h7, h8, h9, h10, h11, h12, h13, h14, h15, h16⟩ := ‹_ ∧ _›; exact ⟨(hb3.cell (World.block_lt_of_cell? _ _ h0)).trans h0, (hb3.cell (World.block_lt_of_cell? _ _ h1)).trans h1, (hb3.cell (World.block_lt_of_cell? _ _ h2)).trans h2, (hb3.cell (World.block_lt_of_cell? _ _ h3)).trans h3, (hb3.cell (World.block_lt_of_cell? _ _ h4)).trans h4, (hb3.cell (World.block_lt_of_cell? _ _ h5)).trans h5, (hb3.cell (World.block_lt_of_cell? _ _ h6)).trans h6, (hb3.cell (World.block_lt_of_cell? _ _ h7)).trans h7, (hb3.cell (World.block_lt_of_cell? _ _ h8)).trans h8, (hb3.cell (World.block_lt_of_cell? _ _ h9)).trans h9, (hb3.cell (World.block_lt_of_cell? _ _ h10)).trans h10, (hb3.cell (World.block_lt_of_cell? _ _ h11)).trans h11, (hb3.cell (World.block_lt_of_cell? _ _ h12)).trans h12, (hb3.cell (World.block_lt_of_cell? _ _ h13)).trans h13, (hb3.cell (World.block_lt_of_cell? _ _ h14)).trans h14, (hb3.cell (World.block_lt_of_cell? _ _ h15)).trans h15, h16.trans (hb3.mono h16.size)⟩))
      (first | (go_simp; go_at_call_of 24 c'; refine (HK.out _).mono ?_; rintro e0 wc ⟨rfl, hb3⟩) | (go_simp; go_at_call_of 24 e'; refine (HL.out _).mono ?_; rintro e0 wc ⟨rfl, hb3⟩))
    all_goals
      go_wp2_with fail
      go_meet
      case rel =>
        have hend := ‹(_ = _) ∧ _›
        obtain ⟨_, _, _, _, _, _, _, _, _, _, _, _, _, _, _, _, hbe⟩ := hend
        exact ⟨by simp, Lib.hid (HB2.out.below hbe)⟩
  case rest =>
    obtain ⟨rfl, HB3⟩ := hcut
    clear HB2 hz hhs
    obtain ⟨m0, m1, m2', m3, m4, m5, m6, m7⟩ := val.blk8 HB3.out.b1
    go_wp2_with fail
    refine (HK.out _).mono ?_
    rintro e0 wk ⟨rfl, hbk⟩
    have HB4 := Lib.hid (HB3.out.below hbk)
    clear m0 m1 m2' m3 m4 m5 m6 m7 hbk HK HL
    obtain ⟨m0, m1, m2', m3, m4, m5, m6, m7⟩ := val.blk8 HB4.out.b1
    obtain ⟨n0, n1, n2', n3, n4, n5, n6, n7⟩ := val.blk8 HB4.out.b2
    by_cases hnq : n = n2
    · subst hnq
      have hdd : (((n : Int)) != (n : Int)) = false := by simp
      go_wp2_with fail
      clear m0 m1 m2' m3 m4 m5 m6 m7 n0 n1 n2' n3 n4 n5 n6 n7 hdd
      go_loopw [27] (fun v27 wr => ∃ (q : Nat), q ≤ n ∧ v27 = .int .i64 (q : Int) ∧ Hid (Bx w (.cells #[.int .i64 k, .bool b, .int .i64 i, .float .f64 f, .string t, .string y, .slice A n c, .slice A' m c'] 30) (.cells #[.int .i64 k, .bool b2, .int .i64 i2, .float .f64 f2, .string t2, .string y2, .slice E n e, .slice E' m2 e'] 30) wr) ∧ Hid ((is.take q).map tx = (is'.take q).map tx)) (fun v _ => n - (intOf v).toNat)
      case atStart => exact ⟨0, Nat.zero_le _, rfl, HB4, Lib.hid rfl⟩
      case round =>
        clear HB4 HB3
        obtain ⟨q, hqn, rfl, HB, HE⟩ := hrel
        have hszr := HB.out.be.size
        by_cases hlt : q < n
        · obtain ⟨x, hx⟩ : ∃ p, is[q]? = some p := ⟨_, List.getElem?_eq_getElem (by rw [HN.out]; exact hlt)⟩
          obtain ⟨x', hx'⟩ : ∃ p, is'[q]? = some p := ⟨_, List.getElem?_eq_getElem (by rw [HN'.out]; exact hlt)⟩
          obtain ⟨ad, cs, rfl, hadB, hcs, hvx⟩ := (HI.out.below HS.out HB.out.be).at_ hx
          obtain ⟨ae, cs', rfl, haeB, hcs', hvx'⟩ := (HI'.out.below HS'.out HB.out.be).at_ hx'
          rw [Nat.zero_add] at hcs hcs'
          have HX := Lib.hid hx
          have HX' := Lib.hid hx'
          have HC := Lib.hid (fun (W : World) (hW : Below wr.heap.size wr W) => HR.out W q x x' cs cs' (HB.out.be.trans (hW.mono hszr)) hx hx' (hvx.below (HS.out.mono hszr) hW) (hvx'.below (HS'.out.mono hszr) hW))
          have HTE : Hid ((is.take (q + 1)).map tx = (is'.take (q + 1)).map tx ↔ tx x = tx x') := Lib.hid (by
            rw [List.take_add_one, List.take_add_one, hx, hx', List.map_append, List.map_append, HE.out]
            simp)
          have HNE : Hid (is.map tx = is'.map tx → tx x = tx x') := Lib.hid (fun h => by
            have h1 : (is.map tx)[q]? = (is'.map tx)[q]? := by rw [h]
            rw [List.getElem?_map, List.getElem?_map, hx, hx'] at h1
            simpa using h1)
          obtain ⟨P, hP⟩ : ∃ P, (tx x = tx x') = P := ⟨_, rfl⟩
          rw [hP] at HC HTE HNE
          clear hP hx hx'
          obtain ⟨k3, b3, i3, f3, t3, y3, is3, fs3⟩ := x
          obtain ⟨k4, b4, i4, f4, t4, y4, is4, fs4⟩ := x'
          simp only [IsV] at hvx hvx'
          obtain ⟨A3, c3, A3', c3', rfl, _⟩ := hvx
          obtain ⟨A4, c4, A4', c4', rfl, _⟩ := hvx'
          obtain ⟨d0, d1, d2, d3, d4, d5, d6, d7⟩ := hcs.eight
          obtain ⟨g0, g1, g2, g3, g4, g5, g6, g7⟩ := hcs'.eight
          obtain ⟨_, _, _, _, _, _, m6, _⟩ := val.blk8 HB.out.b1
          obtain ⟨_, _, _, _, _, _, n6, _⟩ := val.blk8 HB.out.b2
          have hq0 : (0 : Int) ≤ (q : Int) := by omega
          have hqi : (q : Int) < (n : Int) := by omega
          clear hcs hcs'
          go_upto_region 10 with (fail)
          go_region_held3 (fun w' => w'.cell? ⟨w.heap.size, 6, none⟩ = some (.slice (some ad) n c) ∧ w'.cell? ⟨w.heap.size + 1, 6, none⟩ = some (.slice (some ae) n e) ∧ w'.cell? (ad.add (q * 8)) = some (.int .i64 k3) ∧ w'.cell? ⟨(ad.add (q * 8)).block, (ad.add (q * 8)).off + 1, none⟩ = some (.bool b3) ∧ w'.cell? ⟨(ad.add (q * 8)).block, (ad.add (q * 8)).off + 2, none⟩ = some (.int .i64 i3) ∧ w'.cell? ⟨(ad.add (q * 8)).block, (ad.add (q * 8)).off + 3, none⟩ = some (.float .f64 f3) ∧ w'.cell? ⟨(ad.add (q * 8)).block, (ad.add (q * 8)).off + 4, none⟩ = some (.string t3) ∧ w'.cell? ⟨(ad.add (q * 8)).block, (ad.add (q * 8)).off + 5, none⟩ = some (.string y3) ∧ w'.cell? ⟨(ad.add (q * 8)).block, (ad.add (q * 8)).off + 6, none⟩ = some (.slice A3 is3.length c3) ∧ w'.cell? ⟨(ad.add (q * 8)).block, (ad.add (q * 8)).off + 7, none⟩ = some (.slice A3' fs3.length c3') ∧ w'.cell? (ae.add (q * 8)) = some (.int .i64 k4) ∧ w'.cell? ⟨(ae.add (q * 8)).block, (ae.add (q * 8)).off + 1, none⟩ = some (.bool b4) ∧ w'.cell? ⟨(ae.add (q * 8)).block, (ae.add (q * 8)).off + 2, none⟩ = some (.int .i64 i4) ∧ w'.cell? ⟨(ae.add (q * 8)).block, (ae.add (q * 8)).off + 3, none⟩ = some (.float .f64 f4) ∧ w'.cell? ⟨(ae.add (q * 8)).block, (ae.add (q * 8)).off + 4, none⟩ = some (.string t4) ∧ w'.cell? ⟨(ae.add (q * 8)).block, (ae.add (q * 8)).off + 5, none⟩ = some (.string y4) ∧ w'.cell? ⟨(ae.add (q * 8)).block, (ae.add (q * 8)).off + 6, none⟩ = some (.slice A4 is4.length c4) ∧ w'.cell? ⟨(ae.add (q * 8)).block, (ae.add (q * 8)).off + 7, none⟩ = some (.slice A4' fs4.length c4') ∧ Below wr.heap.size wr w')
            (first | assumption | (refine ⟨?_, ?_, ?_, ?_, ?_, ?_, ?_, ?_, ?_, ?_, ?_, ?_, ?_, ?_, ?_, ?_, ?_, ?_, ?_⟩; all_goals first | assumption | exact (Below.refl _ _).drew) | (obtain ⟨h0, h1, h2, h3, h4, h5, h6, h7, h8, h9, h10, h11, h12, h13, h14, h15, h16, h17, h18⟩ := ‹_ ∧ _›; exact ⟨(hb3.cell (World.block_lt_of_cell? _ _ h0)).trans h0, (hb3.cell (World.block_lt_of_cell? _ _ h1)).trans h1, (hb3.cell (World.block_lt_of_cell? _ _ h2)).trans h2, (hb3.cell (World.block_lt_of_cell? _ _ h3)).trans h3, (hb3.cell (World.block_lt_of_cell? _ _ h4)).trans h4, (hb3.cell (World.block_lt_of_cell? _ _ h5)).trans h5, (hb3.cell (World.block_lt_of_cell? _ _ h6)).trans h6, (hb3.cell (World.block_lt_of_cell? _ _ h7)).trans h7, (hb3.cell (World.block_lt_of_cell? _ _ h8)).trans h8, (hb3.cell (World.block_lt_of_cell? _ _ h9)).trans h9, (hb3.cell (World.block_lt_of_cell? _ _ h10)).trans h10, (hb3.cell (World.block_lt_of_cell? _ _ h11)).trans h11, (hb3.cell (World.block_lt_of_cell? _ _ h12)).trans h12, (hb3.cell (World.block_lt_of_cell? _ _ h13)).trans h13, (hb3.cell (World.block_lt_of_cell? _ _ h14)).trans h14, (hb3.cell (World.block_lt_of_cell? _ _ h15)).trans h15, (hb3.cell (World.block_lt_of_cell? _ _ h16)).trans h16, (hb3.cell (World.block_lt_of_cell? _ _ h17)).trans h17, h18.trans (hb3.mono h18.size)⟩))
            ((go_simp; go_at_call 14; refine (HC.out _ ((Below.refl _ _).drew)).mono ?_; rintro e0 wc ⟨rr, rfl, hrr, hb3⟩))
          all_goals
            have HRR := Lib.hid hrr
            have HBn := Lib.hid (HB.out.below (((Below.refl _ _).drew).trans (hb3.mono (Nat.le_refl _))))
            clear d0 d1 d2 d3 d4 d5 d6 d7 g0 g1 g2 g3 g4 g5 g6 g7 m6 n6 hrr hb3
            cases rr with
            | true =>
              go_wp2_with fail
              exact ⟨⟨q + 1, by omega, by go_num, HBn, Lib.hid (HTE.out.2 (HRR.out.1 rfl))⟩, by simp [intOf]; omega⟩
            | false =>
              go_wp2_with fail
              go_ret
              exact ⟨false, rfl, ⟨fun h => (by cases h), fun h => HRR.out.2 (HNE.out h)⟩, HBn.out.be⟩
        · obtain rfl : q = n := by omega
          have hfin : is.map tx = is'.map tx := by
            have h := HE.out
            rw [List.take_of_length_le (by rw [HN.out]; exact Nat.le_refl _), List.take_of_length_le (by rw [HN'.out]; exact Nat.le_refl _)] at h
            exact h
          go_wp2_with fail
          go_ret
          exact ⟨true, rfl, ⟨fun _ => hfin, fun _ => rfl⟩, HB.out.be⟩
    · have hdd : ((n : Int) != (n2 : Int)) = true := by simp [bne]; omega
      go_wp2_with fail
      go_ret
      exact ⟨false, rfl, ⟨fun h => (by cases h), fun h => absurd (by rw [← HN.out, ← HN'.out, ← List.length_map (f := tx), h, List.length_map]) hnq⟩, HB4.out.be⟩
end
end Go.Proofs.YthlncdcfppehcaaDoor.look
end
