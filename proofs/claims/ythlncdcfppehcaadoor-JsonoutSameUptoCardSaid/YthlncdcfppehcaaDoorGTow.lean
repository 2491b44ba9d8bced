/- tree.own, over what its callees answer. A map from strings to ints that the call made and that counts: what it answers. tree.own of an object: its names. -/
import Derived.Test.YthlncdcfppehcaaDoorProg
import Derived.Test.YthlncdcfppehcaaDoorGOwn
import Derived.Handy
import Derived.WalkSpells
import Derived.WalkLawsBesides
import Derived.Deep.DeepMust
import Derived.Deep.RegionLaw
import Derived.Deep.RegionWith
import Derived.Deep.Cut
import Derived.Test.YthlncdcfppehcaaDoorGArr
import Derived.Test.YthlncdcfppehcaaDoorYLook
import Derived.Test.YthlncdcfppehcaaDoorGNq
section
namespace Go.Proofs.YthlncdcfppehcaaDoor.look
open Go.RowKit mem val
attribute [local go_sem] run_store_float
set_option linter.unusedVariables false

def ToPost (r : Int) (w : World) (e : Ending) (w' : World) : Prop := e = .returned (.int .i64 r) ∧ Below w.heap.size w w'
section
variable (b : Bool) (i : Int) (f : Nat) (t y : ByteArray) (A A' : Option Addr) (n m c c' : Nat) (w : World)
set_option maxRecDepth 100000 in
set_option maxHeartbeats 1000000 in
theorem town_out (k r : Int) (hne : r ≠ k) (hK : ∀ W : World, Calls Tryd.prog 24 #[.agg #[.int .i64 k, .bool b, .int .i64 i, .float .f64 f, .string t, .string y, .slice A n c, .slice A' m c']] W fun e w' => e = .returned (.int .i64 r) ∧ Below W.heap.size W w') : Calls Tryd.prog 26 #[.agg #[.int .i64 k, .bool b, .int .i64 i, .float .f64 f, .string t, .string y, .slice A n c, .slice A' m c']] w (ToPost 2 w) := by
  have hq1 : (r == k) = false := beq_false_of_ne hne
  have hq2 : (r != k) = true := by simp [bne, hq1]
  have hq3 : decide (r = k) = false := decide_eq_false hne
  have hG0 := heap_alloc_new w (.cells #[.int .i64 k, .bool b, .int .i64 i, .float .f64 f, .string t, .string y, .slice A n c, .slice A' m c'] 30); have hb0 := (Below.refl w.heap.size w).alloc (Nat.le_refl _) (.cells #[.int .i64 k, .bool b, .int .i64 i, .float .f64 f, .string t, .string y, .slice A n c, .slice A' m c'] 30); have hz0 : (w.alloc (.cells #[.int .i64 k, .bool b, .int .i64 i, .float .f64 f, .string t, .string y, .slice A n c, .slice A' m c'] 30)).heap.size = w.heap.size + 1 := (by simp); obtain ⟨m0, m1, m2, m3, m4, m5, m6, m7⟩ := blk8 hG0; generalize hW0 : (w.alloc (.cells #[.int .i64 k, .bool b, .int .i64 i, .float .f64 f, .string t, .string y, .slice A n c, .slice A' m c'] 30)) = W0 at *; have HK := Lib.hid hK; clear hK
  (go_enter Tryd.func26, Tryd.ntmps26); (go_wp2_with fail); (have HG0 := Lib.hid hG0); (have HB0 := Lib.hid hb0); (clear hb0 hG0); (first | (go_region_law ((go_simp; go_at_call 24; refine (HK.out _).mono ?_; rintro e wc ⟨rfl, hb3⟩; have HGC := Lib.hid ((hb3.block w.heap.size (by simp; omega)).trans (show W0.drew.heap[w.heap.size]? = _ from HG0.out)); have HBC := Lib.hid (HB0.out.trans (((Below.refl _ _).drew).trans (hb3.mono (by simp; omega)))); have n0 := (hb3.cell (World.block_lt_of_cell? W0.drew _ (show W0.drew.cell? ⟨w.heap.size, 0, none⟩ = _ from m0))).trans m0))) | fail)
  all_goals
    (clear m0 m1 m2 m3 m4 m5 m6 m7 n0 hb3 HG0 HB0 HK hz0 hW0); (obtain ⟨m0, m1, m2, m3, m4, m5, m6, m7⟩ := blk8 HGC.out); (go_wp2_with fail)
    go_ret
    exact ⟨rfl, HBC.out⟩
set_option maxRecDepth 100000 in
set_option maxHeartbeats 1000000 in
theorem town_seven (hK : ∀ W : World, Calls Tryd.prog 24 #[.agg #[.int .i64 7, .bool b, .int .i64 i, .float .f64 f, .string t, .string y, .slice A n c, .slice A' m c']] W fun e w' => e = .returned (.int .i64 7) ∧ Below W.heap.size W w') : Calls Tryd.prog 26 #[.agg #[.int .i64 7, .bool b, .int .i64 i, .float .f64 f, .string t, .string y, .slice A n c, .slice A' m c']] w (ToPost 2 w) := by
  obtain ⟨k, hk⟩ : ∃ k : Int, k = 7 := ⟨_, rfl⟩
  rw [← hk] at hK ⊢
  have hq1 : (k == 7) = true := by rw [hk]; rfl
  have hq2 : (k != k) = false := by simp
  clear hk
  have hG0 := heap_alloc_new w (.cells #[.int .i64 k, .bool b, .int .i64 i, .float .f64 f, .string t, .string y, .slice A n c, .slice A' m c'] 30); have hb0 := (Below.refl w.heap.size w).alloc (Nat.le_refl _) (.cells #[.int .i64 k, .bool b, .int .i64 i, .float .f64 f, .string t, .string y, .slice A n c, .slice A' m c'] 30); have hz0 : (w.alloc (.cells #[.int .i64 k, .bool b, .int .i64 i, .float .f64 f, .string t, .string y, .slice A n c, .slice A' m c'] 30)).heap.size = w.heap.size + 1 := (by simp); obtain ⟨m0, m1, m2, m3, m4, m5, m6, m7⟩ := blk8 hG0; generalize hW0 : (w.alloc (.cells #[.int .i64 k, .bool b, .int .i64 i, .float .f64 f, .string t, .string y, .slice A n c, .slice A' m c'] 30)) = W0 at *; have HK := Lib.hid hK; clear hK
  (go_enter Tryd.func26, Tryd.ntmps26); (go_wp2_with fail); (have HG0 := Lib.hid hG0); (have HB0 := Lib.hid hb0); (clear hb0 hG0); (first | (go_region_law ((go_simp; go_at_call 24; refine (HK.out _).mono ?_; rintro e wc ⟨rfl, hb3⟩; have HGC := Lib.hid ((hb3.block w.heap.size (by simp; omega)).trans (show W0.drew.heap[w.heap.size]? = _ from HG0.out)); have HBC := Lib.hid (HB0.out.trans (((Below.refl _ _).drew).trans (hb3.mono (by simp; omega)))); have n0 := (hb3.cell (World.block_lt_of_cell? W0.drew _ (show W0.drew.cell? ⟨w.heap.size, 0, none⟩ = _ from m0))).trans m0))) | fail)
  all_goals
    (clear m0 m1 m2 m3 m4 m5 m6 m7 n0 hb3 HG0 HB0 HK hz0 hW0); (obtain ⟨m0, m1, m2, m3, m4, m5, m6, m7⟩ := blk8 HGC.out); (go_wp2_with fail)
    go_ret
    exact ⟨rfl, HBC.out⟩
set_option maxRecDepth 100000 in
set_option maxHeartbeats 1000000 in
theorem town_plain (k : Int) (h7 : k ≠ 7) (h3 : k ≠ 3) (h4 : k ≠ 4) (h6 : k ≠ 6) (hK : ∀ W : World, Calls Tryd.prog 24 #[.agg #[.int .i64 k, .bool b, .int .i64 i, .float .f64 f, .string t, .string y, .slice A n c, .slice A' m c']] W fun e w' => e = .returned (.int .i64 k) ∧ Below W.heap.size W w') : Calls Tryd.prog 26 #[.agg #[.int .i64 k, .bool b, .int .i64 i, .float .f64 f, .string t, .string y, .slice A n c, .slice A' m c']] w (ToPost 0 w) := by
  have hq1 : (k == 7) = false := beq_false_of_ne h7
  have hq2 : (k != k) = false := by simp
  have hq3 : (k == 3) = false := beq_false_of_ne h3
  have hq4 : (k == 4) = false := beq_false_of_ne h4
  have hq5 : (k == 6) = false := beq_false_of_ne h6
  have hq6 : (k != 6) = true := by simp [bne, hq5]
  have hG0 := heap_alloc_new w (.cells #[.int .i64 k, .bool b, .int .i64 i, .float .f64 f, .string t, .string y, .slice A n c, .slice A' m c'] 30); have hb0 := (Below.refl w.heap.size w).alloc (Nat.le_refl _) (.cells #[.int .i64 k, .bool b, .int .i64 i, .float .f64 f, .string t, .string y, .slice A n c, .slice A' m c'] 30); have hz0 : (w.alloc (.cells #[.int .i64 k, .bool b, .int .i64 i, .float .f64 f, .string t, .string y, .slice A n c, .slice A' m c'] 30)).heap.size = w.heap.size + 1 := (by simp); obtain ⟨m0, m1, m2, m3, m4, m5, m6, m7⟩ := blk8 hG0; generalize hW0 : (w.alloc (.cells #[.int .i64 k, .bool b, .int .i64 i, .float .f64 f, .string t, .string y, .slice A n c, .slice A' m c'] 30)) = W0 at *; have HK := Lib.hid hK; clear hK
  (go_enter Tryd.func26, Tryd.ntmps26); (go_wp2_with fail); (have HG0 := Lib.hid hG0); (have HB0 := Lib.hid hb0); (clear hb0 hG0); (first | (go_region_law ((go_simp; go_at_call 24; refine (HK.out _).mono ?_; rintro e wc ⟨rfl, hb3⟩; have HGC := Lib.hid ((hb3.block w.heap.size (by simp; omega)).trans (show W0.drew.heap[w.heap.size]? = _ from HG0.out)); have HBC := Lib.hid (HB0.out.trans (((Below.refl _ _).drew).trans (hb3.mono (by simp; omega)))); have n0 := (hb3.cell (World.block_lt_of_cell? W0.drew _ (show W0.drew.cell? ⟨w.heap.size, 0, none⟩ = _ from m0))).trans m0))) | fail)
  all_goals
    (clear m0 m1 m2 m3 m4 m5 m6 m7 n0 hb3 HG0 HB0 HK hz0 hW0); (obtain ⟨m0, m1, m2, m3, m4, m5, m6, m7⟩ := blk8 HGC.out); (go_wp2_with fail)
    go_ret
    exact ⟨rfl, HBC.out⟩
set_option maxRecDepth 100000 in
set_option maxHeartbeats 1000000 in
theorem town_float (bn bi : Bool) (hN : ∀ W : World, Calls Tryd.prog 38 #[.float .f64 f] W fun e w' => e = .returned (.bool bn) ∧ W = w') (hI : bn = false → ∀ W : World, Calls Tryd.prog 39 #[.float .f64 f, .int .i64 0] W fun e w' => e = .returned (.bool bi) ∧ W = w')
    (hK : ∀ W : World, Calls Tryd.prog 24 #[.agg #[.int .i64 3, .bool b, .int .i64 i, .float .f64 f, .string t, .string y, .slice A n c, .slice A' m c']] W fun e w' => e = .returned (.int .i64 3) ∧ Below W.heap.size W w') : Calls Tryd.prog 26 #[.agg #[.int .i64 3, .bool b, .int .i64 i, .float .f64 f, .string t, .string y, .slice A n c, .slice A' m c']] w (ToPost (if bn = true ∨ bi = true then 6 else 0) w) := by
  obtain ⟨r, hr⟩ : ∃ r : Int, (if bn = true ∨ bi = true then (6 : Int) else 0) = r := ⟨_, rfl⟩
  have HR := Lib.hid hr
  rw [hr]
  clear hr
  obtain ⟨k, hk⟩ : ∃ k : Int, k = 3 := ⟨_, rfl⟩
  rw [← hk] at hK ⊢
  have HN := Lib.hid hN
  have HI := Lib.hid hI
  have hq1 : (k == 7) = false := by rw [hk]; rfl
  have hq2 : (k != k) = false := by simp
  have hq3 : (k == 3) = true := by rw [hk]; rfl
  have hq4 : (k == 4) = false := by rw [hk]; rfl
  have hq6 : (k != 6) = true := by rw [hk]; rfl
  clear hk hN hI
  have hG0 := heap_alloc_new w (.cells #[.int .i64 k, .bool b, .int .i64 i, .float .f64 f, .string t, .string y, .slice A n c, .slice A' m c'] 30); have hb0 := (Below.refl w.heap.size w).alloc (Nat.le_refl _) (.cells #[.int .i64 k, .bool b, .int .i64 i, .float .f64 f, .string t, .string y, .slice A n c, .slice A' m c'] 30); have hz0 : (w.alloc (.cells #[.int .i64 k, .bool b, .int .i64 i, .float .f64 f, .string t, .string y, .slice A n c, .slice A' m c'] 30)).heap.size = w.heap.size + 1 := (by simp); obtain ⟨m0, m1, m2, m3, m4, m5, m6, m7⟩ := blk8 hG0; generalize hW0 : (w.alloc (.cells #[.int .i64 k, .bool b, .int .i64 i, .float .f64 f, .string t, .string y, .slice A n c, .slice A' m c'] 30)) = W0 at *; have HK := Lib.hid hK; clear hK
  (go_enter Tryd.func26, Tryd.ntmps26); (go_wp2_with fail); (have HG0 := Lib.hid hG0); (have HB0 := Lib.hid hb0); (clear hb0 hG0); (first | (go_region_law ((go_simp; go_at_call 24; refine (HK.out _).mono ?_; rintro e wc ⟨rfl, hb3⟩; have HGC := Lib.hid ((hb3.block w.heap.size (by simp; omega)).trans (show W0.drew.heap[w.heap.size]? = _ from HG0.out)); have HBC := Lib.hid (HB0.out.trans (((Below.refl _ _).drew).trans (hb3.mono (by simp; omega)))); have n0 := (hb3.cell (World.block_lt_of_cell? W0.drew _ (show W0.drew.cell? ⟨w.heap.size, 0, none⟩ = _ from m0))).trans m0))) | fail)
  all_goals
    (clear m0 m1 m2 m3 m4 m5 m6 m7 n0 hb3 HG0 HB0 HK hz0 hW0); (obtain ⟨m0, m1, m2, m3, m4, m5, m6, m7⟩ := blk8 HGC.out); (go_wp2_with fail)
    refine (HN.out _).mono ?_
    rintro e w4 ⟨rfl, rfl⟩
    cases bn with
    | true =>
      go_wp2_with fail
      go_ret
      exact ⟨by rw [← HR.out]; rfl, HBC.out⟩
    | false =>
      have HI2 := Lib.hid (HI.out rfl)
      go_wp2_with fail
      refine (HI2.out _).mono ?_
      rintro e w5 ⟨rfl, rfl⟩
      cases bi with
      | true =>
        go_wp2_with fail
        go_ret
        exact ⟨by rw [← HR.out]; rfl, HBC.out⟩
      | false =>
        go_wp2_with fail
        go_ret
        exact ⟨by rw [← HR.out]; rfl, HBC.out⟩
set_option maxRecDepth 100000 in
set_option maxHeartbeats 1000000 in
theorem town_text (bv : Bool) (hC : ∀ W : World, Below w.heap.size w W → Calls Tryd.prog 22 #[.string t] W fun e w' => e = .returned (.bool bv) ∧ Below W.heap.size W w')
    (hK : ∀ W : World, Calls Tryd.prog 24 #[.agg #[.int .i64 4, .bool b, .int .i64 i, .float .f64 f, .string t, .string y, .slice A n c, .slice A' m c']] W fun e w' => e = .returned (.int .i64 4) ∧ Below W.heap.size W w') : Calls Tryd.prog 26 #[.agg #[.int .i64 4, .bool b, .int .i64 i, .float .f64 f, .string t, .string y, .slice A n c, .slice A' m c']] w (ToPost (if bv = true then 0 else 1) w) := by
  obtain ⟨r, hr⟩ : ∃ r : Int, (if bv = true then (0 : Int) else 1) = r := ⟨_, rfl⟩
  have HR := Lib.hid hr
  rw [hr]
  clear hr
  obtain ⟨k, hk⟩ : ∃ k : Int, k = 4 := ⟨_, rfl⟩
  rw [← hk] at hK ⊢
  have HC := Lib.hid hC
  have hq1 : (k == 7) = false := by rw [hk]; rfl
  have hq2 : (k != k) = false := by simp
  have hq3 : (k == 3) = false := by rw [hk]; rfl
  have hq4 : (k == 4) = true := by rw [hk]; rfl
  have hq6 : (k != 6) = true := by rw [hk]; rfl
  clear hk hC
  have hG0 := heap_alloc_new w (.cells #[.int .i64 k, .bool b, .int .i64 i, .float .f64 f, .string t, .string y, .slice A n c, .slice A' m c'] 30); have hb0 := (Below.refl w.heap.size w).alloc (Nat.le_refl _) (.cells #[.int .i64 k, .bool b, .int .i64 i, .float .f64 f, .string t, .string y, .slice A n c, .slice A' m c'] 30); have hz0 : (w.alloc (.cells #[.int .i64 k, .bool b, .int .i64 i, .float .f64 f, .string t, .string y, .slice A n c, .slice A' m c'] 30)).heap.size = w.heap.size + 1 := (by simp); obtain ⟨m0, m1, m2, m3, m4, m5, m6, m7⟩ := blk8 hG0; generalize hW0 : (w.alloc (.cells #[.int .i64 k, .bool b, .int .i64 i, .float .f64 f, .string t, .string y, .slice A n c, .slice A' m c'] 30)) = W0 at *; have HK := Lib.hid hK; clear hK
  (go_enter Tryd.func26, Tryd.ntmps26); (go_wp2_with fail); (have HG0 := Lib.hid hG0); (have HB0 := Lib.hid hb0); (clear hb0 hG0); (first | (go_region_law ((go_simp; go_at_call 24; refine (HK.out _).mono ?_; rintro e wc ⟨rfl, hb3⟩; have HGC := Lib.hid ((hb3.block w.heap.size (by simp; omega)).trans (show W0.drew.heap[w.heap.size]? = _ from HG0.out)); have HBC := Lib.hid (HB0.out.trans (((Below.refl _ _).drew).trans (hb3.mono (by simp; omega)))); have n0 := (hb3.cell (World.block_lt_of_cell? W0.drew _ (show W0.drew.cell? ⟨w.heap.size, 0, none⟩ = _ from m0))).trans m0))) | fail)
  all_goals
    (clear m0 m1 m2 m3 m4 m5 m6 m7 n0 hb3 HG0 HB0 HK hz0 hW0); (obtain ⟨m0, m1, m2, m3, m4, m5, m6, m7⟩ := blk8 HGC.out); (go_wp2_with fail)
    refine (HC.out _ HBC.out).mono ?_
    rintro e w4 ⟨rfl, hb⟩
    have HGD := Lib.hid ((hb.block w.heap.size (by have := HBC.out.size; have := (Array.getElem?_eq_some_iff.1 HGC.out).1; omega)).trans HGC.out)
    have HBD := Lib.hid (HBC.out.trans (hb.mono HBC.out.size))
    clear m0 m1 m2 m3 m4 m5 m6 m7 hb
    obtain ⟨m0, m1, m2, m3, m4, m5, m6, m7⟩ := blk8 HGD.out
    cases bv with
    | true =>
      go_wp2_with fail
      go_ret
      exact ⟨by rw [← HR.out]; rfl, HBD.out⟩
    | false =>
      go_wp2_with fail
      go_ret
      exact ⟨by rw [← HR.out]; rfl, HBD.out⟩
end
end Go.Proofs.YthlncdcfppehcaaDoor.look
end
section
namespace Go.Proofs.YthlncdcfppehcaaDoor.smap
open Go.RowKit mem

/-- block m is a map of at most n entries that answers as g does -/
def MapN (w : World) (m n : Nat) (g : ByteArray → Int) : Prop := ∃ D : DataW Unit, w.ownsMap Tryd.prog 9 (plainElem Tryd.prog 3) m n D ∧
  ∀ (s : ByteArray) (k : Lit), keyOf Tryd.prog 9 (.string s) = some k → D.atKey k (.lit (.int .i64 0)) = .lit (.int .i64 (g s))
theorem MapN.made (w : World) : MapN (w.alloc (.map #[] 0)) w.heap.size 0 (fun _ => 0) := ⟨.map [], World.ownsMap_made _ _ _ _, fun _ _ _ => rfl⟩
theorem MapN.lt {w : World} {m n : Nat} {g : ByteArray → Int} (h : MapN w m n g) : m < w.heap.size := by
  obtain ⟨D, h, _⟩ := h
  exact h.lt
theorem MapN.heap {w w' : World} {m n : Nat} {g : ByteArray → Int} (h : MapN w m n g) (he : w'.heap[m]? = w.heap[m]?) : MapN w' m n g := by
  obtain ⟨D, ⟨es, clock, hb, F, hs, hD⟩, h2⟩ := h
  exact ⟨D, ⟨es, clock, he.trans hb, F, hs, hD⟩, h2⟩
theorem MapN.look {w : World} {m n : Nat} {g : ByteArray → Int} (h : MapN w m n g) {s : ByteArray} (hc : s.size ≤ maxLen) {i : Int} (hi : g s = i) :
    (Instr.lookup 77 (.map (some m)) (.string s) false).run Tryd.prog w = .ok (.int .i64 i) w := by
  obtain ⟨D, h, h2⟩ := h
  obtain ⟨l, hl⟩ := key_some s hc
  obtain ⟨k, hrun, hat, _⟩ := h.lookup_int keyedS Tryd.underlying77 Tryd.underlying3 (zeroInt w) hl
  rw [h2 s l hl] at hat
  simp at hat
  rw [← hi, hat]
  exact hrun
open Classical in
noncomputable def upd (g : ByteArray → Int) (s : ByteArray) (i : Int) : ByteArray → Int := fun d => if d = s then i else g d
theorem upd_same (g : ByteArray → Int) (s : ByteArray) (i : Int) : upd g s i s = i := by simp [upd]
theorem MapN.put {w : World} {m n : Nat} {g : ByteArray → Int} (h : MapN w m n g) {s : ByteArray} (hc : s.size ≤ maxLen) (hn : n < maxLen) {i : Int} (hi : (Lit.int .i64 i).wf = true) :
    ∃ w', (Instr.mapUpdate 77 (.map (some m)) (.string s) (.int .i64 i)).run Tryd.prog w = .ok () w' ∧ MapN w' m (n + 1) (upd g s i) ∧ w.grownBy w' (some m) := by
  obtain ⟨D, h, h2⟩ := h
  obtain ⟨k, hl⟩ := key_some s hc
  obtain ⟨w', hrun, ho, hg⟩ := h.update keyedS Tryd.underlying77 hn hl (plainElem_int Tryd.underlying3 hi)
  refine ⟨w', hrun, ⟨_, ho, fun d q hk => ?_⟩, hg⟩
  have hm := h.isMap
  have hkl := keyedS.key hl
  by_cases hd : d = s
  · subst hd
    obtain rfl : k = q := by rw [hl] at hk; injection hk
    rw [Maps.atKey_put_same hm hkl]
    simp [upd]
  · have hne : q ≠ k := fun e => hd (by
      have := keyedS.inj (l := q) hk (by rw [e]; exact hl)
      injection this)
    rw [Maps.atKey_put_other hne]
    simpa [upd, hd] using h2 d q hk
open Classical in
/-- each name of l once, no other -/
noncomputable def once (l : List ByteArray) : ByteArray → Int := fun d => if d ∈ l then 1 else 0
theorem once_in {l : List ByteArray} {s : ByteArray} (h : s ∈ l) : once l s = 1 := by simp [once, h]
theorem once_out {l : List ByteArray} {s : ByteArray} (h : s ∉ l) : once l s = 0 := by simp [once, h]
theorem once_nil : once [] = fun _ => 0 := by funext d; simp [once]
theorem once_cons (l : List ByteArray) (s : ByteArray) : upd (once l) s 1 = once (s :: l) := by
  funext d
  by_cases h : d = s
  · simp [upd, once, h]
  · by_cases h2 : d ∈ l
    · rw [once_in (List.mem_cons_of_mem _ h2)]
      simp [upd, once, h, h2]
    · rw [once_out (by simp [h, h2])]
      simp [upd, once, h, h2]
end Go.Proofs.YthlncdcfppehcaaDoor.smap
end
section
namespace Go.Proofs.YthlncdcfppehcaaDoor.look
open Go.RowKit mem txt app smap val
attribute [local go_sem] run_store_float
set_option linter.unusedVariables false

/-- what the loop has behind q members -/
structure ToSt (w wc : World) (q : Nat) (g : ByteArray → Int) (wr : World) : Prop where
  be : Below w.heap.size w wr
  up : wc.heap.size < wr.heap.size
  mp : MapN wr wc.heap.size q g
section
variable (b : Bool) (i : Int) (f : Nat) (t y : ByteArray) (A A' : Option Addr) (n m c c' : Nat) (w : World) (S : Nat → Prop)
set_option maxRecDepth 100000 in
set_option maxHeartbeats 4000000 in
theorem town_obj (fs : List (ByteArray × V)) (hn : fs.length = m) (hn2 : m ≤ 1048576) (hI : IsFs w S fs A' 0) (hS : Bel S w.heap.size) (hok : okf fs) (hT : Tabs w)
    (hK : ∀ W : World, Calls Tryd.prog 24 #[.agg #[.int .i64 6, .bool b, .int .i64 i, .float .f64 f, .string t, .string y, .slice A n c, .slice A' m c']] W fun e w' => e = .returned (.int .i64 6) ∧ Below W.heap.size W w') : Calls Tryd.prog 26 #[.agg #[.int .i64 6, .bool b, .int .i64 i, .float .f64 f, .string t, .string y, .slice A n c, .slice A' m c']] w (ToPost (nmE [] fs) w) := by
  obtain ⟨k, hk⟩ : ∃ k : Int, k = 6 := ⟨_, rfl⟩
  rw [← hk] at hK ⊢
  have HI := Lib.hid hI
  have HS := Lib.hid hS
  have HN := Lib.hid hn
  have HO := Lib.hid hok
  have HT := Lib.hid hT
  have hq1 : (k == 7) = false := by rw [hk]; rfl
  have hq2 : (k != k) = false := by simp
  have hq3 : (k == 3) = false := by rw [hk]; rfl
  have hq4 : (k == 4) = false := by rw [hk]; rfl
  have hq6 : (k != 6) = false := by rw [hk]; rfl
  have HE : Hid (nmE [] (fs.drop 0) = nmE [] fs) := Lib.hid rfl
  generalize nmE [] fs = r at *
  have hmm : ∀ (w : World), (Instr.makeMap 77 none).run Tryd.prog w = .ok (.map (some w.heap.size)) (w.alloc (.map #[] 0)) := fun _ => by kernel_rfl
  clear hI hS hn hok hT hk
  have hG0 := heap_alloc_new w (.cells #[.int .i64 k, .bool b, .int .i64 i, .float .f64 f, .string t, .string y, .slice A n c, .slice A' m c'] 30); have hb0 := (Below.refl w.heap.size w).alloc (Nat.le_refl _) (.cells #[.int .i64 k, .bool b, .int .i64 i, .float .f64 f, .string t, .string y, .slice A n c, .slice A' m c'] 30); have hz0 : (w.alloc (.cells #[.int .i64 k, .bool b, .int .i64 i, .float .f64 f, .string t, .string y, .slice A n c, .slice A' m c'] 30)).heap.size = w.heap.size + 1 := (by simp); obtain ⟨m0, m1, m2, m3, m4, m5, m6, m7⟩ := blk8 hG0; generalize hW0 : (w.alloc (.cells #[.int .i64 k, .bool b, .int .i64 i, .float .f64 f, .string t, .string y, .slice A n c, .slice A' m c'] 30)) = W0 at *; have HK := Lib.hid hK; clear hK
  (go_enter Tryd.func26, Tryd.ntmps26); (go_wp2_with fail); (have HG0 := Lib.hid hG0); (have HB0 := Lib.hid hb0); (clear hb0 hG0); (first | (go_region_law ((go_simp; go_at_call 24; refine (HK.out _).mono ?_; rintro e wc ⟨rfl, hb3⟩; have HGC := Lib.hid ((hb3.block w.heap.size (by simp; omega)).trans (show W0.drew.heap[w.heap.size]? = _ from HG0.out)); have HBC := Lib.hid (HB0.out.trans (((Below.refl _ _).drew).trans (hb3.mono (by simp; omega)))); have n0 := (hb3.cell (World.block_lt_of_cell? W0.drew _ (show W0.drew.cell? ⟨w.heap.size, 0, none⟩ = _ from m0))).trans m0))) | fail)
  all_goals
    clear m0 m1 m2 m3 m4 m5 m6 m7 n0 hb3 HG0 HB0 HK hz0 hW0
    obtain ⟨m0, m1, m2, m3, m4, m5, m6, m7⟩ := blk8 HGC.out
    have hzc : w.heap.size < wc.heap.size := blk_lt HGC.out
    have HST : Hid (ToSt w wc 0 (once []) (wc.alloc (.map #[] 0))) := Lib.hid ⟨HBC.out.alloc (by omega) _, by simp, by rw [once_nil]; exact MapN.made wc⟩
    go_wp2_with fail
    clear m0 m1 m2 m3 m4 m5 m6 m7
    go_loopw [49] (fun vi wr => ∃ (q : Nat) (l : List ByteArray), q ≤ m ∧ vi = .int .i64 (q : Int) ∧ Hid (ToSt w wc q (once l) wr) ∧ Hid (nmE l (fs.drop q) = r)) (fun v _ => m - (intOf v).toNat)
    case atStart => exact ⟨0, [], Nat.zero_le _, rfl, HST, HE⟩
    case round =>
      clear HST HE
      obtain ⟨q, l, hq, rfl, HC, HE⟩ := hrel
      have hszr := HC.out.be.size
      have hup := HC.out.up
      by_cases hlt : q < m
      · obtain ⟨p, hp⟩ : ∃ p, fs[q]? = some p := ⟨_, List.getElem?_eq_getElem (by rw [HN.out]; exact hlt)⟩
        obtain ⟨s, x⟩ := p
        obtain ⟨ad, cs, rfl, hadB, hcs, hvx⟩ := HI.out.at_ hp
        rw [Nat.zero_add] at hcs
        simp only at hcs hvx
        have hadw : ad.block < w.heap.size := HS.out _ hadB
        have hss := (okf_get HO.out hp).1
        simp only at hss
        have hst := nmE_step hp l
        rw [HE.out] at hst
        obtain ⟨k2, b2, i2, f2, t2, y2, is2, fs2⟩ := x
        simp only [IsV] at hvx
        obtain ⟨A2, c2, A2', c2', rfl, _⟩ := hvx
        obtain ⟨d0, d1, d2, d3, d4, d5, d6, d7, d8⟩ := (hcs.keep (S := fun b => b < w.heap.size) (by rw [add_block]; exact hadw) (fun p hp => HC.out.be.cell hp)).nine
        have hq0 : (0 : Int) ≤ (q : Int) := by omega
        have hqm : (q : Int) < (m : Int) := by omega
        have HST2 := Lib.hid hst
        clear hcs hp hst
        have gM := heap_alloc_new wr (.cells #[.string s, .int .i64 k2, .bool b2, .int .i64 i2, .float .f64 f2, .string t2, .string y2, .slice A2 is2.length c2, .slice A2' fs2.length c2'] 38)
        have hb1 : Below w.heap.size w (wr.alloc (.cells #[.string s, .int .i64 k2, .bool b2, .int .i64 i2, .float .f64 f2, .string t2, .string y2, .slice A2 is2.length c2, .slice A2' fs2.length c2'] 38)) := HC.out.be.alloc hszr _
        have hm1 : MapN (wr.alloc (.cells #[.string s, .int .i64 k2, .bool b2, .int .i64 i2, .float .f64 f2, .string t2, .string y2, .slice A2 is2.length c2, .slice A2' fs2.length c2'] 38)) wc.heap.size q (once l) := HC.out.mp.heap (Lib.alloc_old wr _ _ hup)
        have hz1 : wr.heap.size < (wr.alloc (.cells #[.string s, .int .i64 k2, .bool b2, .int .i64 i2, .float .f64 f2, .string t2, .string y2, .slice A2 is2.length c2, .slice A2' fs2.length c2'] 38)).heap.size := by simp
        have HCL := Lib.hid (clean_any s (wr.alloc (.cells #[.string s, .int .i64 k2, .bool b2, .int .i64 i2, .float .f64 f2, .string t2, .string y2, .slice A2 is2.length c2, .slice A2' fs2.length c2'] 38)) (by omega) (HT.out.below hb1))
        have e0 := cell_of_row _ wr.heap.size 0 _ 38 (0, 0) gM
        have HM1 := Lib.hid hm1
        have HB1 := Lib.hid hb1
        have HGM := Lib.hid gM
        clear hm1 hb1 gM
        go_wp2_with fail
        refine HCL.out.mono ?_
        rintro e w2 ⟨rfl, hb2⟩
        have HB2 := Lib.hid (HB1.out.trans (hb2.mono (by omega)))
        have HM2 := Lib.hid (HM1.out.heap (hb2.block wc.heap.size (by omega)))
        have hc2 := (hb2.cell (p := ⟨wr.heap.size, 0, none⟩) (by show wr.heap.size < _; omega)).trans e0
        have hc2 : w2.cell? ⟨wr.heap.size, 0, none⟩ = some (.string s) := by simpa using hc2
        have hz2 := hb2.size
        clear hb2 HCL e0 d0 d1 d2 d3 d4 d5 d6 d7 d8 HM1 HB1 HGM
        by_cases hv : Lib.validD s.data.toList = true
        · rw [hv]
          rw [if_pos hv] at HST2
          clear hv
          by_cases hin : s ∈ l
          · have hr : r = 5 := by rw [HST2.out, if_pos hin]
            have hlk := HM2.out.look (s := s) (by unfold maxLen; omega) (once_in hin)
            obtain ⟨w3, hput, hm3, hg3⟩ := HM2.out.put (s := s) (i := 2) (by unfold maxLen; omega) (by unfold maxLen; omega) (by decide)
            have hlk3 := hm3.look (s := s) (by unfold maxLen; omega) (upd_same _ _ _)
            have hc3 := (World.cell?_of_block (a := ⟨wr.heap.size, 0, none⟩) (hg3.block wr.heap.size (by omega) (by simp; omega))).trans hc2
            have HB3 := Lib.hid (HB2.out.grown hg3 HB2.out.size (fun kk hkk => by injection hkk with hkk; omega))
            clear hm3 hg3 hin HST2
            subst hr
            go_wp2_with fail
            go_ret
            exact ⟨by simp, HB3.out⟩
          · have hlk := HM2.out.look (s := s) (by unfold maxLen; omega) (once_out hin)
            obtain ⟨w3, hput, hm3, hg3⟩ := HM2.out.put (s := s) (i := 1) (by unfold maxLen; omega) (by unfold maxLen; omega) (by decide)
            have hlk3 := hm3.look (s := s) (by unfold maxLen; omega) (upd_same _ _ _)
            have hc3 := (World.cell?_of_block (a := ⟨wr.heap.size, 0, none⟩) (hg3.block wr.heap.size (by omega) (by simp; omega))).trans hc2
            have HC3 : Hid (ToSt w wc (q + 1) (once (s :: l)) w3) := Lib.hid ⟨HB2.out.grown hg3 HB2.out.size (fun kk hkk => by injection hkk with hkk; omega), by have := hg3.size; omega, by rw [← once_cons]; exact hm3⟩
            have HE3 : Hid (nmE (s :: l) (fs.drop (q + 1)) = r) := Lib.hid (by rw [HST2.out, if_neg hin])
            clear hm3 hg3 hin HST2
            go_wp2_with fail
            exact ⟨⟨q + 1, s :: l, by omega, by go_num, HC3, HE3⟩, by simp [intOf]; omega⟩
        · rw [if_neg hv] at HST2
          have hf : Lib.validD s.data.toList = false := by simpa using hv
          rw [hf]
          have hr : r = 1 := HST2.out
          clear hv hf HST2
          subst hr
          go_wp2_with fail
          go_ret
          exact ⟨by simp, HB2.out⟩
      · obtain rfl : q = m := by omega
        have hr : r = 0 := by rw [← HE.out, List.drop_eq_nil_of_le (by rw [HN.out]; exact Nat.le_refl _)]; simp only [nmE]
        subst hr
        go_wp2_with fail
        go_ret
        exact ⟨by simp, HC.out.be⟩
end
end Go.Proofs.YthlncdcfppehcaaDoor.look
end
