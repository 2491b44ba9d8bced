/- JsonoutRefuses, the walk, over what tree.Sound answers. tree.kind; tree.own of a part without names. -/
import Derived.Test.YthlncdcfppehcaaDoorYRsz
import Derived.Test.YthlncdcfppehcaaDoorGOwn
import Derived.Test.YthlncdcfppehcaaDoorGFtx
import Derived.Test.YthlncdcfppehcaaDoorYCls
section
namespace Go.Proofs.YthlncdcfppehcaaDoor.look
open Go.RowKit mem txt app smap val
attribute [local go_sem] run_store_float
set_option linter.unusedVariables false

def TsPost (r : Int) (w : World) (e : Ending) (w' : World) : Prop := ∃ A n c, e = .returned (.tuple #[.slice A n c, .int .i64 r]) ∧ Below w.heap.size w w'
section
variable (b : Bool) (i : Int) (f : Nat) (t y : ByteArray) (A A' : Option Addr) (n m c c' : Nat) (w : World)
set_option maxRecDepth 100000 in
set_option maxHeartbeats 4000000 in
theorem refuses_cells (k : Int) (r : Int) (N : Nat) (T : List Int) (hN : N ≤ 1048576) (hq : T.length ≤ 1099511627776) (hT : r = 0 → 0 < T.length) (h0 : ∀ W, Below w.heap.size w W → Calls Tryd.prog 7 #[] W (TruePost W)) (h1 : ∀ W, Below w.heap.size w W → Calls Tryd.prog 8 #[.agg #[.int .i64 k, .bool b, .int .i64 i, .float .f64 f, .string t, .string y, .slice A n c, .slice A' m c'], .int .i64 100000] W (RsPost N W))
    (h2 : ∀ W, Below w.heap.size w W → Calls Tryd.prog 15 #[.agg #[.int .i64 k, .bool b, .int .i64 i, .float .f64 f, .string t, .string y, .slice A n c, .slice A' m c']] W (TsPost r W))
    (h3 : ∀ W, Below w.heap.size w W → Calls Tryd.prog 9 #[.agg #[.int .i64 k, .bool b, .int .i64 i, .float .f64 f, .string t, .string y, .slice A n c, .slice A' m c']] W (WrPost r T W))
    (h4 : ∀ W, Below w.heap.size w W → Calls Tryd.prog 16 #[.agg #[.int .i64 k, .bool b, .int .i64 i, .float .f64 f, .string t, .string y, .slice A n c, .slice A' m c']] W (SzPost r T.length W)) :
    Calls Tryd.prog 6 #[.agg #[.int .i64 k, .bool b, .int .i64 i, .float .f64 f, .string t, .string y, .slice A n c, .slice A' m c']] w (TruePost w) := by
  have H0 := Lib.hid h0
  have H1 := Lib.hid h1
  have H2 := Lib.hid h2
  have H3 := Lib.hid h3
  have H4 := Lib.hid h4
  clear h0 h1 h2 h3 h4
  have hG0 := heap_alloc_new w (.cells #[.int .i64 k, .bool b, .int .i64 i, .float .f64 f, .string t, .string y, .slice A n c, .slice A' m c'] 30)
  have hb0 := (Below.refl w.heap.size w).alloc (Nat.le_refl _) (.cells #[.int .i64 k, .bool b, .int .i64 i, .float .f64 f, .string t, .string y, .slice A n c, .slice A' m c'] 30)
  have hz0 : (w.alloc (.cells #[.int .i64 k, .bool b, .int .i64 i, .float .f64 f, .string t, .string y, .slice A n c, .slice A' m c'] 30)).heap.size = w.heap.size + 1 := by simp
  generalize hW0 : (w.alloc (.cells #[.int .i64 k, .bool b, .int .i64 i, .float .f64 f, .string t, .string y, .slice A n c, .slice A' m c'] 30)) = W0 at *
  have HA := Lib.hid (H0.out W0 hb0)
  go_enter Tryd.func6, Tryd.ntmps6
  go_wp2_with fail
  refine HA.out.mono ?_
  rintro e w1 ⟨rfl, hbl⟩
  have HB1 := Lib.hid (hb0.trans (hbl.mono hb0.size))
  have HG1 := Lib.hid ((hbl.block w.heap.size (by omega)).trans hG0)
  obtain ⟨m0, m1, m2, m3, m4, m5, m6, m7⟩ := blk8 HG1.out
  have H10 := Lib.hid (H1.out w1 HB1.out)
  have hz1 := hbl.size
  clear hb0 hbl HA H0 hG0 hW0
  go_wp2_with fail
  refine H10.out.mono ?_
  rintro e w2 ⟨p, hp0, hp1, rfl, hbl⟩
  have HB2 := Lib.hid (HB1.out.trans (hbl.mono HB1.out.size))
  have HG2 := Lib.hid ((hbl.block w.heap.size (by omega)).trans HG1.out)
  have hz2 := hbl.size
  clear m0 m1 m2 m3 m4 m5 m6 m7 HG1 HB1 hbl H10 H1
  by_cases hbig : p > 100000
  · go_wp2_with fail
    go_ret
    exact ⟨rfl, HB2.out⟩
  obtain ⟨m0, m1, m2, m3, m4, m5, m6, m7⟩ := blk8 HG2.out
  have H20 := Lib.hid (H2.out w2 HB2.out)
  go_wp2_with fail
  refine H20.out.mono ?_
  rintro e w3 ⟨Ap, np, cp, rfl, hbl⟩
  have HB3 := Lib.hid (HB2.out.trans (hbl.mono HB2.out.size))
  have HG3 := Lib.hid ((hbl.block w.heap.size (by omega)).trans HG2.out)
  have hz3 := hbl.size
  clear m0 m1 m2 m3 m4 m5 m6 m7 HG2 HB2 hbl H20 H2
  obtain ⟨m0, m1, m2, m3, m4, m5, m6, m7⟩ := blk8 HG3.out
  have H30 := Lib.hid (H3.out w3 HB3.out)
  go_wp2_with fail
  refine H30.out.mono ?_
  rintro e w4 ⟨ha, hb, hbl⟩
  have HB4 := Lib.hid (HB3.out.trans (hbl.mono HB3.out.size))
  have HG4 := Lib.hid ((hbl.block w.heap.size (by omega)).trans HG3.out)
  have hz4 := hbl.size
  clear m0 m1 m2 m3 m4 m5 m6 m7 HG3 HB3 hbl H30 H3
  obtain ⟨m0, m1, m2, m3, m4, m5, m6, m7⟩ := blk8 HG4.out
  have H40 := Lib.hid (H4.out w4 HB4.out)
  by_cases hr : r = 0
  · obtain ⟨v', B', rfl, ho, _⟩ := ha hr
    obtain ⟨A2, c2, rfl, _⟩ := own_form ho
    clear ha hb ho
    go_wp2_with fail
    refine H40.out.mono ?_
    rintro e w5 ⟨ha, hb, hbl⟩
    obtain rfl := ha hr
    subst hr
    have HB5 := Lib.hid (HB4.out.trans (hbl.mono HB4.out.size))
    have hT0 := hT rfl
    have hne : ((T.length : Int) == 0) = false := beq_false_of_ne (by omega)
    clear ha hb hbl m0 m1 m2 m3 m4 m5 m6 m7
    go_wp2_with fail
    go_ret
    exact ⟨by simp, HB5.out⟩
  · obtain rfl := hb hr
    clear ha hb
    go_wp2_with fail
    refine H40.out.mono ?_
    rintro e w5 ⟨ha, hb, hbl⟩
    obtain rfl := hb hr
    have HB5 := Lib.hid (HB4.out.trans (hbl.mono HB4.out.size))
    have hne : (r == 0) = false := beq_false_of_ne hr
    clear ha hb hbl m0 m1 m2 m3 m4 m5 m6 m7
    go_wp2_with fail
    go_ret
    exact ⟨by simp [hr], HB5.out⟩
end
end Go.Proofs.YthlncdcfppehcaaDoor.look
end
section
namespace Go.Proofs.YthlncdcfppehcaaDoor.look
open Go.RowKit mem txt app smap val
attribute [local go_sem] run_store_float
set_option linter.unusedVariables false

def kd (k : Int) : Int := if k < 0 ∨ 7 < k then 0 else k
section
variable (b : Bool) (i : Int) (f : Nat) (t y : ByteArray) (A A' : Option Addr) (n m c c' : Nat) (w : World)
set_option maxRecDepth 100000 in
theorem tkind_any (k : Int) : Calls Tryd.prog 24 #[.agg #[.int .i64 k, .bool b, .int .i64 i, .float .f64 f, .string t, .string y, .slice A n c, .slice A' m c']] w fun e w' => e = .returned (.int .i64 (kd k)) ∧ Below w.heap.size w w' := by
  by_cases h : k < 0 ∨ 7 < k
  · have hk : kd k = 0 := if_pos h
    rw [hk]
    clear hk
    rcases h with h | h
    all_goals
      go_enter Tryd.func24, Tryd.ntmps24
      go_wp2_with fail
      first | (exfalso; omega) | skip
      all_goals first
        | (exfalso; omega)
        | (go_ret; exact ⟨rfl, (Below.refl _ _).alloc (Nat.le_refl _) _⟩)
  · have hk : kd k = k := if_neg h
    rw [hk]
    clear hk
    have h1 : ¬ k < 0 := fun e => h (.inl e)
    have h2 : ¬ 7 < k := fun e => h (.inr e)
    clear h
    go_enter Tryd.func24, Tryd.ntmps24
    go_wp2_with fail
    go_ret
    exact ⟨rfl, (Below.refl _ _).alloc (Nat.le_refl _) _⟩
end
end Go.Proofs.YthlncdcfppehcaaDoor.look
end
