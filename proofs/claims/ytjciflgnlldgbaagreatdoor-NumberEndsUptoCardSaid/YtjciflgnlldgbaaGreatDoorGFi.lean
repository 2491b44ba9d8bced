/- The float of -125: its choice of digits, its text. fixed, walked: true. -/
import Derived.Test.YtjciflgnlldgbaaGreatDoorYRe
import Derived.Test.YtjciflgnlldgbaaGreatDoorGFlt
import Derived.Deep.RegionHeld
section
namespace Go.Proofs.YtjciflgnlldgbaaGreatDoor.pg
open Go.RowKit mem fl big us uw sh
set_option linter.unusedVariables false

/-- the float of 125 -/
def a125 : Nat := 4638496509959077888
theorem a125_eq : a125 = 4638496509959077888 := rfl
theorem f125 : floatOfInt FloatKind.f64 ((125 : Nat) : Int) = a125 := by decide +kernel
theorem V_form (r m e : Nat) (h : ¬ r < 4503599627370496) (hm : 4503599627370496 + r % 4503599627370496 = m) (he : r / 4503599627370496 - 1 = e) : V r = m * pow2 e := by
  unfold V
  rw [if_neg h, hm, he, pow2_eq]
theorem V125 : V a125 = 8796093022208000 * pow2 1028 := V_form _ _ _ (by decide) (by decide) (by decide)
theorem V124 : V (a125 - 1) = 8796093022207999 * pow2 1028 := V_form _ _ _ (by decide) (by decide) (by decide)
theorem V126 : V (a125 + 1) = 8796093022208001 * pow2 1028 := V_form _ _ _ (by decide) (by decide) (by decide)
theorem pow2_add (a b c : Nat) (h : a + b = c) : pow2 c = pow2 a * pow2 b := by
  subst h
  unfold pow2
  rw [Nat.pow_add]
theorem pow2_46 : pow2 46 = 70368744177664 := by decide
theorem pow2_pos (n : Nat) : 0 < pow2 n := Nat.two_pow_pos n
theorem split46 : pow2 1074 = 70368744177664 * pow2 1028 := by rw [pow2_add 46 1028 1074 rfl, pow2_46]
theorem in125 (q : Nat) : In a125 q 0 ↔ q = 125 := by
  unfold In
  rewrite [← pow2_eq 1074, split46, near_fin (by decide) (by decide), V125, V124, V126]
  have hP := pow2_pos 1028
  generalize pow2 1028 = P at *
  rw [show (10 : Nat) ^ (0 : Int).toNat = 1 from rfl, show (10 : Nat) ^ (-(0 : Int)).toNat = 1 from rfl, show a125 % 2 = 0 from by decide, Nat.one_mul, Nat.one_mul, Nat.mul_one, Nat.add_zero, Nat.add_zero, ← Nat.add_mul, ← Nat.add_mul,
    ← Nat.mul_assoc, ← Nat.mul_assoc]
  constructor
  · rintro ⟨h1, h2⟩
    have h3 := Nat.le_of_mul_le_mul_right h1 hP
    have h4 := Nat.le_of_mul_le_mul_right h2 hP
    omega
  · rintro rfl
    exact ⟨Nat.mul_le_mul_right _ (by decide), Nat.mul_le_mul_right _ (by decide)⟩
theorem cand125 : Cand a125 125 0 := by
  refine ⟨by decide, (in125 125).2 rfl, .inr fun q' h => (in125 q').1 h, fun q' h => ?_⟩
  have := (in125 _).1 ((in_ten1 (by decide)).1 h)
  omega
theorem lay125 : layT (dgs 125) ((dgs 125).length + 0) = [49, 50, 53, 46, 48] := by decide
def txtD : ByteArray := ⟨#[45, 49, 50, 53, 46, 48]⟩
theorem text125 (w : World) (h7 : PowAt w) (hsz : 7 < w.heap.size) (htab : Lib.TabIs Tryz.prog w "internal/strconv.uint64pow10" .u64 Lib.pow10Tab) :
    Calls Tryz.prog 11 #[.float .f64 (a125 + sgn true)] w fun e w' => e = .returned (.string txtD) ∧ Below w.heap.size w w' := by
  refine (text_any true a125 w (by decide) h7 hsz htab).mono ?_
  rintro e w' ⟨hb, h | h | ⟨_, _, q, y, hC, hq, _, rfl⟩⟩
  · exact absurd h.1 (by decide)
  · exact absurd h.1 (by decide)
  · obtain ⟨rfl, rfl⟩ := hC.uniq cand125 hq (by decide)
    refine ⟨?_, hb⟩
    rw [lay125]
    rfl
end Go.Proofs.YtjciflgnlldgbaaGreatDoor.pg
end
section
namespace Go.Proofs.YtjciflgnlldgbaaGreatDoor.pg
open Go.RowKit mem fl big us uw sh
set_option linter.unusedVariables false
attribute [local go_sem] run_store_float

theorem eqf125 : FloatKind.f64.format.order (a125 + sgn true) 13861868546813853696 = some .eq := by decide
set_option maxRecDepth 100000 in
set_option maxHeartbeats 4000000 in
theorem fixed_any (w : World) (hz : 13 < w.heap.size) (hi : InfoAt w) (ho : OptAt w) (h7 : PowAt w) (htab : Lib.TabIs Tryz.prog w "internal/strconv.uint64pow10" .u64 Lib.pow10Tab) :
    Calls Tryz.prog 7 #[] w fun e w' => e = .returned (.bool true) ∧ Below w.heap.size w w' := by
  have HA := Lib.hid (readA a125 f125 (by decide) w hz hi ho)
  have HC := Lib.hid (fun w => readC w)
  have HT := Lib.hid (fun w h7 hsz htab => text125 w h7 hsz htab)
  have HI := Lib.hid (And.intro h7 htab)
  rw [show a125 + sgn true = 13861868546813853696 from rfl] at HT HA
  clear hi ho h7 htab
  go_enter Tryz.func7, Tryz.ntmps7
  go_wp2_with fail
  refine HA.out.mono ?_
  rintro e w1 ⟨rfl, hb1⟩
  have HB1 := Lib.hid hb1
  clear hb1 HA
  go_wp2_with fail
  refine (HC.out _).mono ?_
  rintro e w2 ⟨rfl, hb2⟩
  have hs1 : w1.heap.size < w2.heap.size := by have := hb2.size; simp at this; omega
  have hg2 : w2.heap[w1.heap.size]? = some (.cells #[.int .i64 3, .int .i64 0, .float .f64 13861868546813853696] 27) := (hb2.block _ (by simp)).trans (heap_alloc_new w1 _)
  have hB2 : Below w.heap.size w w2 := (HB1.out.alloc HB1.out.size _).trans (hb2.mono (by have := HB1.out.size; simp; omega))
  have HB2 := Lib.hid hB2
  have HG2 := Lib.hid hg2
  clear hB2 hb2 hg2 HC HB1
  have m0 := blk_cell HG2.out (i := 0) (by simp)
  have m1 := blk_cell HG2.out (i := 1) (by simp)
  have m2 := blk_cell HG2.out (i := 2) (by simp)
  simp only [List.getElem_toArray, List.getElem_cons_zero, List.getElem_cons_succ] at m0 m1 m2
  have ho : FloatKind.f64.format.order 13861868546813853696 13861868546813853696 = some .eq := by decide
  go_wp2_with fail
  have hb3 : Below w.heap.size w (w2.alloc (.cells #[.int .i64 2, .int .i64 907, .float .f64 0] 27)) := HB2.out.alloc HB2.out.size _
  refine (HT.out _ (HI.out.1.below hb3 (by omega)) (by have := hb3.size; omega) (tab_below HI.out.2 hb3)).mono ?_
  rintro e w3 ⟨rfl, hb4⟩
  have HB4 := Lib.hid (hb3.trans (hb4.mono hb3.size))
  clear hb3 hb4
  have htd : (txtD.toList == ([45, 49, 50, 53, 46, 48] : List UInt8)) = true := by decide +kernel
  go_wp2_with fail
  go_ret
  exact ⟨rfl, HB4.out⟩
end Go.Proofs.YtjciflgnlldgbaaGreatDoor.pg
end
