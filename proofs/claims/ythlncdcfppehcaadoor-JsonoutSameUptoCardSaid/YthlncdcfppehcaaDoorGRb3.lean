/- The reference's bare and noughts, walked. The reference's Shortest, walked. -/
import Derived.Test.YthlncdcfppehcaaDoorGRp
import Derived.Test.YthlncdcfppehcaaDoorYLa
import Derived.Test.YthlncdcfppehcaaDoorGFlt
import Derived.Test.YthlncdcfppehcaaDoorYRc
section
namespace Go.Proofs.YthlncdcfppehcaaDoor.rt
open Go.RowKit mem fl big sh uw pg
set_option linter.unusedVariables false

theorem last_take (r : Nat) (h : ¬ r < 10) : (dgs r).take ((dgs r).length - 1) = dgs (r / 10) := by
  rw [dgs_step r h, List.length_append]
  simp
theorem last_get (r : Nat) (m : Nat) (hm : (dgs r).length = m + 1) : (dgs r).getD m 0 = 48 + r % 10 := by
  by_cases h : r < 10
  · rw [dgs_small r h] at hm ⊢
    simp at hm
    subst hm
    rfl
  · rw [dgs_step r h] at hm ⊢
    rw [List.length_append] at hm
    have hm2 : (dgs (r / 10)).length = m := by simpa using hm
    rw [List.getD_eq_getElem?_getD, List.getElem?_append_right (by omega), hm2]
    simp
def BrPost (q : Nat) (x : Int) (w : World) (e : Ending) (w' : World) : Prop := ∃ (r k : Nat), q = r * 10 ^ k ∧ r % 10 ≠ 0 ∧ e = .returned (.tuple #[.string (strN (dgs r)), .int .i64 ((dgs r).length + (x + k))]) ∧ w' = w
end Go.Proofs.YthlncdcfppehcaaDoor.rt
end
section
namespace Go.Proofs.YthlncdcfppehcaaDoor.rt
open Go.RowKit mem fl big sh uw pg
set_option linter.unusedVariables false

def ShoPost (a : Nat) (w : World) (e : Ending) (w' : World) : Prop := ∃ (r : Nat) (y : Int), Cand a r y ∧ r % 10 ≠ 0 ∧ Bd r y ∧ e = .returned (.tuple #[.string (strN (dgs r)), .int .i64 ((dgs r).length + y)]) ∧ Below w.heap.size w w'
theorem sho_fin {a q r k : Nat} {x : Int} (hC : Cand a q x) (hq : q = r * 10 ^ k) (hr : r % 10 ≠ 0) (hq2 : q < 18446744073709551616) (hx1 : -400 ≤ x) (hx2 : x ≤ 400) : Cand a r (x + k) ∧ Bd r (x + k) := by
  have hr0 : 0 < r := by omega
  refine ⟨Cand.stripk k (by rw [← hq]; exact hC), hr0, ?_, ?_, ?_⟩
  all_goals
    have h1 := nd_mul r hr0 k
    have h2 := nd20 q hq2
    rw [hq, h1] at h2
    rw [dgs_length]
    have := Lib.nDigits_pos r
    omega
theorem floor_n {all cut g c : Nat} (hc : 0 < cut) (l1 : all * g ≤ c) (l2 : c < (all + 1) * g) : all / cut * (cut * g) ≤ c ∧ c < (all / cut + 1) * (cut * g) := by
  have hd := Nat.div_add_mod all cut
  have hm := Nat.mod_lt all hc
  constructor
  · refine Nat.le_trans ?_ l1
    rw [← Nat.mul_assoc]
    refine Nat.mul_le_mul_right g ?_
    rw [Nat.mul_comm]
    omega
  · refine Nat.lt_of_lt_of_le l2 ?_
    rw [← Nat.mul_assoc]
    refine Nat.mul_le_mul_right g ?_
    rw [Nat.add_mul, Nat.one_mul, Nat.mul_comm]
    omega
end Go.Proofs.YthlncdcfppehcaaDoor.rt
end
