/- escape: which letter stands behind the backslash; a block more (its table). -/
import Derived.Test.YtjbfhkcbgafeaaaDoorMem
import Derived.Test.YtjbfhkcbgafeaaaDoorTxt
import Derived.Test.YtjbfhkcbgafeaaaDoorProg
import Derived.KernelRfl
import Derived.Deep.Cut
import Derived.Test.YtjbfhkcbgafeaaaDoorArr
namespace Go.Proofs.YtjbfhkcbgafeaaaDoor.esc
open Go.RowKit mem txt arr
set_option linter.unusedVariables false

def tabL : List Value := [.int .u8 0, .int .u8 0, .int .u8 0, .int .u8 0, .int .u8 0, .int .u8 0, .int .u8 0, .int .u8 0, .int .u8 98, .int .u8 116, .int .u8 110, .int .u8 0, .int .u8 102, .int .u8 114, .int .u8 0, .int .u8 0, .int .u8 0, .int .u8 0, .int .u8 0, .int .u8 0, .int .u8 0, .int .u8 0, .int .u8 0, .int .u8 0, .int .u8 0, .int .u8 0, .int .u8 0, .int .u8 0, .int .u8 0, .int .u8 0, .int .u8 0, .int .u8 0]
def tabN (r : Nat) : Nat := if r = 8 then 98 else if r = 9 then 116 else if r = 10 then 110 else if r = 12 then 102 else if r = 13 then 114 else 0
theorem tabL_at : ∀ (r : Nat), r < 32 → tabL[r]? = some (.int .u8 (tabN r : Nat))
  | 0, _ => rfl
  | 1, _ => rfl
  | 2, _ => rfl
  | 3, _ => rfl
  | 4, _ => rfl
  | 5, _ => rfl
  | 6, _ => rfl
  | 7, _ => rfl
  | 8, _ => rfl
  | 9, _ => rfl
  | 10, _ => rfl
  | 11, _ => rfl
  | 12, _ => rfl
  | 13, _ => rfl
  | 14, _ => rfl
  | 15, _ => rfl
  | 16, _ => rfl
  | 17, _ => rfl
  | 18, _ => rfl
  | 19, _ => rfl
  | 20, _ => rfl
  | 21, _ => rfl
  | 22, _ => rfl
  | 23, _ => rfl
  | 24, _ => rfl
  | 25, _ => rfl
  | 26, _ => rfl
  | 27, _ => rfl
  | 28, _ => rfl
  | 29, _ => rfl
  | 30, _ => rfl
  | 31, _ => rfl
  | n + 32, h => by omega
theorem escB_tab {r : Nat} (h : r < 32) : escB r = if tabN r = 0 then 117 else tabN r := by
  unfold escB tabN
  repeat' split
  all_goals omega

def tabA : Array Value := tabL.toArray
def zeroA : Array Value := (List.replicate 32 (Value.int .u8 0)).toArray


set_option maxRecDepth 100000 in
theorem escape_lo (r : Nat) (h : r < 32) (w : World) : Calls Tryd.prog 28 #[.int .i32 r] w fun e w' => e = .returned (.int .u8 (escB r)) ∧ ∃ o, w' = w.alloc o := by
  have b1 : ((r : Int) == 34) = false := by simp; omega
  have b2 : ((r : Int) == 92) = false := by simp; omega
  have d3 : decide ((r : Int) ≥ 32) = false := decide_eq_false (by omega)
  rw [escB_tab h]
  obtain ⟨t, ht⟩ : ∃ t, tabN r = t := ⟨_, rfl⟩
  rw [ht]
  go_enter Tryd.func28, Tryd.ntmps28
  go_upto_region 2 with (first | (refine wpList_buildTo rfl 78 _ rfl 4 rfl tabA (by kernel_rfl) ?_) | (refine wpList_allocTo rfl 78 rfl 3 rfl zeroA (by kernel_rfl) ?_) | (refine wpList_storeNew rfl 78 (.tmp 3) (.tmp 4) rfl rfl tabA zeroA rfl rfl (by kernel_rfl) rfl (by kernel_rfl) ?_))
  have hc : (w.alloc (.cells tabA 78)).cell? ⟨w.heap.size, r, none⟩ = some (.int .u8 (t : Nat)) := by
    rw [← ht, cell_of_row (w.alloc (.cells tabA 78)) w.heap.size r tabA 78 (0, 0) (heap_alloc_new w _)]
    simpa [tabA] using tabL_at r h
  obtain ⟨W, hW⟩ : ∃ W, w.alloc (.cells tabA 78) = W := ⟨_, rfl⟩
  rw [hW] at hc ⊢
  generalize tabA = TA at *
  have HW := Lib.hid hW
  clear hW
  by_cases h0 : t = 0
  · subst h0
    go_wp2
    go_ret
    exact ⟨rfl, _, HW.out.symm⟩
  · have b4 : ((t : Int) == 0) = false := by simp; omega
    have b5 : ((t : Int) != 0) = true := by simp; omega
    go_wp2
    go_ret
    exact ⟨rfl, _, HW.out.symm⟩

set_option maxRecDepth 100000 in
theorem escape_hi (r : Nat) (h : 32 ≤ r) (hr : r ≤ 1114111) (w : World) : Calls Tryd.prog 28 #[.int .i32 r] w fun e w' => e = .returned (.int .u8 (escB r)) ∧ ∃ o, w' = w.alloc o := by
  have d3 : decide ((r : Int) ≥ 32) = true := decide_eq_true (by omega)
  by_cases h1 : r = 34
  · subst h1
    go_enter Tryd.func28, Tryd.ntmps28
    go_upto_region 2 with (first | (refine wpList_buildTo rfl 78 _ rfl 4 rfl tabA (by kernel_rfl) ?_) | (refine wpList_allocTo rfl 78 rfl 3 rfl zeroA (by kernel_rfl) ?_) | (refine wpList_storeNew rfl 78 (.tmp 3) (.tmp 4) rfl rfl tabA zeroA rfl rfl (by kernel_rfl) rfl (by kernel_rfl) ?_))
    generalize tabA = TA at *
    go_wp2
    go_ret
    exact ⟨rfl, _, rfl⟩
  · by_cases h2 : r = 92
    · subst h2
      go_enter Tryd.func28, Tryd.ntmps28
      go_upto_region 2 with (first | (refine wpList_buildTo rfl 78 _ rfl 4 rfl tabA (by kernel_rfl) ?_) | (refine wpList_allocTo rfl 78 rfl 3 rfl zeroA (by kernel_rfl) ?_) | (refine wpList_storeNew rfl 78 (.tmp 3) (.tmp 4) rfl rfl tabA zeroA rfl rfl (by kernel_rfl) rfl (by kernel_rfl) ?_))
      generalize tabA = TA at *
      go_wp2
      go_ret
      exact ⟨rfl, _, rfl⟩
    · have b1 : ((r : Int) == 34) = false := by simp; omega
      have b2 : ((r : Int) == 92) = false := by simp; omega
      rw [show escB r = 0 by unfold escB; rw [if_neg (by omega), if_pos h]]
      go_enter Tryd.func28, Tryd.ntmps28
      go_upto_region 2 with (first | (refine wpList_buildTo rfl 78 _ rfl 4 rfl tabA (by kernel_rfl) ?_) | (refine wpList_allocTo rfl 78 rfl 3 rfl zeroA (by kernel_rfl) ?_) | (refine wpList_storeNew rfl 78 (.tmp 3) (.tmp 4) rfl rfl tabA zeroA rfl rfl (by kernel_rfl) rfl (by kernel_rfl) ?_))
      generalize tabA = TA at *
      go_wp2
      go_ret
      exact ⟨rfl, _, rfl⟩

/-- escape, of every character -/
theorem escape_any (r : Nat) (hr : r ≤ 1114111) (w : World) : Calls Tryd.prog 28 #[.int .i32 r] w fun e w' => e = .returned (.int .u8 (escB r)) ∧ ∃ o, w' = w.alloc o := by
  by_cases h : r < 32
  · exact escape_lo r h w
  · exact escape_hi r (by omega) hr w
end Go.Proofs.YtjbfhkcbgafeaaaDoor.esc
