/- The document's object, and what looks it over: example, utf.Clean, lookText, lookNames, look. -/
import Derived.Test.YtagghdehbkbemaaGreatDoorGArr
import Derived.Test.YtagghdehbkbemaaGreatDoorShelfV
import Derived.Lib.LaidU8T
import Derived.Shelf.Unicode.DecodeSlow
import Derived.Laws.Rows
namespace Go.Proofs.YtagghdehbkbemaaGreatDoor.look
open Go.RowKit mem txt app smap
attribute [local go_sem] run_store_float
set_option linter.unusedVariables false

/-- utf8's two tables lie in the world as their initialisers lay them -/
def Tabs (w : World) : Prop := Lib.Utf8Tabs (shelf.laysValid_ren.g 3) (shelf.laysValid_ren.g 4) w
theorem Tabs.below {w w' : World} (h : Tabs w) (hb : Below w.heap.size w w') : Tabs w' := Utf8Tabs_below h hb

/-- a value of kind k that holds nothing but, it may be, members -/
def zV (k : Int) (m : Value) : List Value := [.int .i64 k, .bool false, .int .i64 0, .float .f64 0, .string ⟨#[]⟩, .string ⟨#[]⟩, .slice none 0 0, m]
/-- the members of the document's object -/
def exC : Array Value := #[.string ⟨#[98]⟩, .int .i64 5, .bool false, .int .i64 0, .float .f64 0, .string ⟨#[]⟩, .string ⟨#[]⟩, .slice none 0 0, .slice none 0 0,
  .string ⟨#[97]⟩, .int .i64 6, .bool false, .int .i64 0, .float .f64 0, .string ⟨#[]⟩, .string ⟨#[]⟩, .slice none 0 0, .slice none 0 0,
  .string ⟨#[]⟩, .int .i64 0, .bool false, .int .i64 0, .float .f64 0, .string ⟨#[]⟩, .string ⟨#[]⟩, .slice none 0 0, .slice none 0 0]

theorem heap_alloc_at (w : World) (o : Obj) (n : Nat) (h : n = w.heap.size) : (w.alloc o).heap[n]? = some o := by rw [h]; exact heap_alloc_new w o
theorem heap4 (w : World) (o1 o2 o3 o4 : Obj) : ((((w.alloc o1).alloc o2).alloc o3).alloc o4).heap[w.heap.size]? = some o1 := by
  rw [Lib.alloc_old _ _ _ (by simp; omega), Lib.alloc_old _ _ _ (by simp; omega), Lib.alloc_old _ _ _ (by simp), heap_alloc_new]
set_option maxRecDepth 100000 in
set_option maxHeartbeats 4000000 in
theorem example_any (w : World) : Calls Tryz.prog 15 #[] w fun e w' => ∃ b, e = .returned (.agg #[.int .i64 6, .bool false, .int .i64 0, .float .f64 0, .string ⟨#[]⟩, .string ⟨#[]⟩, .slice none 0 0, .slice (some ⟨b, 0, none⟩) 3 3]) ∧ w.heap.size ≤ b ∧ b < w'.heap.size ∧ w'.heap[b]? = some (.cells exC 41 (0, 0)) ∧ Below w.heap.size w w' := by
  go_enter Tryz.func15, Tryz.ntmps15
  go_wp2
  refine bodyPost_ret (results_cell_row rfl _ _ w.heap.size 27 #[.int .i64 6, .bool false, .int .i64 0, .float .f64 0, .string ⟨#[]⟩, .string ⟨#[]⟩, .slice none 0 0, .slice (some ⟨w.heap.size + 1 + 1 + 1, 0, none⟩) 3 3] (0, 0) _ rfl ?hg Tryz.underlying27 rfl ?hi) rfl ?_
  case hg => exact heap4 _ _ _ _ _
  case hi => kernel_rfl
  have hb : ∀ (o1 o2 o3 o4 : Obj), Below w.heap.size w ((((w.alloc o1).alloc o2).alloc o3).alloc o4) := fun _ _ _ _ => ((((Below.refl _ _).alloc (Nat.le_refl _) _).alloc (by simp) _).alloc (by simp; omega) _).alloc (by simp; omega) _
  exact ⟨w.heap.size + 1 + 1 + 1, rfl, by omega, by simp, (heap_alloc_at _ _ _ (by simp)), hb _ _ _ _⟩

theorem clean_any (s : ByteArray) (w : World) (hs : s.size ≤ 9223372036854775807) (hT : Tabs w) :
    Calls Tryz.prog 26 #[.string s] w fun e w' => e = .returned (.bool (Lib.validD s.data.toList)) ∧ Below w.heap.size w w' := by
  have cV : Calls Tryz.prog 40 #[.string s] w _ := Any.utf8_ValidString shelf.laysValid s w hs hT
  go_enter Tryz.func26, Tryz.ntmps26
  go_wp2_with (go_at_call 40; refine cV.mono ?_; rintro e w' ⟨rfl, hb⟩)
  go_ret
  exact ⟨rfl, hb⟩

theorem lookText_ok (s : ByteArray) (w : World) (hs : s.size ≤ 9223372036854775807) (hT : Tabs w) (hv : Lib.validD s.data.toList = true) :
    Calls Tryz.prog 36 #[.string s] w fun e w' => e = .returned (.tuple #[]) ∧ Below w.heap.size w w' := by
  have cV := clean_any s w hs hT
  rw [hv] at cV
  go_enter Tryz.func36, Tryz.ntmps36
  go_wp2_with (go_at_call 26; refine cV.mono ?_; rintro e w' ⟨rfl, hb⟩)
  go_end0
  exact ⟨rfl, hb⟩
end Go.Proofs.YtagghdehbkbemaaGreatDoor.look
