/- look over a value of kind null, list or object that holds nothing but, it may be, such members. -/
import Derived.Test.YtjbfhkcbgafeaaaDoorNames
namespace Go.Proofs.YtjbfhkcbgafeaaaDoor.look
open Go.RowKit mem txt app smap
attribute [local go_sem] run_store_float
set_option linter.unusedVariables false

def UnitPost (w : World) (e : Ending) (w' : World) : Prop := e = .returned (.tuple #[]) ∧ Below w.heap.size w w'
theorem blk8 {w : World} {g : Nat} {t : TypeId} {c0 c1 c2 c3 c4 c5 c6 c7 : Value} (h : w.heap[g]? = some (.cells #[c0, c1, c2, c3, c4, c5, c6, c7] t (0, 0))) :
    w.cell? ⟨g, 0, none⟩ = some c0 ∧ w.cell? ⟨g, 1, none⟩ = some c1 ∧ w.cell? ⟨g, 2, none⟩ = some c2 ∧ w.cell? ⟨g, 3, none⟩ = some c3 ∧ w.cell? ⟨g, 4, none⟩ = some c4 ∧ w.cell? ⟨g, 5, none⟩ = some c5 ∧ w.cell? ⟨g, 6, none⟩ = some c6 ∧ w.cell? ⟨g, 7, none⟩ = some c7 :=
  ⟨cell_of_row w g 0 _ t (0, 0) h, cell_of_row w g 1 _ t (0, 0) h, cell_of_row w g 2 _ t (0, 0) h, cell_of_row w g 3 _ t (0, 0) h, cell_of_row w g 4 _ t (0, 0) h, cell_of_row w g 5 _ t (0, 0) h, cell_of_row w g 6 _ t (0, 0) h, cell_of_row w g 7 _ t (0, 0) h⟩

set_option maxRecDepth 100000 in
set_option maxHeartbeats 4000000 in
theorem look_null (w : World) : Calls Tryd.prog 22 #[.agg #[.int .i64 0, .bool false, .int .i64 0, .float .f64 0, .string ⟨#[]⟩, .string ⟨#[]⟩, .slice none 0 0, .slice none 0 0]] w (UnitPost w) := by
  go_enter Tryd.func22, Tryd.ntmps22
  go_wp2_with fail
  go_end0
  exact ⟨rfl, (Below.refl _ _).alloc (Nat.le_refl _) _⟩

set_option maxRecDepth 100000 in
set_option maxHeartbeats 4000000 in
theorem look_list (w : World) : Calls Tryd.prog 22 #[.agg #[.int .i64 5, .bool false, .int .i64 0, .float .f64 0, .string ⟨#[]⟩, .string ⟨#[]⟩, .slice none 0 0, .slice none 0 0]] w (UnitPost w) := by
  go_enter Tryd.func22, Tryd.ntmps22
  go_wp2_with fail
  go_loopw [50] (fun v wr => v = .int .i64 0 ∧ Below w.heap.size w wr) (fun _ _ => 0)
  case atStart => exact ⟨rfl, (Below.refl _ _).alloc (Nat.le_refl _) _⟩
  case round =>
    obtain ⟨rfl, hb⟩ := hrel
    go_wp2_with fail
    go_end0
    exact ⟨rfl, hb⟩

set_option maxRecDepth 100000 in
set_option maxHeartbeats 4000000 in
theorem look_obj (A : Option Addr) (c n : Nat) (hn : n ≤ 1000) (nm : Nat → ByteArray) (kd : Nat → Int) (w : World) (hM : Mems w A n nm kd) (hT : Tabs w)
    (hs : ∀ i, i < n → (nm i).size ≤ maxLen) (hv : ∀ i, i < n → Lib.validD (nm i).data.toList = true) (hd : ∀ i j, i < j → j < n → nm i ≠ nm j)
    (hl : ∀ i, i < n → ∀ W, Tabs W → Calls Tryd.prog 22 #[.agg #[.int .i64 (kd i), .bool false, .int .i64 0, .float .f64 0, .string ⟨#[]⟩, .string ⟨#[]⟩, .slice none 0 0, .slice none 0 0]] W (UnitPost W)) :
    Calls Tryd.prog 22 #[.agg #[.int .i64 6, .bool false, .int .i64 0, .float .f64 0, .string ⟨#[]⟩, .string ⟨#[]⟩, .slice none 0 0, .slice A n c]] w (UnitPost w) := by
  have HL := Lib.hid hl
  have HT := Lib.hid hT
  have HN := Lib.hid (fun W (hW : Below w.heap.size w W) => lookNames_ok A c n hn nm kd W (hM.below hW) (hT.below hW) hs hv hd)
  have HM := Lib.hid hM
  clear hM hT hs hv hd hl
  go_enter Tryd.func22, Tryd.ntmps22
  go_wp2_with fail
  have gB := heap_alloc_new w (.cells #[.int .i64 6, .bool false, .int .i64 0, .float .f64 0, .string ⟨#[]⟩, .string ⟨#[]⟩, .slice none 0 0, .slice A n c] 40)
  have hb1 : Below w.heap.size w (w.alloc (.cells #[.int .i64 6, .bool false, .int .i64 0, .float .f64 0, .string ⟨#[]⟩, .string ⟨#[]⟩, .slice none 0 0, .slice A n c] 40)) := (Below.refl _ _).alloc (Nat.le_refl _) _
  have hz1 : w.heap.size + 1 = (w.alloc (.cells #[.int .i64 6, .bool false, .int .i64 0, .float .f64 0, .string ⟨#[]⟩, .string ⟨#[]⟩, .slice none 0 0, .slice A n c] 40)).heap.size := by simp
  generalize (w.alloc (.cells #[.int .i64 6, .bool false, .int .i64 0, .float .f64 0, .string ⟨#[]⟩, .string ⟨#[]⟩, .slice none 0 0, .slice A n c] 40)) = W1 at *
  refine (HN.out W1 hb1).mono ?_
  rintro e w2 ⟨rfl, hb2⟩
  have gB2 := Lib.hid ((hb2.block w.heap.size (by omega)).trans gB)
  obtain ⟨m0, m1, m2, m3, m4, m5, m6, m7⟩ := blk8 gB2.out
  have hb3 : Below w.heap.size w w2 := hb1.trans (hb2.mono (by omega))
  have hz2 : w.heap.size < w2.heap.size := by have := hb2.size; omega
  clear gB hb1 hb2 HN hz1
  go_wp2_with fail
  clear m0 m1 m2 m3 m4 m5 m6 m7
  go_loopw [36] (fun v wr => ∃ i : Nat, i ≤ n ∧ v = .int .i64 (i : Int) ∧ Below w2.heap.size w2 wr) (fun v _ => n - (intOf v).toNat)
  case atStart => exact ⟨0, Nat.zero_le _, rfl, Below.refl _ _⟩
  case round =>
    obtain ⟨i, hi, rfl, hbr⟩ := hrel
    have hszr := hbr.size
    have hbw : Below w.heap.size w wr := hb3.trans (hbr.mono (by omega))
    obtain ⟨m0, m1, m2, m3, m4, m5, m6, m7⟩ := blk8 ((hbr.block w.heap.size hz2).trans gB2.out)
    by_cases hlt : i < n
    · obtain ⟨ad, rfl, hadB, hcs⟩ := HM.out i hlt
      have HK := Lib.hid (HL.out i hlt)
      obtain ⟨d0, d1, d2, d3, d4, d5, d6, d7, d8⟩ := (hcs.below (by rw [add_block]; exact hadB) hbw).nine
      clear hcs
      generalize nm i = s at *
      generalize kd i = k at *
      go_wp2_with fail
      clear d0 d1 d2 d3 d4 d5 d6 d7 d8 m0 m1 m2 m3 m4 m5 m6 m7
      have hb4 : Below w2.heap.size w2 (wr.alloc (.cells #[.string s, .int .i64 k, .bool false, .int .i64 0, .float .f64 0, .string ⟨#[]⟩, .string ⟨#[]⟩, .slice none 0 0, .slice none 0 0] 55)) := hbr.alloc hszr _
      generalize (wr.alloc (.cells #[.string s, .int .i64 k, .bool false, .int .i64 0, .float .f64 0, .string ⟨#[]⟩, .string ⟨#[]⟩, .slice none 0 0, .slice none 0 0] 55)) = W4 at *
      refine (HK.out W4 (HT.out.below (hb3.trans (hb4.mono (by omega))))).mono ?_
      rintro e w5 ⟨rfl, hb5⟩
      have hb6 : Below w2.heap.size w2 w5 := hb4.trans (hb5.mono (by have := hb4.size; omega))
      clear hb4 hb5 hbr hbw
      go_wp2_with fail
      exact ⟨⟨i + 1, by omega, by go_num, hb6⟩, by simp [intOf]; omega⟩
    · obtain rfl : i = n := by omega
      go_wp2_with fail
      go_end0
      exact ⟨rfl, hbw⟩
end Go.Proofs.YtjbfhkcbgafeaaaDoor.look
