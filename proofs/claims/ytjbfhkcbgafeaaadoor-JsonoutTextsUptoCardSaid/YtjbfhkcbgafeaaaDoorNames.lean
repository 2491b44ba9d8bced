/- lookNames over members whose names are well formed and unlike. -/
import Derived.Test.YtjbfhkcbgafeaaaDoorLook
namespace Go.Proofs.YtjbfhkcbgafeaaaDoor.look
open Go.RowKit mem txt app smap
attribute [local go_sem] run_store_float
set_option linter.unusedVariables false

/-- consecutive cells -/
def CellsAt (w : World) (a : Addr) (cs : List Value) : Prop := ∀ o u, cs[o]? = some u → w.cell? (a.add o) = some u
theorem CellsAt.eight {w : World} {a : Addr} {c0 c1 c2 c3 c4 c5 c6 c7 : Value} (h : CellsAt w a [c0, c1, c2, c3, c4, c5, c6, c7]) :
    w.cell? a = some c0 ∧ w.cell? ⟨a.block, a.off + 1, none⟩ = some c1 ∧ w.cell? ⟨a.block, a.off + 2, none⟩ = some c2 ∧ w.cell? ⟨a.block, a.off + 3, none⟩ = some c3 ∧
    w.cell? ⟨a.block, a.off + 4, none⟩ = some c4 ∧ w.cell? ⟨a.block, a.off + 5, none⟩ = some c5 ∧ w.cell? ⟨a.block, a.off + 6, none⟩ = some c6 ∧ w.cell? ⟨a.block, a.off + 7, none⟩ = some c7 :=
  ⟨by simpa [Addr.add] using h 0 c0 rfl, h 1 c1 rfl, h 2 c2 rfl, h 3 c3 rfl, h 4 c4 rfl, h 5 c5 rfl, h 6 c6 rfl, h 7 c7 rfl⟩
theorem CellsAt.nine {w : World} {a : Addr} {s c0 c1 c2 c3 c4 c5 c6 c7 : Value} (h : CellsAt w a [s, c0, c1, c2, c3, c4, c5, c6, c7]) :
    w.cell? a = some s ∧ w.cell? ⟨a.block, a.off + 1, none⟩ = some c0 ∧ w.cell? ⟨a.block, a.off + 2, none⟩ = some c1 ∧ w.cell? ⟨a.block, a.off + 3, none⟩ = some c2 ∧ w.cell? ⟨a.block, a.off + 4, none⟩ = some c3 ∧
    w.cell? ⟨a.block, a.off + 5, none⟩ = some c4 ∧ w.cell? ⟨a.block, a.off + 6, none⟩ = some c5 ∧ w.cell? ⟨a.block, a.off + 7, none⟩ = some c6 ∧ w.cell? ⟨a.block, a.off + 8, none⟩ = some c7 :=
  ⟨by simpa [Addr.add] using h 0 s rfl, h 1 c0 rfl, h 2 c1 rfl, h 3 c2 rfl, h 4 c3 rfl, h 5 c4 rfl, h 6 c5 rfl, h 7 c6 rfl, h 8 c7 rfl⟩
theorem CellsAt.below {w w' : World} {B : Nat} {a : Addr} {cs : List Value} (h : CellsAt w a cs) (ha : a.block < B) (hb : Below B w w') : CellsAt w' a cs :=
  fun o u hu => (hb.cell (by rw [add_block]; exact ha)).trans (h o u hu)

/-- n members from A on: their names; their values are of a kind, and hold nothing -/
def Mems (w : World) (A : Option Addr) (n : Nat) (nm : Nat → ByteArray) (kd : Nat → Int) : Prop :=
  ∀ i, i < n → ∃ ad, A = some ad ∧ ad.block < w.heap.size ∧ CellsAt w (ad.add (i * 9)) [.string (nm i), .int .i64 (kd i), .bool false, .int .i64 0, .float .f64 0, .string ⟨#[]⟩, .string ⟨#[]⟩, .slice none 0 0, .slice none 0 0]
theorem Mems.below {w w' : World} {A : Option Addr} {n : Nat} {nm : Nat → ByteArray} {kd : Nat → Int} (h : Mems w A n nm kd) (hb : Below w.heap.size w w') : Mems w' A n nm kd :=
  fun i hi => by
    obtain ⟨ad, e, hl, hc⟩ := h i hi
    have := hb.size
    exact ⟨ad, e, by omega, hc.below (by rw [add_block]; exact hl) hb⟩

def seen (nm : Nat → ByteArray) (i : Nat) : List ByteArray := ((List.range i).map nm).reverse
theorem seen_succ (nm : Nat → ByteArray) (i : Nat) : seen nm (i + 1) = nm i :: seen nm i := by simp [seen, List.range_succ]

set_option maxRecDepth 100000 in
set_option maxHeartbeats 4000000 in
theorem lookNames_ok (A : Option Addr) (c n : Nat) (hn : n ≤ 1000) (nm : Nat → ByteArray) (kd : Nat → Int) (w : World) (hM : Mems w A n nm kd) (hT : Tabs w)
    (hs : ∀ i, i < n → (nm i).size ≤ maxLen) (hv : ∀ i, i < n → Lib.validD (nm i).data.toList = true) (hd : ∀ i j, i < j → j < n → nm i ≠ nm j) :
    Calls Tryd.prog 33 #[.slice A n c] w fun e w' => e = .returned (.tuple #[]) ∧ Below w.heap.size w w' := by
  have HM := Lib.hid hM
  have HT := Lib.hid hT
  have HS := Lib.hid hs
  have HV := Lib.hid hv
  have HD := Lib.hid hd
  clear hM hT hs hv hd
  have hmm : ∀ (m : Int) (w : World), (Instr.makeMap 88 (some (.int .i64 m))).run Tryd.prog w = .ok (.map (some w.heap.size)) (w.alloc (.map #[] 0)) := fun _ _ => by simp [Instr.makeMap, run_underlying Tryd.underlying88, asInt, newObj, Sem.run, Result.andThen] <;> rfl
  go_enter Tryd.func33, Tryd.ntmps33
  go_wp2_with fail
  go_loopw [12] (fun v12 wr => ∃ i : Nat, i ≤ n ∧ v12 = .int .i64 (i : Int) ∧ MapS wr w.heap.size i (seen nm i) ∧ Below w.heap.size w wr) (fun v _ => n - (intOf v).toNat)
  case atStart => exact ⟨0, Nat.zero_le _, rfl, MapS.made w, (Below.refl _ _).alloc (Nat.le_refl _) _⟩
  case round =>
    obtain ⟨i, hi, rfl, hmap, hb⟩ := hrel
    have hszr := hb.size
    have hml := hmap.lt
    have HMP := Lib.hid hmap
    clear hmap
    by_cases hlt : i < n
    · obtain ⟨ad, rfl, hadB, hcs⟩ := HM.out i hlt
      have hsz := HS.out i hlt
      have hva := HV.out i hlt
      have hnin : nm i ∉ seen nm i := by
        intro h
        simp only [seen, List.mem_reverse, List.mem_map, List.mem_range] at h
        obtain ⟨j, hj, e⟩ := h
        exact HD.out j i hj hlt e
      obtain ⟨d0, d1, d2, d3, d4, d5, d6, d7, d8⟩ := (hcs.below (by rw [add_block]; exact hadB) hb).nine
      have HSE := Lib.hid (seen_succ nm i)
      clear hcs
      generalize nm i = s at *
      generalize kd i = k at *
      go_wp2_with fail
      clear d0 d1 d2 d3 d4 d5 d6 d7 d8
      have gE := heap_alloc_new wr (.cells #[.string s, .int .i64 k, .bool false, .int .i64 0, .float .f64 0, .string ⟨#[]⟩, .string ⟨#[]⟩, .slice none 0 0, .slice none 0 0] 55)
      have hc0 := cell_of_row _ wr.heap.size 0 _ 55 (0, 0) gE
      have hb1 : Below w.heap.size w (wr.alloc (.cells #[.string s, .int .i64 k, .bool false, .int .i64 0, .float .f64 0, .string ⟨#[]⟩, .string ⟨#[]⟩, .slice none 0 0, .slice none 0 0] 55)) := hb.alloc hszr _
      have HM1 := Lib.hid (HMP.out.heap (Lib.alloc_old wr (.cells #[.string s, .int .i64 k, .bool false, .int .i64 0, .float .f64 0, .string ⟨#[]⟩, .string ⟨#[]⟩, .slice none 0 0, .slice none 0 0] 55) _ hml))
      have hz1 : wr.heap.size + 1 = (wr.alloc (.cells #[.string s, .int .i64 k, .bool false, .int .i64 0, .float .f64 0, .string ⟨#[]⟩, .string ⟨#[]⟩, .slice none 0 0, .slice none 0 0] 55)).heap.size := by simp
      generalize (wr.alloc (.cells #[.string s, .int .i64 k, .bool false, .int .i64 0, .float .f64 0, .string ⟨#[]⟩, .string ⟨#[]⟩, .slice none 0 0, .slice none 0 0] 55)) = W1 at *
      clear gE HMP
      have hc0 : W1.cell? ⟨wr.heap.size, 0, none⟩ = some (.string s) := by simpa using hc0
      refine (lookText_ok s W1 hsz (HT.out.below hb1) hva).mono ?_
      rintro e w' ⟨rfl, hb2⟩
      have hc2 := (hb2.cell (p := ⟨wr.heap.size, 0, none⟩) (by show wr.heap.size < _; omega)).trans hc0
      have HM2 := Lib.hid (HM1.out.heap (hb2.block w.heap.size (by omega)))
      have hb3 : Below w.heap.size w w' := hb1.trans (hb2.mono (by omega))
      obtain ⟨x, hlk⟩ := HM2.out.look hsz hnin
      obtain ⟨w3, hput, hm3, hg3⟩ := HM2.out.put hsz (by unfold maxLen; omega) (i := (i : Int)) (WalkArith.wf_i64 (by omega))
      have hz2 := hb2.size
      clear hc0 HM1 hb1 hb hnin hva
      have HF := Lib.hid (And.intro hm3 hg3)
      clear hm3 hg3
      go_wp2_with fail
      exact ⟨⟨i + 1, by omega, by go_num, by rw [HSE.out]; exact HF.out.1, hb3.grown HF.out.2 (by omega) (fun kk hkk => by injection hkk with hkk; omega)⟩, by simp [intOf]; omega⟩
    · obtain rfl : i = n := by omega
      go_wp2_with fail
      go_end0
      exact ⟨rfl, hb⟩
end Go.Proofs.YtjbfhkcbgafeaaaDoor.look
