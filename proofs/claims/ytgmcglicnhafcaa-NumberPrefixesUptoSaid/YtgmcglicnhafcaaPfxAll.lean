/- NumberPrefixes: the walk over the script. -/
import Derived.Test.YtgmcglicnhafcaaPfxOne
import Derived.Lib.SlBytesConst
namespace Go.Proofs.Ytgmcglicnhafcaa.pfx
open Go.RowKit mem

/-- the three cells of a Spot, and what its lists hold -/
def SpotAt (w : World) (B : Nat) (ad : Addr) : Prop := ∃ (AS AR : Option Addr) (cS cR : Nat) (xs rs : List Int) (p : Int),
  w.cell? ad = some (.slice AS xs.length cS) ∧ w.cell? (ad.add 1) = some (.slice AR rs.length cR) ∧ w.cell? (ad.add 2) = some (.int .i64 p) ∧ ad.block < B ∧
  Rd w B AS (xs.map (.int .u8)) ∧ Rd w B AR (rs.map (.int .i32)) ∧ (AS = none → xs.length = 0) ∧ (AR = none → rs.length = 0) ∧ xs.length ≤ 1048576 ∧ rs.length ≤ 1048576 ∧
  (∀ x ∈ xs, 0 ≤ x ∧ x ≤ 255) ∧ (∀ x ∈ rs, -2147483648 ≤ x ∧ x ≤ 2147483647) ∧ (-9223372036854775808 ≤ p ∧ p ≤ 9223372036854775807)

theorem SpotAt.below {w w' : World} {B : Nat} {ad : Addr} (h : SpotAt w B ad) (hb : Below B w w') : SpotAt w' B ad := by
  obtain ⟨AS, AR, cS, cR, xs, rs, p, h0, h1, h2, hB, hS, hR, r⟩ := h
  exact ⟨AS, AR, cS, cR, xs, rs, p, (hb.cell (p := ad) hB).trans h0, (hb.cell (p := ad.add 1) (by rw [add_block]; exact hB)).trans h1, (hb.cell (p := ad.add 2) (by rw [add_block]; exact hB)).trans h2, hB, hS.below hb, hR.below hb, r⟩

def first5 : List Int := [97, 49, 50, 46, 120]
theorem pf_first : pf first5 1 = (3, 4, 1) := by decide
theorem first5_range : ∀ x ∈ first5, 0 ≤ x ∧ x ≤ 255 := by decide

/-- the literal's row, marked behind its last cell -/
def litRow : Obj := .cells #[.int .u8 97, .int .u8 49, .int .u8 50, .int .u8 46, .int .u8 120] 5 (5, 6)
theorem litRow_rd (w : World) : Rd (w.alloc litRow) (w.heap.size + 1) (some ⟨w.heap.size, 0, none⟩) (first5.map (.int .u8)) := by
  intro j u hu
  refine ⟨_, rfl, by simp, ?_⟩
  rw [add_zero_off, cell_of_row (w.alloc litRow) w.heap.size j _ 5 (5, 6) (heap_alloc_new w _)]
  simpa [first5] using hu

set_option maxRecDepth 100000 in
set_option maxHeartbeats 1000000 in
theorem prefixes_any (A : Option Addr) (n c : Nat) (w : World) (hn : n ≤ 1048576) (h : ∀ k, k < n → ∃ ad, A = some ad ∧ SpotAt w w.heap.size (ad.add (k * 3))) :
    Calls Try.prog 8 #[.slice A n c] w fun e w' => e = .returned (.bool true) ∧ Below w.heap.size w w' := by
  have H := Lib.hid h
  clear h
  have hrd := litRow_rd w
  have h1 := prefix25n (some ⟨w.heap.size, 0, none⟩) 5 5 first5 1 (w.heap.size + 1) (w.alloc litRow) hrd rfl (by omega) first5_range (by omega)
  rw [pf_first] at h1
  have H1 := Lib.hid h1
  clear h1 hrd
  have hcv := Lib.run_convert_bytes_const (P := Try.prog) w 64 5 #[.int .u8 97, .int .u8 49, .int .u8 50, .int .u8 46, .int .u8 120] 5 5 Try.underlying64 Try.underlying5
  go_enter Try.func8, Try.ntmps8
  go_wp2_with fail
  refine H1.out.mono ?_
  rintro e wx ⟨rfl, rfl⟩
  go_wp2_with fail
  clear hcv
  have hB1 : Below w.heap.size w (w.alloc litRow) := (Below.refl _ _).alloc (Nat.le_refl _) _
  generalize (w.alloc litRow) = w1 at *
  go_wp2_with fail
  go_loopw [6] (fun i W => ∃ k : Nat, k ≤ n ∧ i = .int .i64 (k : Int) ∧ Below w.heap.size w W) (fun i _ => n - (intOf i).toNat)
  case atStart => exact ⟨0, Nat.zero_le _, rfl, hB1⟩
  case round =>
    obtain ⟨k, hk, rfl, hb⟩ := hrel
    by_cases hlt : k < n
    · obtain ⟨ad, rfl, hsp⟩ := H.out k hlt
      obtain ⟨AS, AR, cS, cR, xs, rs, p, h0, h1, h2, hB, hS, hR, hnS, hnR, hlS, hlR, hxs, hrs, hp⟩ := hsp.below hb
      have h1' : wr.cell? ⟨(ad.add (k * 3)).block, (ad.add (k * 3)).off + 1, none⟩ = _ := h1
      have h2' : wr.cell? ⟨(ad.add (k * 3)).block, (ad.add (k * 3)).off + 2, none⟩ = _ := h2
      have hc := prefixed_any AS AR cS cR xs rs p wr (hS.more hb.size) (hR.more hb.size) hnS hnR hlS hlR hxs hrs hp
      have HC := Lib.hid hc
      clear hc hS hR hnS hnR hxs hrs hp hsp h1 h2
      go_wp2_with fail
      refine HC.out.mono ?_
      rintro e w2 ⟨rfl, hb2⟩
      go_wp2_with fail
      go_roundw
      case rel => exact ⟨k + 1, by omega, by go_num, hb.trans (hb2.mono hb.size)⟩
      case measure => simp [intOf]; omega
    · go_wp2_with fail
      go_ret
      exact ⟨rfl, hb⟩
end Go.Proofs.Ytgmcglicnhafcaa.pfx
