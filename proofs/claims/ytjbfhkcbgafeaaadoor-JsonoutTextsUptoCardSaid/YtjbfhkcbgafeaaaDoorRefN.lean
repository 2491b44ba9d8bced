/- The reference's number. -/
import Derived.Test.YtjbfhkcbgafeaaaDoorRefS
namespace Go.Proofs.YtjbfhkcbgafeaaaDoor.app
open Go.RowKit mem txt esc
set_option linter.unusedVariables false

def fA : Array Value := #[.int .i64 0, .int .i64 128, .int .i64 32, .int .i64 16, .int .i64 8]
theorem fA_at : ∀ k, k ≤ 4 → fA[k]? = some (.int .i64 (fstF k : Nat))
  | 0, _ => rfl
  | 1, _ => rfl
  | 2, _ => rfl
  | 3, _ => rfl
  | 4, _ => rfl
  | n + 5, h => by omega
theorem fst_pos : ∀ k, 1 ≤ k → k ≤ 4 → 0 < fstF k ∧ fstF k ≤ 128
  | 1, _, _ => by decide
  | 2, _, _ => by decide
  | 3, _, _ => by decide
  | 4, _, _ => by decide
  | n + 5, _, h => by omega
theorem add_0 (ad : Addr) : ad.add 0 = ad := by unfold Addr.add; split <;> simp_all

set_option maxRecDepth 100000 in
set_option maxHeartbeats 1000000 in
theorem number_any (k : Nat) (hk1 : 1 ≤ k) (hk4 : k ≤ 4) (b : Nat → Nat) (hb : ∀ i, b i < 256) (ad : Addr) (c : Nat) (w : World) (hblk : ad.block < w.heap.size) (hc : ∀ i, i < k → w.cell? (ad.add i) = some (.int .u8 (b i : Nat))) :
    Calls Tryd.prog 36 #[.slice (some ad) k c] w fun e w' => e = .returned (.int .i32 (valP b k : Nat)) ∧ Below w.heap.size w w' := by
  obtain ⟨hF0, hF1⟩ := fst_pos k hk1 hk4
  unfold valP
  have hf := fA_at k hk4
  have hlt := numP_lt b (fstF k) hF1 hF0
  obtain ⟨F, hF⟩ : ∃ F, fstF k = F := ⟨_, rfl⟩
  rw [hF] at hF0 hF1 hf hlt ⊢
  have HLT := Lib.hid hlt
  have HC := Lib.hid hc
  have HB := Lib.hid hb
  clear hF hlt hc hb
  go_enter Tryd.func36, Tryd.ntmps36
  go_upto_region 2 with (fail)
  have hbA : Below w.heap.size w (w.alloc (.cells fA 3)) := (Below.refl _ _).alloc (Nat.le_refl _) _
  have hT : (w.alloc (.cells fA 3)).cell? ⟨w.heap.size, k, none⟩ = some (.int .i64 (F : Nat)) := by
    rw [cell_of_row (w.alloc (.cells fA 3)) w.heap.size k fA 3 (0, 0) (heap_alloc_new w _)]
    exact hf
  have hcW : ∀ i, i < k → (w.alloc (.cells fA 3)).cell? (ad.add i) = some (.int .u8 (b i : Nat)) := fun i hi => (hbA.cell (p := ad.add i) (by rw [add_block]; exact hblk)).trans (HC.out i hi)
  have h0 := hcW 0 hk1
  rw [add_0] at h0
  have HW := Lib.hid hcW
  have HA := Lib.hid hbA
  obtain ⟨x0, hx0⟩ : ∃ x, b 0 = x := ⟨_, rfl⟩
  have hx256 : x0 < 256 := by rw [← hx0]; exact HB.out 0
  rw [hx0] at h0
  have hmod : (x0 : Int) % (F : Int) = ((numP b F 1 : Nat) : Int) := by
    show _ = ((b 0 % F : Nat) : Int)
    rw [hx0]
    omega
  clear hcW hf hbA
  rw [show fA = #[.int .i64 0, .int .i64 128, .int .i64 32, .int .i64 16, .int .i64 8] from rfl] at hT h0 HW HA
  generalize w.alloc (.cells #[.int .i64 0, .int .i64 128, .int .i64 32, .int .i64 16, .int .i64 8] 3) = W at *
  have hk3 : (k : Int) < 5 := by omega
  have hk0 : (0 : Int) < (k : Int) := by omega
  go_big_quiet (fail)
  rw [hmod]
  have hc4 : ∀ i, i < k → (W.drewN nq).cell? (ad.add i) = some (.int .u8 (b i : Nat)) := HW.out
  have HC4 := Lib.hid hc4
  have HB4 := Lib.hid (below_drewN' HA.out nq)
  generalize W.drewN nq = W4 at *
  clear hc4 hmod hT h0 hx0 hx256 HW HA
  go_wp2_with fail
  go_loopw [4, 5] (fun v4 v5 wr => ∃ i : Nat, 1 ≤ i ∧ i ≤ k ∧ v5 = .int .i64 (i : Int) ∧ v4 = .int .i64 ((numP b F i : Nat) : Int) ∧ wr = W4) (fun _ v5 _ => k - (intOf v5).toNat)
  case atStart => exact ⟨1, Nat.le_refl _, hk1, rfl, rfl, rfl⟩
  case round =>
    obtain ⟨i, hi1, hik, rfl, rfl, rfl⟩ := hrel
    have hN := HLT.out i (by omega)
    by_cases hi : i < k
    · have hi3 : (i : Int) < (k : Int) := by omega
      have hci := HC4.out i hi
      have hy256 := HB.out i
      have hstep : numP b F (i + 1) = numP b F i * 64 + b i % 64 := by
        obtain ⟨j, rfl⟩ : ∃ j, i = j + 1 := ⟨i - 1, by omega⟩
        rfl
      obtain ⟨N, hNN⟩ : ∃ N, numP b F i = N := ⟨_, rfl⟩
      obtain ⟨y, hy⟩ : ∃ y, b i = y := ⟨_, rfl⟩
      rw [hNN] at hN hstep ⊢
      rw [hy] at hci hstep hy256
      obtain ⟨M, hM⟩ : ∃ M, N * 64 + y % 64 = M := ⟨_, rfl⟩
      have hM3 : (N : Int) * 64 + (y : Int) % 64 = (M : Int) := by omega
      rw [hM] at hstep
      have HST := Lib.hid hstep
      have hMl : M < 2147483712 := by omega
      clear hNN hy hM hstep
      go_wp2_with fail
      exact ⟨⟨i + 1, by omega, by omega, by simp, by rw [HST.out], by simp⟩, by simp [intOf]; omega⟩
    · have hiE : i = k := by omega
      subst hiE
      obtain ⟨N, hNN⟩ : ∃ N, numP b F i = N := ⟨_, rfl⟩
      rw [hNN] at hN ⊢
      have HNN := Lib.hid hNN
      clear hNN
      go_wp2_with fail
      go_ret
      rw [HNN.out]
      exact ⟨rfl, HB4.out⟩
end Go.Proofs.YtjbfhkcbgafeaaaDoor.app
