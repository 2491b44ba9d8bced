/- small and plain: the tables of the reading back, searched. -/
import Derived.Test.YtjbfhkcbgafeaaaDoorApp
import Derived.Test.YtjbfhkcbgafeaaaDoorUn
namespace Go.Proofs.YtjbfhkcbgafeaaaDoor.app
open Go.RowKit mem txt esc
set_option linter.unusedVariables false

theorem hexd_inj {i n : Nat} (hi : i < 16) (hn : n < 16) (h : hexd i = hexd n) : i = n := by
  unfold hexd at h
  split at h <;> split at h <;> omega
theorem frN_inj : ∀ i : Fin 7, ∀ n : Fin 7, frN i = frN n → i = n := by decide
def toA : Array Value := #[.int .u8 34, .int .u8 92, .int .u8 8, .int .u8 9, .int .u8 10, .int .u8 12, .int .u8 13]
theorem toA_at : ∀ n : Nat, n < 7 → toA[n]? = some (.int .u8 (toN n : Nat))
  | 0, _ => rfl
  | 1, _ => rfl
  | 2, _ => rfl
  | 3, _ => rfl
  | 4, _ => rfl
  | 5, _ => rfl
  | 6, _ => rfl
  | n + 7, h => by omega
theorem fr_at : ∀ (n : Nat) (h : n < 7), ((⟨#[34, 92, 98, 116, 110, 102, 114]⟩ : ByteArray)[n]'h).toNat = frN n
  | 0, _ => rfl
  | 1, _ => rfl
  | 2, _ => rfl
  | 3, _ => rfl
  | 4, _ => rfl
  | 5, _ => rfl
  | 6, _ => rfl
  | n + 7, h => by omega

set_option maxRecDepth 100000 in
theorem small_at (n : Nat) (h : n < 16) (X : Nat) (hX : hexd n = (X : Int)) (w : World) :
    Calls Tryd.prog 19 #[.int .u8 X] w fun e w' => e = .returned (.int .i64 n) ∧ w' = w := by
  have HX := Lib.hid hX
  clear hX
  go_enter Tryd.func19, Tryd.ntmps19
  go_wp2_with fail
  go_loopw [3] (fun v3 wr => ∃ i : Nat, i ≤ n ∧ v3 = .int .i64 (i : Int) ∧ wr = w) (fun v3 _ => n - (intOf v3).toNat)
  case atStart => exact ⟨0, Nat.zero_le _, rfl, rfl⟩
  case round =>
    obtain ⟨i, hi, rfl, rfl⟩ := hrel
    have hi16 : i < 16 := by omega
    obtain ⟨D, hD⟩ : ∃ D, ((⟨#[48, 49, 50, 51, 52, 53, 54, 55, 56, 57, 97, 98, 99, 100, 101, 102]⟩ : ByteArray)[i]'hi16).toNat = D := ⟨_, rfl⟩
    have hD2 : hexd i = (D : Int) := by rw [← hD]; exact (digits_at i hi16).symm
    have hi3 : (i : Int) < 16 := by omega
    by_cases hin : i = n
    · subst hin
      have hDX : D = X := by have := HX.out; omega
      subst hDX
      go_wp2
      go_ret
      exact ⟨rfl, rfl⟩
    · have hne : D ≠ X := fun e => hin (hexd_inj hi16 h (by rw [hD2, HX.out, e]))
      have hb : ((D : Int) == (X : Int)) = false := by simp; omega
      clear hD2
      go_wp2
      exact ⟨⟨i + 1, by omega, by simp⟩, by simp [intOf]; omega⟩

set_option maxRecDepth 100000 in
theorem plain_at (n : Nat) (h : n < 7) (w : World) :
    Calls Tryd.prog 18 #[.int .u8 (frN n : Nat)] w fun e w' => e = .returned (.int .u8 (toN n : Nat)) ∧ ∃ o, w' = w.alloc o := by
  obtain ⟨X, hX⟩ : ∃ X, frN n = X := ⟨_, rfl⟩
  rw [hX]
  have HX := Lib.hid hX
  clear hX
  go_enter Tryd.func18, Tryd.ntmps18
  go_wp2_with fail
  obtain ⟨W, hW⟩ : ∃ W, w.alloc (.cells toA 5) = W := ⟨_, rfl⟩
  have hc : ∀ i, i < 7 → W.cell? ⟨w.heap.size, i, none⟩ = some (.int .u8 (toN i : Nat)) := by
    intro i hi
    rw [← hW, cell_of_row (w.alloc (.cells toA 5)) w.heap.size i toA 5 (0, 0) (heap_alloc_new w _)]
    exact toA_at i hi
  have HC := Lib.hid hc
  clear hc
  go_loopw [5] (fun v3 wr => ∃ i : Nat, i ≤ n ∧ v3 = .int .i64 (i : Int) ∧ wr = W) (fun v3 _ => n - (intOf v3).toNat)
  case atStart => exact ⟨0, Nat.zero_le _, rfl, hW⟩
  case round =>
    obtain ⟨i, hi, rfl, rfl⟩ := hrel
    have hi16 : i < 7 := by omega
    have hc := HC.out i hi16
    obtain ⟨D, hD⟩ : ∃ D, ((⟨#[34, 92, 98, 116, 110, 102, 114]⟩ : ByteArray)[i]'hi16).toNat = D := ⟨_, rfl⟩
    have hD2 : frN i = D := by rw [← hD]; exact (fr_at i hi16).symm
    have hi3 : (i : Int) < 7 := by omega
    by_cases hin : i = n
    · subst hin
      have hDX : D = X := by have := HX.out; omega
      subst hDX
      clear hD2
      go_wp2
      go_ret
      exact ⟨rfl, _, hW.symm⟩
    · have hne : D ≠ X := fun e => hin (by have := frN_inj ⟨i, hi16⟩ ⟨n, h⟩ (by show frN i = frN n; rw [hD2, HX.out, e]); exact congrArg Fin.val this)
      have hb : ((D : Int) == (X : Int)) = false := by simp; omega
      clear hD2
      go_wp2
      exact ⟨⟨i + 1, by omega, by simp⟩, by simp [intOf]; omega⟩
end Go.Proofs.YtjbfhkcbgafeaaaDoor.app
