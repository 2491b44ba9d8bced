/- The reference's char. -/
import Derived.Test.YtjbfhkcbgafeaaaDoorRefD
namespace Go.Proofs.YtjbfhkcbgafeaaaDoor.app
open Go.RowKit mem txt esc
set_option linter.unusedVariables false

def cdN (n : Nat) : Nat := if n = 0 then 8 else if n = 1 then 9 else if n = 2 then 10 else if n = 3 then 12 else 13
def nmN (n : Nat) : Nat := if n = 0 then 98 else if n = 1 then 116 else if n = 2 then 110 else if n = 3 then 102 else 114
def cdA : Array Value := #[.int .i32 8, .int .i32 9, .int .i32 10, .int .i32 12, .int .i32 13]
theorem cdA_at : ∀ n : Nat, n < 5 → cdA[n]? = some (.int .i32 (cdN n : Nat))
  | 0, _ => rfl
  | 1, _ => rfl
  | 2, _ => rfl
  | 3, _ => rfl
  | 4, _ => rfl
  | n + 5, h => by omega
theorem nm_at : ∀ (n : Nat) (h : n < 5), ((⟨#[98, 116, 110, 102, 114]⟩ : ByteArray)[n]'h).toNat = nmN n
  | 0, _ => rfl
  | 1, _ => rfl
  | 2, _ => rfl
  | 3, _ => rfl
  | 4, _ => rfl
  | n + 5, h => by omega
theorem esc_cd : ∀ n : Nat, n < 5 → escZ (cdN n) = [92, (nmN n : Int)]
  | 0, _ => by decide
  | 1, _ => by decide
  | 2, _ => by decide
  | 3, _ => by decide
  | 4, _ => by decide
  | n + 5, h => by omega
theorem esc_none {r : Nat} (h1 : r ≠ 34) (h2 : r ≠ 92) (h : ∀ j, j < 5 → cdN j ≠ r) : escZ r = if 32 ≤ r then Lib.encodeRuneZ r else [92, 117, 48, 48, hexd (r / 16), hexd (r % 16)] := by
  have a0 : r ≠ 8 := fun e => h 0 (by omega) e.symm
  have a1 : r ≠ 9 := fun e => h 1 (by omega) e.symm
  have a2 : r ≠ 10 := fun e => h 2 (by omega) e.symm
  have a3 : r ≠ 12 := fun e => h 3 (by omega) e.symm
  have a4 : r ≠ 13 := fun e => h 4 (by omega) e.symm
  by_cases c : 32 ≤ r
  · have : escB r = 0 := by unfold escB; rw [if_neg (by omega), if_pos c]
    unfold escZ
    rw [if_pos this, if_pos c]
  · have : escB r = 117 := by unfold escB; rw [if_neg (by omega), if_neg c, if_neg a0, if_neg a1, if_neg a2, if_neg a3, if_neg a4]
    unfold escZ
    rw [if_neg (by rw [this]; omega), if_pos this, if_neg c]

theorem NewB.more {xs : List Int} {w w1 w2 : World} {e : Ending} (h : NewB xs w1 e w2) (hb : Below w.heap.size w w1) : NewB xs w e w2 := by
  obtain ⟨A, c, h1, h2, h3, h4, h5, h6⟩ := h
  exact ⟨A, c, h1, h2, h3, h4, h5, hb.trans (h6.mono hb.size)⟩

theorem newBat {xs : List Int} {w w1 : World} {k c g : Nat} (hb : Below w.heap.size w w1) (hg : w1.heap.size = g) (hk : xs.length = k) (hc : c = k) (h8 : k ≤ 8) :
    NewB xs w (.returned (.slice (some ⟨g, 0, none⟩) k c)) (w1.alloc (.cells (zs xs).toArray 5)) := by
  subst hg
  exact newB hb hk hc h8

set_option maxRecDepth 100000 in
set_option maxHeartbeats 2000000 in
theorem char_any (r : Nat) (hr : r < 55296 ∨ (57343 < r ∧ r ≤ 1114111)) (w : World) : Calls Tryd.prog 15 #[.int .i32 r] w (NewB (escZ r) w) := by
  have hbA : Below w.heap.size w (w.alloc (.cells cdA 21)) := (Below.refl _ _).alloc (Nat.le_refl _) _
  have hT : ∀ n, n < 5 → (w.alloc (.cells cdA 21)).cell? ⟨w.heap.size, n, none⟩ = some (.int .i32 (cdN n : Nat)) := fun n hn => by
    rw [cell_of_row (w.alloc (.cells cdA 21)) w.heap.size n cdA 21 (0, 0) (heap_alloc_new w _)]
    exact cdA_at n hn
  have HT := Lib.hid hT
  have HA := Lib.hid hbA
  clear hT hbA
  rw [show cdA = #[.int .i32 8, .int .i32 9, .int .i32 10, .int .i32 12, .int .i32 13] from rfl] at HT HA
  by_cases c1 : r = 34
  · subst c1
    rw [show escZ 34 = [92, 34] by decide]
    go_enter Tryd.func15, Tryd.ntmps15
    go_wp2
    go_ret
    exact newBat (xs := [92, 34]) HA.out (by simp) rfl rfl (by simp)
  by_cases c2 : r = 92
  · subst c2
    rw [show escZ 92 = [92, 92] by decide]
    go_enter Tryd.func15, Tryd.ntmps15
    go_wp2
    go_ret
    exact newBat (xs := [92, 92]) HA.out (by simp) rfl rfl (by simp)
  have b1 : ((r : Int) == 34) = false := by simp; omega
  have b2 : ((r : Int) == 92) = false := by simp; omega
  have HE := Lib.hid (esc_none c1 c2)
  have HR := Lib.hid hr
  have hr2 : r ≤ 1114111 := by omega
  clear c1 c2 hr
  go_enter Tryd.func15, Tryd.ntmps15
  go_wp2_with fail
  obtain ⟨W, hW⟩ : ∃ W, w.alloc (.cells #[.int .i32 8, .int .i32 9, .int .i32 10, .int .i32 12, .int .i32 13] 21) = W := ⟨_, rfl⟩
  rw [hW] at HT HA ⊢
  have HW := Lib.hid hW
  clear hW
  go_loopw [5] (fun v5 wr => ∃ i : Nat, i ≤ 5 ∧ v5 = .int .i64 (i : Int) ∧ wr = W ∧ Hid (∀ j, j < i → cdN j ≠ r)) (fun v5 _ => 5 - (intOf v5).toNat)
  case atStart => exact ⟨0, Nat.zero_le _, rfl, rfl, Lib.hid fun j hj => by omega⟩
  case round =>
    obtain ⟨i, hi, rfl, rfl, hno⟩ := hrel
    by_cases hi5 : i < 5
    · have hc := HT.out i hi5
      have hi3 : (i : Int) < 5 := by omega
      obtain ⟨X, hX⟩ : ∃ X, ((⟨#[98, 116, 110, 102, 114]⟩ : ByteArray)[i]'hi5).toNat = X := ⟨_, rfl⟩
      have hX2 : nmN i = X := by rw [← hX]; exact (nm_at i hi5).symm
      have HES := Lib.hid (esc_cd i hi5)
      rw [hX2] at HES
      clear hX2
      obtain ⟨D, hD⟩ : ∃ D, cdN i = D := ⟨_, rfl⟩
      rw [hD] at hc HES
      have HD := Lib.hid hD
      clear hD
      by_cases hDr : D = r
      · subst hDr
        go_wp2
        go_ret
        rw [HES.out]
        exact newB (xs := [92, (X : Int)]) HA.out rfl rfl (by simp)
      · have hb : ((D : Int) == (r : Int)) = false := by simp; omega
        have HDR := Lib.hid hDr
        clear hDr
        go_wp2
        exact ⟨⟨i + 1, by omega, by simp, by simp, Lib.hid fun j hj => by
          by_cases e : j = i
          · subst e
            rw [HD.out]
            exact HDR.out
          · exact hno.out j (by omega)⟩, by simp [intOf]; omega⟩
    · have hiE : i = 5 := by omega
      subst hiE
      have hez := HE.out hno.out
      by_cases c3 : 32 ≤ r
      · have d3 : decide ((r : Int) ≥ 32) = true := decide_eq_true (by omega)
        have HZ := Lib.hid (show escZ r = putZ r by rw [hez, if_pos c3]; unfold putZ; rw [if_pos HR.out])
        clear hez hno
        go_wp2_with fail
        refine (put_any r (by omega) wr).mono ?_
        intro e w2 hn
        rw [← HZ.out] at hn
        obtain ⟨A, c, rfl, hn2⟩ := hn.more HA.out
        have HN := Lib.hid hn2
        clear hn hn2
        go_wp2_with fail
        go_ret
        exact ⟨A, c, rfl, HN.out⟩
      · have d3 : decide ((r : Int) ≥ 32) = false := decide_eq_false (by omega)
        obtain ⟨x, hx⟩ : ∃ x, r / 16 = x := ⟨_, rfl⟩
        obtain ⟨y, hy⟩ : ∃ y, r % 16 = y := ⟨_, rfl⟩
        have hx1 : (r : Int) / 16 = (x : Int) := by omega
        have hy1 : (r : Int) % 16 = (y : Int) := by omega
        have hx2 : x < 16 := by omega
        have hy2 : y < 16 := by omega
        obtain ⟨X, hX⟩ : ∃ X, ((⟨#[48, 49, 50, 51, 52, 53, 54, 55, 56, 57, 97, 98, 99, 100, 101, 102]⟩ : ByteArray)[x]'hx2).toNat = X := ⟨_, rfl⟩
        obtain ⟨Y, hY⟩ : ∃ Y, ((⟨#[48, 49, 50, 51, 52, 53, 54, 55, 56, 57, 97, 98, 99, 100, 101, 102]⟩ : ByteArray)[y]'hy2).toNat = Y := ⟨_, rfl⟩
        have hX2 : hexd x = (X : Int) := by rw [← hX]; exact (digits_at x hx2).symm
        have hY2 : hexd y = (Y : Int) := by rw [← hY]; exact (digits_at y hy2).symm
        have HZ := Lib.hid (show escZ r = [92, 117, 48, 48, (X : Int), (Y : Int)] by rw [hez, if_neg c3, hx, hy, hX2, hY2])
        have hx3 : (x : Int) < 16 := by omega
        have hy3 : (y : Int) < 16 := by omega
        clear hez hno hx hy hX2 hY2
        go_upto_region 13 with (fail)
        go_region
        all_goals
          go_wp2_with fail
          go_ret
          rw [HZ.out]
          exact newB (xs := [92, 117, 48, 48, (X : Int), (Y : Int)]) HA.out.drew rfl rfl (by simp)
end Go.Proofs.YtjbfhkcbgafeaaaDoor.app
