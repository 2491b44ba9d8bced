/- readFloat, walked: on the text 0.DIGITSeEXPONENT. -/
import Derived.Test.YtjciflgnlldgbaaGreatDoorGPw
import Derived.Test.YtjciflgnlldgbaaGreatDoorYDl
import Derived.Test.YtjciflgnlldgbaaGreatDoorGDig
import Derived.Test.YtjciflgnlldgbaaGreatDoorGRb
namespace Go.Proofs.YtjciflgnlldgbaaGreatDoor.uw
open Go.RowKit mem fl big us
set_option linter.unusedVariables false

/-- the text that the program hands to ParseFloat -/
def rfT (D X : List Nat) : List Nat := 48 :: 46 :: (D ++ 101 :: X)
theorem rfT_len (D X : List Nat) : (rfT D X).length = D.length + X.length + 3 := by simp [rfT]; omega
theorem rfT_D (D X : List Nat) (t : Nat) (h : t < D.length) : (rfT D X).getD (t + 2) 0 = D.getD t 0 := by
  unfold rfT
  simp only [List.getD_cons_succ]
  rw [List.getD_eq_getElem?_getD, List.getD_eq_getElem?_getD, List.getElem?_append_left h]
theorem rfT_e (D X : List Nat) : (rfT D X).getD (D.length + 2) 0 = 101 := by
  unfold rfT
  simp only [List.getD_cons_succ]
  rw [List.getD_eq_getElem?_getD, List.getElem?_append_right (Nat.le_refl _)]
  simp
theorem rfT_X (D X : List Nat) (t : Nat) : (rfT D X).getD (D.length + 3 + t) 0 = X.getD t 0 := by
  unfold rfT
  rw [show D.length + 3 + t = D.length + (t + 1) + 2 by omega]
  simp only [List.getD_cons_succ]
  rw [List.getD_eq_getElem?_getD, List.getD_eq_getElem?_getD, List.getElem?_append_right (by omega), show D.length + (t + 1) - D.length = t + 1 by omega]
  simp
/-- the mantissa: the first nineteen digits; whether others than noughts follow -/
def rfM (D : List Nat) : Nat := dvn (D.take 19)
def rfTr (D : List Nat) : Bool := (D.drop 19).any fun c => c != 48
theorem dvn_take (D : List Nat) (t : Nat) (h : t < D.length) : dvn (D.take (t + 1)) = dvn (D.take t) * 10 + (D.getD t 0 - 48) := by
  rw [List.take_succ_eq_append_getElem h, dvn_app]
  show dvn (D.take t) * 10 ^ 1 + (0 * 10 + (D[t] - 48)) = _
  rw [List.getD_eq_getElem?_getD, List.getElem?_eq_getElem h]
  simp
theorem rfTr_take (D : List Nat) (t : Nat) (h : t < D.length) (h19 : 19 ≤ t) : rfTr (D.take (t + 1)) = (rfTr (D.take t) || D.getD t 0 != 48) := by
  unfold rfTr
  rw [List.take_succ_eq_append_getElem h, List.drop_append_of_le_length (by rw [List.length_take]; omega), List.any_append]
  rw [List.getD_eq_getElem?_getD, List.getElem?_eq_getElem h]
  simp
theorem rfTr_small (D : List Nat) (t : Nat) (h19 : t ≤ 19) : rfTr (D.take t) = false := by
  unfold rfTr
  rw [List.drop_of_length_le (by rw [List.length_take]; omega)]
  rfl
theorem rfM_step_lo (D : List Nat) (t : Nat) (h : t < D.length) (h19 : t < 19) : rfM (D.take (t + 1)) = rfM (D.take t) * 10 + (D.getD t 0 - 48) := by
  unfold rfM
  rw [List.take_take, List.take_take, show min 19 (t + 1) = t + 1 by omega, show min 19 t = t by omega, dvn_take D t h]
theorem rfM_step_hi (D : List Nat) (t : Nat) (h19 : 19 ≤ t) : rfM (D.take (t + 1)) = rfM (D.take t) := by
  unfold rfM
  rw [List.take_take, List.take_take, show min 19 (t + 1) = 19 by omega, show min 19 t = 19 by omega]
end Go.Proofs.YtjciflgnlldgbaaGreatDoor.uw
