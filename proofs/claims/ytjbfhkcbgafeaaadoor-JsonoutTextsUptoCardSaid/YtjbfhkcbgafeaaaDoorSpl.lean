/- JsonoutSplices, the walk. -/
import Derived.Test.YtjbfhkcbgafeaaaDoorAwake
namespace Go.Proofs.YtjbfhkcbgafeaaaDoor.look
open Go.RowKit mem txt app smap
attribute [local go_sem] run_store_float
set_option linter.unusedVariables false

/-- jsonout.Text, whatever the text -/
theorem text_any (s : ByteArray) (hs : s.size ≤ 4194304) (w : World) (hT : Tabs w) :
    Calls Tryd.prog 8 #[.string s] w fun e w' => e = .returned (.tuple #[.string (if Lib.validD s.data.toList = true then textOf s else ⟨#[]⟩), .int .i64 (if Lib.validD s.data.toList = true then 0 else 1)]) ∧ Below w.heap.size w w' := by
  cases hv : Lib.validD s.data.toList with
  | true => exact text_ok s hs w hT hv
  | false => exact text_bad s hs w hT hv

theorem data_app (a b : ByteArray) : (a ++ b).data.toList = a.data.toList ++ b.data.toList := by
  rw [ByteArray.data_append]
  simp
theorem textOf_size (s : ByteArray) : 2 ≤ (textOf s).size := by
  unfold textOf
  rw [strOf_size]
  simp [quoteZ]
theorem textOf_le (s : ByteArray) : (textOf s).size ≤ 6 * s.size + 2 := by
  unfold textOf
  rw [strOf_size]
  have := encZ_length s.data.toList.length s.data.toList (Nat.le_refl _)
  have h2 := Lib.size_eq s
  simp only [quoteZ, List.length_cons, List.length_append, List.length_nil]
  omega
theorem strOf_app (l r : List Int) : strOf (l ++ r) = strOf l ++ strOf r := by
  apply ByteArray.ext
  rw [ByteArray.data_append]
  simp [strOf]
theorem strOf_ext (l : List Int) (i j : Nat) : (strOf l).extract i j = strOf ((l.drop i).take (j - i)) := by
  apply ByteArray.ext
  rw [ByteArray.data_extract]
  simp only [strOf, List.extract_toArray, List.extract_eq_take_drop, List.map_take, List.map_drop]
/-- the text of two texts is the one's and the other's -/
theorem splice (a b : ByteArray) (hv : Lib.validD a.data.toList = true) : textOf (a ++ b) = (textOf a).extract 0 ((textOf a).size - 1) ++ (textOf b).extract 1 (textOf b).size := by
  unfold textOf
  rw [strOf_ext, strOf_ext, strOf_size, strOf_size, ← strOf_app]
  congr 1
  unfold quoteZ
  rw [data_app, (app_both _ a.data.toList b.data.toList (Nat.le_refl _) hv).2]
  have e1 : (List.drop 0 (34 :: (encZ a.data.toList ++ [34]))).take ((34 :: (encZ a.data.toList ++ [34])).length - 1 - 0) = 34 :: encZ a.data.toList := by
    simp
  have e2 : (List.drop 1 (34 :: (encZ b.data.toList ++ [34]))).take ((34 :: (encZ b.data.toList ++ [34])).length - 1) = encZ b.data.toList ++ [34] := by
    rw [List.drop_succ_cons, List.drop_zero]
    exact List.take_of_length_le (by simp)
  rw [e1, e2]
  simp

set_option maxRecDepth 100000 in
set_option maxHeartbeats 4000000 in
theorem splices_any (a b : ByteArray) (ha : a.size ≤ 1048576) (hb : b.size ≤ 1048576) (w : World) (hT : Tabs w) :
    Calls Tryd.prog 4 #[.string a, .string b] w (TruePost w) := by
  have HT := Lib.hid hT
  have hab : (a ++ b).size = a.size + b.size := ByteArray.size_append
  have hap := app_both a.data.toList.length a.data.toList b.data.toList (Nat.le_refl _)
  have hsp := splice a b
  rw [← data_app] at hap
  have HAP := Lib.hid hap
  have HSP := Lib.hid hsp
  clear hT hap hsp
  go_enter Tryd.func4, Tryd.ntmps4
  go_wp2_with fail
  refine (awake_any w HT.out).mono ?_
  rintro e w1 ⟨rfl, hb1⟩
  go_wp2_with fail
  refine (text_any a (by omega) w1 (HT.out.below hb1)).mono ?_
  rintro e w2 ⟨rfl, hb2⟩
  have hb3 : Below w.heap.size w w2 := hb1.trans (hb2.mono hb1.size)
  clear hb1 hb2
  have HCL := Lib.hid (fun W (hW : Below w.heap.size w W) => clean_any a W (by omega) (HT.out.below hW))
  have hxs := textOf_size a
  have hxl := textOf_le a
  have hyl := textOf_le b
  have hys := textOf_size b
  cases hva : Lib.validD a.data.toList with
  | false =>
    rw [hva] at HCL
    simp only [Bool.false_eq_true, if_false]
    go_wp2_with fail
    refine (text_any b (by omega) w2 (HT.out.below hb3)).mono ?_
    rintro e w3 ⟨rfl, hb4⟩
    have hb5 : Below w.heap.size w w3 := hb3.trans (hb4.mono hb3.size)
    clear hb3 hb4
    generalize (if Lib.validD b.data.toList = true then textOf b else ⟨#[]⟩) = y
    generalize (if Lib.validD b.data.toList = true then (0 : Int) else 1) = f
    go_wp2_with fail
    refine (text_any (a ++ b) (by omega) w3 (HT.out.below hb5)).mono ?_
    rintro e w4 ⟨rfl, hb6⟩
    have hb7 : Below w.heap.size w w4 := hb5.trans (hb6.mono hb5.size)
    clear hb5 hb6
    generalize (if Lib.validD (a ++ b).data.toList = true then textOf (a ++ b) else ⟨#[]⟩) = z
    generalize (if Lib.validD (a ++ b).data.toList = true then (0 : Int) else 1) = g
    go_wp2_with fail
    refine (HCL.out w4 hb7).mono ?_
    rintro e w5 ⟨rfl, hb8⟩
    have hb9 : Below w.heap.size w w5 := hb7.trans (hb8.mono hb7.size)
    go_wp2_with fail
    go_ret
    exact ⟨rfl, hb9⟩
  | true =>
    rw [hva] at HCL
    simp only [if_true]
    go_wp2_with fail
    refine (text_any b (by omega) w2 (HT.out.below hb3)).mono ?_
    rintro e w3 ⟨rfl, hb4⟩
    have hb5 : Below w.heap.size w w3 := hb3.trans (hb4.mono hb3.size)
    clear hb3 hb4
    have hvab := (HAP.out hva).1
    have hz := HSP.out hva
    cases hvb : Lib.validD b.data.toList with
    | false =>
      simp only [Bool.false_eq_true, if_false]
      clear hz
      go_wp2_with fail
      refine (text_any (a ++ b) (by omega) w3 (HT.out.below hb5)).mono ?_
      rintro e w4 ⟨rfl, hb6⟩
      have hb7 : Below w.heap.size w w4 := hb5.trans (hb6.mono hb5.size)
      clear hb5 hb6
      generalize (if Lib.validD (a ++ b).data.toList = true then textOf (a ++ b) else ⟨#[]⟩) = z
      generalize (if Lib.validD (a ++ b).data.toList = true then (0 : Int) else 1) = g
      go_wp2_with fail
      refine (HCL.out w4 hb7).mono ?_
      rintro e w5 ⟨rfl, hb8⟩
      have hb9 : Below w.heap.size w w5 := hb7.trans (hb8.mono hb7.size)
      go_wp2_with fail
      go_ret
      exact ⟨rfl, hb9⟩
    | true =>
      rw [hvb] at hvab
      simp only [if_true]
      go_wp2_with fail
      refine (text_ok (a ++ b) (by omega) w3 (HT.out.below hb5) hvab).mono ?_
      rintro e w4 ⟨rfl, hb6⟩
      have hb7 : Below w.heap.size w w4 := hb5.trans (hb6.mono hb5.size)
      clear hb5 hb6 HCL HAP HSP hvab
      generalize textOf (a ++ b) = z at *
      generalize textOf a = x at *
      generalize textOf b = y at *
      obtain ⟨m, hm⟩ : ∃ m, x.size - 1 = m := ⟨_, rfl⟩
      rw [hm] at hz
      have HZ := Lib.hid hz
      clear hz
      have hm1 : (x.size : Int) - 1 = (m : Int) := by omega
      have hm2 : (m : Int) ≤ (x.size : Int) := by omega
      have hm3 : m ≤ x.size := by omega
      have hm4 : IntKind.i64.wrap (m : Int) = (m : Int) := IntWalk.i64_in _ (by omega)
      have hm5 : wrap64 (m : Int) = (m : Int) := IntWalk.wrap64_in _ (by omega)
      have hy1 : (1 : Int) ≤ (y.size : Int) := by omega
      have hy2 : 1 ≤ y.size := by omega
      have hm6 : ¬ (9223372036854775807 < m + (y.size - 1)) := by omega
      clear hm
      go_upto_region 10 with (fail)
      go_region
      all_goals
        go_wp2
        go_ret
        exact ⟨by rw [← HZ.out]; exact ret_bool (by simp), hb7.drew⟩
end Go.Proofs.YtjbfhkcbgafeaaaDoor.look
