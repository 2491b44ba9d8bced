/- The reference's decimal texts: Digits, WholeText. The reference's decimal texts, walked: Digits, WholeText. The reference's cut: a number text taken apart. -/
import Derived.Test.YtjciflgnlldgbaaGreatDoorGMem
import Derived.Deep.Cut
import Derived.Deep.QuietTactic
import Derived.BigQuiet
section
namespace Go.Proofs.YtjciflgnlldgbaaGreatDoor.big
open Go.RowKit mem fl
set_option linter.unusedVariables false

theorem infoB : (Tryz.prog.info? 5).map (fun i => (i.zero, i.size, i.bytes)) = some (some (.int .u8 0), 1, 1) := by kernel_rfl

/-- bytes as values -/
def ns (l : List Nat) : List Value := l.map fun x : Nat => .int .u8 (x : Int)
def strN (l : List Nat) : ByteArray := ⟨(l.map UInt8.ofNat).toArray⟩
theorem strN_size (l : List Nat) : (strN l).size = l.length := by simp [strN, ByteArray.size]
theorem strN_list (l : List Nat) : (strN l).data.toList = l.map UInt8.ofNat := by simp [strN]
theorem ns_length (l : List Nat) : (ns l).length = l.length := by simp [ns]
theorem ns_app (a b : List Nat) : ns (a ++ b) = ns a ++ ns b := by simp [ns]
theorem ns_get {l : List Nat} {k : Nat} (h : k < l.length) : (ns l)[k]? = some (.int .u8 (l.getD k 0 : Int)) := by
  unfold ns
  rw [List.getElem?_map, List.getElem?_eq_getElem h, List.getD_eq_getElem?_getD, List.getElem?_eq_getElem h]
  rfl
theorem ns_none {w : World} {B : Nat} {A : Option Addr} {l : List Nat} (h : Rd w B A (ns l)) : A = none → l.length = 0 := by
  rintro rfl
  by_cases hz : l.length = 0
  · exact hz
  · obtain ⟨ad, h1, _⟩ := h 0 _ (ns_get (l := l) (k := 0) (by omega))
    cases h1
theorem conv_bytes {w : World} {B : Nat} (A : Option Addr) (l : List Nat) (c : Nat) (hr : Rd w B A (ns l)) : (convert 45 9 (.slice A l.length c)).run Tryz.prog w = .ok (.string (strN l)) w := by
  have h := run_conv_bytes (P := Tryz.prog) (w := w) (B := B) 45 9 5 A (l.map fun x : Nat => (x : Int)) c Tryz.underlying45 Tryz.underlying5 Tryz.underlying9 (by
    have : (l.map fun x : Nat => (x : Int)).map (Value.int .u8) = ns l := by simp [ns]
    rw [this]; exact hr) (by rw [List.length_map]; exact ns_none hr)
  rw [List.length_map] at h
  have e : strOf (l.map fun x : Nat => (x : Int)) = strN l := by simp [strOf, strN]
  rw [e] at h
  exact h

/-- the digits of a number, the last first -/
def dgF : Nat → Nat → List Nat
  | 0, _ => []
  | f + 1, u => (48 + u % 10) :: if u / 10 = 0 then [] else dgF f (u / 10)
def dg (u : Nat) : List Nat := dgF (u + 1) u
def dgs (u : Nat) : List Nat := (dg u).reverse
theorem dgF_fuel : ∀ (f g u : Nat), u < f → u < g → dgF f u = dgF g u
  | 0, g, u, h, _ => by omega
  | f + 1, 0, u, _, h => by omega
  | f + 1, g + 1, u, h1, h2 => by
    unfold dgF
    by_cases h : u / 10 = 0
    · rw [if_pos h, if_pos h]
    · rw [if_neg h, if_neg h, dgF_fuel f g _ (by omega) (by omega)]
theorem dg_step (u : Nat) : dg u = (48 + u % 10) :: if u / 10 = 0 then [] else dg (u / 10) := by
  unfold dg
  show ((48 + u % 10) :: if u / 10 = 0 then [] else dgF u (u / 10)) = _
  by_cases h : u / 10 = 0
  · rw [if_pos h, if_pos h]
  · rw [if_neg h, if_neg h, dgF_fuel u (u / 10 + 1) _ (by omega) (by omega)]
theorem dg_len : ∀ (k u : Nat), 0 < k → u < 10 ^ k → 0 < (dg u).length ∧ (dg u).length ≤ k
  | 0, u, h, _ => by omega
  | k + 1, u, _, h => by
    rw [dg_step]
    by_cases h0 : u / 10 = 0
    · rw [if_pos h0]; simp
    · rw [if_neg h0]
      have hk : 0 < k := by
        rcases Nat.eq_zero_or_pos k with rfl | h1
        · simp at h; omega
        · exact h1
      have := dg_len k (u / 10) hk (by rw [Nat.pow_succ] at h; omega)
      simp; omega

/-- the loop over the digits: those that are laid, and the rest -/
def DgSt (u : Nat) (w : World) (v : Value) (l : List Nat) (r : Nat) (wr : World) : Prop :=
  wr.ownsRow w.heap.size 5 1 v l.length (ns l) ∧ Below w.heap.size w wr ∧ ((0 < r ∨ l = []) → dg u = l ++ dg r) ∧ (r = 0 ∧ l ≠ [] → dg u = l)

/-- the first i and the last i are changed about -/
def swp (L : List Nat) (i : Nat) : List Nat := (List.range L.length).map fun j => if j < i ∨ L.length - 1 - j < i then L.getD (L.length - 1 - j) 0 else L.getD j 0
theorem swp_length (L : List Nat) (i : Nat) : (swp L i).length = L.length := by simp [swp]
theorem swp_get (L : List Nat) (i j : Nat) (h : j < L.length) : (swp L i).getD j 0 = if j < i ∨ L.length - 1 - j < i then L.getD (L.length - 1 - j) 0 else L.getD j 0 := by
  unfold swp
  rw [List.getD_eq_getElem?_getD, List.getElem?_map, List.getElem?_range h]
  rfl
theorem getD_ext {a b : List Nat} (hl : a.length = b.length) (h : ∀ j, j < a.length → a.getD j 0 = b.getD j 0) : a = b := by
  apply List.ext_getElem hl
  intro j h1 h2
  have := h j h1
  rw [List.getD_eq_getElem?_getD, List.getD_eq_getElem?_getD, List.getElem?_eq_getElem h1, List.getElem?_eq_getElem h2] at this
  simpa using this
theorem swp_zero (L : List Nat) : swp L 0 = L := by
  refine getD_ext (swp_length L 0) fun j hj => ?_
  rw [swp_length] at hj
  rw [swp_get L 0 j hj, if_neg (by omega)]
theorem swp_end (L : List Nat) : swp L (L.length / 2) = L.reverse := by
  refine getD_ext (by rw [swp_length, List.length_reverse]) fun j hj => ?_
  rw [swp_length] at hj
  have e : L.reverse.getD j 0 = L.getD (L.length - 1 - j) 0 := by
    rw [List.getD_eq_getElem?_getD, List.getD_eq_getElem?_getD, List.getElem?_reverse hj]
  rw [swp_get L _ j hj, e]
  by_cases h : j < L.length / 2 ∨ L.length - 1 - j < L.length / 2
  · rw [if_pos h]
  · rw [if_neg h]
    congr 1
    omega
theorem getD_set (l : List Nat) (i j x : Nat) (h : i < l.length) : (l.set i x).getD j 0 = if j = i then x else l.getD j 0 := by
  rw [List.getD_eq_getElem?_getD, List.getElem?_set]
  by_cases e : j = i
  · subst e
    simp [h]
  · rw [if_neg (fun h => e h.symm), if_neg e, List.getD_eq_getElem?_getD]
theorem swp_step (L : List Nat) (i : Nat) (h : i < L.length / 2) : ((swp L i).set i (L.getD (L.length - 1 - i) 0)).set (L.length - 1 - i) (L.getD i 0) = swp L (i + 1) := by
  refine getD_ext (by simp [swp_length]) fun j hj => ?_
  simp only [List.length_set, swp_length] at hj
  rw [getD_set _ _ _ _ (by rw [List.length_set, swp_length]; omega), getD_set _ _ _ _ (by rw [swp_length]; omega), swp_get L i j hj, swp_get L (i + 1) j hj]
  by_cases e1 : j = L.length - 1 - i
  · rw [if_pos e1, if_pos (by omega)]
    congr 1
    omega
  · rw [if_neg e1]
    by_cases e2 : j = i
    · subst e2
      rw [if_pos rfl, if_pos (by omega)]
    · rw [if_neg e2]
      by_cases e3 : j < i ∨ L.length - 1 - j < i
      · rw [if_pos e3, if_pos (by omega)]
      · rw [if_neg e3, if_neg (by omega)]
theorem ns_set (l : List Nat) (i x : Nat) : (ns l).set i (.int .u8 (x : Int)) = ns (l.set i x) := by simp [ns, List.map_set]
theorem pow_le_20 {u r k : Nat} (hu : u < 18446744073709551616) (hr : 0 < r) (h : r * 10 ^ k ≤ u) : k ≤ 19 := by
  by_cases hk : k ≤ 19
  · exact hk
  · exfalso
    have h1 : 10 ^ 20 ≤ 10 ^ k := Nat.pow_le_pow_right (by decide) (by omega)
    have h2 : 1 * 10 ^ k ≤ r * 10 ^ k := Nat.mul_le_mul_right _ hr
    have h3 : (10 : Nat) ^ 20 = 100000000000000000000 := by decide
    omega
end Go.Proofs.YtjciflgnlldgbaaGreatDoor.big
end
section
namespace Go.Proofs.YtjciflgnlldgbaaGreatDoor.big
open Go.RowKit mem fl
set_option linter.unusedVariables false


def DgPost (u : Nat) (w : World) (e : Ending) (w' : World) : Prop := e = .returned (.string (strN (dgs u))) ∧ Below w.heap.size w w'
/-- while the digits are turned about -/
def TuSt (L : List Nat) (w : World) (A : Option Addr) (c i : Nat) (wr : World) : Prop :=
  ∃ g, A = some ⟨g, 0, none⟩ ∧ wr.ownsRow w.heap.size 5 1 (.slice A L.length c) L.length (ns (swp L i)) ∧ Below w.heap.size w wr

/-- the text of a whole number -/
def wtx (n : Int) : List Nat := if n < 0 then 45 :: dgs n.natAbs else dgs n.natAbs
def WtPost (n : Int) (w : World) (e : Ending) (w' : World) : Prop := e = .returned (.string (strN (wtx n))) ∧ Below w.heap.size w w'
theorem strN_app (a b : List Nat) : strN a ++ strN b = strN (a ++ b) := by
  apply ByteArray.ext
  apply Array.toList_inj.1
  simp [strN]
end Go.Proofs.YtjciflgnlldgbaaGreatDoor.big
end
section
namespace Go.Proofs.YtjciflgnlldgbaaGreatDoor.big
open Go.RowKit mem fl
set_option linter.unusedVariables false

/-- what is gathered, letter by letter -/
structure Cs where
  neg : Bool
  b : List Nat
  x : Int
  exp : Nat
  dot : Bool
  e : Bool
  down : Bool
  more : Bool
def Cs.start : Cs := ⟨false, [], 0, 0, false, false, false, false⟩
def cutStep (s : Cs) (c : Nat) : Cs :=
  if c = 46 then { s with dot := true }
  else if c = 101 ∨ c = 69 then { s with e := true }
  else if c = 45 then (if s.e then { s with down := true } else { s with neg := true })
  else if c = 43 then s
  else if s.e then (if s.exp < 1125899906842624 then { s with exp := 10 * s.exp + (c - 48) } else s)
  else if s.b.length = 800 then { s with x := (if s.dot then s.x - 1 else s.x) + 1, more := s.more || c != 48 }
  else if c ≠ 48 ∨ 0 < s.b.length then { s with x := (if s.dot then s.x - 1 else s.x), b := s.b ++ [c] }
  else { s with x := (if s.dot then s.x - 1 else s.x) }
def cutF (l : List Nat) : Cs := l.foldl cutStep Cs.start
theorem cutF_snoc (l : List Nat) (c : Nat) : cutF (l ++ [c]) = cutStep (cutF l) c := by unfold cutF; rw [List.foldl_append]; rfl
def Cs.digits (s : Cs) : List Nat := if s.more then s.b ++ [49] else s.b
def Cs.power (s : Cs) : Int := (if s.more then s.x - 1 else s.x) + (if s.down then -(s.exp : Int) else (s.exp : Int))
/-- the letters of number texts -/
def Alp (c : Nat) : Prop := c = 46 ∨ c = 101 ∨ c = 69 ∨ c = 45 ∨ c = 43 ∨ (48 ≤ c ∧ c ≤ 57)
def nats (s : ByteArray) : List Nat := s.data.toList.map UInt8.toNat
theorem nats_length (s : ByteArray) : (nats s).length = s.size := by simp [nats]
theorem nats_get (s : ByteArray) (k : Nat) (h : k < s.size) : (nats s)[k]'(by rw [nats_length]; exact h) = (s[k]).toNat := by
  simp [nats]
  rfl
theorem nats_snoc (s : ByteArray) (k : Nat) (h : k < s.size) : (nats s).take (k + 1) = (nats s).take k ++ [(s[k]).toNat] := by
  rw [List.take_succ_eq_append_getElem (by rw [nats_length]; exact h), nats_get s k h]
theorem nats_strN (l : List Nat) (h : ∀ c ∈ l, c < 256) : nats (strN l) = l := by
  unfold nats
  rw [strN_list, List.map_map]
  refine (List.map_congr_left fun c hc => ?_).trans (List.map_id _)
  have := h c hc
  simp only [Function.comp, UInt8.toNat_ofNat']
  exact Nat.mod_eq_of_lt this
theorem strN_nats (s : ByteArray) : strN (nats s) = s := by
  apply ByteArray.ext
  apply Array.toList_inj.1
  show (strN (nats s)).data.toList = _
  rw [strN_list]
  unfold nats
  rw [List.map_map]
  refine (List.map_congr_left fun c _ => ?_).trans (List.map_id _)
  simp

theorem cut_digit {s : Cs} {c : Nat} (h1 : 48 ≤ c) (h2 : c ≤ 57) : cutStep s c =
    if s.e = true then (if s.exp < 1125899906842624 then { s with exp := 10 * s.exp + (c - 48) } else s)
    else if s.b.length = 800 then { s with x := (if s.dot = true then s.x - 1 else s.x) + 1, more := s.more || c != 48 }
    else if c ≠ 48 ∨ 0 < s.b.length then { s with x := (if s.dot = true then s.x - 1 else s.x), b := s.b ++ [c] }
    else { s with x := (if s.dot = true then s.x - 1 else s.x) } := by
  unfold cutStep
  rw [if_neg (by omega), if_neg (by omega), if_neg (by omega), if_neg (by omega)]
def CutPost (l : List Nat) (w : World) (e : Ending) (w' : World) : Prop := e = .returned (.tuple #[.bool (cutF l).neg, .string (strN (cutF l).digits), .int .i64 (cutF l).power]) ∧ Below w.heap.size w w'

/-- the call's state between two rounds -/
def CuSt (l : List Nat) (i : Nat) (w : World) (neg dot e down more : Bool) (x : Int) (k exp : Nat) (v : Value) (wr : World) : Prop :=
  ∃ b : List Nat, b.length = k ∧ wr.ownsRow w.heap.size 5 1 v k (ns b) ∧ Below w.heap.size w wr ∧ cutF (l.take i) = ⟨neg, b, x, exp, dot, e, down, more⟩


set_option maxRecDepth 100000 in
set_option maxHeartbeats 8000000 in
theorem cut_any (s : ByteArray) (w : World) (hA : ∀ k (h : k < s.size), Alp (s[k]).toNat) (hn : s.size ≤ 1100000) :
    Calls Tryz.prog 42 #[.string s] w (CutPost (nats s) w) := by
  obtain ⟨iv, hiv, hv0, hv1, hv2⟩ := info_parts infoB
  have HA := Lib.hid hA
  have HSn := Lib.hid (nats_snoc s)
  have HLn := Lib.hid (nats_length s)
  clear hA
  generalize nats s = l at *
  go_enter Tryz.func42, Tryz.ntmps42
  go_wp2_with fail
  go_loopw [5, 6, 7, 8, 9, 10, 11, 12, 13] (fun v5 v6 v7 v8 v9 v10 v11 v12 v13 wr => ∃ (neg dot e down more : Bool) (x : Int) (k exp i : Nat) (A : Option Addr) (c : Nat), i ≤ s.size ∧ k ≤ 800 ∧ exp ≤ 11258999068426250 ∧ -(i : Int) ≤ x ∧ x ≤ (i : Int) ∧ v5 = .bool neg ∧ v6 = .slice A k c ∧ v7 = .int .i64 x ∧ v8 = .int .i64 (exp : Int) ∧ v9 = .bool dot ∧ v10 = .bool e ∧ v11 = .bool down ∧ v12 = .bool more ∧ v13 = .int .i64 (i : Int) ∧ Hid (CuSt l i w neg dot e down more x k exp (.slice A k c) wr)) (fun _ _ _ _ _ _ _ _ v13 _ => s.size - (intOf v13).toNat)
  case atStart => exact ⟨false, false, false, false, false, 0, 0, 0, 0, none, 0, by omega, by omega, by omega, by omega, by omega, rfl, rfl, rfl, rfl, rfl, rfl, rfl, rfl, rfl, Lib.hid ⟨[], rfl, World.ownsRow_nil _ _ _ _, Below.refl _ _, rfl⟩⟩
  case round =>
    obtain ⟨neg, dot, e, down, more, x, k, exp, i, A, c, hi, hk, hexp, hx1, hx2, rfl, rfl, rfl, rfl, rfl, rfl, rfl, rfl, rfl, hst⟩ := hrel
    by_cases hlt : i < s.size
    · obtain ⟨b, hbk, hown, hb, hcf⟩ := hst.out
      have halp := HA.out i hlt
      have hsn := HSn.out i hlt
      obtain ⟨ch, hch⟩ : ∃ ch, (s[i]).toNat = ch := ⟨_, rfl⟩
      rw [hch] at halp hsn
      have hstep : cutF (l.take (i + 1)) = cutStep ⟨neg, b, x, exp, dot, e, down, more⟩ ch := by rw [hsn, cutF_snoc, hcf]
      have HS := Lib.hid hstep
      have HO := Lib.hid hown
      have hbz := hb.size
      have HBl := Lib.hid hb
      have HBk := Lib.hid hbk
      clear hst hown hb hcf hsn hstep hbk
      unfold Alp at halp
      -- what stays as it is but for the flags
      have HKeep : Hid (∀ neg' dot' e' down' more' x' exp', cutStep ⟨neg, b, x, exp, dot, e, down, more⟩ ch = ⟨neg', b, x', exp', dot', e', down', more'⟩ → CuSt l (i + 1) w neg' dot' e' down' more' x' k exp' (.slice A k c) wr) := Lib.hid fun _ _ _ _ _ _ _ h => ⟨b, HBk.out, HO.out, HBl.out, HS.out.trans h⟩
      rcases halp with rfl | rfl | rfl | rfl | rfl | ⟨hc1, hc2⟩
      · go_wp2_with fail
        exact ⟨⟨neg, true, e, down, more, x, k, exp, i + 1, A, c, by omega, hk, hexp, by omega, by omega, rfl, rfl, rfl, rfl, rfl, rfl, rfl, rfl, by simp, Lib.hid (HKeep.out _ _ _ _ _ _ _ rfl)⟩, by simp [intOf]; omega⟩
      · go_wp2_with fail
        exact ⟨⟨neg, dot, true, down, more, x, k, exp, i + 1, A, c, by omega, hk, hexp, by omega, by omega, rfl, rfl, rfl, rfl, rfl, rfl, rfl, rfl, by simp, Lib.hid (HKeep.out _ _ _ _ _ _ _ rfl)⟩, by simp [intOf]; omega⟩
      · go_wp2_with fail
        exact ⟨⟨neg, dot, true, down, more, x, k, exp, i + 1, A, c, by omega, hk, hexp, by omega, by omega, rfl, rfl, rfl, rfl, rfl, rfl, rfl, rfl, by simp, Lib.hid (HKeep.out _ _ _ _ _ _ _ rfl)⟩, by simp [intOf]; omega⟩
      · cases e
        · go_wp2_with fail
          exact ⟨⟨true, dot, false, down, more, x, k, exp, i + 1, A, c, by omega, hk, hexp, by omega, by omega, rfl, rfl, rfl, rfl, rfl, rfl, rfl, rfl, by simp, Lib.hid (HKeep.out _ _ _ _ _ _ _ rfl)⟩, by simp [intOf]; omega⟩
        · go_wp2_with fail
          exact ⟨⟨neg, dot, true, true, more, x, k, exp, i + 1, A, c, by omega, hk, hexp, by omega, by omega, rfl, rfl, rfl, rfl, rfl, rfl, rfl, rfl, by simp, Lib.hid (HKeep.out _ _ _ _ _ _ _ rfl)⟩, by simp [intOf]; omega⟩
      · go_wp2_with fail
        exact ⟨⟨neg, dot, e, down, more, x, k, exp, i + 1, A, c, by omega, hk, hexp, by omega, by omega, rfl, rfl, rfl, rfl, rfl, rfl, rfl, rfl, by simp, Lib.hid (HKeep.out _ _ _ _ _ _ _ rfl)⟩, by simp [intOf]; omega⟩
      · have q1 : ((ch : Int) == 46) = false := by simp; omega
        have q2 : ((ch : Int) == 101) = false := by simp; omega
        have q3 : ((ch : Int) == 69) = false := by simp; omega
        have q4 : ((ch : Int) == 45) = false := by simp; omega
        have q5 : ((ch : Int) == 43) = false := by simp; omega
        have hd := cut_digit (s := ⟨neg, b, x, exp, dot, e, down, more⟩) hc1 hc2
        have HD := Lib.hid hd
        clear hd
        cases e
        · have HD2 := Lib.hid (HD.out.trans (if_neg (by simp)))
          clear HD
          have hx' : ∃ x' : Int, x' = (if dot then x - 1 else x) ∧ x' ≤ (i : Int) ∧ -(i : Int) - 1 ≤ x' := ⟨_, rfl, by split <;> omega, by split <;> omega⟩
          by_cases hk8 : k = 800
          · subst hk8
            have HD3 := Lib.hid (HD2.out.trans (if_pos HBk.out))
            clear HD2 hx'
            by_cases h48 : ch = 48
            · subst h48
              cases dot <;> cases more
              all_goals
                go_wp2_with fail
              · exact ⟨⟨neg, false, false, down, false, x + 1, 800, exp, i + 1, A, c, by omega, by omega, by omega, by omega, by omega, rfl, rfl, by first | rfl | (congr 1; omega), by first | rfl | (congr 1; omega), rfl, rfl, rfl, by first | rfl | simp, by simp, Lib.hid (HKeep.out _ _ _ _ _ _ _ HD3.out)⟩, by simp [intOf]; omega⟩
              · exact ⟨⟨neg, false, false, down, true, x + 1, 800, exp, i + 1, A, c, by omega, by omega, by omega, by omega, by omega, rfl, rfl, by first | rfl | (congr 1; omega), by first | rfl | (congr 1; omega), rfl, rfl, rfl, by first | rfl | simp, by simp, Lib.hid (HKeep.out _ _ _ _ _ _ _ HD3.out)⟩, by simp [intOf]; omega⟩
              · exact ⟨⟨neg, true, false, down, false, x - 1 + 1, 800, exp, i + 1, A, c, by omega, by omega, by omega, by omega, by omega, rfl, rfl, by first | rfl | (congr 1; omega), by first | rfl | (congr 1; omega), rfl, rfl, rfl, by first | rfl | simp, by simp, Lib.hid (HKeep.out _ _ _ _ _ _ _ HD3.out)⟩, by simp [intOf]; omega⟩
              · exact ⟨⟨neg, true, false, down, true, x - 1 + 1, 800, exp, i + 1, A, c, by omega, by omega, by omega, by omega, by omega, rfl, rfl, by first | rfl | (congr 1; omega), by first | rfl | (congr 1; omega), rfl, rfl, rfl, by first | rfl | simp, by simp, Lib.hid (HKeep.out _ _ _ _ _ _ _ HD3.out)⟩, by simp [intOf]; omega⟩
            · have q6 : ((ch : Int) != 48) = true := by simp; omega
              have HM := Lib.hid (show (ch != 48) = true by simpa using h48)
              cases dot <;> cases more
              all_goals
                go_wp2_with fail
              · exact ⟨⟨neg, false, false, down, true, x + 1, 800, exp, i + 1, A, c, by omega, by omega, by omega, by omega, by omega, rfl, rfl, by first | rfl | (congr 1; omega), by first | rfl | (congr 1; omega), rfl, rfl, rfl, by first | rfl | simp, by simp, Lib.hid (HKeep.out _ _ _ _ _ _ _ (HD3.out.trans (by rw [HM.out]; rfl)))⟩, by simp [intOf]; omega⟩
              · exact ⟨⟨neg, false, false, down, true, x + 1, 800, exp, i + 1, A, c, by omega, by omega, by omega, by omega, by omega, rfl, rfl, by first | rfl | (congr 1; omega), by first | rfl | (congr 1; omega), rfl, rfl, rfl, by first | rfl | simp, by simp, Lib.hid (HKeep.out _ _ _ _ _ _ _ (HD3.out.trans rfl))⟩, by simp [intOf]; omega⟩
              · exact ⟨⟨neg, true, false, down, true, x - 1 + 1, 800, exp, i + 1, A, c, by omega, by omega, by omega, by omega, by omega, rfl, rfl, by first | rfl | (congr 1; omega), by first | rfl | (congr 1; omega), rfl, rfl, rfl, by first | rfl | simp, by simp, Lib.hid (HKeep.out _ _ _ _ _ _ _ (HD3.out.trans (by rw [HM.out]; rfl)))⟩, by simp [intOf]; omega⟩
              · exact ⟨⟨neg, true, false, down, true, x - 1 + 1, 800, exp, i + 1, A, c, by omega, by omega, by omega, by omega, by omega, rfl, rfl, by first | rfl | (congr 1; omega), by first | rfl | (congr 1; omega), rfl, rfl, rfl, by first | rfl | simp, by simp, Lib.hid (HKeep.out _ _ _ _ _ _ _ (HD3.out.trans rfl))⟩, by simp [intOf]; omega⟩
          · have HD3 := Lib.hid (HD2.out.trans (if_neg (by rw [HBk.out]; exact hk8)))
            have q7 : ((k : Int) == 800) = false := by simp; omega
            clear HD2 hx'
            by_cases hskip : ch = 48 ∧ k = 0
            · obtain ⟨rfl, rfl⟩ := hskip
              have HD4 := Lib.hid (HD3.out.trans (if_neg (by rw [HBk.out]; omega)))
              clear HD3
              cases dot
              all_goals
                go_wp2_with fail
              · exact ⟨⟨neg, false, false, down, more, x, 0, exp, i + 1, A, c, by omega, by omega, by omega, by omega, by omega, rfl, rfl, by first | rfl | (congr 1; omega), by first | rfl | (congr 1; omega), rfl, rfl, rfl, by first | rfl | simp, by simp, Lib.hid (HKeep.out _ _ _ _ _ _ _ HD4.out)⟩, by simp [intOf]; omega⟩
              · exact ⟨⟨neg, true, false, down, more, x - 1, 0, exp, i + 1, A, c, by omega, by omega, by omega, by omega, by omega, rfl, rfl, by first | rfl | (congr 1; omega), by first | rfl | (congr 1; omega), rfl, rfl, rfl, by first | rfl | simp, by simp, Lib.hid (HKeep.out _ _ _ _ _ _ _ HD4.out)⟩, by simp [intOf]; omega⟩
            · have HD4 := Lib.hid (HD3.out.trans (if_pos (by rw [HBk.out]; omega)))
              clear HD3
              have hk7 : k < 800 := by omega
              have hnext : ∀ w5 v' x', World.ownsRow w5 w.heap.size 5 1 v' (k + 1) (ns b ++ [.int .u8 (ch : Int)]) → Below w.heap.size w w5 → x' = (if dot = true then x - 1 else x) → ∃ A' c', v' = .slice A' (k + 1) c' ∧ Hid (CuSt l (i + 1) w neg dot false down more x' (k + 1) exp (.slice A' (k + 1) c') w5) := by
                intro w5 v' x' ho hb5 hxx
                obtain ⟨A', c', rfl, _⟩ := own_form ho
                refine ⟨A', c', rfl, Lib.hid ⟨b ++ [ch], by rw [List.length_append, HBk.out]; rfl, by rw [ns_app]; exact ho, hb5, ?_⟩⟩
                rw [HS.out, HD4.out, hxx]
              have HNx := Lib.hid hnext
              clear hnext HKeep
              by_cases h48 : ch = 48
              · subst h48
                have hk0 : 0 < k := by omega
                cases dot
                all_goals
                  go_wp2_with (at_builtin; go_must (refine wpList_app _ rfl (.tmp 44) (.tmp 46) _ rfl w.heap.size 5 iv (.int .u8 0) 1 1 Tryz.underlying45 hiv hv0 hv1 hv2 rfl (by omega) (.slice A k c) k (ns b) rfl (HO.out.alloc _) (wr.heap.size + 1) (some ⟨wr.heap.size, 0, none⟩) 1 1 [.int .u8 48] rfl rfl (Rd.new wr [.int .u8 48] 5) (by simp) (by intro u hu; simp at hu; subst hu; rfl) (by unfold maxLen; omega) (by omega) (by simp; omega) ?_; intro v' w5 hown' hgrow' hat'; have HO' := Lib.hid hown'; have HG' := Lib.hid hgrow'; clear hown' hgrow' hat'))
                · obtain ⟨A', c', rfl, hN⟩ := HNx.out _ _ x HO'.out (below_app1 HBl.out HO.out (Nat.le_refl _) hbz HG'.out) rfl
                  exact ⟨⟨neg, false, false, down, more, x, k + 1, exp, i + 1, A', c', by omega, by omega, by omega, by omega, by omega, rfl, rfl, by first | rfl | (congr 1; omega), by first | rfl | (congr 1; omega), rfl, rfl, rfl, by first | rfl | simp, by simp, Lib.hid (hN)⟩, by simp [intOf]; omega⟩
                · obtain ⟨A', c', rfl, hN⟩ := HNx.out _ _ (x - 1) HO'.out (below_app1 HBl.out HO.out (Nat.le_refl _) hbz HG'.out) rfl
                  exact ⟨⟨neg, true, false, down, more, x - 1, k + 1, exp, i + 1, A', c', by omega, by omega, by omega, by omega, by omega, rfl, rfl, by first | rfl | (congr 1; omega), by first | rfl | (congr 1; omega), rfl, rfl, rfl, by first | rfl | simp, by simp, Lib.hid (hN)⟩, by simp [intOf]; omega⟩
              · have q6 : ((ch : Int) != 48) = true := by simp; omega
                cases dot
                all_goals
                  go_wp2_with (at_builtin; go_must (refine wpList_app _ rfl (.tmp 44) (.tmp 46) _ rfl w.heap.size 5 iv (.int .u8 0) 1 1 Tryz.underlying45 hiv hv0 hv1 hv2 rfl (by omega) (.slice A k c) k (ns b) rfl (HO.out.alloc _) (wr.heap.size + 1) (some ⟨wr.heap.size, 0, none⟩) 1 1 [.int .u8 (ch : Int)] rfl rfl (Rd.new wr [.int .u8 (ch : Int)] 5) (by simp) (by intro u hu; simp at hu; subst hu; rfl) (by unfold maxLen; omega) (by omega) (by simp; omega) ?_; intro v' w5 hown' hgrow' hat'; have HO' := Lib.hid hown'; have HG' := Lib.hid hgrow'; clear hown' hgrow' hat'))
                · obtain ⟨A', c', rfl, hN⟩ := HNx.out _ _ x HO'.out (below_app1 HBl.out HO.out (Nat.le_refl _) hbz HG'.out) rfl
                  exact ⟨⟨neg, false, false, down, more, x, k + 1, exp, i + 1, A', c', by omega, by omega, by omega, by omega, by omega, rfl, rfl, by first | rfl | (congr 1; omega), by first | rfl | (congr 1; omega), rfl, rfl, rfl, by first | rfl | simp, by simp, Lib.hid (hN)⟩, by simp [intOf]; omega⟩
                · obtain ⟨A', c', rfl, hN⟩ := HNx.out _ _ (x - 1) HO'.out (below_app1 HBl.out HO.out (Nat.le_refl _) hbz HG'.out) rfl
                  exact ⟨⟨neg, true, false, down, more, x - 1, k + 1, exp, i + 1, A', c', by omega, by omega, by omega, by omega, by omega, rfl, rfl, by first | rfl | (congr 1; omega), by first | rfl | (congr 1; omega), rfl, rfl, rfl, by first | rfl | simp, by simp, Lib.hid (hN)⟩, by simp [intOf]; omega⟩
        · have HD2 := Lib.hid (HD.out.trans (if_pos rfl))
          clear HD
          by_cases he : exp < 1125899906842624
          · have HD3 : Hid (cutStep ⟨neg, b, x, exp, dot, true, down, more⟩ ch = ⟨neg, b, x, 10 * exp + (ch - 48), dot, true, down, more⟩) := Lib.hid (HD2.out.trans (if_pos he))
            clear HD2
            have hexb : 10 * exp + (ch - 48) ≤ 11258999068426250 := by omega
            have hci : (10 : Int) * (exp : Int) + ((ch : Int) - 48) = ((10 * exp + (ch - 48) : Nat) : Int) := by omega
            have HCi := Lib.hid hci
            clear hci
            generalize 10 * exp + (ch - 48) = ex2 at *
            have hd9 : decide ((exp : Int) < 1125899906842624) = true := decide_eq_true (by omega)
            have hle9 : (exp : Int) ≤ 1125899906842624 := by omega
            clear he hexp
            go_wp2_with fail
            refine ⟨⟨neg, dot, true, down, more, x, k, ex2, i + 1, A, c, ?_, ?_, ?_, ?_, ?_, rfl, rfl, rfl, ?_, rfl, rfl, rfl, rfl, ?_, ?_⟩, ?_⟩
            · omega
            · omega
            · omega
            · omega
            · omega
            · rw [HCi.out]
            · simp
            · exact Lib.hid (HKeep.out _ _ _ _ _ _ _ HD3.out)
            · simp [intOf]; omega
          · have HD3 : Hid (cutStep ⟨neg, b, x, exp, dot, true, down, more⟩ ch = ⟨neg, b, x, exp, dot, true, down, more⟩) := Lib.hid (HD2.out.trans (if_neg he))
            clear HD2
            have hd9 : decide ((exp : Int) < 1125899906842624) = false := decide_eq_false (by omega)
            have HE9 := Lib.hid hexp
            clear he hexp
            go_wp2_with fail
            have hexp := HE9.out
            exact ⟨⟨neg, dot, true, down, more, x, k, exp, i + 1, A, c, by omega, by omega, by omega, by omega, by omega, rfl, rfl, rfl, rfl, rfl, rfl, rfl, rfl, by simp, Lib.hid (HKeep.out _ _ _ _ _ _ _ HD3.out)⟩, by simp [intOf]; omega⟩
    · obtain ⟨b, hbk, hown, hb, hcf⟩ := hst.out
      have hil : i = s.size := by omega
      subst hil
      rw [← HLn.out, List.take_length] at hcf
      have HO := Lib.hid hown
      have hbz := hb.size
      have HBl := Lib.hid hb
      have HBk := Lib.hid hbk
      have hexp2 : (exp : Int) ≤ 11258999068426250 := by omega
      clear hst hown hb hbk hexp HA HSn
      have hds : (cutF l).digits = (if more = true then b ++ [49] else b) := by rw [hcf]; rfl
      have hng : (cutF l).neg = neg := by rw [hcf]
      have hpw : (cutF l).power = (if more = true then x - 1 else x) + (if down = true then -(exp : Int) else (exp : Int)) := by rw [hcf]; rfl
      have HDs := Lib.hid hds
      have HNg := Lib.hid hng
      have HPw := Lib.hid hpw
      clear hcf hds hng hpw
      cases more
      · have hcv : ∀ q, (convert 45 9 (.slice A k c)).run Tryz.prog (wr.drewN q) = .ok (.string (strN b)) (wr.drewN q) := fun q => by
          have h1 : (wr.drewN q).ownsRow w.heap.size 5 1 (.slice A k c) k (ns b) := HO.out
          have := conv_bytes (w := wr.drewN q) A b c (Rd.of_own h1)
          rw [HBk.out] at this
          exact this
        have hcv0 : (convert 45 9 (.slice A k c)).run Tryz.prog wr = .ok (.string (strN b)) wr := hcv 0
        have HDs2 := Lib.hid (HDs.out.trans (if_neg (by simp)))
        have HPw2 := Lib.hid HPw.out
        clear HDs HPw
        cases down
        · go_wp2_with fail
          go_quiet (fail)
          go_wp2_with fail
          go_ret3
          refine ⟨?_, Below.drewN HBl.out _⟩
          rw [HNg.out, HDs2.out, HPw2.out]
          rfl
        · go_wp2_with fail
          go_quiet (fail)
          go_wp2_with fail
          go_ret3
          refine ⟨?_, Below.drewN HBl.out _⟩
          rw [HNg.out, HDs2.out, HPw2.out]
          rfl
      · have HDs2 := Lib.hid (HDs.out.trans (if_pos rfl))
        have HPw2 := Lib.hid HPw.out
        clear HDs HPw
        have hcv0 : ∀ wz v', World.ownsRow wz w.heap.size 5 1 v' (k + 1) (ns b ++ [.int .u8 49]) → ∃ A' c', v' = .slice A' (k + 1) c' ∧ ∀ q, (convert 45 9 (.slice A' (k + 1) c')).run Tryz.prog (wz.drewN q) = .ok (.string (strN (b ++ [49]))) (wz.drewN q) := fun wz v' ho => by
          obtain ⟨A', c', rfl, _⟩ := own_form ho
          refine ⟨A', c', rfl, fun q => ?_⟩
          have h1 : (wz.drewN q).ownsRow w.heap.size 5 1 (.slice A' (k + 1) c') (k + 1) (ns (b ++ [49])) := by
            rw [ns_app]; exact ho
          have := conv_bytes (w := wz.drewN q) A' (b ++ [49]) c' (Rd.of_own h1)
          rw [List.length_append, HBk.out] at this
          exact this
        have HCv := Lib.hid hcv0
        clear hcv0
        cases down
        · go_wp2_with (at_builtin; go_must (refine wpList_app _ rfl (.tmp 81) (.tmp 82) _ rfl w.heap.size 5 iv (.int .u8 0) 1 1 Tryz.underlying45 hiv hv0 hv1 hv2 rfl (by omega) (.slice A k c) k (ns b) rfl (HO.out.alloc _) (wr.heap.size + 1) (some ⟨wr.heap.size, 0, none⟩) 1 1 [.int .u8 49] rfl rfl (Rd.new wr [.int .u8 49] 5) (by simp) (by intro u hu; simp at hu; subst hu; rfl) (by unfold maxLen; omega) (by omega) (by simp; omega) ?_; intro v' w5 hown' hgrow' hat'; have HO' := Lib.hid hown'; have HG' := Lib.hid hgrow'; clear hown' hgrow' hat'; obtain ⟨A', c', rfl, hcv⟩ := HCv.out _ _ HO'.out; have hcv0 := hcv 0))
          go_quiet (fail)
          go_wp2_with fail
          go_ret3
          refine ⟨?_, Below.drewN (below_app1 HBl.out HO.out (Nat.le_refl _) hbz HG'.out) _⟩
          rw [HNg.out, HDs2.out, HPw2.out]
          rfl
        · go_wp2_with (at_builtin; go_must (refine wpList_app _ rfl (.tmp 81) (.tmp 82) _ rfl w.heap.size 5 iv (.int .u8 0) 1 1 Tryz.underlying45 hiv hv0 hv1 hv2 rfl (by omega) (.slice A k c) k (ns b) rfl (HO.out.alloc _) (wr.heap.size + 1) (some ⟨wr.heap.size, 0, none⟩) 1 1 [.int .u8 49] rfl rfl (Rd.new wr [.int .u8 49] 5) (by simp) (by intro u hu; simp at hu; subst hu; rfl) (by unfold maxLen; omega) (by omega) (by simp; omega) ?_; intro v' w5 hown' hgrow' hat'; have HO' := Lib.hid hown'; have HG' := Lib.hid hgrow'; clear hown' hgrow' hat'; obtain ⟨A', c', rfl, hcv⟩ := HCv.out _ _ HO'.out; have hcv0 := hcv 0))
          go_quiet (fail)
          go_wp2_with fail
          go_ret3
          refine ⟨?_, Below.drewN (below_app1 HBl.out HO.out (Nat.le_refl _) hbz HG'.out) _⟩
          rw [HNg.out, HDs2.out, HPw2.out]
          rfl
end Go.Proofs.YtjciflgnlldgbaaGreatDoor.big
end
