/- The reference's decimal texts: Digits, WholeText. The reference's decimal texts, walked: Digits, WholeText. The reference's cut: a number text taken apart. -/
import Derived.Test.YtbkdhejcbcgalaaGreatDoorGMem
import Derived.Deep.Cut
import Derived.Deep.QuietTactic
import Derived.BigQuiet
section
namespace Go.Proofs.YtbkdhejcbcgalaaGreatDoor.big
open Go.RowKit mem fl
set_option linter.unusedVariables false

theorem infoB : (Tryz.prog.info? 5).map (fun i => (i.zero, i.size, i.bytes)) = some (some (.int .u8 0), 1, 1) := by kernel_rfl

/-- bytes as values -/
def ns (l : List Nat) : List Value := l.map fun x : Nat => .int .u8 (x : Int)
def strN (l : List Nat) : ByteArray := ⟨(l.map UInt8.ofNat).toArray⟩
theorem strN_size (l : List Nat) : (strN l).size = l.length := by simp [strN, ByteArray.size]
theorem strN_list (l : List Nat) : (strN l).data.toList = l.map UInt8.ofNat := by simp [strN]
theorem ns_length (l : List Nat) : (ns l).length = l.length := by simp [ns]
theorem ns_app (a b : List Nat) : ns (a ++ b) = ns a ++ ns b := by simp [ns]
theorem ns_get {l : List Nat} {k : Nat} (h : k < l.length) : (ns l)[k]? = some (.int .u8 (l.getD k 0 : Int)) := by
  unfold ns
  rw [List.getElem?_map, List.getElem?_eq_getElem h, List.getD_eq_getElem?_getD, List.getElem?_eq_getElem h]
  rfl
theorem ns_none {w : World} {B : Nat} {A : Option Addr} {l : List Nat} (h : Rd w B A (ns l)) : A = none → l.length = 0 := by
  rintro rfl
  by_cases hz : l.length = 0
  · exact hz
  · obtain ⟨ad, h1, _⟩ := h 0 _ (ns_get (l := l) (k := 0) (by omega))
    cases h1
theorem conv_bytes {w : World} {B : Nat} (A : Option Addr) (l : List Nat) (c : Nat) (hr : Rd w B A (ns l)) : (convert 46 9 (.slice A l.length c)).run Tryz.prog w = .ok (.string (strN l)) w := by
  have h := run_conv_bytes (P := Tryz.prog) (w := w) (B := B) 46 9 5 A (l.map fun x : Nat => (x : Int)) c Tryz.underlying46 Tryz.underlying5 Tryz.underlying9 (by
    have : (l.map fun x : Nat => (x : Int)).map (Value.int .u8) = ns l := by simp [ns]
    rw [this]; exact hr) (by rw [List.length_map]; exact ns_none hr)
  rw [List.length_map] at h
  have e : strOf (l.map fun x : Nat => (x : Int)) = strN l := by simp [strOf, strN]
  rw [e] at h
  exact h

/-- the digits of a number, the last first -/
def dgF : Nat → Nat → List Nat
  | 0, _ => []
  | f + 1, u => (48 + u % 10) :: if u / 10 = 0 then [] else dgF f (u / 10)
def dg (u : Nat) : List Nat := dgF (u + 1) u
def dgs (u : Nat) : List Nat := (dg u).reverse
theorem dgF_fuel : ∀ (f g u : Nat), u < f → u < g → dgF f u = dgF g u
  | 0, g, u, h, _ => by omega
  | f + 1, 0, u, _, h => by omega
  | f + 1, g + 1, u, h1, h2 => by
    unfold dgF
    by_cases h : u / 10 = 0
    · rw [if_pos h, if_pos h]
    · rw [if_neg h, if_neg h, dgF_fuel f g _ (by omega) (by omega)]
theorem dg_step (u : Nat) : dg u = (48 + u % 10) :: if u / 10 = 0 then [] else dg (u / 10) := by
  unfold dg
  show ((48 + u % 10) :: if u / 10 = 0 then [] else dgF u (u / 10)) = _
  by_cases h : u / 10 = 0
  · rw [if_pos h, if_pos h]
  · rw [if_neg h, if_neg h, dgF_fuel u (u / 10 + 1) _ (by omega) (by omega)]
theorem dg_len : ∀ (k u : Nat), 0 < k → u < 10 ^ k → 0 < (dg u).length ∧ (dg u).length ≤ k
  | 0, u, h, _ => by omega
  | k + 1, u, _, h => by
    rw [dg_step]
    by_cases h0 : u / 10 = 0
    · rw [if_pos h0]; simp
    · rw [if_neg h0]
      have hk : 0 < k := by
        rcases Nat.eq_zero_or_pos k with rfl | h1
        · simp at h; omega
        · exact h1
      have := dg_len k (u / 10) hk (by rw [Nat.pow_succ] at h; omega)
      simp; omega

/-- the loop over the digits: those that are laid, and the rest -/
def DgSt (u : Nat) (w : World) (v : Value) (l : List Nat) (r : Nat) (wr : World) : Prop :=
  wr.ownsRow w.heap.size 5 1 v l.length (ns l) ∧ Below w.heap.size w wr ∧ ((0 < r ∨ l = []) → dg u = l ++ dg r) ∧ (r = 0 ∧ l ≠ [] → dg u = l)

/-- the first i and the last i are changed about -/
def swp (L : List Nat) (i : Nat) : List Nat := (List.range L.length).map fun j => if j < i ∨ L.length - 1 - j < i then L.getD (L.length - 1 - j) 0 else L.getD j 0
theorem swp_length (L : List Nat) (i : Nat) : (swp L i).length = L.length := by simp [swp]
theorem swp_get (L : List Nat) (i j : Nat) (h : j < L.length) : (swp L i).getD j 0 = if j < i ∨ L.length - 1 - j < i then L.getD (L.length - 1 - j) 0 else L.getD j 0 := by
  unfold swp
  rw [List.getD_eq_getElem?_getD, List.getElem?_map, List.getElem?_range h]
  rfl
theorem getD_ext {a b : List Nat} (hl : a.length = b.length) (h : ∀ j, j < a.length → a.getD j 0 = b.getD j 0) : a = b := by
  apply List.ext_getElem hl
  intro j h1 h2
  have := h j h1
  rw [List.getD_eq_getElem?_getD, List.getD_eq_getElem?_getD, List.getElem?_eq_getElem h1, List.getElem?_eq_getElem h2] at this
  simpa using this
theorem swp_zero (L : List Nat) : swp L 0 = L := by
  refine getD_ext (swp_length L 0) fun j hj => ?_
  rw [swp_length] at hj
  rw [swp_get L 0 j hj, if_neg (by omega)]
theorem swp_end (L : List Nat) : swp L (L.length / 2) = L.reverse := by
  refine getD_ext (by rw [swp_length, List.length_reverse]) fun j hj => ?_
  rw [swp_length] at hj
  have e : L.reverse.getD j 0 = L.getD (L.length - 1 - j) 0 := by
    rw [List.getD_eq_getElem?_getD, List.getD_eq_getElem?_getD, List.getElem?_reverse hj]
  rw [swp_get L _ j hj, e]
  by_cases h : j < L.length / 2 ∨ L.length - 1 - j < L.length / 2
  · rw [if_pos h]
  · rw [if_neg h]
    congr 1
    omega
theorem getD_set (l : List Nat) (i j x : Nat) (h : i < l.length) : (l.set i x).getD j 0 = if j = i then x else l.getD j 0 := by
  rw [List.getD_eq_getElem?_getD, List.getElem?_set]
  by_cases e : j = i
  · subst e
    simp [h]
  · rw [if_neg (fun h => e h.symm), if_neg e, List.getD_eq_getElem?_getD]
theorem swp_step (L : List Nat) (i : Nat) (h : i < L.length / 2) : ((swp L i).set i (L.getD (L.length - 1 - i) 0)).set (L.length - 1 - i) (L.getD i 0) = swp L (i + 1) := by
  refine getD_ext (by simp [swp_length]) fun j hj => ?_
  simp only [List.length_set, swp_length] at hj
  rw [getD_set _ _ _ _ (by rw [List.length_set, swp_length]; omega), getD_set _ _ _ _ (by rw [swp_length]; omega), swp_get L i j hj, swp_get L (i + 1) j hj]
  by_cases e1 : j = L.length - 1 - i
  · rw [if_pos e1, if_pos (by omega)]
    congr 1
    omega
  · rw [if_neg e1]
    by_cases e2 : j = i
    · subst e2
      rw [if_pos rfl, if_pos (by omega)]
    · rw [if_neg e2]
      by_cases e3 : j < i ∨ L.length - 1 - j < i
      · rw [if_pos e3, if_pos (by omega)]
      · rw [if_neg e3, if_neg (by omega)]
theorem ns_set (l : List Nat) (i x : Nat) : (ns l).set i (.int .u8 (x : Int)) = ns (l.set i x) := by simp [ns, List.map_set]
theorem pow_le_20 {u r k : Nat} (hu : u < 18446744073709551616) (hr : 0 < r) (h : r * 10 ^ k ≤ u) : k ≤ 19 := by
  by_cases hk : k ≤ 19
  · exact hk
  · exfalso
    have h1 : 10 ^ 20 ≤ 10 ^ k := Nat.pow_le_pow_right (by decide) (by omega)
    have h2 : 1 * 10 ^ k ≤ r * 10 ^ k := Nat.mul_le_mul_right _ hr
    have h3 : (10 : Nat) ^ 20 = 100000000000000000000 := by decide
    omega
end Go.Proofs.YtbkdhejcbcgalaaGreatDoor.big
end
section
namespace Go.Proofs.YtbkdhejcbcgalaaGreatDoor.big
open Go.RowKit mem fl
set_option linter.unusedVariables false


def DgPost (u : Nat) (w : World) (e : Ending) (w' : World) : Prop := e = .returned (.string (strN (dgs u))) ∧ Below w.heap.size w w'
/-- while the digits are turned about -/
def TuSt (L : List Nat) (w : World) (A : Option Addr) (c i : Nat) (wr : World) : Prop :=
  ∃ g, A = some ⟨g, 0, none⟩ ∧ wr.ownsRow w.heap.size 5 1 (.slice A L.length c) L.length (ns (swp L i)) ∧ Below w.heap.size w wr

/-- the text of a whole number -/
def wtx (n : Int) : List Nat := if n < 0 then 45 :: dgs n.natAbs else dgs n.natAbs
def WtPost (n : Int) (w : World) (e : Ending) (w' : World) : Prop := e = .returned (.string (strN (wtx n))) ∧ Below w.heap.size w w'
theorem strN_app (a b : List Nat) : strN a ++ strN b = strN (a ++ b) := by
  apply ByteArray.ext
  apply Array.toList_inj.1
  simp [strN]
end Go.Proofs.YtbkdhejcbcgalaaGreatDoor.big
end
section
namespace Go.Proofs.YtbkdhejcbcgalaaGreatDoor.big
open Go.RowKit mem fl
set_option linter.unusedVariables false

/-- what is gathered, letter by letter -/
structure Cs where
  neg : Bool
  b : List Nat
  x : Int
  exp : Nat
  dot : Bool
  e : Bool
  down : Bool
  more : Bool
def Cs.start : Cs := ⟨false, [], 0, 0, false, false, false, false⟩
def cutStep (s : Cs) (c : Nat) : Cs :=
  if c = 46 then { s with dot := true }
  else if c = 101 ∨ c = 69 then { s with e := true }
  else if c = 45 then (if s.e then { s with down := true } else { s with neg := true })
  else if c = 43 then s
  else if s.e then (if s.exp < 1125899906842624 then { s with exp := 10 * s.exp + (c - 48) } else s)
  else if s.b.length = 800 then { s with x := (if s.dot then s.x - 1 else s.x) + 1, more := s.more || c != 48 }
  else if c ≠ 48 ∨ 0 < s.b.length then { s with x := (if s.dot then s.x - 1 else s.x), b := s.b ++ [c] }
  else { s with x := (if s.dot then s.x - 1 else s.x) }
def cutF (l : List Nat) : Cs := l.foldl cutStep Cs.start
theorem cutF_snoc (l : List Nat) (c : Nat) : cutF (l ++ [c]) = cutStep (cutF l) c := by unfold cutF; rw [List.foldl_append]; rfl
def Cs.digits (s : Cs) : List Nat := if s.more then s.b ++ [49] else s.b
def Cs.power (s : Cs) : Int := (if s.more then s.x - 1 else s.x) + (if s.down then -(s.exp : Int) else (s.exp : Int))
/-- the letters of number texts -/
def Alp (c : Nat) : Prop := c = 46 ∨ c = 101 ∨ c = 69 ∨ c = 45 ∨ c = 43 ∨ (48 ≤ c ∧ c ≤ 57)
def nats (s : ByteArray) : List Nat := s.data.toList.map UInt8.toNat
theorem nats_length (s : ByteArray) : (nats s).length = s.size := by simp [nats]
theorem nats_get (s : ByteArray) (k : Nat) (h : k < s.size) : (nats s)[k]'(by rw [nats_length]; exact h) = (s[k]).toNat := by
  simp [nats]
  rfl
theorem nats_snoc (s : ByteArray) (k : Nat) (h : k < s.size) : (nats s).take (k + 1) = (nats s).take k ++ [(s[k]).toNat] := by
  rw [List.take_succ_eq_append_getElem (by rw [nats_length]; exact h), nats_get s k h]
theorem nats_strN (l : List Nat) (h : ∀ c ∈ l, c < 256) : nats (strN l) = l := by
  unfold nats
  rw [strN_list, List.map_map]
  refine (List.map_congr_left fun c hc => ?_).trans (List.map_id _)
  have := h c hc
  simp only [Function.comp, UInt8.toNat_ofNat']
  exact Nat.mod_eq_of_lt this
theorem strN_nats (s : ByteArray) : strN (nats s) = s := by
  apply ByteArray.ext
  apply Array.toList_inj.1
  show (strN (nats s)).data.toList = _
  rw [strN_list]
  unfold nats
  rw [List.map_map]
  refine (List.map_congr_left fun c _ => ?_).trans (List.map_id _)
  simp

theorem cut_digit {s : Cs} {c : Nat} (h1 : 48 ≤ c) (h2 : c ≤ 57) : cutStep s c =
    if s.e = true then (if s.exp < 1125899906842624 then { s with exp := 10 * s.exp + (c - 48) } else s)
    else if s.b.length = 800 then { s with x := (if s.dot = true then s.x - 1 else s.x) + 1, more := s.more || c != 48 }
    else if c ≠ 48 ∨ 0 < s.b.length then { s with x := (if s.dot = true then s.x - 1 else s.x), b := s.b ++ [c] }
    else { s with x := (if s.dot = true then s.x - 1 else s.x) } := by
  unfold cutStep
  rw [if_neg (by omega), if_neg (by omega), if_neg (by omega), if_neg (by omega)]
def CutPost (l : List Nat) (w : World) (e : Ending) (w' : World) : Prop := e = .returned (.tuple #[.bool (cutF l).neg, .string (strN (cutF l).digits), .int .i64 (cutF l).power]) ∧ Below w.heap.size w w'

/-- the call's state between two rounds -/
def CuSt (l : List Nat) (i : Nat) (w : World) (neg dot e down more : Bool) (x : Int) (k exp : Nat) (v : Value) (wr : World) : Prop :=
  ∃ b : List Nat, b.length = k ∧ wr.ownsRow w.heap.size 5 1 v k (ns b) ∧ Below w.heap.size w wr ∧ cutF (l.take i) = ⟨neg, b, x, exp, dot, e, down, more⟩


end Go.Proofs.YtbkdhejcbcgalaaGreatDoor.big
end
