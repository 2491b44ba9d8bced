/- The reference's decimal texts: Digits, WholeText. The reference's decimal texts, walked: Digits, WholeText. The reference's cut: a number text taken apart. -/
import Derived.Test.YtagghdehbkbemaaGreatDoorGMem
import Derived.Deep.Cut
import Derived.Deep.QuietTactic
import Derived.BigQuiet
section
namespace Go.Proofs.YtagghdehbkbemaaGreatDoor.big
open Go.RowKit mem fl
set_option linter.unusedVariables false

theorem infoB : (Tryz.prog.info? 5).map (fun i => (i.zero, i.size, i.bytes)) = some (some (.int .u8 0), 1, 1) := by kernel_rfl

/-- bytes as values -/
def ns (l : List Nat) : List Value := l.map fun x : Nat => .int .u8 (x : Int)
def strN (l : List Nat) : ByteArray := ⟨(l.map UInt8.ofNat).toArray⟩
theorem strN_size (l : List Nat) : (strN l).size = l.length := by simp [strN, ByteArray.size]
theorem strN_list (l : List Nat) : (strN l).data.toList = l.map UInt8.ofNat := by simp [strN]
theorem ns_length (l : List Nat) : (ns l).length = l.length := by simp [ns]
theorem ns_app (a b : List Nat) : ns (a ++ b) = ns a ++ ns b := by simp [ns]
theorem ns_get {l : List Nat} {k : Nat} (h : k < l.length) : (ns l)[k]? = some (.int .u8 (l.getD k 0 : Int)) := by
  unfold ns
  rw [List.getElem?_map, List.getElem?_eq_getElem h, List.getD_eq_getElem?_getD, List.getElem?_eq_getElem h]
  rfl
theorem ns_none {w : World} {B : Nat} {A : Option Addr} {l : List Nat} (h : Rd w B A (ns l)) : A = none → l.length = 0 := by
  rintro rfl
  by_cases hz : l.length = 0
  · exact hz
  · obtain ⟨ad, h1, _⟩ := h 0 _ (ns_get (l := l) (k := 0) (by omega))
    cases h1
theorem conv_bytes {w : World} {B : Nat} (A : Option Addr) (l : List Nat) (c : Nat) (hr : Rd w B A (ns l)) : (convert 31 9 (.slice A l.length c)).run Tryz.prog w = .ok (.string (strN l)) w := by
  have h := run_conv_bytes (P := Tryz.prog) (w := w) (B := B) 31 9 5 A (l.map fun x : Nat => (x : Int)) c Tryz.underlying31 Tryz.underlying5 Tryz.underlying9 (by
    have : (l.map fun x : Nat => (x : Int)).map (Value.int .u8) = ns l := by simp [ns]
    rw [this]; exact hr) (by rw [List.length_map]; exact ns_none hr)
  rw [List.length_map] at h
  have e : strOf (l.map fun x : Nat => (x : Int)) = strN l := by simp [strOf, strN]
  rw [e] at h
  exact h

/-- the digits of a number, the last first -/
def dgF : Nat → Nat → List Nat
  | 0, _ => []
  | f + 1, u => (48 + u % 10) :: if u / 10 = 0 then [] else dgF f (u / 10)
def dg (u : Nat) : List Nat := dgF (u + 1) u
def dgs (u : Nat) : List Nat := (dg u).reverse
theorem dgF_fuel : ∀ (f g u : Nat), u < f → u < g → dgF f u = dgF g u
  | 0, g, u, h, _ => by omega
  | f + 1, 0, u, _, h => by omega
  | f + 1, g + 1, u, h1, h2 => by
    unfold dgF
    by_cases h : u / 10 = 0
    · rw [if_pos h, if_pos h]
    · rw [if_neg h, if_neg h, dgF_fuel f g _ (by omega) (by omega)]
theorem dg_step (u : Nat) : dg u = (48 + u % 10) :: if u / 10 = 0 then [] else dg (u / 10) := by
  unfold dg
  show ((48 + u % 10) :: if u / 10 = 0 then [] else dgF u (u / 10)) = _
  by_cases h : u / 10 = 0
  · rw [if_pos h, if_pos h]
  · rw [if_neg h, if_neg h, dgF_fuel u (u / 10 + 1) _ (by omega) (by omega)]
theorem dg_len : ∀ (k u : Nat), 0 < k → u < 10 ^ k → 0 < (dg u).length ∧ (dg u).length ≤ k
  | 0, u, h, _ => by omega
  | k + 1, u, _, h => by
    rw [dg_step]
    by_cases h0 : u / 10 = 0
    · rw [if_pos h0]; simp
    · rw [if_neg h0]
      have hk : 0 < k := by
        rcases Nat.eq_zero_or_pos k with rfl | h1
        · simp at h; omega
        · exact h1
      have := dg_len k (u / 10) hk (by rw [Nat.pow_succ] at h; omega)
      simp; omega

/-- the loop over the digits: those that are laid, and the rest -/
def DgSt (u : Nat) (w : World) (v : Value) (l : List Nat) (r : Nat) (wr : World) : Prop :=
  wr.ownsRow w.heap.size 5 1 v l.length (ns l) ∧ Below w.heap.size w wr ∧ ((0 < r ∨ l = []) → dg u = l ++ dg r) ∧ (r = 0 ∧ l ≠ [] → dg u = l)

/-- the first i and the last i are changed about -/
def swp (L : List Nat) (i : Nat) : List Nat := (List.range L.length).map fun j => if j < i ∨ L.length - 1 - j < i then L.getD (L.length - 1 - j) 0 else L.getD j 0
theorem swp_length (L : List Nat) (i : Nat) : (swp L i).length = L.length := by simp [swp]
theorem swp_get (L : List Nat) (i j : Nat) (h : j < L.length) : (swp L i).getD j 0 = if j < i ∨ L.length - 1 - j < i then L.getD (L.length - 1 - j) 0 else L.getD j 0 := by
  unfold swp
  rw [List.getD_eq_getElem?_getD, List.getElem?_map, List.getElem?_range h]
  rfl
theorem getD_ext {a b : List Nat} (hl : a.length = b.length) (h : ∀ j, j < a.length → a.getD j 0 = b.getD j 0) : a = b := by
  apply List.ext_getElem hl
  intro j h1 h2
  have := h j h1
  rw [List.getD_eq_getElem?_getD, List.getD_eq_getElem?_getD, List.getElem?_eq_getElem h1, List.getElem?_eq_getElem h2] at this
  simpa using this
theorem swp_zero (L : List Nat) : swp L 0 = L := by
  refine getD_ext (swp_length L 0) fun j hj => ?_
  rw [swp_length] at hj
  rw [swp_get L 0 j hj, if_neg (by omega)]
theorem swp_end (L : List Nat) : swp L (L.length / 2) = L.reverse := by
  refine getD_ext (by rw [swp_length, List.length_reverse]) fun j hj => ?_
  rw [swp_length] at hj
  have e : L.reverse.getD j 0 = L.getD (L.length - 1 - j) 0 := by
    rw [List.getD_eq_getElem?_getD, List.getD_eq_getElem?_getD, List.getElem?_reverse hj]
  rw [swp_get L _ j hj, e]
  by_cases h : j < L.length / 2 ∨ L.length - 1 - j < L.length / 2
  · rw [if_pos h]
  · rw [if_neg h]
    congr 1
    omega
theorem getD_set (l : List Nat) (i j x : Nat) (h : i < l.length) : (l.set i x).getD j 0 = if j = i then x else l.getD j 0 := by
  rw [List.getD_eq_getElem?_getD, List.getElem?_set]
  by_cases e : j = i
  · subst e
    simp [h]
  · rw [if_neg (fun h => e h.symm), if_neg e, List.getD_eq_getElem?_getD]
theorem swp_step (L : List Nat) (i : Nat) (h : i < L.length / 2) : ((swp L i).set i (L.getD (L.length - 1 - i) 0)).set (L.length - 1 - i) (L.getD i 0) = swp L (i + 1) := by
  refine getD_ext (by simp [swp_length]) fun j hj => ?_
  simp only [List.length_set, swp_length] at hj
  rw [getD_set _ _ _ _ (by rw [List.length_set, swp_length]; omega), getD_set _ _ _ _ (by rw [swp_length]; omega), swp_get L i j hj, swp_get L (i + 1) j hj]
  by_cases e1 : j = L.length - 1 - i
  · rw [if_pos e1, if_pos (by omega)]
    congr 1
    omega
  · rw [if_neg e1]
    by_cases e2 : j = i
    · subst e2
      rw [if_pos rfl, if_pos (by omega)]
    · rw [if_neg e2]
      by_cases e3 : j < i ∨ L.length - 1 - j < i
      · rw [if_pos e3, if_pos (by omega)]
      · rw [if_neg e3, if_neg (by omega)]
theorem ns_set (l : List Nat) (i x : Nat) : (ns l).set i (.int .u8 (x : Int)) = ns (l.set i x) := by simp [ns, List.map_set]
theorem pow_le_20 {u r k : Nat} (hu : u < 18446744073709551616) (hr : 0 < r) (h : r * 10 ^ k ≤ u) : k ≤ 19 := by
  by_cases hk : k ≤ 19
  · exact hk
  · exfalso
    have h1 : 10 ^ 20 ≤ 10 ^ k := Nat.pow_le_pow_right (by decide) (by omega)
    have h2 : 1 * 10 ^ k ≤ r * 10 ^ k := Nat.mul_le_mul_right _ hr
    have h3 : (10 : Nat) ^ 20 = 100000000000000000000 := by decide
    omega
end Go.Proofs.YtagghdehbkbemaaGreatDoor.big
end
section
namespace Go.Proofs.YtagghdehbkbemaaGreatDoor.big
open Go.RowKit mem fl
set_option linter.unusedVariables false


def DgPost (u : Nat) (w : World) (e : Ending) (w' : World) : Prop := e = .returned (.string (strN (dgs u))) ∧ Below w.heap.size w w'
/-- while the digits are turned about -/
def TuSt (L : List Nat) (w : World) (A : Option Addr) (c i : Nat) (wr : World) : Prop :=
  ∃ g, A = some ⟨g, 0, none⟩ ∧ wr.ownsRow w.heap.size 5 1 (.slice A L.length c) L.length (ns (swp L i)) ∧ Below w.heap.size w wr

set_option maxRecDepth 100000 in
set_option maxHeartbeats 2000000 in
theorem digits_any (u : Nat) (w : World) (hu : u < 18446744073709551616) :
    Calls Tryz.prog 45 #[.int .u64 (u : Int)] w (DgPost u w) := by
  obtain ⟨iv, hiv, hv0, hv1, hv2⟩ := info_parts infoB
  go_enter Tryz.func45, Tryz.ntmps45
  go_wp2_with fail
  go_loopw [0, 3] (fun v0 v3 wr => ∃ (r n : Nat) (A : Option Addr) (c : Nat), r < 18446744073709551616 ∧ n ≤ 20 ∧ v0 = .int .u64 (r : Int) ∧ v3 = .slice A n c ∧ Hid (∃ l, l.length = n ∧ DgSt u w (.slice A n c) l r wr ∧ (0 < r → r * 10 ^ n ≤ u))) (fun v0 v3 _ => (intOf v0).toNat + (match v3 with | .slice _ 0 _ => 1 | _ => 0))
  case atStart =>
    refine ⟨u, 0, none, 0, hu, by omega, rfl, rfl, Lib.hid ⟨[], rfl, ⟨World.ownsRow_nil _ _ _ _, Below.refl _ _, fun _ => rfl, fun h => absurd rfl h.2⟩, fun _ => by omega⟩⟩
  case round =>
    obtain ⟨r, n, A, c, hr, hn, rfl, rfl, hst⟩ := hrel
    obtain ⟨l, hl, ⟨hown, hb, hd1, hd2⟩, hle⟩ := hst.out
    by_cases hgo : 0 < r ∨ n = 0
    · have hn19 : n ≤ 19 := by
        by_cases h0 : 0 < r
        · exact pow_le_20 hu h0 (hle h0)
        · omega
      have hdg : dg u = l ++ dg r := hd1 (by
        rcases hgo with h | h
        · exact .inl h
        · exact .inr (List.eq_nil_of_length_eq_zero (by omega)))
      have HDg := Lib.hid hdg
      have HL := Lib.hid hl
      have hown2 : wr.ownsRow w.heap.size 5 1 (.slice A n c) n (ns l) := by rw [hl] at hown; exact hown
      have HO := Lib.hid hown2
      have hbz := hb.size
      have HBl := Lib.hid hb
      have HLe := Lib.hid hle
      have h2 : ¬ 0 < r → ((n : Int) == 0) = true := fun h => by simp; omega
      clear hst hl hown hown2 hb hd1 hd2 hle hdg
      have hnext : ∀ w5 v', World.ownsRow w5 w.heap.size 5 1 v' (n + 1) (ns l ++ [.int .u8 ((48 + r % 10 : Nat) : Int)]) → Below w.heap.size w w5 → ∃ A' c', v' = .slice A' (n + 1) c' ∧ Hid (∃ l', l'.length = n + 1 ∧ DgSt u w (.slice A' (n + 1) c') l' (r / 10) w5 ∧ (0 < r / 10 → r / 10 * 10 ^ (n + 1) ≤ u)) := by
        intro w5 v' ho hb5
        obtain ⟨A', c', rfl, _⟩ := own_form ho
        refine ⟨A', c', rfl, Lib.hid ⟨l ++ [48 + r % 10], by rw [List.length_append, HL.out]; rfl, ⟨?_, hb5, ?_, ?_⟩, ?_⟩⟩
        · rw [ns_app, List.length_append, HL.out]
          exact ho
        · intro h
          have h0 : 0 < r / 10 := by
            rcases h with h | h
            · exact h
            · simp at h
          rw [HDg.out, dg_step r, if_neg (by omega)]
          simp
        · intro h
          rw [HDg.out, dg_step r, if_pos h.1]
        · intro h
          have h3 := HLe.out (by omega)
          rw [Nat.pow_succ]
          have h4 : r / 10 * (10 ^ n * 10) = (r / 10 * 10) * 10 ^ n := by rw [Nat.mul_comm (10 ^ n) 10, Nat.mul_assoc]
          rw [h4]
          exact Nat.le_trans (Nat.mul_le_mul_right _ (by omega)) h3
      have HNx := Lib.hid hnext
      clear hnext
      have hnl : ((48 : Int) + (r : Int) % 10) % 256 = 48 + (r : Int) % 10 := by omega
      by_cases h0 : 0 < r
      · go_wp2_with (at_builtin; go_must (refine wpList_app _ rfl (.tmp 14) (.tmp 19) _ rfl w.heap.size 5 iv (.int .u8 0) 1 1 Tryz.underlying31 hiv hv0 hv1 hv2 rfl (by omega) (.slice A n c) n (ns l) rfl (HO.out.alloc _) (wr.heap.size + 1) (some ⟨wr.heap.size, 0, none⟩) 1 1 [.int .u8 ((48 + r % 10 : Nat) : Int)] rfl rfl (Rd.new wr [.int .u8 ((48 + r % 10 : Nat) : Int)] 5) (by simp) (by intro u hu; simp at hu; subst hu; rfl) (by unfold maxLen; omega) (by omega) (by simp; omega) ?_; intro v' w5 hown' hgrow' hat'; have HO' := Lib.hid hown'; have HG' := Lib.hid hgrow'; clear hown' hgrow' hat'))
        obtain ⟨A', c', rfl, hN⟩ := HNx.out _ _ HO'.out (below_app1 HBl.out HO.out (Nat.le_refl _) hbz HG'.out)
        exact ⟨⟨r / 10, n + 1, A', c', by omega, by omega, by simp, rfl, hN⟩, by simp [intOf]; omega⟩
      · have h3 := h2 h0
        clear h2
        obtain rfl : r = 0 := by omega
        obtain rfl : n = 0 := by omega
        go_wp2_with (at_builtin; go_must (refine wpList_app _ rfl (.tmp 14) (.tmp 19) _ rfl w.heap.size 5 iv (.int .u8 0) 1 1 Tryz.underlying31 hiv hv0 hv1 hv2 rfl (by omega) (.slice A 0 c) 0 (ns l) rfl (HO.out.alloc _) (wr.heap.size + 1) (some ⟨wr.heap.size, 0, none⟩) 1 1 [.int .u8 48] rfl rfl (Rd.new wr [.int .u8 48] 5) (by simp) (by intro u hu; simp at hu; subst hu; rfl) (by unfold maxLen; omega) (by omega) (by simp; omega) ?_; intro v' w5 hown' hgrow' hat'; have HO' := Lib.hid hown'; have HG' := Lib.hid hgrow'; clear hown' hgrow' hat'))
        obtain ⟨A', c', rfl, hN⟩ := HNx.out _ _ HO'.out (below_app1 HBl.out HO.out (Nat.le_refl _) hbz HG'.out)
        exact ⟨⟨0, 0 + 1, A', c', by omega, by omega, by simp, rfl, hN⟩, by simp [intOf]⟩
    · obtain rfl : r = 0 := by omega
      have hdl := hd2 ⟨rfl, by intro h; subst h; simp at hl; omega⟩
      have hn1 : 1 ≤ n := by omega
      have hown2 : wr.ownsRow w.heap.size 5 1 (.slice A n c) n (ns l) := by rw [hl] at hown; exact hown
      obtain ⟨g, c2, cur, hsl, hbg, hgl, hnc, hcm, _⟩ := own_block hown2 hn1
      injection hsl with hA _ hcc
      subst hA
      subst hcc
      have HL := Lib.hid hl
      have HDl := Lib.hid hdl
      have HBl := Lib.hid hb
      have HO := Lib.hid hown2
      have h2 : ((n : Int) == 0) = false := by simp; omega
      clear hst hl hown hown2 hb hd1 hd2 hle hdl hgo
      go_wp2_with fail
      go_loopw [4] (fun v4 wr => ∃ i : Nat, i ≤ n / 2 ∧ v4 = .int .i64 (i : Int) ∧ g < wr.heap.size ∧ Hid (wr.ownsRow w.heap.size 5 1 (.slice (some ⟨g, 0, none⟩) n c) n (ns (swp l i)) ∧ Below w.heap.size w wr)) (fun v4 _ => n / 2 - (intOf v4).toNat)
      case atStart => exact ⟨0, by omega, rfl, hgl, Lib.hid ⟨by rw [swp_zero]; exact HO.out, HBl.out⟩⟩
      case round =>
        clear HO HBl hgl hr
        obtain ⟨i, hi, rfl, hgl, hst⟩ := hrel
        obtain ⟨hown, hb⟩ := hst.out
        have HO := Lib.hid hown
        have HBl := Lib.hid hb
        clear hst hown hb
        by_cases hlt : i < n / 2
        · obtain ⟨j, hj⟩ : ∃ j, n - 1 - i = j := ⟨_, rfl⟩
          have hjn : j < n := by omega
          have hij : i < j := by omega
          have hlen : (swp l i).length = n := by rw [swp_length, HL.out]
          obtain ⟨x, hx⟩ : ∃ x, l.getD i 0 = x := ⟨_, rfl⟩
          obtain ⟨y, hy⟩ : ∃ y, l.getD j 0 = y := ⟨_, rfl⟩
          have hci : wr.cell? ⟨g, i, none⟩ = some (.int .u8 (x : Int)) := by
            rw [World.ownsRow.cellAt HO.out i (by omega), ns_get (by omega), swp_get l i i (by rw [HL.out]; omega), if_neg (by rw [HL.out]; omega), hx]
          have hcj : wr.cell? ⟨g, j, none⟩ = some (.int .u8 (y : Int)) := by
            rw [World.ownsRow.cellAt HO.out j (by omega), ns_get (by omega), swp_get l i j (by rw [HL.out]; omega), if_neg (by rw [HL.out]; omega), hy]
          have hfi := World.ownsRow.frozenAt HO.out i
          have hfj := World.ownsRow.frozenAt HO.out j
          have hnx : ((wr.setCell ⟨g, i, none⟩ (.int .u8 (y : Int))).setCell ⟨g, j, none⟩ (.int .u8 (x : Int))).ownsRow w.heap.size 5 1 (.slice (some ⟨g, 0, none⟩) n c) n (ns (swp l (i + 1))) := by
            have h1 := (World.ownsRow.stored HO.out i (.int .u8 (y : Int))).1
            have h2 := (World.ownsRow.stored h1 j (.int .u8 (x : Int))).1
            rw [ns_set, ns_set, ← hx, ← hy, ← hj] at h2
            have h3 := swp_step l i (by rw [HL.out]; exact hlt)
            rw [HL.out] at h3
            rw [h3] at h2
            rw [← hx, ← hy, ← hj]
            exact h2
          have HNx := Lib.hid hnx
          have HNb := Lib.hid ((HBl.out.setCell (p := ⟨g, i, none⟩) hbg (.int .u8 (y : Int))).setCell (p := ⟨g, j, none⟩) hbg (.int .u8 (x : Int)))
          have hji : (n : Int) - 1 - (i : Int) = (j : Int) := by omega
          have hjn2 : (j : Int) < (n : Int) := by omega
          have hin : (i : Int) < (n : Int) := by omega
          have hlt2 : (i : Int) < (n : Int) / 2 := by omega
          clear hx hy hj hnx hlen
          go_wp2_with fail
          exact ⟨⟨i + 1, by omega, by simp, by simpa using hgl, Lib.hid ⟨HNx.out, HNb.out⟩⟩, by simp [intOf]; omega⟩
        · obtain rfl : i = n / 2 := by omega
          have hlr : (l.reverse).length = n := by rw [List.length_reverse, HL.out]
          have hown3 : wr.ownsRow w.heap.size 5 1 (.slice (some ⟨g, 0, none⟩) n c) n (ns (l.reverse)) := by
            have := HO.out
            have e := swp_end l
            rw [HL.out] at e
            rw [e] at this
            exact this
          have hcv := conv_bytes (w := wr) (some ⟨g, 0, none⟩) (l.reverse) c (Rd.of_own hown3)
          rw [hlr] at hcv
          have hd : l.reverse = dgs u := by unfold dgs; rw [HDl.out]
          rw [hd] at hcv
          have hlt2 : ¬ ((n / 2 : Nat) : Int) < (n : Int) / 2 := by omega
          clear hd hown3 hlr
          go_wp2_with fail
          go_ret
          exact ⟨rfl, HBl.out⟩

/-- the text of a whole number -/
def wtx (n : Int) : List Nat := if n < 0 then 45 :: dgs n.natAbs else dgs n.natAbs
def WtPost (n : Int) (w : World) (e : Ending) (w' : World) : Prop := e = .returned (.string (strN (wtx n))) ∧ Below w.heap.size w w'
theorem strN_app (a b : List Nat) : strN a ++ strN b = strN (a ++ b) := by
  apply ByteArray.ext
  apply Array.toList_inj.1
  simp [strN]
set_option maxRecDepth 100000 in
set_option maxHeartbeats 1000000 in
theorem wholeText_any (n : Int) (w : World) (h1 : -9223372036854775808 ≤ n) (h2 : n ≤ 9223372036854775807) :
    Calls Tryz.prog 30 #[.int .i64 n] w (WtPost n w) := by
  by_cases h0 : n < 0
  · obtain ⟨m, hm⟩ : ∃ m : Nat, n = -(m : Int) := ⟨n.natAbs, by omega⟩
    subst hm
    have hm0 : 0 < m := by omega
    have hwr : IntKind.u64.wrap (-IntKind.u64.wrap (-(m : Int))) = (m : Int) := by rw [IntKind.wrap_u64, IntKind.wrap_u64]; omega
    have HWr := Lib.hid hwr
    have hw : strN [45] ++ strN (dgs m) = strN (wtx (-(m : Int))) := by
      rw [strN_app]
      unfold wtx
      rw [if_pos h0]
      congr 2
      rw [Int.natAbs_neg]
      rfl
    have h45 : strN [45] = ⟨#[45]⟩ := rfl
    rw [h45] at hw
    have HW := Lib.hid hw
    clear hw hwr h45 h0
    go_enter Tryz.func30, Tryz.ntmps30
    go_wp2_with fail
    rw [HWr.out]
    refine (digits_any m w (by omega)).mono ?_
    rintro e w2 ⟨rfl, hb⟩
    have HB := Lib.hid hb
    clear hb
    have hsz : (strN (dgs m)).size ≤ 20 := by
      rw [strN_size]
      unfold dgs
      rw [List.length_reverse]
      exact (dg_len 20 m (by omega) (by have : (10 : Nat) ^ 20 = 100000000000000000000 := by decide
                                        omega)).2
    generalize strN (dgs m) = sd at *
    go_wp2_with fail
    go_ret
    exact ⟨by rw [← HW.out]; rfl, HB.out⟩
  · obtain ⟨m, hm⟩ : ∃ m : Nat, n = (m : Int) := ⟨n.natAbs, by omega⟩
    subst hm
    have hw : wtx (m : Int) = dgs m := by unfold wtx; rw [if_neg h0]; rfl
    have HW := Lib.hid hw
    clear hw
    go_enter Tryz.func30, Tryz.ntmps30
    go_wp2_with fail
    refine (digits_any m w (by omega)).mono ?_
    rintro e w2 ⟨rfl, hb⟩
    have HB := Lib.hid hb
    clear hb
    rw [← HW.out]
    go_wp2_with fail
    go_ret
    exact ⟨rfl, HB.out⟩
end Go.Proofs.YtagghdehbkbemaaGreatDoor.big
end
section
namespace Go.Proofs.YtagghdehbkbemaaGreatDoor.big
open Go.RowKit mem fl
set_option linter.unusedVariables false

/-- what is gathered, letter by letter -/
structure Cs where
  neg : Bool
  b : List Nat
  x : Int
  exp : Nat
  dot : Bool
  e : Bool
  down : Bool
  more : Bool
def Cs.start : Cs := ⟨false, [], 0, 0, false, false, false, false⟩
def cutStep (s : Cs) (c : Nat) : Cs :=
  if c = 46 then { s with dot := true }
  else if c = 101 ∨ c = 69 then { s with e := true }
  else if c = 45 then (if s.e then { s with down := true } else { s with neg := true })
  else if c = 43 then s
  else if s.e then (if s.exp < 1125899906842624 then { s with exp := 10 * s.exp + (c - 48) } else s)
  else if s.b.length = 800 then { s with x := (if s.dot then s.x - 1 else s.x) + 1, more := s.more || c != 48 }
  else if c ≠ 48 ∨ 0 < s.b.length then { s with x := (if s.dot then s.x - 1 else s.x), b := s.b ++ [c] }
  else { s with x := (if s.dot then s.x - 1 else s.x) }
def cutF (l : List Nat) : Cs := l.foldl cutStep Cs.start
theorem cutF_snoc (l : List Nat) (c : Nat) : cutF (l ++ [c]) = cutStep (cutF l) c := by unfold cutF; rw [List.foldl_append]; rfl
def Cs.digits (s : Cs) : List Nat := if s.more then s.b ++ [49] else s.b
def Cs.power (s : Cs) : Int := (if s.more then s.x - 1 else s.x) + (if s.down then -(s.exp : Int) else (s.exp : Int))
/-- the letters of number texts -/
def Alp (c : Nat) : Prop := c = 46 ∨ c = 101 ∨ c = 69 ∨ c = 45 ∨ c = 43 ∨ (48 ≤ c ∧ c ≤ 57)
def nats (s : ByteArray) : List Nat := s.data.toList.map UInt8.toNat
theorem nats_length (s : ByteArray) : (nats s).length = s.size := by simp [nats]
theorem nats_get (s : ByteArray) (k : Nat) (h : k < s.size) : (nats s)[k]'(by rw [nats_length]; exact h) = (s[k]).toNat := by
  simp [nats]
  rfl
theorem nats_snoc (s : ByteArray) (k : Nat) (h : k < s.size) : (nats s).take (k + 1) = (nats s).take k ++ [(s[k]).toNat] := by
  rw [List.take_succ_eq_append_getElem (by rw [nats_length]; exact h), nats_get s k h]
theorem nats_strN (l : List Nat) (h : ∀ c ∈ l, c < 256) : nats (strN l) = l := by
  unfold nats
  rw [strN_list, List.map_map]
  refine (List.map_congr_left fun c hc => ?_).trans (List.map_id _)
  have := h c hc
  simp only [Function.comp, UInt8.toNat_ofNat']
  exact Nat.mod_eq_of_lt this
theorem strN_nats (s : ByteArray) : strN (nats s) = s := by
  apply ByteArray.ext
  apply Array.toList_inj.1
  show (strN (nats s)).data.toList = _
  rw [strN_list]
  unfold nats
  rw [List.map_map]
  refine (List.map_congr_left fun c _ => ?_).trans (List.map_id _)
  simp

theorem cut_digit {s : Cs} {c : Nat} (h1 : 48 ≤ c) (h2 : c ≤ 57) : cutStep s c =
    if s.e = true then (if s.exp < 1125899906842624 then { s with exp := 10 * s.exp + (c - 48) } else s)
    else if s.b.length = 800 then { s with x := (if s.dot = true then s.x - 1 else s.x) + 1, more := s.more || c != 48 }
    else if c ≠ 48 ∨ 0 < s.b.length then { s with x := (if s.dot = true then s.x - 1 else s.x), b := s.b ++ [c] }
    else { s with x := (if s.dot = true then s.x - 1 else s.x) } := by
  unfold cutStep
  rw [if_neg (by omega), if_neg (by omega), if_neg (by omega), if_neg (by omega)]
def CutPost (l : List Nat) (w : World) (e : Ending) (w' : World) : Prop := e = .returned (.tuple #[.bool (cutF l).neg, .string (strN (cutF l).digits), .int .i64 (cutF l).power]) ∧ Below w.heap.size w w'

/-- the call's state between two rounds -/
def CuSt (l : List Nat) (i : Nat) (w : World) (neg dot e down more : Bool) (x : Int) (k exp : Nat) (v : Value) (wr : World) : Prop :=
  ∃ b : List Nat, b.length = k ∧ wr.ownsRow w.heap.size 5 1 v k (ns b) ∧ Below w.heap.size w wr ∧ cutF (l.take i) = ⟨neg, b, x, exp, dot, e, down, more⟩


end Go.Proofs.YtagghdehbkbemaaGreatDoor.big
end
