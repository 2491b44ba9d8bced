/- The reference's whole numbers of any size: trim, times. -/
import Derived.Test.YtlkeemphdocpoaaMem
import Derived.Test.YtlkeemphdocpoaaWords
import Derived.Test.YtlkeemphdocpoaaChecked
import Derived.KernelRfl
import Derived.Deep.DeepMust
import Derived.Deep.QuietTactic
import Derived.BigQuiet
import Derived.Outline
namespace Go.Proofs.Ytlkeemphdocpoaa.big
open Go.RowKit mem fl
set_option linter.unusedVariables false

theorem infoW : (Try.prog.info? 60).map (fun i => (i.zero, i.size, i.bytes)) = some (some (.int .u32 0), 1, 4) := by kernel_rfl
theorem info_parts {P : Program} {t : TypeId} {z : Option Value} {s b : Nat} (h : (P.info? t).map (fun i => (i.zero, i.size, i.bytes)) = some (z, s, b)) : ∃ i, P.info? t = some i ∧ i.zero = z ∧ i.size = s ∧ i.bytes = b := by
  cases hi : P.info? t with
  | none => rw [hi] at h; simp at h
  | some i =>
    rw [hi] at h
    simp at h
    exact ⟨i, rfl, h.1, h.2.1, h.2.2⟩

/-- words as values -/
def us (l : List Nat) : List Value := l.map fun x : Nat => .int .u32 (x : Int)
theorem us_length (l : List Nat) : (us l).length = l.length := by simp [us]
theorem us_app (a b : List Nat) : us (a ++ b) = us a ++ us b := by simp [us]
theorem us_take (a : List Nat) (n : Nat) : us (a.take n) = (us a).take n := by simp [us]
theorem us_get {l : List Nat} {k : Nat} (h : k < l.length) : (us l)[k]? = some (.int .u32 (l.getD k 0 : Int)) := by
  unfold us
  rw [List.getElem?_map, List.getElem?_eq_getElem h, List.getD_eq_getElem?_getD, List.getElem?_eq_getElem h]
  rfl
theorem Rd.take {w : World} {B : Nat} {A : Option Addr} {xs : List Value} (h : Rd w B A xs) (n : Nat) : Rd w B A (xs.take n) := fun j u hu => by
  rw [List.getElem?_take] at hu
  by_cases hj : j < n
  · rw [if_pos hj] at hu
    exact h j u hu
  · rw [if_neg hj] at hu
    cases hu
/-- a value that reads as the words of N -/
def Bn (w : World) (B : Nat) (v : Value) (N : Nat) : Prop := ∃ A c, v = .slice A (wd N).length c ∧ Rd w B A (us (wd N)) ∧ (wd N).length ≤ c
theorem Bn.below {w w' : World} {B : Nat} {v : Value} {N : Nat} (h : Bn w B v N) (hb : Below B w w') : Bn w' B v N := by
  obtain ⟨A, c, rfl, hr, hc⟩ := h
  exact ⟨A, c, rfl, hr.below hb, hc⟩
theorem Bn.more {w : World} {B B' : Nat} {v : Value} {N : Nat} (h : Bn w B v N) (hB : B ≤ B') : Bn w B' v N := by
  obtain ⟨A, c, rfl, hr, hc⟩ := h
  exact ⟨A, c, rfl, hr.more hB, hc⟩

def TrimPost (A : Option Addr) (N : Nat) (w : World) (e : Ending) (w' : World) : Prop := ∃ c, e = .returned (.slice A (wd N).length c) ∧ (wd N).length ≤ c ∧ w = w'

theorem pre_eq {l : List Nat} {n : Nat} (hl : Wds l) (h : n = 0 ∨ ∃ x, l[n - 1]? = some x ∧ x ≠ 0) (hn : n ≤ l.length) (hv : val (l.take n) = val l) : (wd (val l)).length = n ∧ wd (val l) = l.take n := by
  have h1 := wd_take hl h
  rw [hv] at h1
  exact ⟨by rw [h1, List.length_take]; omega, h1⟩
set_option maxHeartbeats 400000 in
theorem trim_any (A : Option Addr) (c n0 : Nat) (l : List Nat) (w : World) (B : Nat) (hr : Rd w B A (us l)) (hl : Wds l) (hn0 : l.length = n0) (hn : n0 ≤ 1000000) (hcap : n0 ≤ c) :
    Calls Try.prog 32 #[.slice A n0 c] w (TrimPost A (val l) w) := by
  have HR := Lib.hid hr
  have HL := Lib.hid hl
  have HN := Lib.hid hn0
  clear hr hl hn0
  go_enter Try.func32, Try.ntmps32
  go_wp2_with fail
  go_loop [0] (fun v => ∃ (n cc : Nat), n ≤ n0 ∧ n ≤ cc ∧ v = .slice A n cc ∧ Hid (val (l.take n) = val l)) (fun v => match v with | .slice _ n _ => n | _ => 0)
  case atStart => exact ⟨n0, c, Nat.le_refl _, hcap, rfl, Lib.hid (by rw [← HN.out, List.take_length])⟩
  case round =>
    obtain ⟨n, cc, hnl, hncc, rfl, hv⟩ := hrel
    by_cases hz : n = 0
    · subst hz
      go_wp2_with fail
      go_ret
      have h1 := pre_eq HL.out (.inl rfl) (Nat.zero_le _) hv.out
      exact ⟨cc, (by rw [h1.1]; rfl), by omega, rfl⟩
    · obtain ⟨m, rfl⟩ : ∃ m, n = m + 1 := ⟨n - 1, by omega⟩
      obtain ⟨x, hx⟩ : ∃ x, l.getD m 0 = x := ⟨_, rfl⟩
      have hget := us_get (l := l) (k := m) (by rw [HN.out]; omega)
      rw [hx] at hget
      obtain ⟨ad, rfl, hb, hc⟩ := HR.out m _ hget
      have HX := Lib.hid hx
      clear hget hx
      by_cases hx0 : x = 0
      · subst hx0
        have hcc : (m : Int) ≤ (cc : Int) := by omega
        go_wp2_with fail
        go_round
        case rel => exact ⟨m, cc, by omega, by omega, by simp, Lib.hid (by
          rw [← hv.out, val_take_zero]
          have := HX.out
          have hm : m < l.length := by rw [HN.out]; omega
          rw [List.getD_eq_getElem?_getD, List.getElem?_eq_getElem hm] at this
          rw [List.getElem?_eq_getElem hm]
          simpa using this)⟩
        case measure => simp
      · have hx1 : ((x : Int) == 0) = false := by simp; omega
        go_wp2_with fail
        go_ret
        have h1 := pre_eq (n := m + 1) HL.out (.inr ⟨x, by
          have := HX.out
          have hm : m < l.length := by rw [HN.out]; omega
          rw [List.getD_eq_getElem?_getD, List.getElem?_eq_getElem hm] at this
          simp only [Nat.add_sub_cancel]
          rw [List.getElem?_eq_getElem hm]
          simpa using this, hx0⟩) (by rw [HN.out]; omega) hv.out
        exact ⟨cc, (by rw [h1.1]; rfl), (by rw [h1.1]; omega), rfl⟩

/-- what a function that makes a number answers -/
def BnPost (N : Nat) (w : World) (e : Ending) (w' : World) : Prop := ∃ v, e = .returned v ∧ Bn w' w'.heap.size v N ∧ Below w.heap.size w w'


theorem wd_prefix {l : List Nat} (hl : Wds l) : wd (val l) = l.take (wd (val l)).length := by
  have : ∀ n, n ≤ l.length → val (l.take n) = val l → ∃ k, k ≤ n ∧ wd (val l) = l.take k := by
    intro n
    induction n with
    | zero => intro h1 h2; exact ⟨0, Nat.le_refl _, (pre_eq hl (.inl rfl) h1 h2).2⟩
    | succ n ih =>
      intro h1 h2
      have hg : l[n]? = some l[n] := List.getElem?_eq_getElem (by omega)
      by_cases h0 : l[n] = 0
      · rw [h0] at hg
        obtain ⟨k, h3, h4⟩ := ih (by omega) (by rw [← val_take_zero hg]; exact h2)
        exact ⟨k, by omega, h4⟩
      · exact ⟨n + 1, Nat.le_refl _, (pre_eq hl (.inr ⟨l[n], hg, h0⟩) h1 h2).2⟩
  obtain ⟨k, h1, h2⟩ := this l.length (Nat.le_refl _) (by rw [List.take_length])
  rw [h2, List.length_take, List.take_eq_take_iff]
  omega
def TrimOwn (M : Nat) (w : World) (e : Ending) (w' : World) : Prop := ∃ v, e = .returned v ∧ Bn w w.heap.size v M ∧ w = w'
theorem trim_own {base n M : Nat} {v : Value} {r : List Nat} {w : World} (ho : w.ownsRow base 60 1 v n (us r)) (hl : r.length = n) (hw : Wds r) (hn : n ≤ 1000000) (hM : val r = M) :
    Calls Try.prog 32 #[v] w (TrimOwn M w) := by
  obtain ⟨A2, c2, rfl, hA2, hc2, hm2⟩ := own_form ho
  refine (trim_any A2 c2 n r w w.heap.size (Rd.of_own ho) hw hl hn hc2).mono ?_
  rintro e w' ⟨c3, rfl, hc3, rfl⟩
  have h2 := wd_prefix hw
  rw [hM] at hc3 h2 ⊢
  refine ⟨_, rfl, ⟨A2, c3, rfl, ?_, hc3⟩, rfl⟩
  have h1 := Rd.take (Rd.of_own ho) (wd M).length
  rw [← us_take, ← h2] at h1
  exact h1
/-- times between two rounds -/
def TmSt (a : List Nat) (m c : Nat) (w : World) (v : Value) (carry i : Nat) (wr : World) : Prop :=
  ∃ r : List Nat, wr.ownsRow w.heap.size 60 1 v i (us r) ∧ Below w.heap.size w wr ∧ r.length = i ∧ Wds r ∧ val r + 4294967296 ^ i * carry = val (a.take i) * m + c
theorem mul_bd {x m c : Nat} (hx : x < 4294967296) (hm : m < 4294967296) (hc : c < 4294967296) : x * m ≤ 18446744065119617025 ∧ x * m + c < 18446744073709551616 := by
  have : x * m ≤ 4294967295 * 4294967295 := Nat.mul_le_mul (by omega) (by omega)
  omega

set_option maxHeartbeats 1000000 in
theorem times_any (v0 : Value) (N m c : Nat) (w : World) (hv : Bn w w.heap.size v0 N) (hm : m < 4294967296) (hc : c < 4294967296) (hn : (wd N).length ≤ 900000) :
    Calls Try.prog 30 #[v0, .int .u32 m, .int .u32 c] w (BnPost (N * m + c) w) := by
  obtain ⟨iv, hiv, hv0, hv1, hv2⟩ := info_parts infoW
  obtain ⟨A, cap, rfl, hr, hcap⟩ := hv
  have hwl := wds_wd N
  have hvl := val_wd N
  have hlp : ∀ k, k < (wd N).length → (wd N).getD k 0 < 4294967296 := fun k hk => hwl _ (by rw [List.getD_eq_getElem?_getD, List.getElem?_eq_getElem hk]; exact List.getElem_mem hk)
  have HLP := Lib.hid hlp
  have HW := Lib.hid hwl
  have HV := Lib.hid hvl
  have HR := Lib.hid hr
  clear hlp hwl hvl hr
  generalize wd N = l at *
  obtain ⟨L, hL⟩ : ∃ L, l.length = L := ⟨_, rfl⟩
  rw [hL] at hn hcap ⊢
  have HL := Lib.hid hL
  clear hL
  go_enter Try.func30, Try.ntmps30
  go_wp2_with fail
  go_loopw [7, 8, 9] (fun v7 v8 v9 wr => ∃ (i carry : Nat) (vv : Value), i ≤ L ∧ carry < 4294967296 ∧ v9 = .int .i64 (i : Int) ∧ v8 = .int .u64 (carry : Int) ∧ vv = v7 ∧ Hid (TmSt l m c w vv carry i wr)) (fun _ _ v9 _ => L - (intOf v9).toNat)
  case atStart =>
    exact ⟨0, c, _, Nat.zero_le _, hc, rfl, rfl, rfl, Lib.hid ⟨[], World.ownsRow_nil _ _ _ _, Below.refl _ _, rfl, (by intro x hx; simp at hx), by simp [val]⟩⟩
  case round =>
    obtain ⟨i, carry, vv, hiL, hcb, rfl, rfl, rfl, hst⟩ := hrel
    by_cases hi : i < L
    · have hgx := us_get (l := l) (k := i) (by rw [HL.out]; exact hi)
      obtain ⟨ad, rfl, hab, hcell⟩ := HR.out i _ hgx
      obtain ⟨r, hown, hb, hrl, hrw, hsum⟩ := hst.out
      have hxl := HLP.out i (by rw [HL.out]; exact hi)
      obtain ⟨x, hx⟩ : ∃ x, l.getD i 0 = x := ⟨_, rfl⟩
      rw [hx] at hcell hxl
      have hcell2 := (hb.cell (p := ad.add i) (by rw [add_block]; exact hab)).trans hcell
      have HO := Lib.hid hown
      have hbz := hb.size
      have HBl := Lib.hid hb
      have HX := Lib.hid hx
      have HRl := Lib.hid hrl
      have HRw := Lib.hid hrw
      have HS := Lib.hid hsum
      have hmb := mul_bd hxl hm hcb
      obtain ⟨p, hp⟩ : ∃ p, x * m = p := ⟨_, rfl⟩
      rw [hp] at hmb
      have hp2 : (x : Int) * (m : Int) = (p : Int) := by rw [← hp]; simp
      have HP := Lib.hid hp
      clear hcell hst hb hown hrl hrw hsum hgx hx hp
      go_wp2_with (at_builtin; go_must (refine wpList_app _ rfl (.tmp 29) (.tmp 32) _ rfl w.heap.size 60 iv (.int .u32 0) 1 4 Try.underlying49 hiv hv0 hv1 hv2 rfl (by omega) vv i (us r) rfl (HO.out.alloc _) (wr.heap.size + 1) (some ⟨wr.heap.size, 0, none⟩) 1 1 [.int .u32 ((p + carry) % 4294967296 : Nat)] rfl rfl (Rd.new wr [.int .u32 ((p + carry) % 4294967296 : Nat)] 60) (by simp) (by intro u hu; simp at hu; subst hu; rfl) (by unfold maxLen; omega) (by omega) (by simp; omega) ?_; intro v' w5 hown' hgrow' hat'; have HO' := Lib.hid hown'; have HG' := Lib.hid hgrow'; clear hown' hgrow' hat'))
      refine ⟨⟨i + 1, (p + carry) / 4294967296, _, by omega, by omega, by simp, by simp, rfl, Lib.hid ⟨r ++ [(p + carry) % 4294967296], ?_, below_app1 HBl.out HO.out (Nat.le_refl _) hbz HG'.out, by rw [List.length_append, HRl.out]; rfl, HRw.out.app (by intro y hy; simp at hy; omega), ?_⟩⟩, by simp [intOf]; omega⟩
      · have := HO'.out
        rw [us_app]
        exact this
      · have := times_step (a := l) (i := i) (m := m) (c := c) (carry := carry) (by rw [HL.out]; exact hi) HRl.out HS.out
        rw [HX.out, HP.out] at this
        exact this
    · obtain rfl : i = L := by omega
      obtain ⟨r, hown, hb, hrl, hrw, hsum⟩ := hst.out
      have hend := times_end (r := r) (a := l) (m := m) (c := c) (carry := carry) (by rw [hrl, HL.out]) (by rw [HL.out]; exact hsum)
      rw [HV.out] at hend
      have HE := Lib.hid hend
      have HO := Lib.hid hown
      have hbz := hb.size
      have HBl := Lib.hid hb
      have HRl := Lib.hid hrl
      have HRw := Lib.hid hrw
      clear hst hb hown hrl hrw hsum hend
      by_cases hc0 : carry = 0
      · subst hc0
        have HE1 := Lib.hid (HE.out.2 rfl)
        clear HE
        go_wp2_with fail
        refine (trim_own HO.out HRl.out HRw.out (by omega) HE1.out).mono ?_
        rintro e w' ⟨v3, rfl, hbn, rfl⟩
        have HBN := Lib.hid hbn
        clear hbn
        go_wp2_with fail
        go_ret
        exact ⟨_, rfl, HBN.out, HBl.out⟩
      · have hcp : (0 : Int) < (carry : Int) := by omega
        have hc3 : (carry : Int) % 4294967296 = (carry : Int) := by omega
        go_wp2_with (at_builtin; go_must (refine wpList_app _ rfl (.tmp 38) (.tmp 41) _ rfl w.heap.size 60 iv (.int .u32 0) 1 4 Try.underlying49 hiv hv0 hv1 hv2 rfl (by omega) vv i (us r) rfl (HO.out.alloc _) (wr.heap.size + 1) (some ⟨wr.heap.size, 0, none⟩) 1 1 [.int .u32 carry] rfl rfl (Rd.new wr [.int .u32 carry] 60) (by simp) (by intro u hu; simp at hu; subst hu; rfl) (by unfold maxLen; omega) (by omega) (by simp; omega) ?_; intro v' w5 hown' hgrow' hat'; have HO' := Lib.hid hown'; have HG' := Lib.hid hgrow'; clear hown' hgrow' hat'))
        have HE1 := Lib.hid HE.out.1
        clear HE
        refine (trim_own (r := r ++ [carry]) (by rw [us_app]; exact HO'.out) (by rw [List.length_append, HRl.out]; rfl) (HRw.out.app (by intro y hy; simp at hy; omega)) (by omega) HE1.out).mono ?_
        rintro e w' ⟨v3, rfl, hbn, rfl⟩
        have HBN := Lib.hid hbn
        clear hbn
        have HBl2 := Lib.hid (below_app1 HBl.out HO.out (Nat.le_refl _) hbz HG'.out)
        go_wp2_with fail
        go_ret
        exact ⟨_, rfl, HBN.out, HBl2.out⟩
end Go.Proofs.Ytlkeemphdocpoaa.big
