/- The reference's bare and noughts, walked. -/
import Derived.Test.YtdaaokmoaaglpaaGreatDoorGRp
import Derived.Test.YtdaaokmoaaglpaaGreatDoorYLa
import Derived.Test.YtdaaokmoaaglpaaGreatDoorGFlt
namespace Go.Proofs.YtdaaokmoaaglpaaGreatDoor.rt
open Go.RowKit mem fl big sh uw pg
set_option linter.unusedVariables false

theorem last_take (r : Nat) (h : ¬ r < 10) : (dgs r).take ((dgs r).length - 1) = dgs (r / 10) := by
  rw [dgs_step r h, List.length_append]
  simp
theorem last_get (r : Nat) (m : Nat) (hm : (dgs r).length = m + 1) : (dgs r).getD m 0 = 48 + r % 10 := by
  by_cases h : r < 10
  · rw [dgs_small r h] at hm ⊢
    simp at hm
    subst hm
    rfl
  · rw [dgs_step r h] at hm ⊢
    rw [List.length_append] at hm
    have hm2 : (dgs (r / 10)).length = m := by simpa using hm
    rw [List.getD_eq_getElem?_getD, List.getElem?_append_right (by omega), hm2]
    simp
def BrPost (q : Nat) (x : Int) (w : World) (e : Ending) (w' : World) : Prop := ∃ (r k : Nat), q = r * 10 ^ k ∧ r % 10 ≠ 0 ∧ e = .returned (.tuple #[.string (strN (dgs r)), .int .i64 ((dgs r).length + (x + k))]) ∧ w' = w
set_option maxRecDepth 100000 in
theorem bare_any (q : Nat) (x : Int) (w : World) (hq0 : 0 < q) (hq : q < 18446744073709551616) (hx1 : -5000 ≤ x) (hx2 : x ≤ 5000) :
    Calls Tryz.prog 65 #[.string (strN (dgs q)), .int .i64 x] w (BrPost q x w) := by
  have hlen : (strN (dgs q)).size = (dgs q).length := strN_size _
  have h20 : (dgs q).length ≤ 20 := by rw [dgs_length]; exact nd20 q hq
  obtain ⟨n, hn⟩ : ∃ n, (dgs q).length = n := ⟨_, rfl⟩
  rw [hn] at hlen h20
  have HN := Lib.hid hn
  go_enter Tryz.func65, Tryz.ntmps65
  go_wp2_with fail
  go_loopw [0] (fun v0 wr => ∃ (r k m : Nat), v0 = .string (strN (dgs r)) ∧ wr = w ∧ (strN (dgs r)).size = m + 1 ∧ m ≤ 20 ∧ Hid (q = r * 10 ^ k ∧ 0 < r ∧ (dgs r).length = m + 1 ∧ n = m + 1 + k)) (fun v0 _ => match v0 with | .string s => s.size | _ => 0)
  case atStart =>
    have h1 := Lib.nDigits_pos q
    have h2 := dgs_length q
    exact ⟨q, 0, n - 1, rfl, rfl, by omega, by omega, Lib.hid ⟨by simp, hq0, by omega, by omega⟩⟩
  case round =>
    obtain ⟨r, k, m, rfl, rfl, hsz, hm20, hst⟩ := hrel
    obtain ⟨S, hS⟩ : ∃ S, strN (dgs r) = S := ⟨_, rfl⟩
    have hge : m < S.size := by rw [← hS]; omega
    have hlast : (S[m]).toNat = 48 + r % 10 := by
      subst hS
      have h1 := nats_get (strN (dgs r)) m hge
      have h3 := nats_strN (dgs r) (fun c hc => by have := dgs_bytes r c hc; omega)
      have h2 := last_get r m hst.out.2.2.1
      rw [← h1]
      rw [List.getD_eq_getElem?_getD, List.getElem?_eq_getElem (by have := hst.out.2.2.1; omega)] at h2
      simp only [h3]
      exact h2
    have HS := Lib.hid hS
    rw [hS] at hsz ⊢
    obtain ⟨ch, hch⟩ : ∃ ch, (S[m]).toNat = ch := ⟨_, rfl⟩
    have HL := Lib.hid (hch.symm.trans hlast)
    clear hS hlast
    by_cases hm0 : m = 0
    · subst hm0
      have hr10 : r < 10 := by
        rcases Nat.lt_or_ge r 10 with h | h
        · exact h
        · have h1 := hst.out.2.2.1
          rw [dgs_step r (by omega)] at h1
          have h2 := Lib.nDigits_pos (r / 10)
          rw [← dgs_length] at h2
          simp only [List.length_append, List.length_cons, List.length_nil] at h1
          omega
      have HR := Lib.hid hr10
      clear hr10
      go_wp2_with fail
      go_ret2
      refine ⟨r, k, hst.out.1, by have := HR.out; have := hst.out.2.1; omega, ?_, rfl⟩
      rw [HS.out, hst.out.2.2.1]
      have h9 := hst.out.2.2.2
      have e : (n : Int) + x = ((0 + 1 : Nat) : Int) + (x + k) := by omega
      exact congrArg (fun z => Ending.returned (.tuple #[.string S, .int .i64 z])) e
    · by_cases h48 : ch = 48
      · subst h48
        have hnr : ¬ r < 10 := by
          intro h
          have h1 := hst.out.2.2.1
          rw [dgs_small r h] at h1
          simp at h1
          omega
        have hext : S.extract 0 m = strN (dgs (r / 10)) := by
          rw [← HS.out, strN_take, ← last_take r hnr, hst.out.2.2.1]
          rfl
        have HE := Lib.hid hext
        have hrm := HL.out
        have HNx : Hid (q = r / 10 * 10 ^ (k + 1) ∧ 0 < r / 10 ∧ (dgs (r / 10)).length = m - 1 + 1 ∧ n = m - 1 + 1 + (k + 1)) := Lib.hid (by
          obtain ⟨a1, a2, a3, a4⟩ := hst.out
          refine ⟨?_, by omega, ?_, by omega⟩
          · rw [Nat.pow_succ, Nat.mul_comm (10 ^ k) 10, ← Nat.mul_assoc, Nat.div_mul_cancel (Nat.dvd_of_mod_eq_zero (by omega))]
            exact a1
          · rw [dgs_step r hnr, List.length_append] at a3
            simp at a3
            omega)
        have hsz2 : (strN (dgs (r / 10))).size = m - 1 + 1 := by rw [strN_size]; exact HNx.out.2.2.1
        clear hext hnr hrm
        go_wp2_with fail
        exact ⟨⟨r / 10, k + 1, m - 1, by rw [HE.out], trivial, hsz2, by omega, HNx⟩, by simp; omega⟩
      · have q1 : ((ch : Int) == 48) = false := beq_false_of_ne (by omega)
        go_wp2_with fail
        go_ret2
        refine ⟨r, k, hst.out.1, by have := HL.out; omega, ?_, rfl⟩
        rw [HS.out, hst.out.2.2.1]
        have h9 := hst.out.2.2.2
        have e : (n : Int) + x = ((m + 1 : Nat) : Int) + (x + k) := by omega
        exact congrArg (fun z => Ending.returned (.tuple #[.string S, .int .i64 z])) e
end Go.Proofs.YtdaaokmoaaglpaaGreatDoor.rt
