/- Codes: the bytes of a text as numbers, in new memory; sameForm. -/
import Derived.Test.YtgmcglicnhafcaaPfxLoops
import Derived.KernelRfl
namespace Go.Proofs.Ytgmcglicnhafcaa.pfx
open Go.RowKit mem

theorem info21 : (Try.prog.info? 21).map (fun i => (i.zero, i.size, i.bytes)) = some (some (.int .i32 0), 1, 4) := by kernel_rfl
theorem info5 : (Try.prog.info? 5).map (fun i => (i.zero, i.size, i.bytes)) = some (some (.int .u8 0), 1, 1) := by kernel_rfl

/-- the bytes of a string as numbers -/
def bts (s : ByteArray) : List Int := s.data.toList.map fun b => (b.toNat : Int)
theorem bts_len (s : ByteArray) : (bts s).length = s.size := by simp [bts]
theorem bts_snoc (s : ByteArray) (k : Nat) (h : k < s.size) : (bts s).take (k + 1) = (bts s).take k ++ [((s[k]).toNat : Int)] := by
  rw [List.take_succ_eq_append_getElem (by rw [bts_len]; exact h)]
  simp [bts]
  rfl
theorem bts_range (s : ByteArray) : ∀ x ∈ bts s, 0 ≤ x ∧ x ≤ 255 := by
  intro x hx
  simp [bts] at hx
  obtain ⟨b, _, rfl⟩ := hx
  have := b.toNat_lt
  omega

theorem sameForm_any (a b : Int) (w : World) : Calls Try.prog 41 #[.int .i64 a, .int .i64 b] w fun e w' => e = .returned (.bool (a == b)) ∧ w = w' := by
  go_enter Try.func41, Try.ntmps41
  go_wp2
  go_ret
  exact ⟨rfl, rfl⟩

def CodesPost (s : ByteArray) (w : World) (e : Ending) (w' : World) : Prop := ∃ v, e = .returned v ∧ w'.ownsRow w.heap.size 21 1 v s.size ((bts s).map (.int .i32)) ∧ Below w.heap.size w w'

theorem codes_any (s : ByteArray) (w : World) (hs : s.size ≤ 4194304) : Calls Try.prog 40 #[.string s] w (CodesPost s w) := by
  obtain ⟨i0, hi, hz0, hz1, hz2⟩ := info_parts info21
  go_enter Try.func40, Try.ntmps40
  go_wp2
  go_loopw [3, 4] (fun v i wr => ∃ k : Nat, k ≤ s.size ∧ i = .int .i64 (k : Int) ∧ wr.ownsRow w.heap.size 21 1 v k (((bts s).take k).map (.int .i32)) ∧ Below w.heap.size w wr) (fun _ i _ => s.size - (intOf i).toNat)
  case atStart => exact ⟨0, Nat.zero_le _, rfl, World.ownsRow_nil _ _ _ _, Below.refl _ _⟩
  case round =>
    obtain ⟨k, hk, rfl, hown, hb⟩ := hrel
    by_cases hlt : k < s.size
    · obtain ⟨A, c, rfl, hA, hAc, hcm⟩ := own_form hown
      have hrange : 0 ≤ ((s[k]).toNat : Int) ∧ ((s[k]).toNat : Int) ≤ 255 := by have := (s[k]).toNat_lt; omega
      have hsn := Lib.hid (bts_snoc s k hlt)
      have hsz := hb.size
      go_wp2_with (at_builtin; refine wpList_app _ rfl (.tmp 11) (.tmp 16) _ rfl w.heap.size 21 i0 _ 1 4 Try.underlying66 hi hz0 hz1 hz2 rfl (by omega) (.slice A k c) k _ rfl (hown.alloc _) (wr.heap.size + 1) (some ⟨wr.heap.size, 0, none⟩) 1 1 [.int .i32 ((s[k]).toNat : Int)] rfl rfl (Rd.one _ _ _) (by simp) (by simp; rfl) (by unfold maxLen; omega) (by omega) (by simp; omega) ?_; intro v' w1 hown' hgrow hat)
      have hb1 := below_app1 hb hown (Nat.le_refl _) hsz hgrow
      exact ⟨⟨k + 1, by omega, by go_num, by rw [hsn.out]; simpa using hown', hb1⟩, by simp [intOf]; omega⟩
    · obtain rfl : k = s.size := by omega
      have hown2 := hown
      rw [List.take_of_length_le (by rw [bts_len]; exact Nat.le_refl _)] at hown2
      clear hown
      go_wp2
      go_ret
      exact ⟨_, rfl, hown2, hb⟩
end Go.Proofs.Ytgmcglicnhafcaa.pfx
