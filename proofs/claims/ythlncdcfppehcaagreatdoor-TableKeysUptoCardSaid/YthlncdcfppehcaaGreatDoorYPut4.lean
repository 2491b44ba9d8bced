/- The reference's put, whatever the value without a fault. -/
import Derived.Test.YthlncdcfppehcaaGreatDoorYPut3
namespace Go.Proofs.YthlncdcfppehcaaGreatDoor.look
open Go.RowKit mem txt app smap val
set_option linter.unusedVariables false

theorem lk_string {b : Bool} {i : Int} {f : Nat} {t y : ByteArray} {is : List V} {fs : List (ByteArray × V)} (h : lk (.mk 4 b i f t y is fs) = 0) : Lib.validD t.data.toList = true := by
  simp only [lk] at h
  rw [if_neg (by omega), if_neg (by omega), if_pos trivial] at h
  cases hv : Lib.validD t.data.toList with
  | true => rfl
  | false => rw [hv] at h; simp at h
theorem lk_items {b : Bool} {i : Int} {f : Nat} {t y : ByteArray} {is : List V} {fs : List (ByteArray × V)} (h : lk (.mk 5 b i f t y is fs) = 0) : lks is = 0 := by
  simp only [lk] at h
  rwa [if_neg (by omega), if_neg (by omega), if_neg (by omega), if_pos trivial] at h
theorem lk_members {b : Bool} {i : Int} {f : Nat} {t y : ByteArray} {is : List V} {fs : List (ByteArray × V)} (h : lk (.mk 6 b i f t y is fs) = 0) : nmE [] fs = 0 ∧ lkf fs = 0 := by
  simp only [lk] at h
  rw [if_neg (by omega), if_neg (by omega), if_neg (by omega), if_neg (by omega), if_pos trivial] at h
  split at h
  · exact ⟨by assumption, h⟩
  · exact absurd h (by assumption)
theorem put_any : ∀ (N : Nat) (x : V), sz x ≤ N → N ≤ 1048576 → ok x → lk x = 0 → ∀ (cs : List Value) (B : Nat) (v : Value) (l : Nat) (xs : List Value) (w : World) (S : Nat → Prop), IsV w S x cs → Bel S B → w.ownsRow B 5 1 v l xs → B ≤ w.heap.size → l + (tx x).length ≤ 1099511627776 →
    Calls Tryz.prog 31 #[v, .agg cs.toArray] w (RowP B l v xs (tx x) w) := by
  intro N
  induction N with
  | zero => intro v hv; have := sz_pos v; omega
  | succ N ih =>
    intro x hv hN hok hlk cs B v l xs w S hV hS hown hB hl
    obtain ⟨k, b, i, f, t, y, is, fs⟩ := x
    simp only [IsV] at hV
    obtain ⟨A, c, A', c', rfl, hA, hA', his, hfs⟩ := hV
    simp only [sz] at hv
    simp only [ok] at hok
    obtain ⟨⟨hi1, hi2, hf, ht, hy⟩, hos, hof⟩ := hok
    have hl1 := szs_len is
    have hl2 := szf_len fs
    have hl0 : l ≤ 1099511627776 := by omega
    by_cases c4 : k = 4
    · subst c4
      have e : tx (.mk 4 b i f t y is fs) = quoteZ t.data.toList := by simp [tx]
      rw [e]
      exact put_string b i f t y A A' _ _ c c' B v l xs w 4 rfl ht (lk_string hlk) hown hB hl0
    by_cases c5 : k = 5
    · subst c5
      have e : tx (.mk 5 b i f t y is fs) = 91 :: (txs is ++ [93]) := by simp [tx]
      rw [e] at hl ⊢
      simp only [List.length_cons, List.length_append, List.length_nil] at hl
      exact put_items b i f t y A A' _ _ c c' B v l xs w (txs is) hown hB (by omega) (fun v2 l2 xs2 W hW ho2 hB2 hl2 =>
        items_any A _ c B v2 l2 xs2 W S 1099511627776 (Nat.le_refl _) is rfl (by omega) (his.below hS hW) hS ho2 hB2 hl2 (fun j x hx cs v l xs W hV hW ho hB hl => ih x (by have := szs_get hx; omega) (by omega) (oks_get hos hx) (lks_get (lk_items hlk) hx) cs B v l xs W S hV hS ho hB hl))
    by_cases c6 : k = 6
    · subst c6
      have e : tx (.mk 6 b i f t y is fs) = 123 :: (txf fs ++ [125]) := by simp [tx]
      obtain ⟨e1, e2⟩ := lk_members hlk
      rw [e] at hl ⊢
      simp only [List.length_cons, List.length_append, List.length_nil] at hl
      exact put_members b i f t y A A' _ _ c c' B v l xs w (txf fs) hown hB (by omega) (fun v2 l2 xs2 W hW ho2 hB2 hl2 =>
        members_any A' _ c' B v2 l2 xs2 W S 1099511627776 (Nat.le_refl _) fs rfl (by omega) (hfs.below hS hW) hS hof e1 ho2 hB2 hl2 (fun j s x hx cs v l xs W hV hW ho hB hl => ih x (by have := szf_get hx; simp only at this; omega) (by omega) (okf_get hof hx).2 (lkf_get e2 hx) cs B v l xs W S hV hS ho hB hl))
    simp only [tx] at hl ⊢
    by_cases c1 : k = 1
    · rw [if_pos c1]
      exact put_bool b i f t y A A' _ _ c c' B v l xs w k c1 hown hB hl0
    rw [if_neg c1] at hl ⊢
    by_cases c2 : k = 2
    · rw [if_pos c2]
      exact put_int b i f t y A A' _ _ c c' B v l xs w k c2 hi1 hi2 hown hB hl0
    rw [if_neg c2] at hl ⊢
    by_cases c3 : k = 3
    · rw [if_pos c3]
      exact put_float b i f t y A A' _ _ c c' B v l xs w k c3 hf hown hB hl0
    rw [if_neg c3, if_neg c4, if_neg c5, if_neg c6]
    exact put_null b i f t y A A' _ _ c c' B v l xs w k (by omega) hown hB hl0
end Go.Proofs.YthlncdcfppehcaaGreatDoor.look
