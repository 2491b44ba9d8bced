/- PLAIN LEAN: the text of a list and of an object that grow by one part; names that stand twice. The law's twice: does a name stand twice? -/
import Derived.Test.YthlncdcfppehcaaDoorGFtx
import Derived.Test.YthlncdcfppehcaaDoorGRow
import Derived.Test.YthlncdcfppehcaaDoorGSpl
import Derived.BigQuiet
section
namespace Go.Proofs.YthlncdcfppehcaaDoor.val
open Go.RowKit mem txt
set_option linter.unusedVariables false

theorem txr_snoc (v : V) : ∀ l : List V, txr (l ++ [v]) = txr l ++ 44 :: tx v
  | [] => by simp [txr]
  | x :: r => by simp [txr, txr_snoc v r]
theorem txs_snoc (l : List V) (v : V) : txs (l ++ [v]) = if l.length = 0 then tx v else txs l ++ 44 :: tx v := by
  cases l with
  | nil => simp [txs, txr]
  | cons x r => simp [txs, txr_snoc]
theorem txg_snoc (s : ByteArray) (v : V) : ∀ l : List (ByteArray × V), txg (l ++ [(s, v)]) = txg l ++ 44 :: (quoteZ s.data.toList ++ 58 :: tx v)
  | [] => by simp [txg]
  | (s', x) :: r => by simp [txg, txg_snoc s v r]
theorem txf_snoc (l : List (ByteArray × V)) (s : ByteArray) (v : V) : txf (l ++ [(s, v)]) = if l.length = 0 then quoteZ s.data.toList ++ 58 :: tx v else txf l ++ 44 :: (quoteZ s.data.toList ++ 58 :: tx v) := by
  cases l with
  | nil => simp [txf, txg]
  | cons x r => obtain ⟨s', x⟩ := x; simp [txf, txg_snoc]
theorem lks_snoc (v : V) : ∀ l : List V, lks l = 0 → lks (l ++ [v]) = lk v
  | [], _ => by simp only [List.nil_append, lks]; split <;> simp_all
  | x :: r, h => by
    simp only [lks] at h
    simp only [List.cons_append, lks]
    by_cases h0 : lk x = 0
    · rw [if_pos h0] at h ⊢
      exact lks_snoc v r h
    · rw [if_neg h0] at h
      exact absurd h h0
theorem oks_snoc (v : V) : ∀ l : List V, oks l → ok v → oks (l ++ [v])
  | [], _, hv => by simp only [List.nil_append, oks]; exact ⟨hv, trivial⟩
  | x :: r, h, hv => by
    simp only [oks] at h
    simp only [List.cons_append, oks]
    exact ⟨h.1, oks_snoc v r h.2 hv⟩
theorem okf_snoc (s : ByteArray) (v : V) : ∀ l : List (ByteArray × V), okf l → s.size ≤ 1048576 → ok v → okf (l ++ [(s, v)])
  | [], _, hs, hv => by simp only [List.nil_append, okf]; exact ⟨hs, hv, trivial⟩
  | (s', x) :: r, h, hs, hv => by
    simp only [okf] at h
    simp only [List.cons_append, okf]
    exact ⟨h.1, h.2.1, okf_snoc s v r h.2.2 hs hv⟩
theorem wts_app (l r : List V) : wts (l ++ r) = wts l + wts r := by
  induction l with
  | nil => simp [wts]
  | cons x l ih => simp only [List.cons_append, wts, ih]; omega
theorem wtf_app (l r : List (ByteArray × V)) : wtf (l ++ r) = wtf l + wtf r := by
  induction l with
  | nil => simp [wtf]
  | cons x l ih => obtain ⟨s, x⟩ := x; simp only [List.cons_append, wtf, ih]; omega
/-- the bytes of names -/
def nbs : List ByteArray → Nat
  | [] => 0
  | s :: r => s.size + nbs r
theorem nbs_app (l r : List ByteArray) : nbs (l ++ r) = nbs l + nbs r := by
  induction l with
  | nil => simp [nbs]
  | cons x l ih => simp only [List.cons_append, nbs, ih]; omega
theorem wtf_map : ∀ l : List (ByteArray × V), wtf l = nbs (l.map (·.1)) + wts (l.map (·.2))
  | [] => by simp [wtf, nbs, wts]
  | (s, v) :: r => by
    have := wtf_map r
    simp only [wtf, List.map_cons, nbs, wts]
    omega
/-- valid names: the fault is that one stands twice, or none -/
theorem nmE_valid : ∀ (l : List (ByteArray × V)) (seen : List ByteArray), (∀ p ∈ l, Lib.validD p.1.data.toList = true) → seen.Nodup →
    (nmE seen l = if (l.map (·.1)).reverse ++ seen |>.Nodup then 0 else 5)
  | [], seen, _, hs => by simp [nmE, hs]
  | (s, v) :: r, seen, hv, hs => by
    simp only [nmE]
    rw [if_pos (hv (s, v) (by simp))]
    by_cases h : s ∈ seen
    · rw [if_pos h, if_neg]
      intro hd
      rw [List.nodup_append] at hd
      exact hd.2.2 s (by simp) s h rfl
    · rw [if_neg h, nmE_valid r (s :: seen) (fun p hp => hv p (by simp [hp])) (List.nodup_cons.2 ⟨h, hs⟩)]
      simp only [List.map_cons, List.reverse_cons, List.append_assoc, List.singleton_append]
open Classical in
theorem nmE_dup (l : List (ByteArray × V)) (hv : ∀ p ∈ l, Lib.validD p.1.data.toList = true) : nmE [] l = if (l.map (·.1)).Nodup then 0 else 5 := by
  rw [nmE_valid l [] hv List.nodup_nil]
  simp only [List.append_nil]
  by_cases h : (l.map (·.1)).Nodup
  · rw [if_pos h, if_pos (by simpa [List.Nodup, List.pairwise_reverse, ne_comm] using h)]
  · rw [if_neg h, if_neg]
    intro hd
    apply h
    simpa [List.Nodup, List.pairwise_reverse, ne_comm] using hd
end Go.Proofs.YthlncdcfppehcaaDoor.val
end
section
namespace Go.Proofs.YthlncdcfppehcaaDoor.look
open Go.RowKit mem txt app smap val
attribute [local go_sem] run_store_float
set_option linter.unusedVariables false

theorem str_ne {a b : ByteArray} (h : a ≠ b) : (a.toList == b.toList) = false := beq_false_of_ne (fun e => h (by rw [ByteArray.toList_eq, ByteArray.toList_eq] at e; exact ByteArray.ext (Array.toList_inj.mp e)))
theorem nodup_step {l : List ByteArray} {i : Nat} {s : ByteArray} (hi : l[i]? = some s) (h : (l.take i).Nodup) (hs : s ∉ l.take i) : (l.take (i + 1)).Nodup := by
  rw [List.take_add_one, hi, Option.toList_some, List.nodup_append]
  exact ⟨h, by simp, fun a ha b hb => by simp at hb; subst hb; intro e; subst e; exact hs ha⟩
theorem not_nodup {l : List ByteArray} {i j : Nat} {s : ByteArray} (hi : l[i]? = some s) (hj : l[j]? = some s) (hij : j < i) : ¬ l.Nodup := by
  intro h
  obtain ⟨h1, e1⟩ := List.getElem?_eq_some_iff.1 hi
  obtain ⟨h2, e2⟩ := List.getElem?_eq_some_iff.1 hj
  exact (List.pairwise_iff_getElem.1 h j i h2 h1 hij) (by rw [e1, e2])
theorem not_mem_step {l : List ByteArray} {j : Nat} {s s' : ByteArray} (hj : l[j]? = some s') (h : s ∉ l.take j) (hne : s ≠ s') : s ∉ l.take (j + 1) := by
  rw [List.take_add_one, hj, Option.toList_some]
  simp [h, hne]
theorem below_drewN {B : Nat} {w w' : World} (h : Below B w w') (n : Nat) : Below B w (w'.drewN n) := ⟨h.os, h.tape, h.output, h.size, h.block⟩
open Classical in
set_option maxRecDepth 100000 in
set_option maxHeartbeats 4000000 in
theorem twice_any (ns : List ByteArray) (ad : Addr) (n c : Nat) (A : Option Addr) (w : World) (hl : ns.length = n) (hn : n ≤ 1048576) (hA : 0 < n → A = some ad) (had : 0 < n → ad.block < w.heap.size) (hcell : ∀ (W : World), Below w.heap.size w W → ∀ (j : Nat) (s : ByteArray), ns[j]? = some s → W.cell? (ad.add (j * 9)) = some (.string s)) :
    Calls Tryd.prog 11 #[.slice A n c] w fun e w' => e = .returned (.bool (decide (¬ ns.Nodup))) ∧ Below w.heap.size w w' := by
  have HC := Lib.hid hcell
  have HN := Lib.hid hl
  have HA := Lib.hid hA
  clear hcell hl hA
  obtain ⟨r, hr⟩ : ∃ r, decide (¬ ns.Nodup) = r := ⟨_, rfl⟩
  rw [hr]
  have HR := Lib.hid hr
  clear hr
  go_enter Tryd.func11, Tryd.ntmps11
  go_wp2_with fail
  go_loopw [3] (fun v3 wr => ∃ (i : Nat), i ≤ n ∧ v3 = .int .i64 (i : Int) ∧ Hid (Below w.heap.size w wr) ∧ Hid ((ns.take i).Nodup)) (fun v _ => n - (intOf v).toNat)
  case atStart => exact ⟨0, Nat.zero_le _, rfl, Lib.hid (Below.refl _ _), Lib.hid (by simp)⟩
  case round =>
    obtain ⟨i, hi, rfl, HB, HD⟩ := hrel
    by_cases hlt : i < n
    · obtain ⟨s, hs⟩ : ∃ p, ns[i]? = some p := ⟨_, List.getElem?_eq_getElem (by rw [HN.out]; exact hlt)⟩
      have HS := Lib.hid hs
      obtain rfl := HA.out (by omega)
      have hi0 : (0 : Int) ≤ (i : Int) := by omega
      have hin : (i : Int) < (n : Int) := by omega
      clear hs
      go_wp2_with fail
      go_loopw [4] (fun v4 wr => ∃ (j : Nat), j ≤ i ∧ v4 = .int .i64 (j : Int) ∧ Hid (Below w.heap.size w wr) ∧ Hid (s ∉ ns.take j)) (fun v _ => i - (intOf v).toNat)
      case atStart => exact ⟨0, Nat.zero_le _, rfl, HB, Lib.hid (by simp)⟩
      case round =>
        clear HB
        obtain ⟨j, hj, rfl, HB, HJ⟩ := hrel
        by_cases hlj : j < i
        · obtain ⟨s', hs'⟩ : ∃ p, ns[j]? = some p := ⟨_, List.getElem?_eq_getElem (by rw [HN.out]; omega)⟩
          have c1 := HC.out wr HB.out i s HS.out
          have c2 := HC.out wr HB.out j s' hs'
          have hj0 : (0 : Int) ≤ (j : Int) := by omega
          have hjn : (j : Int) < (n : Int) := by omega
          have hjl : (j : Int) < (i : Int) := by omega
          have HS2 := Lib.hid hs'
          clear hs'
          by_cases he : s = s'
          · have HE := Lib.hid he
            have hq : (s.toList == s'.toList) = true := by rw [he]; simp
            clear he
            have HR1 : Hid (r = true) := Lib.hid (by rw [← HR.out]; exact decide_eq_true (not_nodup HS.out (by rw [HE.out]; exact HS2.out) hlj))
            go_upto_region 7 with (fail)
            go_quiet (fail)
            go_wp2_with fail
            go_ret
            exact ⟨by simp [HR1.out], below_drewN HB.out nq⟩
          · have hq : (s.toList == s'.toList) = false := str_ne he
            have HJ2 : Hid (s ∉ ns.take (j + 1)) := Lib.hid (not_mem_step HS2.out HJ.out he)
            clear he
            go_upto_region 7 with (fail)
            go_quiet (fail)
            go_wp2_with fail
            exact ⟨⟨j + 1, by omega, by go_num, Lib.hid (below_drewN HB.out nq), HJ2⟩, by simp [intOf]; omega⟩
        · obtain rfl : j = i := by omega
          have HD2 : Hid ((ns.take (j + 1)).Nodup) := Lib.hid (nodup_step HS.out HD.out HJ.out)
          go_wp2_with fail
          exact ⟨⟨j + 1, by omega, by go_num, HB, HD2⟩, by simp [intOf]; omega⟩
    · obtain rfl : i = n := by omega
      have HR1 : Hid (r = false) := Lib.hid (by
        have h := HD.out
        rw [List.take_of_length_le (by rw [HN.out]; exact Nat.le_refl _)] at h
        rw [← HR.out]
        exact decide_eq_false (fun hh => hh h))
      go_wp2_with fail
      go_ret
      exact ⟨by simp [HR1.out], HB.out⟩
end Go.Proofs.YthlncdcfppehcaaDoor.look
end
