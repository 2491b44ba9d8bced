/- PLAIN LEAN: the text of a list and of an object that grow by one part; names that stand twice. The law's twice: does a name stand twice? JsonoutBuilds: the state of its loop. -/
import Derived.Test.YthlncdcfppehcaaDoorGFtx
import Derived.Test.YthlncdcfppehcaaDoorGRow
import Derived.Test.YthlncdcfppehcaaDoorGSpl
import Derived.BigQuiet
import Derived.Test.YthlncdcfppehcaaDoorYLit3
section
namespace Go.Proofs.YthlncdcfppehcaaDoor.val
open Go.RowKit mem txt
set_option linter.unusedVariables false

theorem txr_snoc (v : V) : ∀ l : List V, txr (l ++ [v]) = txr l ++ 44 :: tx v
  | [] => by simp [txr]
  | x :: r => by simp [txr, txr_snoc v r]
theorem txs_snoc (l : List V) (v : V) : txs (l ++ [v]) = if l.length = 0 then tx v else txs l ++ 44 :: tx v := by
  cases l with
  | nil => simp [txs, txr]
  | cons x r => simp [txs, txr_snoc]
theorem txg_snoc (s : ByteArray) (v : V) : ∀ l : List (ByteArray × V), txg (l ++ [(s, v)]) = txg l ++ 44 :: (quoteZ s.data.toList ++ 58 :: tx v)
  | [] => by simp [txg]
  | (s', x) :: r => by simp [txg, txg_snoc s v r]
theorem txf_snoc (l : List (ByteArray × V)) (s : ByteArray) (v : V) : txf (l ++ [(s, v)]) = if l.length = 0 then quoteZ s.data.toList ++ 58 :: tx v else txf l ++ 44 :: (quoteZ s.data.toList ++ 58 :: tx v) := by
  cases l with
  | nil => simp [txf, txg]
  | cons x r => obtain ⟨s', x⟩ := x; simp [txf, txg_snoc]
theorem lks_snoc (v : V) : ∀ l : List V, lks l = 0 → lks (l ++ [v]) = lk v
  | [], _ => by simp only [List.nil_append, lks]; split <;> simp_all
  | x :: r, h => by
    simp only [lks] at h
    simp only [List.cons_append, lks]
    by_cases h0 : lk x = 0
    · rw [if_pos h0] at h ⊢
      exact lks_snoc v r h
    · rw [if_neg h0] at h
      exact absurd h h0
theorem oks_snoc (v : V) : ∀ l : List V, oks l → ok v → oks (l ++ [v])
  | [], _, hv => by simp only [List.nil_append, oks]; exact ⟨hv, trivial⟩
  | x :: r, h, hv => by
    simp only [oks] at h
    simp only [List.cons_append, oks]
    exact ⟨h.1, oks_snoc v r h.2 hv⟩
theorem okf_snoc (s : ByteArray) (v : V) : ∀ l : List (ByteArray × V), okf l → s.size ≤ 1048576 → ok v → okf (l ++ [(s, v)])
  | [], _, hs, hv => by simp only [List.nil_append, okf]; exact ⟨hs, hv, trivial⟩
  | (s', x) :: r, h, hs, hv => by
    simp only [okf] at h
    simp only [List.cons_append, okf]
    exact ⟨h.1, h.2.1, okf_snoc s v r h.2.2 hs hv⟩
theorem wts_app (l r : List V) : wts (l ++ r) = wts l + wts r := by
  induction l with
  | nil => simp [wts]
  | cons x l ih => simp only [List.cons_append, wts, ih]; omega
theorem wtf_app (l r : List (ByteArray × V)) : wtf (l ++ r) = wtf l + wtf r := by
  induction l with
  | nil => simp [wtf]
  | cons x l ih => obtain ⟨s, x⟩ := x; simp only [List.cons_append, wtf, ih]; omega
/-- the bytes of names -/
def nbs : List ByteArray → Nat
  | [] => 0
  | s :: r => s.size + nbs r
theorem nbs_app (l r : List ByteArray) : nbs (l ++ r) = nbs l + nbs r := by
  induction l with
  | nil => simp [nbs]
  | cons x l ih => simp only [List.cons_append, nbs, ih]; omega
theorem wtf_map : ∀ l : List (ByteArray × V), wtf l = nbs (l.map (·.1)) + wts (l.map (·.2))
  | [] => by simp [wtf, nbs, wts]
  | (s, v) :: r => by
    have := wtf_map r
    simp only [wtf, List.map_cons, nbs, wts]
    omega
/-- valid names: the fault is that one stands twice, or none -/
theorem nmE_valid : ∀ (l : List (ByteArray × V)) (seen : List ByteArray), (∀ p ∈ l, Lib.validD p.1.data.toList = true) → seen.Nodup →
    (nmE seen l = if (l.map (·.1)).reverse ++ seen |>.Nodup then 0 else 5)
  | [], seen, _, hs => by simp [nmE, hs]
  | (s, v) :: r, seen, hv, hs => by
    simp only [nmE]
    rw [if_pos (hv (s, v) (by simp))]
    by_cases h : s ∈ seen
    · rw [if_pos h, if_neg]
      intro hd
      rw [List.nodup_append] at hd
      exact hd.2.2 s (by simp) s h rfl
    · rw [if_neg h, nmE_valid r (s :: seen) (fun p hp => hv p (by simp [hp])) (List.nodup_cons.2 ⟨h, hs⟩)]
      simp only [List.map_cons, List.reverse_cons, List.append_assoc, List.singleton_append]
open Classical in
theorem nmE_dup (l : List (ByteArray × V)) (hv : ∀ p ∈ l, Lib.validD p.1.data.toList = true) : nmE [] l = if (l.map (·.1)).Nodup then 0 else 5 := by
  rw [nmE_valid l [] hv List.nodup_nil]
  simp only [List.append_nil]
  by_cases h : (l.map (·.1)).Nodup
  · rw [if_pos h, if_pos (by simpa [List.Nodup, List.pairwise_reverse, ne_comm] using h)]
  · rw [if_neg h, if_neg]
    intro hd
    apply h
    simpa [List.Nodup, List.pairwise_reverse, ne_comm] using hd
end Go.Proofs.YthlncdcfppehcaaDoor.val
end
section
namespace Go.Proofs.YthlncdcfppehcaaDoor.look
open Go.RowKit mem txt app smap val
attribute [local go_sem] run_store_float
set_option linter.unusedVariables false

theorem str_ne {a b : ByteArray} (h : a ≠ b) : (a.toList == b.toList) = false := beq_false_of_ne (fun e => h (by rw [ByteArray.toList_eq, ByteArray.toList_eq] at e; exact ByteArray.ext (Array.toList_inj.mp e)))
theorem nodup_step {l : List ByteArray} {i : Nat} {s : ByteArray} (hi : l[i]? = some s) (h : (l.take i).Nodup) (hs : s ∉ l.take i) : (l.take (i + 1)).Nodup := by
  rw [List.take_add_one, hi, Option.toList_some, List.nodup_append]
  exact ⟨h, by simp, fun a ha b hb => by simp at hb; subst hb; intro e; subst e; exact hs ha⟩
theorem not_nodup {l : List ByteArray} {i j : Nat} {s : ByteArray} (hi : l[i]? = some s) (hj : l[j]? = some s) (hij : j < i) : ¬ l.Nodup := by
  intro h
  obtain ⟨h1, e1⟩ := List.getElem?_eq_some_iff.1 hi
  obtain ⟨h2, e2⟩ := List.getElem?_eq_some_iff.1 hj
  exact (List.pairwise_iff_getElem.1 h j i h2 h1 hij) (by rw [e1, e2])
theorem not_mem_step {l : List ByteArray} {j : Nat} {s s' : ByteArray} (hj : l[j]? = some s') (h : s ∉ l.take j) (hne : s ≠ s') : s ∉ l.take (j + 1) := by
  rw [List.take_add_one, hj, Option.toList_some]
  simp [h, hne]
theorem below_drewN {B : Nat} {w w' : World} (h : Below B w w') (n : Nat) : Below B w (w'.drewN n) := ⟨h.os, h.tape, h.output, h.size, h.block⟩
open Classical in
set_option maxRecDepth 100000 in
set_option maxHeartbeats 4000000 in
theorem twice_any (ns : List ByteArray) (ad : Addr) (n c : Nat) (A : Option Addr) (w : World) (hl : ns.length = n) (hn : n ≤ 1048576) (hA : 0 < n → A = some ad) (had : 0 < n → ad.block < w.heap.size) (hcell : ∀ (W : World), Below w.heap.size w W → ∀ (j : Nat) (s : ByteArray), ns[j]? = some s → W.cell? (ad.add (j * 9)) = some (.string s)) :
    Calls Tryd.prog 11 #[.slice A n c] w fun e w' => e = .returned (.bool (decide (¬ ns.Nodup))) ∧ Below w.heap.size w w' := by
  have HC := Lib.hid hcell
  have HN := Lib.hid hl
  have HA := Lib.hid hA
  clear hcell hl hA
  obtain ⟨r, hr⟩ : ∃ r, decide (¬ ns.Nodup) = r := ⟨_, rfl⟩
  rw [hr]
  have HR := Lib.hid hr
  clear hr
  go_enter Tryd.func11, Tryd.ntmps11
  go_wp2_with fail
  go_loopw [3] (fun v3 wr => ∃ (i : Nat), i ≤ n ∧ v3 = .int .i64 (i : Int) ∧ Hid (Below w.heap.size w wr) ∧ Hid ((ns.take i).Nodup)) (fun v _ => n - (intOf v).toNat)
  case atStart => exact ⟨0, Nat.zero_le _, rfl, Lib.hid (Below.refl _ _), Lib.hid (by simp)⟩
  case round =>
    obtain ⟨i, hi, rfl, HB, HD⟩ := hrel
    by_cases hlt : i < n
    · obtain ⟨s, hs⟩ : ∃ p, ns[i]? = some p := ⟨_, List.getElem?_eq_getElem (by rw [HN.out]; exact hlt)⟩
      have HS := Lib.hid hs
      obtain rfl := HA.out (by omega)
      have hi0 : (0 : Int) ≤ (i : Int) := by omega
      have hin : (i : Int) < (n : Int) := by omega
      clear hs
      go_wp2_with fail
      go_loopw [4] (fun v4 wr => ∃ (j : Nat), j ≤ i ∧ v4 = .int .i64 (j : Int) ∧ Hid (Below w.heap.size w wr) ∧ Hid (s ∉ ns.take j)) (fun v _ => i - (intOf v).toNat)
      case atStart => exact ⟨0, Nat.zero_le _, rfl, HB, Lib.hid (by simp)⟩
      case round =>
        clear HB
        obtain ⟨j, hj, rfl, HB, HJ⟩ := hrel
        by_cases hlj : j < i
        · obtain ⟨s', hs'⟩ : ∃ p, ns[j]? = some p := ⟨_, List.getElem?_eq_getElem (by rw [HN.out]; omega)⟩
          have c1 := HC.out wr HB.out i s HS.out
          have c2 := HC.out wr HB.out j s' hs'
          have hj0 : (0 : Int) ≤ (j : Int) := by omega
          have hjn : (j : Int) < (n : Int) := by omega
          have hjl : (j : Int) < (i : Int) := by omega
          have HS2 := Lib.hid hs'
          clear hs'
          by_cases he : s = s'
          · have HE := Lib.hid he
            have hq : (s.toList == s'.toList) = true := by rw [he]; simp
            clear he
            have HR1 : Hid (r = true) := Lib.hid (by rw [← HR.out]; exact decide_eq_true (not_nodup HS.out (by rw [HE.out]; exact HS2.out) hlj))
            go_upto_region 7 with (fail)
            go_quiet (fail)
            go_wp2_with fail
            go_ret
            exact ⟨by simp [HR1.out], below_drewN HB.out nq⟩
          · have hq : (s.toList == s'.toList) = false := str_ne he
            have HJ2 : Hid (s ∉ ns.take (j + 1)) := Lib.hid (not_mem_step HS2.out HJ.out he)
            clear he
            go_upto_region 7 with (fail)
            go_quiet (fail)
            go_wp2_with fail
            exact ⟨⟨j + 1, by omega, by go_num, Lib.hid (below_drewN HB.out nq), HJ2⟩, by simp [intOf]; omega⟩
        · obtain rfl : j = i := by omega
          have HD2 : Hid ((ns.take (j + 1)).Nodup) := Lib.hid (nodup_step HS.out HD.out HJ.out)
          go_wp2_with fail
          exact ⟨⟨j + 1, by omega, by go_num, HB, HD2⟩, by simp [intOf]; omega⟩
    · obtain rfl : i = n := by omega
      have HR1 : Hid (r = false) := Lib.hid (by
        have h := HD.out
        rw [List.take_of_length_le (by rw [HN.out]; exact Nat.le_refl _)] at h
        rw [← HR.out]
        exact decide_eq_false (fun hh => hh h))
      go_wp2_with fail
      go_ret
      exact ⟨by simp [HR1.out], HB.out⟩
end Go.Proofs.YthlncdcfppehcaaDoor.look
end
section
namespace Go.Proofs.YthlncdcfppehcaaDoor.look
open Go.RowKit mem txt app smap val
set_option linter.unusedVariables false

theorem row_set {α : Type} {T : TypeId} {size : Nat} {R : World → (Nat → Prop) → α → List Value → Prop} (hR : Rec size R) {W : World} {B : Nat} {S : Nat → Prop} {v : Value} {l : List α} (h : Row T size R W B S v l) {a : Addr} (hS : Bel S a.block) (ha : a.block < B) (u : Value) : Row T size R (W.setCell a u) B S v l := by
  obtain ⟨css, h1, h2⟩ := h
  exact ⟨css, ownsRow_setCell_below h1 ha u, h2.keep hR (fun p hp => World.cell?_of_block (Below.heap_setCell W a u p.block (by have := hS _ hp; omega))) (fun _ h => h)⟩
theorem row_isVs {W : World} {B : Nat} {S : Nat → Prop} {A : Option Addr} {n c : Nat} {l : List V} (h : Row 30 8 IsV W B S (.slice A n c) l) : IsVs W (fun b => b < W.heap.size) l A 0 ∨ ¬ Bel S W.heap.size := by
  by_cases hS : Bel S W.heap.size
  · left
    refine IsVs.of fun i x hx => ?_
    obtain ⟨ad, cs, e, hlt, hc, hR⟩ := h.at_ recV hx
    rw [Nat.zero_add]
    exact ⟨ad, cs, e, hlt, hc, hR.more fun b hb => hS b hb⟩
  · exact .inr hS
theorem row_isFs {W : World} {B : Nat} {S : Nat → Prop} {A : Option Addr} {n c : Nat} {l : List (ByteArray × V)} (h : Row 38 9 IsF W B S (.slice A n c) l) : IsFs W (fun b => b < W.heap.size) l A 0 ∨ ¬ Bel S W.heap.size := by
  by_cases hS : Bel S W.heap.size
  · left
    refine IsFs.of fun i x hx => ?_
    obtain ⟨ad, cs, e, hlt, hc, ds, rfl, hR⟩ := h.at_ recF hx
    rw [Nat.zero_add]
    exact ⟨ad, ds, e, hlt, hc, hR.more fun b hb => hS b hb⟩
  · exact .inr hS
structure BdSt (w wl : World) (S : Nat → Prop) (v7 v8 : Value) (l : List V) (fs : List (ByteArray × V)) (wr : World) : Prop where
  be : Below w.heap.size w wr
  b7 : wr.heap[wl.heap.size]? = some (.cells #[.int .i64 5, .bool false, .int .i64 0, .float .f64 0, .string ⟨#[]⟩, .string ⟨#[]⟩, v7, .slice none 0 0] 30 (0, 0))
  b8 : wr.heap[wl.heap.size + 1]? = some (.cells #[.int .i64 6, .bool false, .int .i64 0, .float .f64 0, .string ⟨#[]⟩, .string ⟨#[]⟩, .slice none 0 0, v8] 30 (0, 0))
  r7 : Row 30 8 IsV wr (wl.heap.size + 2) S v7 l
  r8 : Row 38 9 IsF wr (wl.heap.size + 2) S v8 fs
  sz : wl.heap.size + 2 ≤ wr.heap.size
  wl : w.heap.size ≤ wl.heap.size
section
variable {w wl : World} {S : Nat → Prop} {v7 v8 : Value} {l : List V} {fs : List (ByteArray × V)} {wr : World}
theorem BdSt.below (h : BdSt w wl S v7 v8 l fs wr) (hS : Bel S w.heap.size) {W : World} (hb : Below wr.heap.size wr W) : BdSt w wl S v7 v8 l fs W :=
  ⟨h.be.trans (hb.mono h.be.size), blk_below h.b7 hb (blk_lt h.b7), blk_below h.b8 hb (blk_lt h.b8), h.r7.below recV (hS.mono (by have := h.wl; omega)) h.sz hb, h.r8.below recF (hS.mono (by have := h.wl; omega)) h.sz hb, Nat.le_trans h.sz hb.size, h.wl⟩
theorem BdSt.grow7 (h : BdSt w wl S v7 v8 l fs wr) {w5 : World} {o : Obj} (hg : (wr.alloc o).grownBy w5 v7.ownBlock) : w5.heap[wl.heap.size]? = some (.cells #[.int .i64 5, .bool false, .int .i64 0, .float .f64 0, .string ⟨#[]⟩, .string ⟨#[]⟩, v7, .slice none 0 0] 30 (0, 0)) :=
  blk_grown (blk_alloc h.b7 _) hg (fun e => by have := (h.r7.lt _ e.symm).1; omega)
theorem BdSt.grow8 (h : BdSt w wl S v7 v8 l fs wr) {w5 : World} {o : Obj} (hg : (wr.alloc o).grownBy w5 v8.ownBlock) : w5.heap[wl.heap.size + 1]? = some (.cells #[.int .i64 6, .bool false, .int .i64 0, .float .f64 0, .string ⟨#[]⟩, .string ⟨#[]⟩, .slice none 0 0, v8] 30 (0, 0)) :=
  blk_grown (blk_alloc h.b8 _) hg (fun e => by have := (h.r8.lt _ e.symm).1; omega)
theorem BdSt.step7 (h : BdSt w wl S v7 v8 l fs wr) (hS : Bel S w.heap.size) {w5 : World} {o : Obj} {v' : Value} {css : List (List Value)} {x : V} {cs : List Value} (hel : Elems IsV wr S l css) (hg : (wr.alloc o).grownBy w5 v7.ownBlock) (hown : w5.ownsRow (wl.heap.size + 2) 30 8 v' (l.length + 1) (css.flatten ++ cs)) (hx : IsV wr S x cs) :
    BdSt w wl S v' v8 (l ++ [x]) fs (w5.setCell ⟨wl.heap.size, 6, none⟩ v') := by
  have hw := h.wl
  have hsz := h.sz
  have hs := hg.size
  simp at hs
  have hbw : Below wl.heap.size wr w5 := ((Below.refl _ wr).alloc (by omega) o).grown hg (by simp; omega) (fun k hk => by have := (h.r7.lt k hk).1; omega)
  refine ⟨(h.be.trans (hbw.mono hw)).setCell (show w.heap.size ≤ wl.heap.size by omega) _, ?_, ?_, ?_, ?_, by simp [World.setCell]; omega, hw⟩
  · exact blk_set (h.grow7 hg) 6 v'
  · exact blk_far (blk_grown (blk_alloc h.b8 _) hg (fun e => by have := (h.r7.lt _ e.symm).1; omega)) (show wl.heap.size + 1 ≠ wl.heap.size by omega) _
  · refine row_set recV ?_ (hS.mono hw) (show wl.heap.size < wl.heap.size + 2 by omega) _
    refine ⟨css ++ [cs], by rw [List.length_append, List.flatten_append]; simpa using hown, (hel.snoc hx).keep recV (fun p hp => ?_) (fun _ h => h)⟩
    exact hbw.cell (by have := hS _ hp; omega)
  · refine row_set recF (h.r8.stay (w' := w5) recF (hS.mono (Nat.le_trans hw (Nat.le_refl _)) |>.mono (by omega)) ?_ ?_) (hS.mono hw) (show wl.heap.size < wl.heap.size + 2 by omega) _
    · exact ⟨hbw.os, hbw.tape, hbw.output, hbw.size, fun k hk => by
        rw [hg.block k (by simp; omega) (fun e => by have := (h.r7.lt k e.symm).1; omega)]
        exact Below.heap_alloc wr o k (by omega)⟩
    · intro g hgg
      obtain ⟨c1, e1⟩ := h.r8.block g hgg
      rw [hg.block g (by have := (h.r8.lt g hgg).2; simp; omega) (h.r8.ne h.r7 (by decide) g hgg)]
      exact Below.heap_alloc wr o g (h.r8.lt g hgg).2
theorem BdSt.step8 (h : BdSt w wl S v7 v8 l fs wr) (hS : Bel S w.heap.size) {w5 : World} {o : Obj} {v' : Value} {css : List (List Value)} {x : ByteArray × V} {cs : List Value} (hel : Elems IsF wr S fs css) (hg : (wr.alloc o).grownBy w5 v8.ownBlock) (hown : w5.ownsRow (wl.heap.size + 2) 38 9 v' (fs.length + 1) (css.flatten ++ cs)) (hx : IsF wr S x cs) :
    BdSt w wl S v7 v' l (fs ++ [x]) (w5.setCell ⟨wl.heap.size + 1, 7, none⟩ v') := by
  have hw := h.wl
  have hsz := h.sz
  have hs := hg.size
  simp at hs
  have hbw : Below wl.heap.size wr w5 := ((Below.refl _ wr).alloc (by omega) o).grown hg (by simp; omega) (fun k hk => by have := (h.r8.lt k hk).1; omega)
  refine ⟨(h.be.trans (hbw.mono hw)).setCell (show w.heap.size ≤ wl.heap.size + 1 by omega) _, ?_, ?_, ?_, ?_, by simp [World.setCell]; omega, hw⟩
  · exact blk_far (blk_grown (blk_alloc h.b7 _) hg (fun e => by have := (h.r8.lt _ e.symm).1; omega)) (show wl.heap.size ≠ wl.heap.size + 1 by omega) _
  · exact blk_set (h.grow8 hg) 7 v'
  · refine row_set recV (h.r7.stay (w' := w5) recV (hS.mono (by omega)) ?_ ?_) (hS.mono (by show w.heap.size ≤ wl.heap.size + 1; omega)) (show wl.heap.size + 1 < wl.heap.size + 2 by omega) _
    · exact ⟨hbw.os, hbw.tape, hbw.output, hbw.size, fun k hk => by
        rw [hg.block k (by simp; omega) (fun e => by have := (h.r8.lt k e.symm).1; omega)]
        exact Below.heap_alloc wr o k (by omega)⟩
    · intro g hgg
      rw [hg.block g (by have := (h.r7.lt g hgg).2; simp; omega) (h.r7.ne h.r8 (by decide) g hgg)]
      exact Below.heap_alloc wr o g (h.r7.lt g hgg).2
  · refine row_set recF ?_ (hS.mono (by show w.heap.size ≤ wl.heap.size + 1; omega)) (show wl.heap.size + 1 < wl.heap.size + 2 by omega) _
    refine ⟨css ++ [cs], by rw [List.length_append, List.flatten_append]; simpa using hown, (hel.snoc hx).keep recF (fun p hp => ?_) (fun _ h => h)⟩
    exact hbw.cell (by have := hS _ hp; omega)
end
/-- what the loop has put together -/
structure BdV (vals : List V) (ns : List ByteArray) (q : Nat) (l : List V) (fs : List (ByteArray × V)) (s9 s10 : ByteArray) : Prop where
  mp : fs.map (·.2) = l
  lk : lks l = 0
  va : ∀ p ∈ fs, Lib.validD p.1.data.toList = true
  ok : oks l
  okf : okf fs
  w1 : wts l ≤ wts (vals.take q)
  w2 : nbs (fs.map (·.1)) ≤ nbs (ns.take q)
  e9 : s9 = strOf (91 :: txs l)
  e10 : s10 = strOf (123 :: txf fs)
section
variable {vals : List V} {ns : List ByteArray} {q : Nat} {l : List V} {fs : List (ByteArray × V)} {s9 s10 : ByteArray}
theorem wts_more (l : List V) (q : Nat) : wts (l.take q) ≤ wts (l.take (q + 1)) := by
  rw [List.take_add_one, wts_app]; omega
theorem nbs_more (l : List ByteArray) (q : Nat) : nbs (l.take q) ≤ nbs (l.take (q + 1)) := by
  rw [List.take_add_one, nbs_app]; omega
theorem wts_le (l : List V) (q : Nat) : wts (l.take q) ≤ wts l := by
  conv => rhs; rw [← List.take_append_drop q l, wts_app]
  omega
theorem nbs_le (l : List ByteArray) (q : Nat) : nbs (l.take q) ≤ nbs l := by
  conv => rhs; rw [← List.take_append_drop q l, nbs_app]
  omega
theorem BdV.skip (h : BdV vals ns q l fs s9 s10) : BdV vals ns (q + 1) l fs s9 s10 := ⟨h.mp, h.lk, h.va, h.ok, h.okf, Nat.le_trans h.w1 (wts_more _ _), Nat.le_trans h.w2 (nbs_more _ _), h.e9, h.e10⟩
theorem BdV.len (h : BdV vals ns q l fs s9 s10) : fs.length = l.length := by rw [← h.mp]; simp
theorem strOf_snoc9 (l : List V) (x : V) : strOf (91 :: txs (l ++ [x])) = (if l.length = 0 then strOf (91 :: txs l) else strOf (91 :: txs l) ++ ⟨#[44]⟩) ++ strOf (tx x) := by
  have e : (⟨#[44]⟩ : ByteArray) = strOf [44] := rfl
  rw [txs_snoc]
  by_cases h : l.length = 0
  · obtain rfl := List.eq_nil_of_length_eq_zero h
    rw [if_pos h, if_pos h, ← strOf_app]
    simp [txs]
  · rw [if_neg h, if_neg h, e, ← strOf_app, ← strOf_app]
    simp
theorem strOf_snoc10 (l : List (ByteArray × V)) (s : ByteArray) (x : V) : strOf (123 :: txf (l ++ [(s, x)])) = (((if l.length = 0 then strOf (123 :: txf l) else strOf (123 :: txf l) ++ ⟨#[44]⟩) ++ textOf s) ++ ⟨#[58]⟩) ++ strOf (tx x) := by
  have e : (⟨#[44]⟩ : ByteArray) = strOf [44] := rfl
  have e2 : (⟨#[58]⟩ : ByteArray) = strOf [58] := rfl
  unfold textOf
  rw [txf_snoc]
  by_cases h : l.length = 0
  · obtain rfl := List.eq_nil_of_length_eq_zero h
    rw [if_pos h, if_pos h, e2, ← strOf_app, ← strOf_app, ← strOf_app]
    simp [txf]
  · rw [if_neg h, if_neg h, e, e2, ← strOf_app, ← strOf_app, ← strOf_app, ← strOf_app]
    simp
theorem BdV.step (h : BdV vals ns q l fs s9 s10) {x : V} {s : ByteArray} (hx : vals[q]? = some x) (hs : ns[q]? = some s) (h0 : val.lk x = 0) (hv : Lib.validD s.data.toList = true) (hok : val.ok x) (hsz : s.size ≤ 1048576) :
    BdV vals ns (q + 1) (l ++ [x]) (fs ++ [(s, x)]) ((if l.length = 0 then s9 else s9 ++ ⟨#[44]⟩) ++ strOf (tx x)) ((((if l.length = 0 then s10 else s10 ++ ⟨#[44]⟩) ++ textOf s) ++ ⟨#[58]⟩) ++ strOf (tx x)) := by
  refine ⟨by rw [List.map_append, h.mp]; rfl, by rw [lks_snoc _ _ h.lk, h0], fun p hp => ?_, oks_snoc _ _ h.ok hok, okf_snoc _ _ _ h.okf hsz hok, ?_, ?_, ?_, ?_⟩
  · rcases List.mem_append.1 hp with hp | hp
    · exact h.va p hp
    · simp at hp; subst hp; exact hv
  · rw [wts_app, List.take_add_one, wts_app, hx]
    have := h.w1
    simp only [Option.toList_some, wts]
    omega
  · rw [List.map_append, nbs_app, List.take_add_one, nbs_app, hs]
    have := h.w2
    simp only [Option.toList_some, nbs, List.map_cons, List.map_nil]
    omega
  · rw [strOf_snoc9, h.e9]
  · rw [strOf_snoc10, h.e10, h.len]
theorem BdV.size9 (h : BdV vals ns q l fs s9 s10) (hw : wts vals ≤ 1048576) : s9.size ≤ 2199023255552 := by
  rw [h.e9, strOf_size, List.length_cons]
  have := (txs_len l h.ok).1
  have := h.w1
  have := wts_le vals q
  omega
theorem BdV.wtf (h : BdV vals ns q l fs s9 s10) : val.wtf fs ≤ nbs ns + wts vals := by
  rw [wtf_map, h.mp]
  have := h.w1
  have := h.w2
  have := wts_le vals q
  have := nbs_le ns q
  omega
theorem BdV.size10 (h : BdV vals ns q l fs s9 s10) (hw : wts vals ≤ 1048576) (hn : nbs ns ≤ 1048576) : s10.size ≤ 4398046511104 := by
  rw [h.e10, strOf_size, List.length_cons]
  have := (txf_len fs h.okf).1
  have := h.wtf
  omega
/-- the list and the object -/
theorem BdV.lkL (h : BdV vals ns q l fs s9 s10) : val.lk (.mk 5 false 0 0 ⟨#[]⟩ ⟨#[]⟩ l []) = 0 := by
  simp only [val.lk]
  rw [if_neg (by decide), if_neg (by decide), if_neg (by decide), if_pos trivial, h.lk]
theorem BdV.txL (h : BdV vals ns q l fs s9 s10) : strOf (tx (.mk 5 false 0 0 ⟨#[]⟩ ⟨#[]⟩ l [])) = s9 ++ ⟨#[93]⟩ := by
  have e : (⟨#[93]⟩ : ByteArray) = strOf [93] := rfl
  simp only [tx]
  rw [h.e9, e, ← strOf_app]
  simp
open Classical in
theorem BdV.lkO (h : BdV vals ns q l fs s9 s10) : val.lk (.mk 6 false 0 0 ⟨#[]⟩ ⟨#[]⟩ [] fs) = if (fs.map (·.1)).Nodup then 0 else 5 := by
  simp only [val.lk]
  rw [if_neg (by decide), if_neg (by decide), if_neg (by decide), if_neg (by decide), if_pos trivial, nmE_dup fs h.va, lkf_map, h.mp, h.lk]
  by_cases hd : (fs.map (·.1)).Nodup
  · rw [if_pos hd, if_pos rfl]
  · rw [if_neg hd, if_neg (by decide)]
theorem BdV.txO (h : BdV vals ns q l fs s9 s10) : strOf (tx (.mk 6 false 0 0 ⟨#[]⟩ ⟨#[]⟩ [] fs)) = s10 ++ ⟨#[125]⟩ := by
  have e : (⟨#[125]⟩ : ByteArray) = strOf [125] := rfl
  simp only [tx]
  rw [h.e10, e, ← strOf_app]
  simp
end
end Go.Proofs.YthlncdcfppehcaaDoor.look
end
