/- appendText: what it writes behind a row of bytes that the call owns. -/
import Derived.Test.YtjbfhkcbgafeaaaDoorEsc
import Derived.Test.YtjbfhkcbgafeaaaDoorShelf
import Derived.Lib.OthersKept
import Derived.Lib.RuneCount
import Derived.OpenShut
namespace Go.Proofs.YtjbfhkcbgafeaaaDoor.app
open Go.RowKit mem txt esc
set_option linter.unusedVariables false

/-- bytes as cells -/
def zs (l : List Int) : List Value := l.map fun x => Value.int .u8 x
theorem zs_length (l : List Int) : (zs l).length = l.length := by simp [zs]
theorem zs_append (l r : List Int) : zs (l ++ r) = zs l ++ zs r := by simp [zs]
theorem zs_one (l : List Int) : ∀ u ∈ zs l, u.oneCell' = true := by
  intro u hu
  simp only [zs, List.mem_map] at hu
  obtain ⟨x, _, rfl⟩ := hu
  rfl

theorem infoB : (Tryd.prog.info? 5).map (fun i => (i.zero, i.size, i.bytes)) = some (some (.int .u8 0), 1, 1) := by kernel_rfl

/-- a row of the call's own stays one where its block is left alone -/
theorem own_kept {w w' : World} {base : Nat} {e : TypeId} {size n : Nat} {v : Value} {xs : List Value} (h : w.ownsRow base e size v n xs) (hk : ∀ g, v.ownBlock = some g → w'.heap[g]? = w.heap[g]?) : w'.ownsRow base e size v n xs := by
  refine ⟨h.1, ?_⟩
  rcases h.2 with h0 | ⟨g, cap, cur, hv, hb, hg, hr⟩
  · exact .inl h0
  · exact .inr ⟨g, cap, cur, hv, hb, (hk g (by rw [hv]; rfl)).trans hg, hr⟩
theorem own_cells {w : World} {base : Nat} {e : TypeId} {size n : Nat} {v : Value} {xs : List Value} (h : w.ownsRow base e size v n xs) : ∀ g, v.ownBlock = some g → ∃ cur, w.heap[g]? = some (.cells cur e (0, 0)) := by
  intro g hg
  rcases h.2 with ⟨rfl, _⟩ | ⟨g', cap, cur, rfl, _, hgg, _⟩
  · simp [Value.ownBlock] at hg
  · simp [Value.ownBlock] at hg
    subst hg
    exact ⟨cur, hgg⟩
theorem own_iterAt {w : World} {base : Nat} {e : TypeId} {size n : Nat} {v : Value} {xs : List Value} (h : w.ownsRow base e size v n xs) {k : Nat} {s : ByteArray} {pos : Nat} (hk : w.heap[k]? = some (.stringIter s pos)) (pos' : Nat) : (w.iterAt k s pos').ownsRow base e size v n xs :=
  own_kept h fun g hg => Lib.iterAt_other w k g s pos' fun e1 => by
    obtain ⟨cur, hc⟩ := own_cells h g hg
    rw [e1, hk] at hc
    cases hc
/-- an iterator stays behind an append -/
theorem iter_grown {w w' : World} {base : Nat} {e : TypeId} {size n : Nat} {v : Value} {xs : List Value} (h : w.ownsRow base e size v n xs) {k : Nat} {s : ByteArray} {pos : Nat} (hk : w.heap[k]? = some (.stringIter s pos)) (hg : w.grownBy w' v.ownBlock) : w'.heap[k]? = some (.stringIter s pos) := by
  have hlt : k < w.heap.size := (Array.getElem?_eq_some_iff.1 hk).1
  rw [hg.block k hlt ?_]
  · exact hk
  · intro h2
    obtain ⟨cur, hc⟩ := own_cells h k h2.symm
    rw [hk] at hc
    cases hc
theorem iter_alloc {w : World} {k : Nat} {s : ByteArray} {pos : Nat} (hk : w.heap[k]? = some (.stringIter s pos)) (o : Obj) : (w.alloc o).heap[k]? = some (.stringIter s pos) :=
  (Lib.alloc_old w o k (Array.getElem?_eq_some_iff.1 hk).1).trans hk

theorem and15 : ∀ r : Fin 32, bits .and .i32 (r.val : Int) 15 = ((r.val % 16 : Nat) : Int) := by decide
theorem digits_at : ∀ (x : Nat) (h : x < 16), ((⟨#[48, 49, 50, 51, 52, 53, 54, 55, 56, 57, 97, 98, 99, 100, 101, 102]⟩ : ByteArray)[x]'h).toNat = hexd x
  | 0, _ => rfl
  | 1, _ => rfl
  | 2, _ => rfl
  | 3, _ => rfl
  | 4, _ => rfl
  | 5, _ => rfl
  | 6, _ => rfl
  | 7, _ => rfl
  | 8, _ => rfl
  | 9, _ => rfl
  | 10, _ => rfl
  | 11, _ => rfl
  | 12, _ => rfl
  | 13, _ => rfl
  | 14, _ => rfl
  | 15, _ => rfl
  | n + 16, h => by omega

theorem kept_iterAt {a w : World} (h : Lib.OthersKept 5 none a w) {k : Nat} (hk : a.heap.size ≤ k) (s : ByteArray) (pos : Nat) : Lib.OthersKept 5 none a (w.iterAt k s pos) :=
  fun j o hj hb ho => by
    have hlt : j < a.heap.size := (Array.getElem?_eq_some_iff.1 hj).1
    rw [Lib.iterAt_other _ _ _ _ _ (by omega)]
    exact h j o hj hb ho
theorem kept_app {a w w' : World} {base n : Nat} {v : Value} {xs : List Value} {o : Obj} (h : Lib.OthersKept 5 none a w) (hown : w.ownsRow base 5 1 v n xs) (hg : (w.alloc o).grownBy w' v.ownBlock) : Lib.OthersKept 5 none a w' :=
  (h.alloc o).grown hg fun g hgv => by
    obtain ⟨cur, hc⟩ := own_cells (hown.alloc o) g hgv
    exact ⟨cur, _, hc⟩

/-- a row of bytes is written on; all below B, and all that is no row of bytes, stands -/
def RowPost (B n : Nat) (xs : List Value) (out : List Int) (w : World) (e : Ending) (w' : World) : Prop :=
  ∃ v', e = .returned v' ∧ w'.ownsRow B 5 1 v' (n + out.length) (xs ++ zs out) ∧ Below B w w' ∧ Lib.OthersKept 5 none w w'

set_option maxRecDepth 100000 in
set_option maxHeartbeats 4000000 in
theorem appendText_any (s : ByteArray) (hs : s.size ≤ 4194304) (B : Nat) (v : Value) (n : Nat) (xs : List Value) (w : World) (hown : w.ownsRow B 5 1 v n xs) (hB : B ≤ w.heap.size) (hn : n ≤ 1099511627776) :
    Calls Tryd.prog 16 #[v, .string s] w (RowPost B n xs (quoteZ s.data.toList) w) := by
  obtain ⟨iv, hiv, hv0, hv1, hv2⟩ := info_parts infoB
  have HO := Lib.hid hown
  clear hown
  go_enter Tryd.func16, Tryd.ntmps16
  go_wp2_with (at_builtin; go_must (refine wpList_app _ rfl (.tmp 8) (.tmp 9) _ rfl B 5 iv (.int .u8 0) 1 1 Tryd.underlying30 hiv hv0 hv1 hv2 rfl (by omega) v n xs rfl (HO.out.alloc _) (w.heap.size + 1) (some ⟨w.heap.size, 0, none⟩) 1 1 [.int .u8 34] rfl rfl (Rd.new w [.int .u8 34] 5) (by simp) (by intro u hu; simp at hu; subst hu; rfl) (by unfold maxLen; omega) (by omega) (by simp; omega) ?_; intro v1 w1 hown1 hgrow1 hat1; have HO1 := Lib.hid hown1; have HG1 := Lib.hid hgrow1; clear hown1 hgrow1 hat1 ))
  have hb1 : Below B w w1 := below_app1 (Below.refl _ _) HO.out (Nat.le_refl _) hB HG1.out
  have hz1 : B ≤ w1.heap.size := by have := hb1.size; omega
  have hw1 : w.heap.size ≤ w1.heap.size := by have := HG1.out.size; simp at this; omega
  have hk1 : Lib.OthersKept 5 none w w1 := kept_app (Lib.OthersKept.refl _ _ _) HO.out HG1.out
  clear HG1 HO
  go_loopw [0] (fun v0 wr => ∃ (pos : Nat) (done : List Int) (vv : Value), vv = v0 ∧ wr.ownsRow B 5 1 vv (n + done.length) (xs ++ zs done) ∧ wr.heap[w1.heap.size]? = some (.stringIter s pos) ∧ Below B w wr ∧ Lib.OthersKept 5 none w wr ∧ pos ≤ s.size ∧ Hid (done ++ encZ (s.data.toList.drop pos) = 34 :: encZ s.data.toList) ∧ done.length ≤ 1 + 6 * pos) (fun _ wr => s.size - wr.iterPos w1.heap.size)
  case atStart =>
    exact ⟨0, [34], _, rfl, HO1.out.alloc _, World.iter_heap w1 s 0, hb1.alloc hz1 _, hk1.alloc _, Nat.zero_le _, rfl, by simp⟩
  case round =>
    obtain ⟨pos, done, vv, rfl, hown, hit, hb, hk, hpos, hacc, hlen⟩ := hrel
    have hszr : w1.heap.size < wr.heap.size := (Array.getElem?_eq_some_iff.1 hit).1
    have hszL := Lib.size_eq s
    have HOr := Lib.hid hown
    clear hown
    by_cases hp : pos < s.size
    · have hwd := Lib.decode_width_pos s pos hp
      have hle := decode_le s pos
      have hne : s.data.toList.drop pos ≠ [] := by
        intro h0
        have := congrArg List.length h0
        rw [List.length_drop] at this
        simp at this
        omega
      have hr1 : (Utf8.decode s pos).1 ≤ 1114111 := by
        rw [← Lib.decodeL_drop]
        exact Lib.decodeL_rune _
      have hpw : pos + (Utf8.decode s pos).2 ≤ s.size := by
        have h1 := Lib.decodeL_le _ hne
        rw [Lib.decodeL_drop, List.length_drop] at h1
        omega
      have hst : encZ (s.data.toList.drop pos) = escZ (Utf8.decode s pos).1 ++ encZ (s.data.toList.drop (pos + (Utf8.decode s pos).2)) := by
        rw [encZ_step _ hne, Lib.decodeL_drop, List.drop_drop]
      have hnx : ∀ ty, (Instr.next (.pointer (some ⟨w1.heap.size, 0, none⟩)) true ty).run Tryd.prog wr = _ := fun ty => Lib.run_next_any_at wr w1.heap.size s pos ty hit hp
      have hO2 := own_iterAt HOr.out hit (pos + (Utf8.decode s pos).2)
      have hit2 := Lib.iterAt_heap wr w1.heap.size s pos (pos + (Utf8.decode s pos).2) hit
      have hb2 := Lib.below_iterAt hb (k := w1.heap.size) hz1 s (pos + (Utf8.decode s pos).2)
      have hk2 := kept_iterAt hk (k := w1.heap.size) hw1 s (pos + (Utf8.decode s pos).2)
      have hz2 : (wr.iterAt w1.heap.size s (pos + (Utf8.decode s pos).2)).heap.size = wr.heap.size := Lib.iterAt_size _ _ _ _
      rw [hst] at hacc
      have HST := Lib.hid hst
      have HAC := Lib.hid hacc
      have hmz : ∀ W : World, W.heap[w1.heap.size]? = some (.stringIter s (pos + (Utf8.decode s pos).2)) → s.size - W.iterPos w1.heap.size < s.size - wr.iterPos w1.heap.size := fun W hW => by
        simp only [World.iterPos, hW, hit]
        omega
      have HM := Lib.hid hmz
      clear hst hne hacc hmz hit hle HOr
      obtain ⟨q, hq⟩ : ∃ q, pos + (Utf8.decode s pos).2 = q := ⟨_, rfl⟩
      obtain ⟨r, hr⟩ : ∃ r, (Utf8.decode s pos).1 = r := ⟨_, rfl⟩
      rw [hq] at hpw hnx hO2 hit2 hb2 hk2 hz2 HM HAC
      rw [hr] at hr1 hnx HAC
      obtain ⟨W, hW⟩ : ∃ W, wr.iterAt w1.heap.size s q = W := ⟨_, rfl⟩
      rw [hW] at hnx hO2 hit2 hb2 hk2 hz2
      clear hW HST
      have HO2 := Lib.hid hO2
      have HI2 := Lib.hid hit2
      clear hO2 hit2
      have hqp : pos + 1 ≤ q := by omega
      clear hq hr hwd
      go_wp2_with fail
      refine (escape_any r hr1 _).mono ?_
      rintro e w' ⟨rfl, o, rfl⟩
      have HO3 := Lib.hid (HO2.out.alloc o)
      have HI3 := Lib.hid (iter_alloc HI2.out o)
      have hb3 : Below B w (W.alloc o) := hb2.alloc (by omega) o
      have hk3 : Lib.OthersKept 5 none w (W.alloc o) := hk2.alloc o
      have hz3 : wr.heap.size + 1 = (W.alloc o).heap.size := by simp; omega
      generalize W.alloc o = W3 at *
      clear HO2 HI2 hb2 hk2 hz2 hnx
      obtain ⟨el, hel⟩ : ∃ el, escB r = el := ⟨_, rfl⟩
      have hez : escZ r = if el = 0 then Lib.encodeRuneZ r else if el = 117 then [92, 117, 48, 48, hexd (r / 16), hexd (r % 16)] else [92, (el : Int)] := by rw [← hel]; rfl
      have hlow : el = 117 → r < 32 := fun h => escB_low (by rw [hel]; exact h)
      have hel6 := escZ_length r
      rw [hel]
      clear hel
      have HZ := Lib.hid hez
      clear hez
      by_cases e0 : el = 0
      · subst e0
        rw [show escZ r = Lib.encodeRuneZ r from HZ.out] at hel6 HAC
        go_wp2_with fail
        refine (shelf.utf8_AppendRune_plain B vv (n + done.length) (xs ++ zs done) r (by omega) (by omega) _ HO3.out (by omega) (by omega)).mono ?_
        rintro e w' ⟨v', rfl, hown', o', hgrow'⟩
        have hit5 := iter_grown (HO3.out.alloc o') (iter_alloc HI3.out o') hgrow'
        have hb5 : Below B w w' := below_app1 hb3 HO3.out (Nat.le_refl _) (by omega) hgrow'
        have hk5 : Lib.OthersKept 5 none w w' := kept_app hk3 HO3.out hgrow'
        have hOn : w'.ownsRow B 5 1 v' (n + (done ++ Lib.encodeRuneZ r).length) (xs ++ zs (done ++ Lib.encodeRuneZ r)) := by
          have h1 := hown'
          rw [zs_append, ← List.append_assoc, show n + (done ++ Lib.encodeRuneZ r).length = n + done.length + (Lib.runeCells r).length by simp [Lib.runeCells]; omega]
          exact h1
        clear hown' hgrow' hb3 hz3
        have HF := Lib.hid (And.intro hit5 (And.intro hb5 (And.intro hk5 hOn)))
        clear hit5 hb5 hk5 hk3 hOn
        go_wp2_with fail
        exact ⟨⟨q, done ++ Lib.encodeRuneZ r, _, rfl, HF.out.2.2.2, HF.out.1, HF.out.2.1, HF.out.2.2.1, hpw, by rw [List.append_assoc]; exact HAC.out, by rw [List.length_append]; omega⟩, HM.out _ HF.out.1⟩
      · by_cases e1 : el = 117
        · subst e1
          have hr32 := hlow rfl
          rw [show escZ r = [92, 117, 48, 48, hexd (r / 16), hexd (r % 16)] from HZ.out] at hel6 HAC
          obtain ⟨x, hx⟩ : ∃ x, r / 16 = x := ⟨_, rfl⟩
          obtain ⟨y, hy⟩ : ∃ y, r % 16 = y := ⟨_, rfl⟩
          have hx1 : (r : Int) / 16 = (x : Int) := by omega
          have hy1 : bits .and .i32 (r : Int) 15 = (y : Int) := by rw [and15 ⟨r, hr32⟩, hy]
          have hx2 : x < 16 := by omega
          have hy2 : y < 16 := by omega
          obtain ⟨X, hX⟩ : ∃ X, ((⟨#[48, 49, 50, 51, 52, 53, 54, 55, 56, 57, 97, 98, 99, 100, 101, 102]⟩ : ByteArray)[x]'hx2).toNat = X := ⟨_, rfl⟩
          obtain ⟨Y, hY⟩ : ∃ Y, ((⟨#[48, 49, 50, 51, 52, 53, 54, 55, 56, 57, 97, 98, 99, 100, 101, 102]⟩ : ByteArray)[y]'hy2).toNat = Y := ⟨_, rfl⟩
          have hX2 : hexd x = (X : Int) := by rw [← hX]; exact (digits_at x hx2).symm
          have hY2 : hexd y = (Y : Int) := by rw [← hY]; exact (digits_at y hy2).symm
          rw [hx, hy, hX2, hY2] at hel6 HAC
          have hx3 : (x : Int) < 16 := by omega
          have hy3 : (y : Int) < 16 := by omega
          clear HZ hx hy hX2 hY2
          go_wp2_with fail
          go_region_law (first
            | (refine step_app _ rfl (.tmp 30) (.tmp 37) _ rfl B 5 iv (.int .u8 0) 1 1 Tryd.underlying30 hiv hv0 hv1 hv2 rfl (by omega) vv (n + done.length) (xs ++ zs done) rfl (HO3.out.alloc _) (W3.heap.size + 1) (some ⟨W3.heap.size, 0, none⟩) 6 6 [.int .u8 92, .int .u8 117, .int .u8 48, .int .u8 48, .int .u8 X, .int .u8 Y] rfl rfl (Rd.new W3 [.int .u8 92, .int .u8 117, .int .u8 48, .int .u8 48, .int .u8 X, .int .u8 Y] 5) (by simp) (by intro u hu; simp at hu; rcases hu with rfl | rfl | rfl | rfl | rfl | rfl <;> rfl) (by unfold maxLen; omega) (by omega) (by simp; omega) ?_; intro v' w5 hown' hgrow' hat'; have HO' := Lib.hid hown'; have HG' := Lib.hid hgrow'; clear hown' hgrow' hat'))
          all_goals
            have hit5 := iter_grown (show World.ownsRow (World.drew (W3.alloc _)) B 5 1 vv (n + done.length) (xs ++ zs done) from HO3.out.alloc _) (show (World.drew (W3.alloc _)).heap[w1.heap.size]? = some (.stringIter s q) from iter_alloc HI3.out _) HG'.out
            have hb5 : Below B w w5 := ((hb3.alloc (by omega) _).drew).grown HG'.out (by simp; omega) (fun kk hkk => (HO3.out.lt kk hkk).1)
            have hk5 : Lib.OthersKept 5 none w w5 := ((hk3.alloc _).drew).grown HG'.out (fun g hgv => by obtain ⟨cur, hc⟩ := own_cells (HO3.out.alloc _) g hgv; exact ⟨cur, _, hc⟩)
            have hOn : w5.ownsRow B 5 1 v' (n + (done ++ [92, 117, 48, 48, (X : Int), (Y : Int)]).length) (xs ++ zs (done ++ [92, 117, 48, 48, (X : Int), (Y : Int)])) := by
              have h1 := HO'.out
              rw [zs_append, ← List.append_assoc]
              rw [show n + (done ++ [92, 117, 48, 48, (X : Int), (Y : Int)]).length = n + done.length + 6 by simp; omega]
              exact h1
            clear HO' HG' hb3 hx1 hy1 hX hY
            have HF := Lib.hid (And.intro hit5 (And.intro hb5 (And.intro hk5 hOn)))
            clear hit5 hb5 hk5 hk3 hOn
            go_wp2_with fail
            refine ⟨?_, HM.out _ HF.out.1⟩
            refine ⟨v', _, _, _, _, _, _, _, _, _, _, _, _, _, _, _, _, _, _, _, _, _, _, _, _, _, _, _, _, ⟨q, done ++ [92, 117, 48, 48, (X : Int), (Y : Int)], _, rfl, HF.out.2.2.2, HF.out.1, HF.out.2.1, HF.out.2.2.1, hpw, by rw [List.append_assoc]; exact HAC.out, by rw [List.length_append]; simp; omega⟩, rfl⟩
        · have he0 : ((el : Int) == 0) = false := by simp; omega
          have he1 : ((el : Int) == 117) = false := by simp; omega
          rw [show escZ r = [92, (el : Int)] by rw [HZ.out, if_neg e0, if_neg e1]] at hel6 HAC
          go_wp2_with (at_builtin; go_must (refine wpList_app _ rfl (.tmp 19) (.tmp 21) _ rfl B 5 iv (.int .u8 0) 1 1 Tryd.underlying30 hiv hv0 hv1 hv2 rfl (by omega) vv (n + done.length) (xs ++ zs done) rfl (HO3.out.alloc _) (W3.heap.size + 1) (some ⟨W3.heap.size, 0, none⟩) 2 2 [.int .u8 92, .int .u8 el] rfl rfl (Rd.new W3 [.int .u8 92, .int .u8 el] 5) (by simp) (by intro u hu; simp at hu; rcases hu with rfl | rfl <;> rfl) (by unfold maxLen; omega) (by omega) (by simp; omega) ?_; intro v' w5 hown' hgrow' hat'; have HO' := Lib.hid hown'; have HG' := Lib.hid hgrow'; clear hown' hgrow' hat'))
          have hit5 := iter_grown (HO3.out.alloc _) (iter_alloc HI3.out _) HG'.out
          have hb5 : Below B w w5 := below_app1 hb3 HO3.out (Nat.le_refl _) (by omega) HG'.out
          have hk5 : Lib.OthersKept 5 none w w5 := kept_app hk3 HO3.out HG'.out
          have hOn : w5.ownsRow B 5 1 v' (n + (done ++ [92, (el : Int)]).length) (xs ++ zs (done ++ [92, (el : Int)])) := by
            have h1 := HO'.out
            rw [zs_append, ← List.append_assoc]
            rw [show n + (done ++ [92, (el : Int)]).length = n + done.length + 2 by simp; omega]
            exact h1
          exact ⟨⟨q, done ++ [92, (el : Int)], _, rfl, hOn, hit5, hb5, hk5, hpw, by rw [List.append_assoc]; exact HAC.out, by rw [List.length_append]; simp; omega⟩, HM.out _ hit5⟩
    · have hend : s.data.toList.drop pos = [] := List.drop_eq_nil_of_le (by omega)
      rw [hend, encZ_nil, List.append_nil] at hacc
      have HAC := Lib.hid hacc
      clear hacc hend
      have hnx : ∀ ty, (Instr.next (.pointer (some ⟨w1.heap.size, 0, none⟩)) true ty).run Tryd.prog wr = _ := fun ty => Lib.run_next_end_at wr w1.heap.size s pos ty hit hp
      go_wp2_with (at_builtin; go_must (refine wpList_app _ rfl (.tmp 39) (.tmp 40) _ rfl B 5 iv (.int .u8 0) 1 1 Tryd.underlying30 hiv hv0 hv1 hv2 rfl (by omega) vv (n + done.length) (xs ++ zs done) rfl (HOr.out.alloc _) (wr.heap.size + 1) (some ⟨wr.heap.size, 0, none⟩) 1 1 [.int .u8 34] rfl rfl (Rd.new wr [.int .u8 34] 5) (by simp) (by intro u hu; simp at hu; subst hu; rfl) (by unfold maxLen; omega) (by omega) (by simp; omega) ?_; intro v' w5 hown' hgrow' hat'; have HO' := Lib.hid hown'; have HG' := Lib.hid hgrow'; clear hown' hgrow' hat'))
      go_ret
      refine ⟨v', rfl, ?_, below_app1 hb HOr.out (Nat.le_refl _) (by omega) HG'.out, kept_app hk HOr.out HG'.out⟩
      have hq2 : quoteZ s.data.toList = done ++ [34] := by
        rw [HAC.out]
        rfl
      have h1 := HO'.out
      rw [hq2, zs_append, ← List.append_assoc]
      rw [show n + (done ++ [(34 : Int)]).length = n + done.length + 1 by simp; omega]
      exact h1
end Go.Proofs.YtjbfhkcbgafeaaaDoor.app
