/- The table's functions. -/
import Derived.Test.YtmicjfdibhoamaaPut
import Derived.Test.YtmicjfdibhoamaaEnts
namespace Go.Proofs.Ytmicjfdibhoamaa.val
open Go.RowKit mem
attribute [local go_sem] run_store_float

def put1 (rows : List (C × O)) (e : C × O) : List (C × O) := if idx rows e.1 = none then rows ++ [(e.1, e.2.nrm)] else rows
/-- the rows that count -/
def tabR (es : List (C × O)) : List (C × O) := es.foldl put1 []

def TabAt (w : World) (g : Nat) (rows : List (C × O)) : Prop := OrdAt w g (g + 3) rows ∧ w.heap[g + 2]? = some (.cells #[.pointer (some ⟨g + 1, 0, none⟩)] 76 (0, 0))
theorem TabAt.below {w w' : World} {g : Nat} {rows : List (C × O)} (h : TabAt w g rows) (hb : Below w.heap.size w w') : TabAt w' g rows := ⟨h.1.below hb, blk_below h.2 hb (blk_lt h.2)⟩

def NewPost (w : World) (es : List (C × O)) (e : Ending) (w' : World) : Prop := e = .returned (.pointer (some ⟨w.heap.size + 2, 0, none⟩)) ∧ TabAt w' w.heap.size (tabR es) ∧ Below w.heap.size w w'

theorem put1_len (rows : List (C × O)) (e : C × O) : (put1 rows e).length ≤ rows.length + 1 := by
  unfold put1
  split <;> simp
theorem tabR_len : ∀ (es rows : List (C × O)), (es.foldl put1 rows).length ≤ rows.length + es.length
  | [], rows => by simp
  | e :: r, rows => by
    have h1 := tabR_len r (put1 rows e)
    have h2 := put1_len rows e
    simp only [List.foldl_cons, List.length_cons]
    omega
theorem tabR_snoc (es : List (C × O)) (e : C × O) : tabR (es ++ [e]) = put1 (tabR es) e := by simp [tabR]

set_option maxRecDepth 100000 in
set_option maxHeartbeats 4000000 in
theorem tabNew_any (es : List (C × O)) (hes : szE es ≤ 1048576) (hok : ∀ e ∈ es, e.1.ok) (A : Option Addr) (c : Nat) (w : World) (S : Nat → Prop) (hE : LAt 13 IsE w S es A) (hB : Bel S w.heap.size) :
    Calls Try.prog 16 #[.slice A es.length c] w (NewPost w es) := by
  have hl1 := szE_len es
  have HEs := Lib.hid hE
  have HB := Lib.hid hB
  have HK := Lib.hid hok
  clear hE hB hok
  go_enter Try.func16, Try.ntmps16
  go_wp2_with fail
  refine (newOrd_any w).mono ?_
  rintro e w1 ⟨rfl, hM, hblk, hbw, hsz⟩
  go_wp2_with fail
  have T0 := Lib.hid (show TabAt (w1.alloc (.cells #[.pointer (some ⟨w.heap.size + 1, 0, none⟩)] 76)) w.heap.size (tabR (es.take 0)) from ⟨ordAt_nil (hM.heap (Below.heap_alloc _ _ _ hM.lt)) (blk_alloc hblk _) (by omega) (by simp; omega), by
    have := heap_alloc_new w1 (.cells #[.pointer (some ⟨w.heap.size + 1, 0, none⟩)] 76)
    rw [hsz] at this
    exact this⟩)
  have b0 := hbw.alloc (by omega) (.cells #[.pointer (some ⟨w.heap.size + 1, 0, none⟩)] 76)
  generalize (w1.alloc (.cells #[.pointer (some ⟨w.heap.size + 1, 0, none⟩)] 76)) = w2 at *
  clear hM hblk hbw hsz
  go_loopw [13] (fun vi W => ∃ (q : Nat), q ≤ es.length ∧ vi = .int .i64 (q : Int) ∧ Hid (TabAt W w.heap.size (tabR (es.take q))) ∧ Below w.heap.size w W) (fun i _ => es.length - (intOf i).toNat)
  case atStart => exact ⟨0, Nat.zero_le _, rfl, T0, b0⟩
  case round =>
    clear T0 b0
    obtain ⟨q, hq, rfl, HT, hb⟩ := hrel
    have hszr := hb.size
    by_cases hlt : q < es.length
    · have hx : es[q]? = some es[q] := List.getElem?_eq_getElem hlt
      have hts := Lib.hid (List.take_succ_eq_append_getElem hlt)
      have hck := HK.out _ (List.getElem_mem hlt)
      obtain ⟨ad, cs, rfl, hadB, hcs, ds, rfl, hvx⟩ := (HEs.out.below recE HB.out hb) q _ hx
      have hsz := szE_get hx
      generalize es[q] = x at *
      obtain ⟨⟨x1, x2, x3, x4⟩, xf, v⟩ := x
      have HV := Lib.hid hvx
      obtain ⟨k2, b2, i2, f2, t2, y2, is2, fs2⟩ := v
      simp only [IsV] at hvx
      obtain ⟨A2, c2, A2', c2', rfl, _⟩ := hvx
      obtain ⟨d0, d1, d2, d3, d4, d5, d6, d7, d8, d9, d10, d11, d12⟩ := hcs.thirteen
      simp only at d0 d1 d2 d3 d4 hck hsz
      clear hcs hx
      go_wp2_with fail
      clear d0 d1 d2 d3 d4 d5 d6 d7 d8 d9 d10 d11 d12
      have gE := heap_alloc_new wr (.cells #[.string x1, .string x2, .string x3, .string x4, .bool xf, .int .i64 k2, .bool b2, .int .i64 i2, .float .f64 f2, .string t2, .string y2, .slice A2 is2.length c2, .slice A2' fs2.length c2'] 39)
      have hbE : Below wr.heap.size wr (wr.alloc (.cells #[.string x1, .string x2, .string x3, .string x4, .bool xf, .int .i64 k2, .bool b2, .int .i64 i2, .float .f64 f2, .string t2, .string y2, .slice A2 is2.length c2, .slice A2' fs2.length c2'] 39)) := (Below.refl _ _).alloc (Nat.le_refl _) _
      have hzE : (wr.alloc (.cells #[.string x1, .string x2, .string x3, .string x4, .bool xf, .int .i64 k2, .bool b2, .int .i64 i2, .float .f64 f2, .string t2, .string y2, .slice A2 is2.length c2, .slice A2' fs2.length c2'] 39)).heap.size = wr.heap.size + 1 := by simp
      generalize (wr.alloc (.cells #[.string x1, .string x2, .string x3, .string x4, .bool xf, .int .i64 k2, .bool b2, .int .i64 i2, .float .f64 f2, .string t2, .string y2, .slice A2 is2.length c2, .slice A2' fs2.length c2'] 39)) = w1 at *
      have hzE' : wr.heap.size + 1 ≤ w1.heap.size := by omega
      clear hzE
      have glE := blk_lt gE
      have HT1 := Lib.hid (HT.out.below hbE)
      have T1 := cell_of_row w1 (w.heap.size + 2) 0 _ _ (0, 0) HT1.out.2
      have glT := blk_lt HT1.out.2
      obtain ⟨m0, m1, m2, m3, m4, m5, m6, m7, m8, m9, m10, m11, m12⟩ := blk13 gE
      have HG := Lib.hid (fun (W : World) (hW : Below w1.heap.size w1 W) => ordGet_any w1 W w.heap.size (w.heap.size + 3) _ HT1.out.1 hW ⟨x1, x2, x3, x4⟩ hck)
      go_cut [6, 7] (fun s6 s7 wx => s7 = .bool (get (tabR (es.take q)) ⟨x1, x2, x3, x4⟩).isSome ∧ Below w1.heap.size w1 wx)
      case first =>
        cases hg : get (tabR (es.take q)) ⟨x1, x2, x3, x4⟩ with
        | some o =>
          simp only [hg] at HG
          obtain ⟨fo, ko, bo, io, go, tto, yo, iso, fso⟩ := o
          go_region_law (first
            | (go_simp; go_at_call 30; go_must ((first
             | (refine (HG.out _ ((Below.refl _ _).drew)).mono ?_; rintro e wc ⟨hb3, cs3, rfl, hO3⟩; have hb4 : Below w1.heap.size w1 wc := ((Below.refl _ _).drew).trans hb3)
             | (refine (HG.out _ (((Below.refl _ _).alloc (Nat.le_refl _) _).drew)).mono ?_; rintro e wc ⟨hb3, cs3, rfl, hO3⟩; have hb4 : Below w1.heap.size w1 wc := (((Below.refl _ _).alloc (Nat.le_refl _) (.cells #[.bool false, .int .i64 0, .bool false, .int .i64 0, .float .f64 0, .string { data := #[] }, .string { data := #[] }, .slice none 0 0, .slice none 0 0] 37)).drew).trans (hb3.mono (by simp)); have R := blk_below (w := (w1.alloc (.cells #[.bool false, .int .i64 0, .bool false, .int .i64 0, .float .f64 0, .string { data := #[] }, .string { data := #[] }, .slice none 0 0, .slice none 0 0] 37)).drew) (g := w1.heap.size) (heap_alloc_new w1 _) hb3 (by simp); obtain ⟨z0, z1, z2, z3, z4, z5, z6, z7, z8⟩ := blk9 R; obtain ⟨zf0, zf1, zf2, zf3, zf4, zf5, zf6, zf7, zf8⟩ := blk9f R; clear R)); obtain ⟨ds3, rfl, hv3⟩ := hO3; simp only [IsV] at hv3; obtain ⟨A3, c3, A3', c3', rfl, _⟩ := hv3)))
          all_goals
            have hsz4 := hb4.size
            go_wp2_with fail
            go_meet
            case rel =>
              refine ⟨by rw [hg]; rfl, ?_⟩
              first | (with_reducible refine Below.alloc hb4 ?_ _; omega) | exact hb4.grown (grown9 wc w1.heap.size _ _ _ _ _ _ _ _ _) hsz4 (fun k hk => by injection hk; omega)
        | none =>
          simp only [hg] at HG
          go_region_law (first
            | (go_simp; go_at_call 30; go_must ((first
             | (refine (HG.out _ ((Below.refl _ _).drew)).mono ?_; rintro e wc ⟨hb3, rfl⟩; have hb4 : Below w1.heap.size w1 wc := ((Below.refl _ _).drew).trans hb3)
             | (refine (HG.out _ (((Below.refl _ _).alloc (Nat.le_refl _) _).drew)).mono ?_; rintro e wc ⟨hb3, rfl⟩; have hb4 : Below w1.heap.size w1 wc := (((Below.refl _ _).alloc (Nat.le_refl _) (.cells #[.bool false, .int .i64 0, .bool false, .int .i64 0, .float .f64 0, .string { data := #[] }, .string { data := #[] }, .slice none 0 0, .slice none 0 0] 37)).drew).trans (hb3.mono (by simp)); have R := blk_below (w := (w1.alloc (.cells #[.bool false, .int .i64 0, .bool false, .int .i64 0, .float .f64 0, .string { data := #[] }, .string { data := #[] }, .slice none 0 0, .slice none 0 0] 37)).drew) (g := w1.heap.size) (heap_alloc_new w1 _) hb3 (by simp); obtain ⟨z0, z1, z2, z3, z4, z5, z6, z7, z8⟩ := blk9 R; obtain ⟨zf0, zf1, zf2, zf3, zf4, zf5, zf6, zf7, zf8⟩ := blk9f R; clear R)))))
          all_goals
            have hsz4 := hb4.size
            go_wp2_with fail
            go_meet
            case rel =>
              refine ⟨by rw [hg]; rfl, ?_⟩
              first | (with_reducible refine Below.alloc hb4 ?_ _; omega) | exact hb4.grown (grown9 wc w1.heap.size _ _ _ _ _ _ _ _ _) hsz4 (fun k hk => by injection hk; omega)
      case rest =>
        obtain ⟨rfl, hb5⟩ := hcut
        clear T1 m0 m1 m2 m3 m4 m5 m6 m7 m8 m9 m10 m11 m12 HG
        have HT5 := Lib.hid (HT1.out.below hb5)
        have hb6 := (hbE.mono (show w.heap.size ≤ wr.heap.size by omega)).trans (hb5.mono (by omega))
        have hsz5 := hb5.size
        cases hg : get (tabR (es.take q)) ⟨x1, x2, x3, x4⟩ with
        | some o =>
          have hid : Hid (idx (tabR (es.take q)) ⟨x1, x2, x3, x4⟩ ≠ none) := Lib.hid (fun h => by rw [idx_none h] at hg; cases hg)
          have HTn : Hid (TabAt wc w.heap.size (tabR (es.take (q + 1)))) := Lib.hid (by rw [hts.out, tabR_snoc, put1, if_neg hid.out]; exact HT5.out)
          clear hg hid gE
          simp only [Option.isSome_some]
          go_wp2_with fail
          go_roundw
          case rel =>
            exact ⟨q + 1, by omega, by go_num, HTn, hb.trans hb6⟩
          case measure => simp [intOf]; omega
        | none =>
          have hid := Lib.hid (get_none_iff.1 hg)
          simp only [Option.isSome_none]
          clear hg
          have T1 := cell_of_row wc (w.heap.size + 2) 0 _ _ (0, 0) HT5.out.2
          have glT := blk_lt HT5.out.2
          obtain ⟨m0, m1, m2, m3, m4, m5, m6, m7, m8, m9, m10, m11, m12⟩ := blk13 (blk_below gE hb5 (by omega))
          have HF := Lib.hid (fun (W : World) (hW : Below wc.heap.size wc W) => fresh_any ⟨xf, .mk k2 b2 i2 f2 t2 y2 is2 fs2⟩ (show sz (.mk k2 b2 i2 f2 t2 y2 is2 fs2) ≤ 1048576 by omega) _ W S ⟨_, rfl, (HV.out.below HB.out (hb6.trans (hW.mono (by omega))))⟩ (HB.out.mono (by have := hW.size; omega)))
          clear gE
          go_wp2_with fail
          go_region_law (first
            | (go_simp; go_at_call 32; go_must (refine (HF.out _ ((Below.refl _ _).drew)).mono ?_; rintro e wf ⟨cs3, rfl, hO3, hb7⟩; have HO3 := Lib.hid hO3; have hb8 : Below wc.heap.size wc wf := ((Below.refl _ _).drew).trans hb7; have hsz8 := hb8.size; have T1f := (hb8.cell (p := ⟨w.heap.size + 2, 0, none⟩) glT).trans T1; have HP := Lib.hid (ordPut_any wc.drew wf w.heap.size (w.heap.size + 3) _ (by have := tabR_len (es.take q) []; simp [tabR] at this ⊢; omega) (HT5.out.below ((Below.refl _ _).drew)).1 hb7 ⟨x1, x2, x3, x4⟩ hck hid.out _ _ HO3.out); have m0f := (hb8.cell (p := ⟨wr.heap.size, 0, none⟩) (show wr.heap.size < wc.heap.size by omega)).trans m0; have m1f := (hb8.cell (p := ⟨wr.heap.size, 1, none⟩) (show wr.heap.size < wc.heap.size by omega)).trans m1; have m2f := (hb8.cell (p := ⟨wr.heap.size, 2, none⟩) (show wr.heap.size < wc.heap.size by omega)).trans m2; have m3f := (hb8.cell (p := ⟨wr.heap.size, 3, none⟩) (show wr.heap.size < wc.heap.size by omega)).trans m3; clear hO3))
            | (go_simp; go_at_call 31; go_must (refine HP.out.mono ?_; rintro e wp ⟨rfl, hO9, hb9, hfr⟩)))
          all_goals
            clear HP HF T1 T1f m0 m1 m2 m3 m4 m5 m6 m7 m8 m9 m10 m11 m12 m0f m1f m2f m3f
            have hb10 : Below w.heap.size wc wp := (hb8.mono (by omega)).trans hb9
            have HTn : Hid (TabAt wp w.heap.size (tabR (es.take (q + 1)))) := Lib.hid (by
              rw [hts.out, tabR_snoc, put1, if_pos hid.out]
              exact ⟨hO9, (hfr (w.heap.size + 2) (by omega) (by omega) (by omega)).trans ((hb8.block _ glT).trans HT5.out.2)⟩)
            clear hO9 hfr hid
            go_wp2_with fail
            go_roundw
            case rel => exact ⟨q + 1, by omega, by go_num, HTn, (hb.trans hb6).trans hb10⟩
            case measure => simp [intOf]; omega
    · obtain rfl : q = es.length := by omega
      have HT9 := Lib.hid HT.out
      rw [List.take_of_length_le (Nat.le_refl _)] at HT9
      clear HT
      go_wp2_with fail
      go_ret
      exact ⟨rfl, HT9.out, hb⟩
end Go.Proofs.Ytmicjfdibhoamaa.val
