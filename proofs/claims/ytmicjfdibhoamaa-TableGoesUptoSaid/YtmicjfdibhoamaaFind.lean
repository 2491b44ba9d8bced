/- The table's Find and Len. -/
import Derived.Test.YtmicjfdibhoamaaTab
namespace Go.Proofs.Ytmicjfdibhoamaa.val
open Go.RowKit mem
attribute [local go_sem] run_store_float

theorem blk_set9 {w : World} {g : Nat} {t : TypeId} {c0 c1 c2 c3 c4 c5 c6 c7 c8 : Value} (h : w.heap[g]? = some (.cells #[c0, c1, c2, c3, c4, c5, c6, c7, c8] t (0, 0))) (u0 u1 u2 u3 u4 u5 u6 u7 u8 : Value) :
    (((((((((w.setCell ⟨g, 0, none⟩ u0).setCell ⟨g, 1, none⟩ u1).setCell ⟨g, 2, none⟩ u2).setCell ⟨g, 3, none⟩ u3).setCell ⟨g, 4, none⟩ u4).setCell ⟨g, 5, none⟩ u5).setCell ⟨g, 6, none⟩ u6).setCell ⟨g, 7, none⟩ u7).setCell ⟨g, 8, none⟩ u8).heap[g]? = some (.cells #[u0, u1, u2, u3, u4, u5, u6, u7, u8] t (0, 0)) := by
  simpa using blk_set (blk_set (blk_set (blk_set (blk_set (blk_set (blk_set (blk_set (blk_set h 0 u0) 1 u1) 2 u2) 3 u3) 4 u4) 5 u5) 6 u6) 7 u7) 8 u8

def FindPost (w : World) (r : Option O) (e : Ending) (w' : World) : Prop := Below w.heap.size w w' ∧ match r with
  | none => e = .returned (.tuple #[.agg #[.bool false, .int .i64 0, .bool false, .int .i64 0, .float .f64 0, .string ⟨#[]⟩, .string ⟨#[]⟩, .slice none 0 0, .slice none 0 0], .bool false])
  | some o => ∃ cs, e = .returned (.tuple #[.agg cs.toArray, .bool true]) ∧ IsO w' (New w.heap.size w') o.nrm cs

set_option maxRecDepth 100000 in
set_option maxHeartbeats 1500000 in
theorem tabFind_any (w : World) (g : Nat) (rows : List (C × O)) (hT : TabAt w g rows) (c : C) (hc : c.ok) (hsz : ∀ o, get rows c = some o → sz o.v ≤ 1048576) :
    Calls Try.prog 17 #[.pointer (some ⟨g + 2, 0, none⟩), .agg #[.string c.p, .string c.q, .string c.f, .string c.a]] w (FindPost w (get rows c)) := by
  have HT := Lib.hid hT
  clear hT
  cases hg : get rows c with
  | none =>
    clear hsz
    go_enter Try.func17, Try.ntmps17
    go_wp2_with fail
    have gE := heap_alloc_new w (.cells #[.string c.p, .string c.q, .string c.f, .string c.a] 25)
    have g1 := blk_alloc gE (.cells #[.bool false, .int .i64 0, .bool false, .int .i64 0, .float .f64 0, .string { data := #[] }, .string { data := #[] }, .slice none 0 0, .slice none 0 0] 37)
    have g2 : (((w.alloc (.cells #[.string c.p, .string c.q, .string c.f, .string c.a] 25)).alloc (.cells #[.bool false, .int .i64 0, .bool false, .int .i64 0, .float .f64 0, .string { data := #[] }, .string { data := #[] }, .slice none 0 0, .slice none 0 0] 37))).heap[w.heap.size + 1]? = some (.cells #[.bool false, .int .i64 0, .bool false, .int .i64 0, .float .f64 0, .string { data := #[] }, .string { data := #[] }, .slice none 0 0, .slice none 0 0] 37 (0, 0)) := by
      have := heap_alloc_new (w.alloc (.cells #[.string c.p, .string c.q, .string c.f, .string c.a] 25)) (.cells #[.bool false, .int .i64 0, .bool false, .int .i64 0, .float .f64 0, .string { data := #[] }, .string { data := #[] }, .slice none 0 0, .slice none 0 0] 37)
      simpa using this
    have gb : Below w.heap.size w ((w.alloc (.cells #[.string c.p, .string c.q, .string c.f, .string c.a] 25)).alloc (.cells #[.bool false, .int .i64 0, .bool false, .int .i64 0, .float .f64 0, .string { data := #[] }, .string { data := #[] }, .slice none 0 0, .slice none 0 0] 37)) := ((Below.refl _ _).alloc (Nat.le_refl _) _).alloc (by simp) _
    have gs : w.heap.size + 2 ≤ ((w.alloc (.cells #[.string c.p, .string c.q, .string c.f, .string c.a] 25)).alloc (.cells #[.bool false, .int .i64 0, .bool false, .int .i64 0, .float .f64 0, .string { data := #[] }, .string { data := #[] }, .slice none 0 0, .slice none 0 0] 37)).heap.size := by simp
    clear gE
    generalize ((w.alloc (.cells #[.string c.p, .string c.q, .string c.f, .string c.a] 25)).alloc (.cells #[.bool false, .int .i64 0, .bool false, .int .i64 0, .float .f64 0, .string { data := #[] }, .string { data := #[] }, .slice none 0 0, .slice none 0 0] 37)) = w1 at *
    have HT1 := Lib.hid (HT.out.below gb)
    have T1 := cell_of_row w1 (g + 2) 0 _ _ (0, 0) HT1.out.2
    have glT := blk_lt HT1.out.2
    have glE := blk_lt g1
    have G2 := Lib.hid g2
    obtain ⟨m0, m1, m2, m3⟩ := blk4 g1
    have HG := Lib.hid (fun (W : World) (hW : Below w1.heap.size w1 W) => ordGet_any w1 W g (g + 3) _ HT1.out.1 hW c hc)
    simp only [hg] at HG
    clear g1 g2
    clear hg
    go_cut [6, 7] (fun s6 s7 wx => s7 = .bool false ∧ Below w1.heap.size w1 wx)
    case first =>
      go_region_law (first
        | (go_simp; go_at_call 30; go_must ((first
             | (refine (HG.out _ ((Below.refl _ _).drew)).mono ?_; rintro e wc ⟨hb3, rfl⟩; have hb4 : Below w1.heap.size w1 wc := ((Below.refl _ _).drew).trans hb3)
             | (refine (HG.out _ (((Below.refl _ _).alloc (Nat.le_refl _) _).drew)).mono ?_; rintro e wc ⟨hb3, rfl⟩; have hb4 : Below w1.heap.size w1 wc := (((Below.refl _ _).alloc (Nat.le_refl _) (.cells #[.bool false, .int .i64 0, .bool false, .int .i64 0, .float .f64 0, .string { data := #[] }, .string { data := #[] }, .slice none 0 0, .slice none 0 0] 37)).drew).trans (hb3.mono (by simp)); have R := blk_below (w := (w1.alloc (.cells #[.bool false, .int .i64 0, .bool false, .int .i64 0, .float .f64 0, .string { data := #[] }, .string { data := #[] }, .slice none 0 0, .slice none 0 0] 37)).drew) (g := w1.heap.size) (heap_alloc_new w1 _) hb3 (by simp); obtain ⟨z0, z1, z2, z3, z4, z5, z6, z7, z8⟩ := blk9 R; obtain ⟨zf0, zf1, zf2, zf3, zf4, zf5, zf6, zf7, zf8⟩ := blk9f R; have R' := Lib.hid R; clear R)))))
      all_goals
        have hsz4 := hb4.size
        go_wp2_with fail
        go_meet
        case rel =>
          refine ⟨rfl, ?_⟩
          first | (with_reducible refine Below.alloc hb4 ?_ _; omega) | exact hb4.grown (grown9 wc w1.heap.size _ _ _ _ _ _ _ _ _) hsz4 (fun k hk => by injection hk; omega)
    case rest =>
      obtain ⟨rfl, hb5⟩ := hcut
      clear m0 m1 m2 m3 T1 HG
      have R := blk_below G2.out hb5 (by omega)
      obtain ⟨y0, y1, y2, y3, y4, y5, y6, y7, y8⟩ := blk9 R
      obtain ⟨f0, f1, f2, f3, f4, f5, f6, f7, f8⟩ := blk9f R
      have hsz5 := hb5.size
      clear R G2
      go_wp2_with fail
      refine bodyPost_ret (v := .tuple #[.agg #[.bool false, .int .i64 0, .bool false, .int .i64 0, .float .f64 0, .string ⟨#[]⟩, .string ⟨#[]⟩, .slice none 0 0, .slice none 0 0], .bool false]) (by simp [results, Try.results17, go_sem, y0, y1, y2, y3, y4, y5, y6, y7, y8]) rfl ⟨(gb.trans (hb5.mono (by omega))).grown (grown9 wc (w.heap.size + 1) _ _ _ _ _ _ _ _ _) (by omega) (fun k hk => by injection hk; omega), rfl⟩
  | some o =>
    have hso := hsz o hg
    clear hsz
    obtain ⟨fo, ko, bo, io, go, tto, yo, iso, fso⟩ := o
    go_enter Try.func17, Try.ntmps17
    go_wp2_with fail
    have gE := heap_alloc_new w (.cells #[.string c.p, .string c.q, .string c.f, .string c.a] 25)
    have g1 := blk_alloc gE (.cells #[.bool false, .int .i64 0, .bool false, .int .i64 0, .float .f64 0, .string { data := #[] }, .string { data := #[] }, .slice none 0 0, .slice none 0 0] 37)
    have g2 : (((w.alloc (.cells #[.string c.p, .string c.q, .string c.f, .string c.a] 25)).alloc (.cells #[.bool false, .int .i64 0, .bool false, .int .i64 0, .float .f64 0, .string { data := #[] }, .string { data := #[] }, .slice none 0 0, .slice none 0 0] 37))).heap[w.heap.size + 1]? = some (.cells #[.bool false, .int .i64 0, .bool false, .int .i64 0, .float .f64 0, .string { data := #[] }, .string { data := #[] }, .slice none 0 0, .slice none 0 0] 37 (0, 0)) := by
      have := heap_alloc_new (w.alloc (.cells #[.string c.p, .string c.q, .string c.f, .string c.a] 25)) (.cells #[.bool false, .int .i64 0, .bool false, .int .i64 0, .float .f64 0, .string { data := #[] }, .string { data := #[] }, .slice none 0 0, .slice none 0 0] 37)
      simpa using this
    have gb : Below w.heap.size w ((w.alloc (.cells #[.string c.p, .string c.q, .string c.f, .string c.a] 25)).alloc (.cells #[.bool false, .int .i64 0, .bool false, .int .i64 0, .float .f64 0, .string { data := #[] }, .string { data := #[] }, .slice none 0 0, .slice none 0 0] 37)) := ((Below.refl _ _).alloc (Nat.le_refl _) _).alloc (by simp) _
    have gs : w.heap.size + 2 ≤ ((w.alloc (.cells #[.string c.p, .string c.q, .string c.f, .string c.a] 25)).alloc (.cells #[.bool false, .int .i64 0, .bool false, .int .i64 0, .float .f64 0, .string { data := #[] }, .string { data := #[] }, .slice none 0 0, .slice none 0 0] 37)).heap.size := by simp
    clear gE
    generalize ((w.alloc (.cells #[.string c.p, .string c.q, .string c.f, .string c.a] 25)).alloc (.cells #[.bool false, .int .i64 0, .bool false, .int .i64 0, .float .f64 0, .string { data := #[] }, .string { data := #[] }, .slice none 0 0, .slice none 0 0] 37)) = w1 at *
    have HT1 := Lib.hid (HT.out.below gb)
    have T1 := cell_of_row w1 (g + 2) 0 _ _ (0, 0) HT1.out.2
    have glT := blk_lt HT1.out.2
    have glE := blk_lt g1
    have G2 := Lib.hid g2
    obtain ⟨m0, m1, m2, m3⟩ := blk4 g1
    have HG := Lib.hid (fun (W : World) (hW : Below w1.heap.size w1 W) => ordGet_any w1 W g (g + 3) _ HT1.out.1 hW c hc)
    simp only [hg] at HG
    clear g1 g2
    clear hg
    go_cut [6, 7] (fun s6 s7 wx => s7 = .bool true ∧ Below w1.heap.size w1 wx ∧ ∃ (b : Nat) (A3 : Option Addr) (c3 : Nat) (A3' : Option Addr) (c3' : Nat), s6 = .pointer (some ⟨b, 0, none⟩) ∧ b < wx.heap.size ∧ Hid (wx.heap[b]? = some (.cells #[.bool fo, .int .i64 ko, .bool bo, .int .i64 io, .float .f64 go, .string tto, .string yo, .slice A3 iso.length c3, .slice A3' fso.length c3'] 37 (0, 0))) ∧ Hid (IsO wx (New (g + 3) w1) ⟨fo, .mk ko bo io go tto yo iso fso⟩ [.bool fo, .int .i64 ko, .bool bo, .int .i64 io, .float .f64 go, .string tto, .string yo, .slice A3 iso.length c3, .slice A3' fso.length c3']))
    case first =>
      go_region_law (first
        | (go_simp; go_at_call 30; go_must ((first
             | (refine (HG.out _ ((Below.refl _ _).drew)).mono ?_; rintro e wc ⟨hb3, cs3, rfl, hO3⟩; have hb4 : Below w1.heap.size w1 wc := ((Below.refl _ _).drew).trans hb3)
             | (refine (HG.out _ (((Below.refl _ _).alloc (Nat.le_refl _) _).drew)).mono ?_; rintro e wc ⟨hb3, cs3, rfl, hO3⟩; have hb4 : Below w1.heap.size w1 wc := (((Below.refl _ _).alloc (Nat.le_refl _) (.cells #[.bool false, .int .i64 0, .bool false, .int .i64 0, .float .f64 0, .string { data := #[] }, .string { data := #[] }, .slice none 0 0, .slice none 0 0] 37)).drew).trans (hb3.mono (by simp)); have R := blk_below (w := (w1.alloc (.cells #[.bool false, .int .i64 0, .bool false, .int .i64 0, .float .f64 0, .string { data := #[] }, .string { data := #[] }, .slice none 0 0, .slice none 0 0] 37)).drew) (g := w1.heap.size) (heap_alloc_new w1 _) hb3 (by simp); obtain ⟨z0, z1, z2, z3, z4, z5, z6, z7, z8⟩ := blk9 R; obtain ⟨zf0, zf1, zf2, zf3, zf4, zf5, zf6, zf7, zf8⟩ := blk9f R; have R' := Lib.hid R; clear R)); have HO3 := Lib.hid hO3; obtain ⟨ds3, rfl, hv3⟩ := hO3; simp only [IsV] at hv3; obtain ⟨A3, c3, A3', c3', rfl, _⟩ := hv3)))
      all_goals
        have hsz4 := hb4.size
        go_wp2_with fail
        go_meet
        case rel =>
          refine And.intro rfl ?_
          first
            | (refine And.intro ?_ ?_
               · (with_reducible refine Below.alloc hb4 ?_ _; omega)
               · exact ⟨wc.heap.size, A3, c3, A3', c3', rfl, by simp, Lib.hid (heap_alloc_new wc _), Lib.hid (recO.keep (fun p hp => World.cell?_of_block (Below.heap_alloc wc _ p.block (by have := hp.2; omega))) (fun b hb => hb) HO3.out)⟩)
            | (have hG9 := grown9 wc w1.heap.size (.bool fo) (.int .i64 ko) (.bool bo) (.int .i64 io) (.float .f64 go) (.string tto) (.string yo) (.slice A3 iso.length c3) (.slice A3' fso.length c3')
               refine And.intro ?_ ?_
               · exact hb4.grown hG9 hsz4 (fun k hk => by injection hk; omega)
               · exact ⟨w1.heap.size, A3, c3, A3', c3', rfl, blk_lt (blk_set9 R'.out _ _ _ _ _ _ _ _ _), Lib.hid (blk_set9 R'.out _ _ _ _ _ _ _ _ _), Lib.hid (recO.keep (fun p hp => World.cell?_of_block (hG9.block p.block (by have := hp.2; omega) (by have := hp.2; intro e; injection e; omega))) (fun b hb => hb) HO3.out)⟩)
    case rest =>
      obtain ⟨rfl, hb5, b, A3, c3, A3', c3', rfl, hbl, HB, HO⟩ := hcut
      clear m0 m1 m2 m3 T1 HG
      have hsz5 := hb5.size
      have G2w := Lib.hid (blk_below G2.out hb5 (by omega))
      obtain ⟨d0, d1, d2, d3, d4, d5, d6, d7, d8⟩ := blk9 HB.out
      have hbw := gb.trans (hb5.mono (show w.heap.size ≤ w1.heap.size by omega))
      go_wp2_with fail
      refine (fresh_any ⟨fo, .mk ko bo io go tto yo iso fso⟩ hso _ wc (New (g + 3) w1) HO.out (fun b hb => Nat.lt_of_lt_of_le hb.2 hsz5)).mono ?_
      rintro e wd ⟨cs9, rfl, hO9, hb9⟩
      have HO9 := Lib.hid hO9
      obtain ⟨ds9, rfl, hv9⟩ := hO9
      generalize hon : (O.nrm ⟨fo, .mk ko bo io go tto yo iso fso⟩) = on at *
      have HN := Lib.hid hon
      clear hon
      obtain ⟨fn, kn, bn, inn, gn, tn, yn, isn, fsn⟩ := on
      simp only [IsV] at hv9
      obtain ⟨A9, c9, A9', c9', rfl, _⟩ := hv9
      have R := blk_below G2w.out hb9 (by omega)
      obtain ⟨y0, y1, y2, y3, y4, y5, y6, y7, y8⟩ := blk9 R
      obtain ⟨f0, f1, f2, f3, f4, f5, f6, f7, f8⟩ := blk9f R
      have hsz9 := hb9.size
      have hbw9 := hbw.trans (hb9.mono (by omega))
      clear R G2w G2 d0 d1 d2 d3 d4 d5 d6 d7 d8
      go_wp2_with fail
      have hG9 := grown9 wd (w.heap.size + 1) (.bool fn) (.int .i64 kn) (.bool bn) (.int .i64 inn) (.float .f64 gn) (.string tn) (.string yn) (.slice A9 isn.length c9) (.slice A9' fsn.length c9')
      refine bodyPost_ret (v := .tuple #[.agg #[.bool fn, .int .i64 kn, .bool bn, .int .i64 inn, .float .f64 gn, .string tn, .string yn, .slice A9 isn.length c9, .slice A9' fsn.length c9'], .bool true]) (by simp [results, Try.results17, go_sem, y0, y1, y2, y3, y4, y5, y6, y7, y8]) rfl ⟨hbw9.grown hG9 (by omega) (fun k hk => by injection hk; omega), _, rfl, ?_⟩
      rw [HN.out]
      exact recO.keep (S := New wc.heap.size wd) (fun p hp => World.cell?_of_block (hG9.block p.block hp.2 (by have := hp.1; intro e; injection e; omega))) (fun b hb => ⟨by have := hb.1; omega, Nat.lt_of_lt_of_le hb.2 hG9.size⟩) HO9.out

def LenPost (w : World) (n : Nat) (e : Ending) (w' : World) : Prop := e = .returned (.int .i64 n) ∧ w = w'
set_option maxRecDepth 100000 in
theorem tabLen_any (w : World) (g : Nat) (rows : List (C × O)) (hT : TabAt w g rows) : Calls Try.prog 19 #[.pointer (some ⟨g + 2, 0, none⟩)] w (LenPost w rows.length) := by
  have HC := Lib.hid (ordLen_any w g (g + 3) rows hT.1)
  have T1 := cell_of_row w (g + 2) 0 _ _ (0, 0) hT.2
  clear hT
  go_enter Try.func19, Try.ntmps19
  go_wp2_with fail
  refine HC.out.mono ?_
  rintro e w' ⟨rfl, rfl⟩
  go_wp2_with fail
  go_ret
  exact ⟨rfl, rfl⟩
end Go.Proofs.Ytmicjfdibhoamaa.val
