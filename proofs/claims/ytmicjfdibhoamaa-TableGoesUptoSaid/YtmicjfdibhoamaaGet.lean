/- The ordered table's functions. -/
import Derived.Test.YtmicjfdibhoamaaOrd
import Derived.Test.YtmicjfdibhoamaaFresh
import Derived.Handy
import Derived.WalkSpells
import Derived.Deep.DeepMust
import Derived.Deep.RegionHeld3
import Derived.Deep.RegionLaw
import Derived.Deep.QuietTactic
import Derived.BigQuiet
import Derived.WalkSmall
import Derived.Carry
namespace Go.Proofs.Ytmicjfdibhoamaa.val
open Go.RowKit mem
attribute [local go_sem] run_store_float

theorem blk4 {w : World} {g : Nat} {t : TypeId} {c0 c1 c2 c3 : Value} (h : w.heap[g]? = some (.cells #[c0, c1, c2, c3] t (0, 0))) :
    w.cell? ⟨g, 0, none⟩ = some c0 ∧ w.cell? ⟨g, 1, none⟩ = some c1 ∧ w.cell? ⟨g, 2, none⟩ = some c2 ∧ w.cell? ⟨g, 3, none⟩ = some c3 :=
  ⟨cell_of_row w g 0 _ t (0, 0) h, cell_of_row w g 1 _ t (0, 0) h, cell_of_row w g 2 _ t (0, 0) h, cell_of_row w g 3 _ t (0, 0) h⟩

theorem grown9 (w : World) (g : Nat) (u0 u1 u2 u3 u4 u5 u6 u7 u8 : Value) : w.grownBy (((((((((w.setCell ⟨g, 0, none⟩ u0).setCell ⟨g, 1, none⟩ u1).setCell ⟨g, 2, none⟩ u2).setCell ⟨g, 3, none⟩ u3).setCell ⟨g, 4, none⟩ u4).setCell ⟨g, 5, none⟩ u5).setCell ⟨g, 6, none⟩ u6).setCell ⟨g, 7, none⟩ u7).setCell ⟨g, 8, none⟩ u8) (some g) :=
  grown_set (grown_set (grown_set (grown_set (grown_set (grown_set (grown_set (grown_set (grown_set (grown_refl w (some g)) 0 _) 1 _) 2 _) 3 _) 4 _) 5 _) 6 _) 7 _) 8 _

def NewOrdPost (w : World) (e : Ending) (w' : World) : Prop := e = .returned (.pointer (some ⟨w.heap.size + 1, 0, none⟩)) ∧ MapIs w' w.heap.size 0 (fun _ => none) ∧
  w'.heap[w.heap.size + 1]? = some (.cells #[.map (some w.heap.size), .slice none 0 0, .slice none 0 0] 85 (0, 0)) ∧ Below w.heap.size w w' ∧ w'.heap.size = w.heap.size + 2
theorem ordAt_nil {w : World} {g lo : Nat} (hM : MapIs w g 0 (fun _ => none)) (hb : w.heap[g + 1]? = some (.cells #[.map (some g), .slice none 0 0, .slice none 0 0] 85 (0, 0))) (h1 : g + 2 ≤ lo) (h2 : lo ≤ w.heap.size) : OrdAt w g lo [] :=
  ⟨.slice none 0 0, .slice none 0 0, [], h1, h2, hb, hM, World.ownsRow_nil _ _ _ _, World.ownsRow_nil _ _ _ _, (fun b h => by simp [Value.ownBlock] at h), Elems.nil⟩

set_option maxRecDepth 100000 in
theorem newOrd_any (w : World) : Calls Try.prog 29 #[] w (NewOrdPost w) := by
  have hmm := @run_makeMap Try.prog
  go_enter Try.func29, Try.ntmps29
  go_wp2_with fail
  go_ret
  have hM := MapIs.made w
  have hg := heap_alloc_new (w.alloc (.map #[] 0)) (.cells #[.map (some w.heap.size), .slice none 0 0, .slice none 0 0] 85)
  exact ⟨by simp, hM.heap (Below.heap_alloc _ _ _ hM.lt), by simpa using hg, ((Below.refl _ _).alloc (Nat.le_refl _) _).alloc (by simp) _, by simp⟩

def OrdLenPost (w : World) (n : Nat) (e : Ending) (w' : World) : Prop := e = .returned (.int .i64 n) ∧ w = w'
set_option maxRecDepth 100000 in
theorem ordLen_any (w : World) (g lo : Nat) (rows : List (C × O)) (h : OrdAt w g lo rows) : Calls Try.prog 34 #[.pointer (some ⟨g + 1, 0, none⟩)] w (OrdLenPost w rows.length) := by
  obtain ⟨K, U, css, h1, h2, h3, h4, h5, h6, h7, h8⟩ := h
  have j1 := cell_of_row w (g + 1) 1 _ _ (0, 0) h3
  obtain ⟨A, c, rfl, _⟩ := own_form h5
  clear h3 h4 h5 h6 h7 h8
  go_enter Try.func34, Try.ntmps34
  go_wp2_with fail
  go_ret
  exact ⟨rfl, rfl⟩

def GetPost (w0 w : World) (lo : Nat) (r : Option O) (e : Ending) (w' : World) : Prop := Below w.heap.size w w' ∧ match r with
  | none => e = .returned (.tuple #[.agg #[.bool false, .int .i64 0, .bool false, .int .i64 0, .float .f64 0, .string ⟨#[]⟩, .string ⟨#[]⟩, .slice none 0 0, .slice none 0 0], .bool false])
  | some o => ∃ cs, e = .returned (.tuple #[.agg cs.toArray, .bool true]) ∧ IsO w' (New lo w0) o cs

set_option maxRecDepth 100000 in
set_option maxHeartbeats 1000000 in
theorem ordGet_any (w0 w : World) (g lo : Nat) (rows : List (C × O)) (h : OrdAt w0 g lo rows) (hb0 : Below w0.heap.size w0 w) (c : C) (hc : c.ok) :
    Calls Try.prog 30 #[.pointer (some ⟨g + 1, 0, none⟩), .agg #[.string c.p, .string c.q, .string c.f, .string c.a]] w (GetPost w0 w lo (get rows c)) := by
  have hs0 := hb0.size
  obtain ⟨K, U, css, h1, h2, h3, h4, h5, h6, h7, h8⟩ := h
  have hlook := Lib.hid (fun (W : World) (hW : Below w.heap.size w W) => ((h4.heap (hb0.block _ h4.lt)).heap (hW.block _ (by have := h4.lt; omega))).look hc)
  have hblk := Lib.hid (fun (W : World) (hW : Below w.heap.size w W) => blk_below (blk_below h3 hb0 (blk_lt h3)) hW (by have := blk_lt h3; omega))
  have hgl := h4.lt
  have hgl3 := blk_lt h3
  cases hi : idx rows c with
  | none =>
    rw [idx_none hi]
    simp only [hi] at hlook
    clear hi h3 h4 h5 h6 h7 h8
    go_enter Try.func30, Try.ntmps30
    go_wp2_with fail
    have g1 : (((w.alloc (.cells #[.string c.p, .string c.q, .string c.f, .string c.a] 25)).alloc (.cells #[.bool false, .int .i64 0, .bool false, .int .i64 0, .float .f64 0, .string { data := #[] }, .string { data := #[] }, .slice none 0 0, .slice none 0 0] 37)).alloc (.cells #[.bool false, .int .i64 0, .bool false, .int .i64 0, .float .f64 0, .string { data := #[] }, .string { data := #[] }, .slice none 0 0, .slice none 0 0] 37)).heap[w.heap.size]? = some (.cells #[.string c.p, .string c.q, .string c.f, .string c.a] 25 (0, 0)) := blk_alloc (blk_alloc (heap_alloc_new _ _) _) _
    have g2 : (((w.alloc (.cells #[.string c.p, .string c.q, .string c.f, .string c.a] 25)).alloc (.cells #[.bool false, .int .i64 0, .bool false, .int .i64 0, .float .f64 0, .string { data := #[] }, .string { data := #[] }, .slice none 0 0, .slice none 0 0] 37)).alloc (.cells #[.bool false, .int .i64 0, .bool false, .int .i64 0, .float .f64 0, .string { data := #[] }, .string { data := #[] }, .slice none 0 0, .slice none 0 0] 37)).heap[w.heap.size + 1]? = some (.cells #[.bool false, .int .i64 0, .bool false, .int .i64 0, .float .f64 0, .string { data := #[] }, .string { data := #[] }, .slice none 0 0, .slice none 0 0] 37 (0, 0)) := by
      refine blk_alloc ?_ _
      have := heap_alloc_new (w.alloc (.cells #[.string c.p, .string c.q, .string c.f, .string c.a] 25)) (.cells #[.bool false, .int .i64 0, .bool false, .int .i64 0, .float .f64 0, .string { data := #[] }, .string { data := #[] }, .slice none 0 0, .slice none 0 0] 37)
      simpa using this
    have g3 : (((w.alloc (.cells #[.string c.p, .string c.q, .string c.f, .string c.a] 25)).alloc (.cells #[.bool false, .int .i64 0, .bool false, .int .i64 0, .float .f64 0, .string { data := #[] }, .string { data := #[] }, .slice none 0 0, .slice none 0 0] 37)).alloc (.cells #[.bool false, .int .i64 0, .bool false, .int .i64 0, .float .f64 0, .string { data := #[] }, .string { data := #[] }, .slice none 0 0, .slice none 0 0] 37)).heap[w.heap.size + 1 + 1]? = some (.cells #[.bool false, .int .i64 0, .bool false, .int .i64 0, .float .f64 0, .string { data := #[] }, .string { data := #[] }, .slice none 0 0, .slice none 0 0] 37 (0, 0)) := by
      have := heap_alloc_new ((w.alloc (.cells #[.string c.p, .string c.q, .string c.f, .string c.a] 25)).alloc (.cells #[.bool false, .int .i64 0, .bool false, .int .i64 0, .float .f64 0, .string { data := #[] }, .string { data := #[] }, .slice none 0 0, .slice none 0 0] 37)) (.cells #[.bool false, .int .i64 0, .bool false, .int .i64 0, .float .f64 0, .string { data := #[] }, .string { data := #[] }, .slice none 0 0, .slice none 0 0] 37)
      simpa using this
    have gb : Below w.heap.size w (((w.alloc (.cells #[.string c.p, .string c.q, .string c.f, .string c.a] 25)).alloc (.cells #[.bool false, .int .i64 0, .bool false, .int .i64 0, .float .f64 0, .string { data := #[] }, .string { data := #[] }, .slice none 0 0, .slice none 0 0] 37)).alloc (.cells #[.bool false, .int .i64 0, .bool false, .int .i64 0, .float .f64 0, .string { data := #[] }, .string { data := #[] }, .slice none 0 0, .slice none 0 0] 37)) := (((Below.refl _ _).alloc (Nat.le_refl _) _).alloc (by simp) _).alloc (by simp; omega) _
    have gs : (((w.alloc (.cells #[.string c.p, .string c.q, .string c.f, .string c.a] 25)).alloc (.cells #[.bool false, .int .i64 0, .bool false, .int .i64 0, .float .f64 0, .string { data := #[] }, .string { data := #[] }, .slice none 0 0, .slice none 0 0] 37)).alloc (.cells #[.bool false, .int .i64 0, .bool false, .int .i64 0, .float .f64 0, .string { data := #[] }, .string { data := #[] }, .slice none 0 0, .slice none 0 0] 37)).heap.size = w.heap.size + 3 := by simp
    generalize (((w.alloc (.cells #[.string c.p, .string c.q, .string c.f, .string c.a] 25)).alloc (.cells #[.bool false, .int .i64 0, .bool false, .int .i64 0, .float .f64 0, .string { data := #[] }, .string { data := #[] }, .slice none 0 0, .slice none 0 0] 37)).alloc (.cells #[.bool false, .int .i64 0, .bool false, .int .i64 0, .float .f64 0, .string { data := #[] }, .string { data := #[] }, .slice none 0 0, .slice none 0 0] 37)) = w3 at *
    obtain ⟨m0, m1, m2, m3⟩ := blk4 g1
    have j0 := cell_of_row w3 (g + 1) 0 _ _ (0, 0) (hblk.out w3 gb)
    have hl : ∀ n, _ := fun n => hlook.out (w3.drewN n) (below_drewN gb n)
    simp only [Option.map_none, Option.getD_none, Option.isSome_none] at hl
    go_quiet (fail)
    clear hl hlook m0 m1 m2 m3 j0 g1
    replace gb := below_drewN gb nq
    replace gs : (w3.drewN nq).heap.size = w.heap.size + 3 := gs
    replace g2 : (w3.drewN nq).heap[w.heap.size + 1]? = _ := g2
    replace g3 : (w3.drewN nq).heap[w.heap.size + 1 + 1]? = _ := g3
    generalize (w3.drewN nq) = w4 at *
    obtain ⟨zz0, zz1, zz2, zz3, zz4, zz5, zz6, zz7, zz8⟩ := blk9 g3
    obtain ⟨ff0, ff1, ff2, ff3, ff4, ff5, ff6, ff7, ff8⟩ := blk9f g2
    obtain ⟨yy0, yy1, yy2, yy3, yy4, yy5, yy6, yy7, yy8⟩ := blk9 g2
    clear g3 g2
    go_wp2_with fail
    refine bodyPost_ret (v := .tuple #[.agg #[.bool false, .int .i64 0, .bool false, .int .i64 0, .float .f64 0, .string ⟨#[]⟩, .string ⟨#[]⟩, .slice none 0 0, .slice none 0 0], .bool false]) (by simp [results, Try.results30, go_sem, yy0, yy1, yy2, yy3, yy4, yy5, yy6, yy7, yy8]) rfl ⟨gb.grown (grown9 w4 _ _ _ _ _ _ _ _ _ _) (by omega) (fun k hk => by injection hk; omega), rfl⟩
  | some q =>
    obtain ⟨o, hq, hg⟩ := idx_some hi
    rw [hg]
    simp only [hi] at hlook
    obtain ⟨gU, cU, cs, rfl, hgU, hgU2, hcs, hr⟩ := own_at' recO (l := rows.map (fun e => e.2)) (by simpa using h6) h8 (j := q) (x := o) (by rw [List.getElem?_map, hq]; rfl)
    have hR := Lib.hid hr
    obtain ⟨fl, v⟩ := o
    obtain ⟨ds, rfl, hv⟩ := hr
    obtain ⟨k2, b2, i2, f2, t2, y2, is2, fs2⟩ := v
    simp only [IsV] at hv
    obtain ⟨A2, c2, A2', c2', rfl, _⟩ := hv
    rw [List.length_map] at hblk
    have had : (⟨gU, 0, none⟩ : Addr).block < w0.heap.size := hgU2
    generalize (⟨gU, 0, none⟩ : Addr) = adU at *
    have HCS := Lib.hid (fun (W : World) (hW : Below w.heap.size w W) => (CellsAt.keep (S := fun b => b < w0.heap.size) hcs (by rw [add_block]; exact had) (fun p hp => (hW.cell (show p.block < w.heap.size by omega)).trans (hb0.cell hp))).nine)
    have hql := (List.getElem?_eq_some_iff.1 hq).1
    clear hcs
    clear hi hq hg h3 h4 h5 h6 h7 h8
    go_enter Try.func30, Try.ntmps30
    go_wp2_with fail
    have g1 : (((w.alloc (.cells #[.string c.p, .string c.q, .string c.f, .string c.a] 25)).alloc (.cells #[.bool false, .int .i64 0, .bool false, .int .i64 0, .float .f64 0, .string { data := #[] }, .string { data := #[] }, .slice none 0 0, .slice none 0 0] 37)).alloc (.cells #[.bool false, .int .i64 0, .bool false, .int .i64 0, .float .f64 0, .string { data := #[] }, .string { data := #[] }, .slice none 0 0, .slice none 0 0] 37)).heap[w.heap.size]? = some (.cells #[.string c.p, .string c.q, .string c.f, .string c.a] 25 (0, 0)) := blk_alloc (blk_alloc (heap_alloc_new _ _) _) _
    have g2 : (((w.alloc (.cells #[.string c.p, .string c.q, .string c.f, .string c.a] 25)).alloc (.cells #[.bool false, .int .i64 0, .bool false, .int .i64 0, .float .f64 0, .string { data := #[] }, .string { data := #[] }, .slice none 0 0, .slice none 0 0] 37)).alloc (.cells #[.bool false, .int .i64 0, .bool false, .int .i64 0, .float .f64 0, .string { data := #[] }, .string { data := #[] }, .slice none 0 0, .slice none 0 0] 37)).heap[w.heap.size + 1]? = some (.cells #[.bool false, .int .i64 0, .bool false, .int .i64 0, .float .f64 0, .string { data := #[] }, .string { data := #[] }, .slice none 0 0, .slice none 0 0] 37 (0, 0)) := by
      refine blk_alloc ?_ _
      have := heap_alloc_new (w.alloc (.cells #[.string c.p, .string c.q, .string c.f, .string c.a] 25)) (.cells #[.bool false, .int .i64 0, .bool false, .int .i64 0, .float .f64 0, .string { data := #[] }, .string { data := #[] }, .slice none 0 0, .slice none 0 0] 37)
      simpa using this
    have g3 : (((w.alloc (.cells #[.string c.p, .string c.q, .string c.f, .string c.a] 25)).alloc (.cells #[.bool false, .int .i64 0, .bool false, .int .i64 0, .float .f64 0, .string { data := #[] }, .string { data := #[] }, .slice none 0 0, .slice none 0 0] 37)).alloc (.cells #[.bool false, .int .i64 0, .bool false, .int .i64 0, .float .f64 0, .string { data := #[] }, .string { data := #[] }, .slice none 0 0, .slice none 0 0] 37)).heap[w.heap.size + 1 + 1]? = some (.cells #[.bool false, .int .i64 0, .bool false, .int .i64 0, .float .f64 0, .string { data := #[] }, .string { data := #[] }, .slice none 0 0, .slice none 0 0] 37 (0, 0)) := by
      have := heap_alloc_new ((w.alloc (.cells #[.string c.p, .string c.q, .string c.f, .string c.a] 25)).alloc (.cells #[.bool false, .int .i64 0, .bool false, .int .i64 0, .float .f64 0, .string { data := #[] }, .string { data := #[] }, .slice none 0 0, .slice none 0 0] 37)) (.cells #[.bool false, .int .i64 0, .bool false, .int .i64 0, .float .f64 0, .string { data := #[] }, .string { data := #[] }, .slice none 0 0, .slice none 0 0] 37)
      simpa using this
    have gb : Below w.heap.size w (((w.alloc (.cells #[.string c.p, .string c.q, .string c.f, .string c.a] 25)).alloc (.cells #[.bool false, .int .i64 0, .bool false, .int .i64 0, .float .f64 0, .string { data := #[] }, .string { data := #[] }, .slice none 0 0, .slice none 0 0] 37)).alloc (.cells #[.bool false, .int .i64 0, .bool false, .int .i64 0, .float .f64 0, .string { data := #[] }, .string { data := #[] }, .slice none 0 0, .slice none 0 0] 37)) := (((Below.refl _ _).alloc (Nat.le_refl _) _).alloc (by simp) _).alloc (by simp; omega) _
    have gs : (((w.alloc (.cells #[.string c.p, .string c.q, .string c.f, .string c.a] 25)).alloc (.cells #[.bool false, .int .i64 0, .bool false, .int .i64 0, .float .f64 0, .string { data := #[] }, .string { data := #[] }, .slice none 0 0, .slice none 0 0] 37)).alloc (.cells #[.bool false, .int .i64 0, .bool false, .int .i64 0, .float .f64 0, .string { data := #[] }, .string { data := #[] }, .slice none 0 0, .slice none 0 0] 37)).heap.size = w.heap.size + 3 := by simp
    generalize (((w.alloc (.cells #[.string c.p, .string c.q, .string c.f, .string c.a] 25)).alloc (.cells #[.bool false, .int .i64 0, .bool false, .int .i64 0, .float .f64 0, .string { data := #[] }, .string { data := #[] }, .slice none 0 0, .slice none 0 0] 37)).alloc (.cells #[.bool false, .int .i64 0, .bool false, .int .i64 0, .float .f64 0, .string { data := #[] }, .string { data := #[] }, .slice none 0 0, .slice none 0 0] 37)) = w3 at *
    obtain ⟨m0, m1, m2, m3⟩ := blk4 g1
    have j0 := cell_of_row w3 (g + 1) 0 _ _ (0, 0) (hblk.out w3 gb)
    have hl : ∀ n, _ := fun n => hlook.out (w3.drewN n) (below_drewN gb n)
    simp only [Option.map_some, Option.getD_some, Option.isSome_some] at hl
    go_quiet (fail)
    clear hl hlook m0 m1 m2 m3 j0 g1
    replace gb := below_drewN gb nq
    replace gs : (w3.drewN nq).heap.size = w.heap.size + 3 := gs
    replace g2 : (w3.drewN nq).heap[w.heap.size + 1]? = _ := g2
    replace g3 : (w3.drewN nq).heap[w.heap.size + 1 + 1]? = _ := g3
    generalize (w3.drewN nq) = w4 at *
    obtain ⟨zz0, zz1, zz2, zz3, zz4, zz5, zz6, zz7, zz8⟩ := blk9 g3
    obtain ⟨ff0, ff1, ff2, ff3, ff4, ff5, ff6, ff7, ff8⟩ := blk9f g2
    obtain ⟨yy0, yy1, yy2, yy3, yy4, yy5, yy6, yy7, yy8⟩ := blk9 g2
    clear g3 g2
    have x2 := cell_of_row w4 (g + 1) 2 _ _ (0, 0) (hblk.out w4 gb)
    obtain ⟨d0, d1, d2, d3, d4, d5, d6, d7, d8⟩ := HCS.out w4 gb
    clear zz0 zz1 zz2 zz3 zz4 zz5 zz6 zz7 zz8 hblk
    go_wp2_with fail
    have hG := grown9 w4 (w.heap.size + 1) (.bool fl) (.int .i64 k2) (.bool b2) (.int .i64 i2) (.float .f64 f2) (.string t2) (.string y2) (.slice A2 is2.length c2) (.slice A2' fs2.length c2')
    have hbz := gb.grown hG (by omega) (fun k hk => by injection hk; omega)
    refine bodyPost_ret (v := .tuple #[.agg #[.bool fl, .int .i64 k2, .bool b2, .int .i64 i2, .float .f64 f2, .string t2, .string y2, .slice A2 is2.length c2, .slice A2' fs2.length c2'], .bool true]) (by simp [results, Try.results30, go_sem, yy0, yy1, yy2, yy3, yy4, yy5, yy6, yy7, yy8]) rfl ⟨hbz, _, rfl, ?_⟩
    exact recO.keep (fun p hp => (hbz.cell (show p.block < w.heap.size by have := hp.2.1; omega)).trans (hb0.cell hp.2.1)) (fun b hb => ⟨hb.1, hb.2.1⟩) hR.out
end Go.Proofs.Ytmicjfdibhoamaa.val
