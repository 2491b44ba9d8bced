/- JsonoutSame, of any two values. -/
import Derived.Test.YthlncdcfppehcaaDoorGEq3
namespace Go.Proofs.YthlncdcfppehcaaDoor.look
open Go.RowKit mem txt app smap val
set_option linter.unusedVariables false

theorem cells_blk2 {W : World} {g : Nat} {T : TypeId} {cs : List Value} (h : W.heap[g]? = some (.cells cs.toArray T (0, 0))) (off : Nat) (ds : List Value) (hd : ∀ o u, ds[o]? = some u → cs[off + o]? = some u) : CellsAt W ((⟨g, 0, none⟩ : Addr).add off) ds := fun o u hu => by
  rw [add_add, add_zero_off, cell_of_row W g (off + o) _ T (0, 0) h]
  simpa using hd o u hu
theorem blk_lt2 {W : World} {g : Nat} {cs : Array Value} {T : TypeId} {z : Nat × Nat} (h : W.heap[g]? = some (.cells cs T z)) : g < W.heap.size := (Array.getElem?_eq_some_iff.1 h).1
theorem eight {x : V} {w : World} {S : Nat → Prop} {cs : List Value} (hV : IsV w S x cs) : ∃ k b i f t y A n c A' m c', cs = [.int .i64 k, .bool b, .int .i64 i, .float .f64 f, .string t, .string y, .slice A n c, .slice A' m c'] := by
  obtain ⟨k, b, i, f, t, y, is, fs⟩ := x
  simp only [IsV] at hV
  obtain ⟨A, c, A', c', rfl, _⟩ := hV
  exact ⟨_, _, _, _, _, _, _, _, _, _, _, _, rfl⟩
theorem same_any (x x' : V) (cs cs' : List Value) (w : World) (S S' : Nat → Prop) (hx : wt x + wt x' ≤ 1048574) (hok : ok x) (hok' : ok x') (hV : IsV w S x cs) (hV' : IsV w S' x' cs') (hS : Bel S w.heap.size) (hS' : Bel S' w.heap.size) (hE : Env w) : Calls Tryd.prog 5 #[.agg cs.toArray, .agg cs'.toArray] w (TruePost w) := by
  have hsz := sz_wt x
  have hsz' := sz_wt x'
  have hlen := tx_len x hok
  have hlen' := tx_len x' hok'
  obtain ⟨k, b, i, f, t, y, A, n, c, A', m, c', rfl⟩ := eight hV
  obtain ⟨k', b2, i2, f2, t2, y2, E, n2, e, E', m2, e', rfl⟩ := eight hV'
  refine same_cells b b2 i i2 f f2 t y t2 y2 A A' E E' n m c c' n2 m2 e e' w k k' (lk x) (lk x') (sz x) (sz x') (tx x) (tx x') (by omega) (by omega) (by omega) (by omega) (tx_byte x) (tx_byte x')
    (fun W hW => awake_any W (hE.below hW))
    (fun W hW => rsize_any (sz x) x (Nat.le_refl _) (by omega) _ 100000 W S (hV.below hS hW) (hS.mono hW.size) (by decide) (by decide))
    (fun W hW => rsize_any (sz x') x' (Nat.le_refl _) (by omega) _ 100000 W S' (hV'.below hS' hW) (hS'.mono hW.size) (by decide) (by decide))
    (fun W hW => write_any x _ W S (by omega) (by omega) hok (hV.below hS hW) (hS.mono hW.size) (hE.below hW))
    (fun W hW => write_any x' _ W S' (by omega) (by omega) hok' (hV'.below hS' hW) (hS'.mono hW.size) (hE.below hW))
    (fun W g hW hg => ?_)
    (fun hr1 hr2 W hW => equal_any (floats hE.num) (sz x) x x' (Nat.le_refl _) (by omega) ⟨hr1, hok⟩ ⟨hr2, hok'⟩ _ _ W S S' (hV.below hS hW) (hV'.below hS' hW) (hS.mono hW.size) (hS'.mono hW.size))
  have h1 : IsV W (fun b => b < W.heap.size) x _ := (hV.below hS hW).more (hS.mono hW.size)
  have h2 : IsV W (fun b => b < W.heap.size) x' _ := (hV'.below hS' hW).more (hS'.mono hW.size)
  have c1 : CellsAt W ((⟨g, 0, none⟩ : Addr).add (0 * 8)) [.int .i64 k, .bool b, .int .i64 i, .float .f64 f, .string t, .string y, .slice A n c, .slice A' m c'] := cells_blk2 (cs := [.int .i64 k, .bool b, .int .i64 i, .float .f64 f, .string t, .string y, .slice A n c, .slice A' m c', .int .i64 k', .bool b2, .int .i64 i2, .float .f64 f2, .string t2, .string y2, .slice E n2 e, .slice E' m2 e']) hg (0 * 8) _ (fun o u hu => by
    rcases o with _ | _ | _ | _ | _ | _ | _ | _ | o
    iterate 8 exact hu
    simp at hu)
  have c2 : CellsAt W ((⟨g, 0, none⟩ : Addr).add ((0 + 1) * 8)) [.int .i64 k', .bool b2, .int .i64 i2, .float .f64 f2, .string t2, .string y2, .slice E n2 e, .slice E' m2 e'] := cells_blk2 (cs := [.int .i64 k, .bool b, .int .i64 i, .float .f64 f, .string t, .string y, .slice A n c, .slice A' m c', .int .i64 k', .bool b2, .int .i64 i2, .float .f64 f2, .string t2, .string y2, .slice E n2 e, .slice E' m2 e']) hg ((0 + 1) * 8) _ (fun o u hu => by
    rcases o with _ | _ | _ | _ | _ | _ | _ | _ | o
    iterate 8 exact hu
    simp at hu)
  have hl := blk_lt2 hg
  have hP : IsV W (fun b => b < W.heap.size) (.mk 5 false 0 0 ⟨#[]⟩ ⟨#[]⟩ [x, x'] []) [.int .i64 5, .bool false, .int .i64 0, .float .f64 0, .string ⟨#[]⟩, .string ⟨#[]⟩, .slice (some ⟨g, 0, none⟩) 2 2, .slice none 0 0] := by
    simp only [IsV, IsVs, IsFs]
    exact ⟨some ⟨g, 0, none⟩, 2, none, 0, rfl, fun h => by simp at h, fun _ => rfl, ⟨⟨_, _, rfl, hl, c1, h1⟩, ⟨_, _, rfl, hl, c2, h2⟩, trivial⟩, trivial⟩
  have h := write_any (.mk 5 false 0 0 ⟨#[]⟩ ⟨#[]⟩ [x, x'] []) _ W (fun b => b < W.heap.size) (by simp only [wt, wts, wtf]; show 1 + 0 + 0 + _ + 0 ≤ _; omega) (by simp only [sz, szs, szf]; omega)
    (by simp only [ok, oks, okf]; exact ⟨⟨by decide, by decide, by decide, by decide, by decide⟩, ⟨hok, hok', trivial⟩, trivial⟩)
    hP (fun b hb => hb) (hE.below hW)
  have e1 : lk (.mk 5 false 0 0 ⟨#[]⟩ ⟨#[]⟩ [x, x'] []) = if lk x = 0 then lk x' else lk x := by
    simp [lk, lks]
    by_cases h1 : lk x = 0 <;> by_cases h2 : lk x' = 0 <;> simp [h1, h2]
  have e2 : tx (.mk 5 false 0 0 ⟨#[]⟩ ⟨#[]⟩ [x, x'] []) = 91 :: (tx x ++ 44 :: (tx x' ++ [93])) := by
    simp [tx, txs, txr]
  rw [e1, e2] at h
  exact h
end Go.Proofs.YthlncdcfppehcaaDoor.look
