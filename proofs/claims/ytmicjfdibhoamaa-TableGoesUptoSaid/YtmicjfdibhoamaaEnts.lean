/- The law's copyEntries. -/
import Derived.Test.YtmicjfdibhoamaaCopy
import Derived.Test.YtmicjfdibhoamaaFresh
namespace Go.Proofs.Ytmicjfdibhoamaa.val
open Go.RowKit mem
attribute [local go_sem] run_store_float

theorem infoE : (Try.prog.info? 39).map (fun i => (i.zero, i.size, i.bytes)) = some (some (.agg #[.string ⟨#[]⟩, .string ⟨#[]⟩, .string ⟨#[]⟩, .string ⟨#[]⟩, .bool false, .int .i64 0, .bool false, .int .i64 0, .float .f64 0, .string ⟨#[]⟩, .string ⟨#[]⟩, .slice none 0 0, .slice none 0 0]), 13, 184) := by kernel_rfl

theorem blk13 {w : World} {g : Nat} {t : TypeId} {c0 c1 c2 c3 c4 c5 c6 c7 c8 c9 c10 c11 c12 : Value} (h : w.heap[g]? = some (.cells #[c0, c1, c2, c3, c4, c5, c6, c7, c8, c9, c10, c11, c12] t (0, 0))) :
    w.cell? ⟨g, 0, none⟩ = some c0 ∧ w.cell? ⟨g, 1, none⟩ = some c1 ∧ w.cell? ⟨g, 2, none⟩ = some c2 ∧ w.cell? ⟨g, 3, none⟩ = some c3 ∧ w.cell? ⟨g, 4, none⟩ = some c4 ∧ w.cell? ⟨g, 5, none⟩ = some c5 ∧ w.cell? ⟨g, 6, none⟩ = some c6 ∧ w.cell? ⟨g, 7, none⟩ = some c7 ∧ w.cell? ⟨g, 8, none⟩ = some c8 ∧
    w.cell? ⟨g, 9, none⟩ = some c9 ∧ w.cell? ⟨g, 10, none⟩ = some c10 ∧ w.cell? ⟨g, 11, none⟩ = some c11 ∧ w.cell? ⟨g, 12, none⟩ = some c12 :=
  ⟨cell_of_row w g 0 _ t (0, 0) h, cell_of_row w g 1 _ t (0, 0) h, cell_of_row w g 2 _ t (0, 0) h, cell_of_row w g 3 _ t (0, 0) h, cell_of_row w g 4 _ t (0, 0) h, cell_of_row w g 5 _ t (0, 0) h, cell_of_row w g 6 _ t (0, 0) h, cell_of_row w g 7 _ t (0, 0) h, cell_of_row w g 8 _ t (0, 0) h, cell_of_row w g 9 _ t (0, 0) h, cell_of_row w g 10 _ t (0, 0) h, cell_of_row w g 11 _ t (0, 0) h, cell_of_row w g 12 _ t (0, 0) h⟩

/-- a new list of entries -/
def EntsPost (w : World) (es : List (C × O)) (e : Ending) (w' : World) : Prop :=
  ∃ v css, e = .returned v ∧ w'.ownsRow w.heap.size 39 13 v es.length css.flatten ∧ Elems IsE w' (Kids w' w.heap.size v) es css ∧ Below w.heap.size w w'

theorem isE_one' {w : World} {S : Nat → Prop} {v : V} {ds : List Value} (h : IsV w S v ds) (x1 x2 x3 x4 : ByteArray) (f : Bool) : ∀ u ∈ (Value.string x1 :: .string x2 :: .string x3 :: .string x4 :: .bool f :: ds), u.oneCell' = true :=
  recE.one (w := w) (S := S) (x := (⟨x1, x2, x3, x4⟩, ⟨f, v⟩)) ⟨ds, rfl, h⟩

set_option maxRecDepth 100000 in
set_option maxHeartbeats 4000000 in
theorem copyEntries_any (es : List (C × O)) (hes : szE es ≤ 1048576) (A : Option Addr) (c : Nat) (w : World) (S : Nat → Prop) (hE : LAt 13 IsE w S es A) (hB : Bel S w.heap.size) :
    Calls Try.prog 14 #[.slice A es.length c] w (EntsPost w es) := by
  have hl1 := szE_len es
  have HEs := Lib.hid hE
  have HB := Lib.hid hB
  obtain ⟨iv, hiv, hv0, hv1, hv2⟩ := info_parts infoE
  clear hE hB
  go_enter Try.func14, Try.ntmps14
  go_wp2_with fail
  go_loopw [3, 8] (fun v3 v8 W => ∃ (q : Nat) (vv : Value) (css : List (List Value)), q ≤ es.length ∧ v8 = .int .i64 (q : Int) ∧ vv = v3 ∧ W.ownsRow w.heap.size 39 13 vv (es.take q).length css.flatten ∧ Elems IsE W (Kids W w.heap.size vv) (es.take q) css ∧ Below w.heap.size w W) (fun _ i _ => es.length - (intOf i).toNat)
  case atStart => exact ⟨0, _, [], Nat.zero_le _, rfl, rfl, World.ownsRow_nil _ _ _ _, Elems.nil, Below.refl _ _⟩
  case round =>
    obtain ⟨q, vv, css, hq, rfl, rfl, hown, hel, hb⟩ := hrel
    have hszr := hb.size
    have HE := Lib.hid hel
    have hlen : (es.take q).length = q := by rw [List.length_take]; omega
    have HO := Lib.hid hown
    have HL := Lib.hid hlen
    clear hel hown hlen
    by_cases hlt : q < es.length
    · have hx : es[q]? = some es[q] := List.getElem?_eq_getElem hlt
      have hts := Lib.hid (List.take_succ_eq_append_getElem hlt)
      obtain ⟨ad, cs, rfl, hadB, hcs, ds, rfl, hvx⟩ := (HEs.out.below recE HB.out hb) q _ hx
      have hsz := szE_get hx
      generalize es[q] = x at *
      obtain ⟨⟨x1, x2, x3, x4⟩, xf, v⟩ := x
      have HV := Lib.hid hvx
      obtain ⟨k2, b2, i2, f2, t2, y2, is2, fs2⟩ := v
      simp only [IsV] at hvx
      obtain ⟨A2, c2, A2', c2', rfl, _⟩ := hvx
      obtain ⟨d0, d1, d2, d3, d4, d5, d6, d7, d8, d9, d10, d11, d12⟩ := hcs.thirteen
      have HC := Lib.hid (fun (W : World) (hW : Below w.heap.size wr W) (hWB : w.heap.size ≤ W.heap.size) => copyValue_any 1048576 _ (by omega) (by omega) _ W S (HV.out.below HB.out hW) (HB.out.mono hWB))
      clear hcs hx HV
      simp only at d0 d1 d2 d3 d4
      go_wp2_with fail
      clear d0 d1 d2 d3 d4 d5 d6 d7 d8 d9 d10 d11 d12
      have gE := heap_alloc_new wr (.cells #[.string x1, .string x2, .string x3, .string x4, .bool xf, .int .i64 k2, .bool b2, .int .i64 i2, .float .f64 f2, .string t2, .string y2, .slice A2 is2.length c2, .slice A2' fs2.length c2'] 39)
      have gE' := Lib.hid gE
      obtain ⟨m0, m1, m2, m3, m4, m5, m6, m7, m8, m9, m10, m11, m12⟩ := blk13 gE
      have hbE : Below wr.heap.size wr (wr.alloc (.cells #[.string x1, .string x2, .string x3, .string x4, .bool xf, .int .i64 k2, .bool b2, .int .i64 i2, .float .f64 f2, .string t2, .string y2, .slice A2 is2.length c2, .slice A2' fs2.length c2'] 39)) := (Below.refl _ _).alloc (Nat.le_refl _) _
      have hzE : (wr.alloc (.cells #[.string x1, .string x2, .string x3, .string x4, .bool xf, .int .i64 k2, .bool b2, .int .i64 i2, .float .f64 f2, .string t2, .string y2, .slice A2 is2.length c2, .slice A2' fs2.length c2'] 39)).heap.size = wr.heap.size + 1 := by simp
      have HO1 := Lib.hid (HO.out.alloc (.cells #[.string x1, .string x2, .string x3, .string x4, .bool xf, .int .i64 k2, .bool b2, .int .i64 i2, .float .f64 f2, .string t2, .string y2, .slice A2 is2.length c2, .slice A2' fs2.length c2'] 39))
      generalize (wr.alloc (.cells #[.string x1, .string x2, .string x3, .string x4, .bool xf, .int .i64 k2, .bool b2, .int .i64 i2, .float .f64 f2, .string t2, .string y2, .slice A2 is2.length c2, .slice A2' fs2.length c2'] 39)) = w1 at *
      clear gE
      go_region_law (first
        | (refine step_app _ rfl (.tmp 12) (.tmp 24) _ rfl w.heap.size 39 iv _ 13 184 Try.underlying22 hiv hv0 hv1 hv2 rfl (by omega) vv _ css.flatten rfl (HO3.out.alloc _) (wc.heap.size + 1) (some ⟨wc.heap.size, 0, none⟩) 1 1 ([.string x1, .string x2, .string x3, .string x4, .bool xf, .int .i64 k2, .bool b2, .int .i64 i2, .float .f64 f2, .string t2, .string y2, .slice A3 is2.length c3, .slice A3' fs2.length c3'] : List Value) rfl rfl (Rd.new wc ([.string x1, .string x2, .string x3, .string x4, .bool xf, .int .i64 k2, .bool b2, .int .i64 i2, .float .f64 f2, .string t2, .string y2, .slice A3 is2.length c3, .slice A3' fs2.length c3'] : List Value) 39) (by simp) (isE_one' HV3.out x1 x2 x3 x4 xf) (by have := HL.out; unfold maxLen; omega) (by have := HL.out; omega) (by simp; omega) ?_; intro v' w5 hown' hgrow hat; rw [HL.out] at hown'; have HO' := Lib.hid hown'; have HG' := Lib.hid hgrow; have HA' := Lib.hid hat; clear hown' hgrow hat)
        | (go_simp; go_at_call 27; go_must (refine (HC.out _ ((hbE.mono (by omega)).drew) (by simp; omega)).mono ?_; rintro e wc ⟨cs3, rfl, hv3, hb3⟩; have HV3 := Lib.hid hv3; have hv3' := hv3; simp only [IsV] at hv3'; obtain ⟨A3, c3, A3', c3', rfl, _⟩ := hv3'; clear hv3; have hbc : Below wr.heap.size wr wc := (hbE.drew).trans (hb3.mono (by simp; omega)); have HO3 := Lib.hid (own_below HO.out hbc); have HE3 := Lib.hid (HE.out.below recE hbc); have hszc := hbc.size; have gl2c : wr.heap.size < wc.heap.size := (by have := hb3.size; simp at this; omega); obtain ⟨n0, n1, n2, n3, n4, n5, n6, n7, n8, n9, n10, n11, n12⟩ := blk13 (blk_below (w := w1.drew) gE'.out hb3 (by simp; omega)))))
      all_goals
        clear m0 m1 m2 m3 m4 m5 m6 m7 m8 m9 m10 m11 m12 n0 n1 n2 n3 n4 n5 n6 n7 n8 n9 n10 n11 n12 HC
        go_wp2_with fail
        have hHG := HG'.out
        have hsz5 : wc.heap.size + 1 ≤ w5.heap.size := by have := hHG.size; simpa using this
        have hOn : w5.ownsRow w.heap.size 39 13 v' (es.take (q + 1)).length (css ++ [([.string x1, .string x2, .string x3, .string x4, .bool xf, .int .i64 k2, .bool b2, .int .i64 i2, .float .f64 f2, .string t2, .string y2, .slice A3 is2.length c3, .slice A3' fs2.length c3'] : List Value)]).flatten := by
          have h1 := HO'.out
          rw [hts.out, List.length_append, HL.out, List.flatten_append]
          simpa only [List.flatten_cons, List.flatten_nil, List.append_nil, List.length_cons, List.length_nil, Nat.zero_add] using h1
        have hxk : IsE wc (Kids wc w.heap.size vv) (⟨x1, x2, x3, x4⟩, ⟨xf, .mk k2 b2 i2 f2 t2 y2 is2 fs2⟩) ([.string x1, .string x2, .string x3, .string x4, .bool xf, .int .i64 k2, .bool b2, .int .i64 i2, .float .f64 f2, .string t2, .string y2, .slice A3 is2.length c3, .slice A3' fs2.length c3'] : List Value) := ⟨_, rfl, HV3.out.more (kid_new HO.out (by simp; omega) (by omega))⟩
        have hEn := Elems.app recE HE3.out hxk hHG HA'.out
        rw [← hts.out] at hEn
        exact ⟨⟨q + 1, _, css ++ [([.string x1, .string x2, .string x3, .string x4, .bool xf, .int .i64 k2, .bool b2, .int .i64 i2, .float .f64 f2, .string t2, .string y2, .slice A3 is2.length c3, .slice A3' fs2.length c3'] : List Value)], by omega, by go_num, rfl, hOn, hEn, ((hb.trans (hbc.mono (by omega))).alloc (by omega) _).grown hHG (by simp; omega) (fun kk hkk => (HO3.out.lt kk hkk).1)⟩, by simp [intOf]; omega⟩
    · obtain rfl : q = es.length := by omega
      have hvs := HE.out
      have hos := HO.out
      rw [List.take_of_length_le (Nat.le_refl _)] at hvs hos
      have HVs := Lib.hid hvs
      have HOs := Lib.hid hos
      clear hvs hos HE HO
      go_wp2_with fail
      go_ret
      exact ⟨_, _, rfl, HOs.out, HVs.out, hb⟩
end Go.Proofs.Ytmicjfdibhoamaa.val
