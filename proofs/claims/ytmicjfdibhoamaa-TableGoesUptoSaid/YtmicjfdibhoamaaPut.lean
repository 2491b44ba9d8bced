/- The ordered table's Put, of a key that is not there. -/
import Derived.Test.YtmicjfdibhoamaaGet
namespace Go.Proofs.Ytmicjfdibhoamaa.val
open Go.RowKit mem
attribute [local go_sem] run_store_float

theorem infoC : (Try.prog.info? 25).map (fun i => (i.zero, i.size, i.bytes)) = some (some (.agg #[.string ⟨#[]⟩, .string ⟨#[]⟩, .string ⟨#[]⟩, .string ⟨#[]⟩]), 4, 64) := by kernel_rfl

theorem blk3 {w : World} {g : Nat} {t : TypeId} {c0 c1 c2 : Value} (h : w.heap[g]? = some (.cells #[c0, c1, c2] t (0, 0))) :
    w.cell? ⟨g, 0, none⟩ = some c0 ∧ w.cell? ⟨g, 1, none⟩ = some c1 ∧ w.cell? ⟨g, 2, none⟩ = some c2 :=
  ⟨cell_of_row w g 0 _ t (0, 0) h, cell_of_row w g 1 _ t (0, 0) h, cell_of_row w g 2 _ t (0, 0) h⟩

def PutPost (w : World) (g lo : Nat) (rows : List (C × O)) (e : Ending) (w' : World) : Prop := e = .returned (.bool true) ∧ OrdAt w' g lo rows ∧ Below g w w' ∧ ∀ b, b < lo → b ≠ g → b ≠ g + 1 → w'.heap[b]? = w.heap[b]?

theorem put_end {w0 w w7 w8 : World} {g lo n5 : Nat} {rows : List (C × O)} {c : C} {o : O} {cs : List Value} {css : List (List Value)} {K U K' U' : Value} {ob : Obj} (h1 : g + 2 ≤ lo) (h2 : lo ≤ w0.heap.size) (hb0 : Below w0.heap.size w0 w)
    (E0 : Elems IsO w0 (Kid2 w0 lo K U) (rows.map (fun e => e.2)) css) (HO : IsO w (New w0.heap.size w) o cs) (HI : idx rows c = none) (M7 : MapIs w7 g (rows.length + 1) (upd (fun c => (idx rows c).map Int.ofNat) c (rows.length : Int)))
    (K7 : w7.ownsRow lo 25 4 K' (rows.length + 1) ((rows.map (fun e => e.1.cs)).flatten ++ c.cs)) (hK' : K'.ownBlock = K.ownBlock ∨ K'.ownBlock = some (n5 + 1)) (hn5 : w.heap.size + 2 ≤ n5) (hn7 : n5 + 1 < w7.heap.size + 1)
    (B8 : w8.heap[g + 1]? = some (.cells #[.map (some g), K', U] 85 (0, 0))) (HG8 : (w7.alloc ob).grownBy w8 U.ownBlock) (U8 : w8.ownsRow lo 37 9 U' (rows.length + 1) (css.flatten ++ cs))
    (hU' : U'.ownBlock = U.ownBlock ∨ U'.ownBlock = some (w7.heap.size + 1)) (hUlt : ∀ b, U.ownBlock = some b → lo ≤ b ∧ b < w0.heap.size) (hKlt : ∀ b, K.ownBlock = some b → lo ≤ b ∧ b < w0.heap.size)
    (S0 : ∀ b, K.ownBlock = some b → U.ownBlock ≠ some b) (P7 : ∀ b, b < w.heap.size → b ≠ g → b ≠ g + 1 → K.ownBlock ≠ some b → w7.heap[b]? = w.heap[b]?) (Z7 : Below g w w7) (hgl : g + 1 < w0.heap.size) :
    OrdAt (w8.setCell ⟨g + 1, 2, none⟩ U') g lo (rows ++ [(c, o)]) ∧ Below g w (w8.setCell ⟨g + 1, 2, none⟩ U') ∧ ∀ b, b < lo → b ≠ g → b ≠ g + 1 → (w8.setCell ⟨g + 1, 2, none⟩ U').heap[b]? = w.heap[b]? := by
  have hs0 := hb0.size
  have hs8 := HG8.size
  simp only [World.size_alloc] at hs8
  have hsz : (w8.setCell ⟨g + 1, 2, none⟩ U').heap.size = w8.heap.size := by simp [World.setCell]
  have hs7 : w.heap.size ≤ w7.heap.size := by omega
  have keep8 : ∀ b, b < w7.heap.size → b ≠ g + 1 → U.ownBlock ≠ some b → (w8.setCell ⟨g + 1, 2, none⟩ U').heap[b]? = w7.heap[b]? := fun b hb hb1 hbU =>
    (Below.heap_setCell w8 _ U' b hb1).trans ((HG8.block b (by simp; omega) (fun e => hbU e.symm)).trans (Below.heap_alloc w7 ob b hb))
  have keep : ∀ b, b < w.heap.size → b ≠ g → b ≠ g + 1 → K.ownBlock ≠ some b → U.ownBlock ≠ some b → (w8.setCell ⟨g + 1, 2, none⟩ U').heap[b]? = w.heap[b]? := fun b hb h3 h4 h5 h6 => (keep8 b (by omega) h4 h6).trans (P7 b hb h3 h4 h5)
  have hKb : ∀ b, K'.ownBlock = some b → (lo ≤ b ∧ b < w0.heap.size ∧ K.ownBlock = some b) ∨ b = n5 + 1 := fun b hb => by
    rcases hK' with e | e
    · rw [e] at hb
      exact .inl ⟨(hKlt b hb).1, (hKlt b hb).2, hb⟩
    · rw [e] at hb
      injection hb with hb
      exact .inr hb.symm
  have hUb : ∀ b, U'.ownBlock = some b → (lo ≤ b ∧ b < w0.heap.size ∧ U.ownBlock = some b) ∨ b = w7.heap.size + 1 := fun b hb => by
    rcases hU' with e | e
    · rw [e] at hb
      exact .inl ⟨(hUlt b hb).1, (hUlt b hb).2, hb⟩
    · rw [e] at hb
      injection hb with hb
      exact .inr hb.symm
  refine ⟨⟨K', U', css ++ [cs], h1, by omega, ?_, ?_, ?_, ?_, ?_, ?_⟩, ?_, ?_⟩
  · simpa using blk_set B8 2 U'
  · have hM := M7.heap (keep8 g M7.lt (by omega) (fun e => by have := (hUlt g e).1; omega))
    have he : (fun d => (idx (rows ++ [(c, o)]) d).map Int.ofNat) = upd (fun d => (idx rows d).map Int.ofNat) c (rows.length : Int) := by
      funext d
      rw [idx_snoc HI]
      unfold upd
      split <;> rfl
    rw [he]
    simpa using hM
  · have hk : (w8.setCell ⟨g + 1, 2, none⟩ U').ownsRow lo 25 4 K' (rows.length + 1) ((rows.map (fun e => e.1.cs)).flatten ++ c.cs) := by
      refine ownsRow_setCell_below (World.ownsRow.kept (K7.alloc ob) HG8 ?_) (show g + 1 < lo by omega) U'
      cases hv : K'.ownBlock with
      | none => exact .inl rfl
      | some b =>
        refine .inr (fun e => ?_)
        rcases hKb b hv with ⟨_, _, hk⟩ | rfl
        · exact S0 b hk e.symm
        · have := (hUlt _ e.symm).2
          omega
    simpa using hk
  · have hu := ownsRow_setCell_below U8 (show g + 1 < lo by omega) U' (a := ⟨g + 1, 2, none⟩)
    simpa using hu
  · intro b hb hbu
    rcases hKb b hb with ⟨_, hlt, hk⟩ | rfl
    · rcases hUb b hbu with ⟨_, _, hu⟩ | rfl
      · exact S0 b hk hu
      · omega
    · rcases hUb _ hbu with ⟨_, hlt, _⟩ | e
      · omega
      · omega
  · rw [List.map_append]
    refine Elems.snoc (Elems.keep recO E0 (fun p hp => ?_) (fun b hp => ?_)) (recO.keep (fun p hp => ?_) (fun b hp => ?_) HO)
    · have a1 := hp.1
      have a2 := hp.2.1
      rw [World.cell?_of_block (keep p.block (by omega) (by omega) (by omega) hp.2.2.1 hp.2.2.2)]
      exact hb0.cell a2
    · refine ⟨hp.1, by have := hp.2.1; omega, fun e => ?_, fun e => ?_⟩
      · rcases hKb b e with ⟨_, _, hk⟩ | rfl
        · exact hp.2.2.1 hk
        · have := hp.2.1
          omega
      · rcases hUb b e with ⟨_, _, hk⟩ | rfl
        · exact hp.2.2.2 hk
        · have := hp.2.1
          omega
    · have a1 := hp.1
      have a2 := hp.2
      exact World.cell?_of_block (keep p.block a2 (by omega) (by omega) (fun e => by have := (hKlt _ e).2; omega) (fun e => by have := (hUlt _ e).2; omega))
    · have a1 := hp.1
      have a2 := hp.2
      refine ⟨by omega, by omega, fun e => ?_, fun e => ?_⟩
      · rcases hKb b e with ⟨_, _, _⟩ | rfl
        · omega
        · omega
      · rcases hUb b e with ⟨_, _, _⟩ | rfl
        · omega
        · omega
  · exact (((Z7.alloc (by omega) ob).grown HG8 (by simp; omega) (fun k hk => by have := (hUlt k hk).1; omega)).setCell (show g ≤ g + 1 by omega) U')
  · intro b hb hb1 hb2
    exact keep b (by omega) hb1 hb2 (fun e => by have := (hKlt b e).1; omega) (fun e => by have := (hUlt b e).1; omega)

set_option maxRecDepth 100000 in
set_option maxHeartbeats 4000000 in
theorem ordPut_any (w0 w : World) (g lo : Nat) (rows : List (C × O)) (hn : rows.length ≤ 4194304) (h : OrdAt w0 g lo rows) (hb0 : Below w0.heap.size w0 w) (c : C) (hc : c.ok) (hi : idx rows c = none) (o : O) (cs : List Value) (hO : IsO w (New w0.heap.size w) o cs) :
    Calls Try.prog 31 #[.pointer (some ⟨g + 1, 0, none⟩), .agg #[.string c.p, .string c.q, .string c.f, .string c.a], .agg cs.toArray] w (PutPost w g lo (rows ++ [(c, o)])) := by
  obtain ⟨K, U, css, h1, h2, h3, h4, h5, h6, h7, h8⟩ := h
  have hs0 := hb0.size
  have hgl := h4.lt
  have hgl3 := blk_lt h3
  have M0 := Lib.hid (h4.heap (hb0.block _ h4.lt))
  have B0 := Lib.hid (blk_below h3 hb0 (blk_lt h3))
  have K0 := Lib.hid (own_below h5 hb0)
  have U0 := Lib.hid (own_below h6 hb0)
  have E0 := Lib.hid h8
  have S0 := Lib.hid h7
  have KL := Lib.hid h5.lt
  have UL := Lib.hid h6.lt
  have HO := Lib.hid hO
  obtain ⟨fl, v⟩ := o
  obtain ⟨ds, rfl, hv⟩ := hO
  obtain ⟨k2, b2, i2, f2, t2, y2, is2, fs2⟩ := v
  simp only [IsV] at hv
  obtain ⟨A2, c2, A2', c2', rfl, _⟩ := hv
  have HK0 := own_form h5
  have hlook := Lib.hid (fun (W : World) (hW : Below w.heap.size w W) => (M0.out.heap (hW.block _ (by omega))).look hc)
  simp only [hi] at hlook
  have HI := Lib.hid hi
  obtain ⟨ic, hic, hc0, hc1, hc2⟩ := info_parts infoC
  obtain ⟨io, hio, ho0, ho1, ho2⟩ := info_parts infoO
  clear h3 h4 h5 h6 h7 h8 hi
  have qT : ∀ (w : World) (r : Option Nat), (binOp .eql 68 (.map r) (.map none)).run Try.prog w = .ok (.bool r.isNone) w := fun w r => run_eql_map_nil w _ _ _ r Try.underlying68
  go_enter Try.func31, Try.ntmps31
  go_wp2_with fail
  have g1 : ((w.alloc (.cells #[.string c.p, .string c.q, .string c.f, .string c.a] 25)).alloc (.cells #[.bool fl, .int .i64 k2, .bool b2, .int .i64 i2, .float .f64 f2, .string t2, .string y2, .slice A2 is2.length c2, .slice A2' fs2.length c2'] 37)).heap[w.heap.size]? = some (.cells #[.string c.p, .string c.q, .string c.f, .string c.a] 25 (0, 0)) := blk_alloc (heap_alloc_new _ _) _
  have g2 : ((w.alloc (.cells #[.string c.p, .string c.q, .string c.f, .string c.a] 25)).alloc (.cells #[.bool fl, .int .i64 k2, .bool b2, .int .i64 i2, .float .f64 f2, .string t2, .string y2, .slice A2 is2.length c2, .slice A2' fs2.length c2'] 37)).heap[w.heap.size + 1]? = some (.cells #[.bool fl, .int .i64 k2, .bool b2, .int .i64 i2, .float .f64 f2, .string t2, .string y2, .slice A2 is2.length c2, .slice A2' fs2.length c2'] 37 (0, 0)) := by
    have := heap_alloc_new (w.alloc (.cells #[.string c.p, .string c.q, .string c.f, .string c.a] 25)) (.cells #[.bool fl, .int .i64 k2, .bool b2, .int .i64 i2, .float .f64 f2, .string t2, .string y2, .slice A2 is2.length c2, .slice A2' fs2.length c2'] 37)
    simpa using this
  have gb : Below w.heap.size w ((w.alloc (.cells #[.string c.p, .string c.q, .string c.f, .string c.a] 25)).alloc (.cells #[.bool fl, .int .i64 k2, .bool b2, .int .i64 i2, .float .f64 f2, .string t2, .string y2, .slice A2 is2.length c2, .slice A2' fs2.length c2'] 37)) := ((Below.refl _ _).alloc (Nat.le_refl _) _).alloc (by simp) _
  have gs : ((w.alloc (.cells #[.string c.p, .string c.q, .string c.f, .string c.a] 25)).alloc (.cells #[.bool fl, .int .i64 k2, .bool b2, .int .i64 i2, .float .f64 f2, .string t2, .string y2, .slice A2 is2.length c2, .slice A2' fs2.length c2'] 37)).heap.size = w.heap.size + 2 := by simp
  generalize ((w.alloc (.cells #[.string c.p, .string c.q, .string c.f, .string c.a] 25)).alloc (.cells #[.bool fl, .int .i64 k2, .bool b2, .int .i64 i2, .float .f64 f2, .string t2, .string y2, .slice A2 is2.length c2, .slice A2' fs2.length c2'] 37)) = w3 at *
  obtain ⟨m0, m1, m2, m3⟩ := blk4 g1
  have j0 := cell_of_row w3 (g + 1) 0 _ _ (0, 0) (blk_below B0.out gb (by omega))
  have hl : ∀ n, _ := fun n => hlook.out (w3.drewN n) (below_drewN gb n)
  simp only [Option.map_none, Option.getD_none, Option.isSome_none] at hl
  go_quiet (fail)
  clear hl hlook m0 m1 m2 m3 j0
  replace gb := below_drewN gb nq
  replace gs : (w3.drewN nq).heap.size = w.heap.size + 2 := gs
  replace g1 : (w3.drewN nq).heap[w.heap.size]? = _ := g1
  replace g2 : (w3.drewN nq).heap[w.heap.size + 1]? = _ := g2
  generalize (w3.drewN nq) = w4 at *
  obtain ⟨m0, m1, m2, m3⟩ := blk4 g1
  have G2 := Lib.hid g2
  have G1 := Lib.hid g1
  have B4 := Lib.hid (blk_below B0.out gb (by omega))
  obtain ⟨n0, n1, n2⟩ := blk3 B4.out
  obtain ⟨AK, cK, rfl, _⟩ := HK0
  obtain ⟨w5, hput, M5, hg5⟩ := ((M0.out.heap (gb.block _ (by omega))).heap (w' := w4.drew) rfl).put (c := c) hc (by unfold maxLen; omega) (i := (rows.length : Int)) (by simp [Lit.wf, IntKind.min, IntKind.max, IntKind.bits, IntKind.signed]; omega)
  clear g1 g2
  go_wp2_with fail
  go_region
  clear hput m0 m1 m2 m3 n0 n1 n2 qT
  have hsz5 := hg5.size
  have hsz5' : w.heap.size + 2 ≤ w5.heap.size := by have : w4.drew.heap.size = w.heap.size + 2 := gs; omega
  have G1e := Lib.hid (blk_grown (w := w4.drew) G1.out hg5 (by intro e; injection e; omega))
  have G2e := Lib.hid (blk_grown (w := w4.drew) G2.out hg5 (by intro e; injection e; omega))
  have B5 := Lib.hid (blk_grown (w := w4.drew) B4.out hg5 (by intro e; injection e; omega))
  have K4 := K0.out.kept (row := none) (w' := w4) ⟨gb.os, gb.tape, gb.output, gb.size, fun k hk _ => gb.block k hk⟩ (by cases hv : (Value.slice AK rows.length cK).ownBlock <;> simp)
  have U4 := U0.out.kept (row := none) (w' := w4) ⟨gb.os, gb.tape, gb.output, gb.size, fun k hk _ => gb.block k hk⟩ (by cases hv : U.ownBlock <;> simp)
  have K5 := Lib.hid (World.ownsRow.kept (w := w4.drew) K4 hg5 (.inr (fun e => own_ne K0.out (by omega) e.symm)))
  have U5 := Lib.hid (World.ownsRow.kept (w := w4.drew) U4 hg5 (.inr (fun e => own_ne U0.out (by omega) e.symm)))
  have P5 := Lib.hid (fun (b : Nat) (hb : b < w.heap.size) (hbg : b ≠ g) => (hg5.block b (by have : w4.drew.heap.size = w.heap.size + 2 := gs; omega) (by intro e; injection e; omega)).trans (gb.block b hb))
  have Z5 := Lib.hid (((gb.mono (show g ≤ w.heap.size by omega)).drew).grown hg5 (show g ≤ w4.heap.size by omega) (fun k hk => by injection hk; omega))
  clear K4 U4 hg5 K0 U0 B4 G1 G2 B0 M0
  obtain ⟨m0, m1, m2, m3⟩ := blk4 G1e.out
  obtain ⟨n0, n1, n2⟩ := blk3 B5.out
  have nf := blk_frozen B5.out 1
  have gl5 := blk_lt B5.out
  go_wp2_with fail
  go_region_law (first
    | (refine step_app _ rfl (.tmp 51) (.tmp 53) _ rfl lo 25 ic _ 4 64 Try.underlying23 hic hc0 hc1 hc2 rfl (by omega) (.slice AK rows.length cK) _ _ rfl (K5.out.alloc _) (w5.heap.size + 1) (some ⟨w5.heap.size, 0, none⟩) 1 1 ([.string c.p, .string c.q, .string c.f, .string c.a] : List Value) rfl rfl (Rd.new w5.drew ([.string c.p, .string c.q, .string c.f, .string c.a] : List Value) 25) (by simp) (recC.one (w := w5) (S := fun _ => False) (x := c) rfl) (by unfold maxLen; omega) (by omega) (by simp; omega) ?_; intro v' w6 hown' hgrow hat; have K6 := Lib.hid hown'; have HG6 := Lib.hid hgrow; have HA6 := Lib.hid hat; have B6w := blk_grown (blk_alloc (w := w5.drew) B5.out _) hgrow (own_ne K5.out (by omega)); have j7w := (blk3 B6w).2.1; have jfw := blk_frozen B6w 1; have B6 := Lib.hid B6w; obtain ⟨A6, c6, rfl, _, _, _⟩ := own_form hown'; clear hown' hgrow hat B6w))
  all_goals
    clear m0 m1 m2 m3 n0 n1 n2 nf j7w jfw
    have hg6 : (w5.alloc (.cells #[.string c.p, .string c.q, .string c.f, .string c.a] 25)).grownBy w6 (Value.slice AK rows.length cK).ownBlock := ⟨HG6.out.os, HG6.out.tape, HG6.out.output, HG6.out.size, HG6.out.block⟩
    have ha6 : (Value.slice A6 (rows.length + 1) c6).ownBlock = (Value.slice AK rows.length cK).ownBlock ∨ (Value.slice A6 (rows.length + 1) c6).ownBlock = some (w5.heap.size + 1) := HA6.out.imp id (fun h => by rw [h]; simp)
    have hsz6 := hg6.size
    have hsz6' : w5.heap.size + 1 ≤ w6.heap.size := by simpa using hsz6
    have hU5 := U5.out
    have hK6 := K6.out
    have G2f := blk_grown (blk_alloc G2e.out _) hg6 (fun e => by have := (KL.out _ e.symm).2; omega)
    have M6 := (M5.heap (Below.heap_alloc w5 (.cells #[.string c.p, .string c.q, .string c.f, .string c.a] 25) _ M5.lt)).kept hg6 (own_ne K5.out (by omega))
    have U6 := World.ownsRow.kept (hU5.alloc (.cells #[.string c.p, .string c.q, .string c.f, .string c.a] 25)) hg6 (by cases hv : U.ownBlock with | none => exact .inl rfl | some b => exact .inr (fun e => S0.out b e.symm hv))
    have P6 : ∀ b, b < w.heap.size → b ≠ g → (Value.slice AK rows.length cK).ownBlock ≠ some b → w6.heap[b]? = w.heap[b]? := fun b hb hbg hbK => ((hg6.block b (by simp; omega) (fun e => hbK e.symm)).trans (Below.heap_alloc w5 _ b (by omega))).trans (P5.out b hb hbg)
    have B7 := Lib.hid (show (w6.setCell ⟨g + 1, 1, none⟩ (.slice A6 (rows.length + 1) c6)).heap[g + 1]? = some (.cells #[.map (some g), .slice A6 (rows.length + 1) c6, U] 85 (0, 0)) by simpa using blk_set B6.out 1 (.slice A6 (rows.length + 1) c6))
    have G7 := Lib.hid (blk_far G2f (show w.heap.size + 1 ≠ g + 1 by omega) (.slice A6 (rows.length + 1) c6) (a := ⟨g + 1, 1, none⟩))
    have K7 := Lib.hid (ownsRow_setCell_below hK6 (show g + 1 < lo by omega) (.slice A6 (rows.length + 1) c6) (a := ⟨g + 1, 1, none⟩))
    have U7 := Lib.hid (ownsRow_setCell_below U6 (show g + 1 < lo by omega) (.slice A6 (rows.length + 1) c6) (a := ⟨g + 1, 1, none⟩))
    have M7 := Lib.hid (M6.heap (Below.heap_setCell w6 ⟨g + 1, 1, none⟩ (.slice A6 (rows.length + 1) c6) g (show g ≠ g + 1 by omega)))
    have P7 := Lib.hid (show ∀ b, b < w.heap.size → b ≠ g → b ≠ g + 1 → (Value.slice AK rows.length cK).ownBlock ≠ some b → (w6.setCell ⟨g + 1, 1, none⟩ (.slice A6 (rows.length + 1) c6)).heap[b]? = w.heap[b]? from fun b hb hbg hbg1 hbK => (Below.heap_setCell w6 _ _ b hbg1).trans (P6 b hb hbg hbK))
    have hsz7 : w5.heap.size + 1 ≤ (w6.setCell ⟨g + 1, 1, none⟩ (.slice A6 (rows.length + 1) c6)).heap.size := by simpa [World.setCell] using hsz6'
    have Z7 := Lib.hid (((Z5.out.alloc (by omega) (.cells #[.string c.p, .string c.q, .string c.f, .string c.a] 25)).grown hg6 (by simp; omega) (fun k hk => by have := (KL.out k hk).1; omega)).setCell (show g ≤ g + 1 by omega) (.slice A6 (rows.length + 1) c6) (p := ⟨g + 1, 1, none⟩))
    clear Z5 hg6 HG6 HA6 M6 U6 P6 G2f hU5 hK6 B6 K6 M5 U5 K5 P5 G1e G2e B5 hsz6 hsz6'
    generalize (w6.setCell ⟨g + 1, 1, none⟩ (.slice A6 (rows.length + 1) c6)) = w7 at *
    obtain ⟨m0, m1, m2, m3, m4, m5, m6, m7, m8⟩ := blk9 G7.out
    obtain ⟨n0, n1, n2⟩ := blk3 B7.out
    have gl7 := blk_lt B7.out
    go_wp2_with fail
    go_region_law (first
      | (refine step_app _ rfl (.tmp 61) (.tmp 63) _ rfl lo 37 io _ 9 120 Try.underlying53 hio ho0 ho1 ho2 rfl (by omega) U _ _ rfl (U7.out.alloc _) (w7.heap.size + 1) (some ⟨w7.heap.size, 0, none⟩) 1 1 ([.bool fl, .int .i64 k2, .bool b2, .int .i64 i2, .float .f64 f2, .string t2, .string y2, .slice A2 is2.length c2, .slice A2' fs2.length c2'] : List Value) rfl rfl (Rd.new w7.drew ([.bool fl, .int .i64 k2, .bool b2, .int .i64 i2, .float .f64 f2, .string t2, .string y2, .slice A2 is2.length c2, .slice A2' fs2.length c2'] : List Value) 37) (by simp) (recO.one HO.out) (by unfold maxLen; omega) (by omega) (by simp; omega) ?_; intro v' w8 hown' hgrow hat; have U8 := Lib.hid hown'; have HG8 := Lib.hid hgrow; have HA8 := Lib.hid hat; have B8w := blk_grown (blk_alloc (w := w7.drew) B7.out _) hgrow (own_ne U7.out (by omega)); have j7w := (blk3 B8w).2.2; have jfw := blk_frozen B8w 2; have B8 := Lib.hid B8w; obtain ⟨A8, c8, rfl, _, _, _⟩ := own_form hown'; clear hown' hgrow hat B8w))
    all_goals
      have hE := put_end h1 h2 hb0 E0.out HO.out HI.out M7.out K7.out ha6 hsz5' (by omega) B8.out (ob := .cells #[.bool fl, .int .i64 k2, .bool b2, .int .i64 i2, .float .f64 f2, .string t2, .string y2, .slice A2 is2.length c2, .slice A2' fs2.length c2'] 37) ⟨HG8.out.os, HG8.out.tape, HG8.out.output, HG8.out.size, HG8.out.block⟩ U8.out (HA8.out.imp id (fun h => by rw [h]; simp)) UL.out KL.out S0.out P7.out Z7.out hgl3
      clear m0 m1 m2 m3 m4 m5 m6 m7 m8 n0 n1 n2 j7w jfw HG8 HA8 B8 U8 P7 Z7 M7 K7 G7 B7 U7
      go_wp2_with fail
      go_ret
      exact ⟨rfl, hE⟩
end Go.Proofs.Ytmicjfdibhoamaa.val
