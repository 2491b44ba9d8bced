/- The law's 'works'. -/
import Derived.Test.YtmicjfdibhoamaaFind
namespace Go.Proofs.Ytmicjfdibhoamaa.val
open Go.RowKit mem
attribute [local go_sem] run_store_float

def RetPost (w : World) (v : Value) (e : Ending) (w' : World) : Prop := e = .returned v ∧ Below w.heap.size w w'
set_option maxRecDepth 100000 in
theorem call_any (w : World) (c : C) : Calls Try.prog 9 #[.string c.p, .string c.q, .string c.f, .string c.a] w (RetPost w (.agg #[.string c.p, .string c.q, .string c.f, .string c.a])) := by
  go_enter Try.func9, Try.ntmps9
  go_wp2_with fail
  exact bodyPost_ret (v := .agg #[.string c.p, .string c.q, .string c.f, .string c.a]) (by simp [results, Try.results9, go_sem]) rfl ⟨rfl, (Below.refl _ _).alloc (Nat.le_refl _) _⟩
set_option maxRecDepth 100000 in
theorem whole_any (w : World) (n : Int) : Calls Try.prog 28 #[.int .i64 n] w (RetPost w (.agg #[.bool false, .int .i64 2, .bool false, .int .i64 n, .float .f64 0, .string ⟨#[]⟩, .string ⟨#[]⟩, .slice none 0 0, .slice none 0 0])) := by
  go_enter Try.func28, Try.ntmps28
  go_wp2_with fail
  exact bodyPost_ret (v := .agg #[.bool false, .int .i64 2, .bool false, .int .i64 n, .float .f64 0, .string ⟨#[]⟩, .string ⟨#[]⟩, .slice none 0 0, .slice none 0 0]) (by simp [results, Try.results28, go_sem]) rfl ⟨rfl, (Below.refl _ _).alloc (Nat.le_refl _) _⟩

theorem LAt.of_rd {α : Type} {size : Nat} {R : World → (Nat → Prop) → α → List Value → Prop} (hR : Rec size R) (hsz : 0 < size) {w : World} {B : Nat} {A : Option Addr} {S : Nat → Prop} {l : List α} {css : List (List Value)} (hr : Rd w B A css.flatten) (h : Elems R w S l css) :
    LAt size R w (fun b => S b ∨ b < B) l A := fun i x hx => by
  have hi : i < css.length := by rw [h.1]; exact (List.getElem?_eq_some_iff.1 hx).1
  have hcs : css[i]? = some css[i] := List.getElem?_eq_getElem hi
  have hR1 := h.2 i x _ hx hcs
  have hlen := hR.len hR1
  obtain ⟨ad, hA, hB, _⟩ := hr (i * size + 0) _ (flat_get (elems_len hR h) hcs (List.getElem?_eq_getElem (show 0 < css[i].length by omega)))
  refine ⟨ad, _, hA, .inr hB, fun o u hu => ?_, hR.keep (fun _ _ => rfl) (fun b hb => .inl hb) hR1⟩
  obtain ⟨ad', hA', _, hc⟩ := hr (i * size + o) u (flat_get (elems_len hR h) hcs hu)
  rw [hA] at hA'
  injection hA' with e
  subst e
  rw [add_add]
  exact hc

def kW : C := ⟨⟨#[47, 97]⟩, ⟨#[81, 117, 101, 114, 121]⟩, ⟨#[97]⟩, ⟨#[123, 125]⟩⟩
def vW (n : Int) : V := .mk 2 false n 0 ⟨#[]⟩ ⟨#[]⟩ [] []
theorem isV_W (w : World) (S : Nat → Prop) (n : Int) : IsV w S (vW n) [.int .i64 2, .bool false, .int .i64 n, .float .f64 0, .string ⟨#[]⟩, .string ⟨#[]⟩, .slice none 0 0, .slice none 0 0] := by
  simp only [vW, IsV]
  exact ⟨none, 0, none, 0, rfl, fun _ => rfl, fun _ => rfl, by simp only [IsVs], by simp only [IsFs]⟩
theorem tabR_W : tabR [(kW, ⟨false, vW 1⟩), (kW, ⟨false, vW 2⟩)] = [(kW, ⟨false, vW 1⟩)] := by
  simp [tabR, put1, idx, O.nrm]

/-- nine cells of an outcome, one by one -/
def OutCells (w : World) (S : Nat → Prop) (o : O) (k : Int) (b : Bool) (i : Int) (f : Nat) (t y : ByteArray) (A : Option Addr) (n c : Nat) (A' : Option Addr) (n' c' : Nat) : Prop :=
  IsO w S o [.bool o.fail, .int .i64 k, .bool b, .int .i64 i, .float .f64 f, .string t, .string y, .slice A n c, .slice A' n' c']
theorem outCells_of {w : World} {S : Nat → Prop} {o : O} {cs : List Value} (h : IsO w S o cs) : ∃ k b i f t y A n c A' n' c', cs = [.bool o.fail, .int .i64 k, .bool b, .int .i64 i, .float .f64 f, .string t, .string y, .slice A n c, .slice A' n' c'] ∧ OutCells w S o k b i f t y A n c A' n' c' := by
  have h0 := h
  obtain ⟨ds, rfl, hv⟩ := h
  obtain ⟨fl, k, b, i, f, t, y, is, fs⟩ := o
  simp only [IsV] at hv
  obtain ⟨A, c, A', c', rfl, _⟩ := hv
  exact ⟨k, b, i, f, t, y, A, is.length, c, A', fs.length, c', rfl, h0⟩
def FindSome (w : World) (o : O) (e : Ending) (w' : World) : Prop := Below w.heap.size w w' ∧ ∃ k b i f t y A n c A' n' c',
  e = .returned (.tuple #[.agg #[.bool o.fail, .int .i64 k, .bool b, .int .i64 i, .float .f64 f, .string t, .string y, .slice A n c, .slice A' n' c'], .bool true]) ∧ OutCells w' (New w.heap.size w') o k b i f t y A n c A' n' c'
theorem tabFind_some (w : World) (g : Nat) (rows : List (C × O)) (hT : TabAt w g rows) (c : C) (hc : c.ok) (o : O) (ho : get rows c = some o) (hsz : sz o.v ≤ 1048576) :
    Calls Try.prog 17 #[.pointer (some ⟨g + 2, 0, none⟩), .agg #[.string c.p, .string c.q, .string c.f, .string c.a]] w (FindSome w o.nrm) := by
  refine (tabFind_any w g rows hT c hc (fun o' h => by rw [ho] at h; injection h with h; rw [← h]; exact hsz)).mono fun e w' h => ?_
  rw [ho] at h
  obtain ⟨hb, cs, rfl, hO⟩ := h
  obtain ⟨k, b, i, f, t, y, A, n, c, A', n', c', rfl, h2⟩ := outCells_of hO
  exact ⟨hb, k, b, i, f, t, y, A, n, c, A', n', c', rfl, h2⟩
theorem tabFind_none (w : World) (g : Nat) (rows : List (C × O)) (hT : TabAt w g rows) (c : C) (hc : c.ok) (ho : get rows c = none) :
    Calls Try.prog 17 #[.pointer (some ⟨g + 2, 0, none⟩), .agg #[.string c.p, .string c.q, .string c.f, .string c.a]] w (RetPost w (.tuple #[.agg #[.bool false, .int .i64 0, .bool false, .int .i64 0, .float .f64 0, .string ⟨#[]⟩, .string ⟨#[]⟩, .slice none 0 0, .slice none 0 0], .bool false])) := by
  refine (tabFind_any w g rows hT c hc (fun o' h => by rw [ho] at h; cases h)).mono fun e w' h => ?_
  rw [ho] at h
  exact ⟨h.2, h.1⟩

theorem kW_ok : kW.ok := by simp [kW, C.ok, maxLen, ByteArray.size]
theorem worksNew (W : World) : Calls Try.prog 16 #[.slice (some ⟨W.heap.size, 0, none⟩) 2 2] (W.alloc (.cells #[.string kW.p, .string kW.q, .string kW.f, .string kW.a, .bool false, .int .i64 2, .bool false, .int .i64 1, .float .f64 0, .string ⟨#[]⟩, .string ⟨#[]⟩, .slice none 0 0, .slice none 0 0, .string kW.p, .string kW.q, .string kW.f, .string kW.a, .bool false, .int .i64 2, .bool false, .int .i64 2, .float .f64 0, .string ⟨#[]⟩, .string ⟨#[]⟩, .slice none 0 0, .slice none 0 0] 39)) (NewPost (W.alloc (.cells #[.string kW.p, .string kW.q, .string kW.f, .string kW.a, .bool false, .int .i64 2, .bool false, .int .i64 1, .float .f64 0, .string ⟨#[]⟩, .string ⟨#[]⟩, .slice none 0 0, .slice none 0 0, .string kW.p, .string kW.q, .string kW.f, .string kW.a, .bool false, .int .i64 2, .bool false, .int .i64 2, .float .f64 0, .string ⟨#[]⟩, .string ⟨#[]⟩, .slice none 0 0, .slice none 0 0] 39)) [(kW, ⟨false, vW 1⟩), (kW, ⟨false, vW 2⟩)]) := by
  have hr := Rd.new W [.string kW.p, .string kW.q, .string kW.f, .string kW.a, .bool false, .int .i64 2, .bool false, .int .i64 1, .float .f64 0, .string ⟨#[]⟩, .string ⟨#[]⟩, .slice none 0 0, .slice none 0 0, .string kW.p, .string kW.q, .string kW.f, .string kW.a, .bool false, .int .i64 2, .bool false, .int .i64 2, .float .f64 0, .string ⟨#[]⟩, .string ⟨#[]⟩, .slice none 0 0, .slice none 0 0] 39
  have hE : Elems IsE (W.alloc (.cells #[.string kW.p, .string kW.q, .string kW.f, .string kW.a, .bool false, .int .i64 2, .bool false, .int .i64 1, .float .f64 0, .string ⟨#[]⟩, .string ⟨#[]⟩, .slice none 0 0, .slice none 0 0, .string kW.p, .string kW.q, .string kW.f, .string kW.a, .bool false, .int .i64 2, .bool false, .int .i64 2, .float .f64 0, .string ⟨#[]⟩, .string ⟨#[]⟩, .slice none 0 0, .slice none 0 0] 39)) (fun _ => False) [(kW, ⟨false, vW 1⟩), (kW, ⟨false, vW 2⟩)] [[.string kW.p, .string kW.q, .string kW.f, .string kW.a, .bool false, .int .i64 2, .bool false, .int .i64 1, .float .f64 0, .string ⟨#[]⟩, .string ⟨#[]⟩, .slice none 0 0, .slice none 0 0], [.string kW.p, .string kW.q, .string kW.f, .string kW.a, .bool false, .int .i64 2, .bool false, .int .i64 2, .float .f64 0, .string ⟨#[]⟩, .string ⟨#[]⟩, .slice none 0 0, .slice none 0 0]] := by
    have h1 := (Elems.nil (R := IsE) (w := W.alloc (.cells #[.string kW.p, .string kW.q, .string kW.f, .string kW.a, .bool false, .int .i64 2, .bool false, .int .i64 1, .float .f64 0, .string ⟨#[]⟩, .string ⟨#[]⟩, .slice none 0 0, .slice none 0 0, .string kW.p, .string kW.q, .string kW.f, .string kW.a, .bool false, .int .i64 2, .bool false, .int .i64 2, .float .f64 0, .string ⟨#[]⟩, .string ⟨#[]⟩, .slice none 0 0, .slice none 0 0] 39)) (S := fun _ => False)).snoc (x := (kW, ⟨false, vW 1⟩)) ⟨_, rfl, isV_W _ _ 1⟩
    exact h1.snoc (x := (kW, ⟨false, vW 2⟩)) ⟨_, rfl, isV_W _ _ 2⟩
  exact tabNew_any [(kW, ⟨false, vW 1⟩), (kW, ⟨false, vW 2⟩)] (by simp [szE, sz, vW, szs, szf]) (fun e he => by
    simp at he
    rcases he with rfl | rfl <;> exact kW_ok) (some ⟨W.heap.size, 0, none⟩) 2 _ _ (LAt.of_rd recE (by omega) hr hE) (fun b hb => by
    rcases hb with hb | hb
    · exact hb.elim
    · simpa using hb)

set_option maxRecDepth 100000 in
set_option maxHeartbeats 1500000 in
theorem works_any (w : World) : Calls Try.prog 15 #[] w (TruePost w) := by
  go_enter Try.func15, Try.ntmps15
  go_wp2_with fail
  refine (call_any w kW).mono ?_
  rintro e w1 ⟨rfl, hb1⟩
  have hs1 := hb1.size
  go_wp2_with fail
  have g1 := heap_alloc_new w1 (.cells #[.string kW.p, .string kW.q, .string kW.f, .string kW.a] 25)
  have gb : Below w.heap.size w (w1.alloc (.cells #[.string kW.p, .string kW.q, .string kW.f, .string kW.a] 25)) := hb1.alloc hs1 _
  have gs : w1.heap.size + 1 ≤ (w1.alloc (.cells #[.string kW.p, .string kW.q, .string kW.f, .string kW.a] 25)).heap.size := by simp
  generalize (w1.alloc (.cells #[.string kW.p, .string kW.q, .string kW.f, .string kW.a] 25)) = w2 at *
  have G1 := Lib.hid g1
  obtain ⟨m0, m1, m2, m3⟩ := blk4 g1
  have HBW : Below w2.heap.size w2 w2 := Below.refl _ _
  clear g1
  go_cut [2] (fun s2 wx => ∃ g, s2 = .pointer (some ⟨g + 2, 0, none⟩) ∧ Hid (TabAt wx g [(kW, ⟨false, vW 1⟩)]) ∧ Below w2.heap.size w2 wx)
  case first =>
    go_region_law (first
      | (go_simp; go_at_call 28; go_must (refine (whole_any _ _).mono ?_; rintro e wc ⟨rfl, hb3⟩; replace m0 := (hb3.cell (World.block_lt_of_cell? _ _ m0)).trans m0; replace m1 := (hb3.cell (World.block_lt_of_cell? _ _ m1)).trans m1; replace m2 := (hb3.cell (World.block_lt_of_cell? _ _ m2)).trans m2; replace m3 := (hb3.cell (World.block_lt_of_cell? _ _ m3)).trans m3; replace HBW : Below w2.heap.size w2 wc := (by first | exact HBW.trans (hb3.mono HBW.size) | exact HBW.drew.trans (hb3.mono HBW.size))))
      | (go_simp; go_at_call 16; go_must (refine (worksNew _).mono ?_; rintro e wn ⟨rfl, hT, hb9⟩)))
    all_goals
      go_wp2_with fail
      go_meet
      case rel =>
        rw [tabR_W] at hT
        simp only [World.size_alloc] at hT
        exact ⟨_, rfl, Lib.hid hT, (HBW.alloc HBW.size _).trans (hb9.mono (by have := HBW.size; simp; omega))⟩
  case rest =>
    obtain ⟨g, rfl, HT, hb5⟩ := hcut
    clear m0 m1 m2 m3 HBW
    have hs5 := hb5.size
    obtain ⟨n0, n1, n2, n3⟩ := blk4 (blk_below G1.out hb5 (by omega))
    go_wp2_with (first
      | (go_at_call 19; refine (tabLen_any _ _ _ HT.out).mono ?_; rintro e w' ⟨rfl, rfl⟩)
      | (go_at_call 17; refine (tabFind_some _ _ _ HT.out kW kW_ok ⟨false, vW 1⟩ (by simp [get]) (by simp [vW, sz, szs, szf])).mono ?_; rintro e wf ⟨hb6, k, b, i, f, t, y, A, n, c, A', n', c', rfl, hO⟩; change OutCells _ _ ⟨false, vW 1⟩ _ _ _ _ _ _ _ _ _ _ _ _ at hO; have HO := Lib.hid hO; clear hO; have hff : (O.nrm ⟨false, vW 1⟩).fail = false := rfl; rw [hff]; clear hff))
    have gF := heap_alloc_new wf (.cells #[.bool false, .int .i64 k, .bool b, .int .i64 i, .float .f64 f, .string t, .string y, .slice A n c, .slice A' n' c'] 37)
    have HB6 : Below wf.heap.size wf (wf.alloc (.cells #[.bool false, .int .i64 k, .bool b, .int .i64 i, .float .f64 f, .string t, .string y, .slice A n c, .slice A' n' c'] 37)) := (Below.refl _ _).alloc (Nat.le_refl _) _
    generalize (wf.alloc (.cells #[.bool false, .int .i64 k, .bool b, .int .i64 i, .float .f64 f, .string t, .string y, .slice A n c, .slice A' n' c'] 37)) = w6 at *
    obtain ⟨d0, d1, d2, d3, d4, d5, d6, d7, d8⟩ := blk9 gF
    have hbw := (gb.trans (hb5.mono (by have := gb.size; omega))).trans (hb6.mono (by have := gb.size; omega))
    clear gF n0 n1 n2 n3
    go_region_law (first
      | (go_simp; go_at_call 28; go_must (refine (whole_any _ _).mono ?_; rintro e wx ⟨rfl, hb3⟩; replace d0 := (hb3.cell (World.block_lt_of_cell? _ _ d0)).trans d0; replace d1 := (hb3.cell (World.block_lt_of_cell? _ _ d1)).trans d1; replace d2 := (hb3.cell (World.block_lt_of_cell? _ _ d2)).trans d2; replace d3 := (hb3.cell (World.block_lt_of_cell? _ _ d3)).trans d3; replace d4 := (hb3.cell (World.block_lt_of_cell? _ _ d4)).trans d4; replace d5 := (hb3.cell (World.block_lt_of_cell? _ _ d5)).trans d5; replace d6 := (hb3.cell (World.block_lt_of_cell? _ _ d6)).trans d6; replace d7 := (hb3.cell (World.block_lt_of_cell? _ _ d7)).trans d7; replace d8 := (hb3.cell (World.block_lt_of_cell? _ _ d8)).trans d8; replace HB6 : Below wf.heap.size wf wx := (by first | exact HB6.trans (hb3.mono HB6.size) | exact HB6.drew.trans (hb3.mono HB6.size))))
      | (go_simp; go_at_call 18; go_must (refine (sameOut_refl ⟨false, vW 1⟩ (by simp [vW, sz, szs, szf]) _ _ _ (New wc.heap.size wf) (fun _ => False) (recO.keep (fun p hp => HB6.cell hp.2) (fun _ h => h) HO.out) ⟨_, rfl, isV_W _ _ 1⟩ (fun b hb => Nat.lt_of_lt_of_le hb.2 HB6.size) (fun b hb => hb.elim)).mono ?_; rintro e wz ⟨rfl, hb4⟩)))
    all_goals
      clear d0 d1 d2 d3 d4 d5 d6 d7 d8
      have hbz := hbw.trans ((HB6.trans (hb4.mono HB6.size)).mono (show w.heap.size ≤ wf.heap.size by have := hbw.size; omega))
      go_wp2_with fail
      go_ret
      exact ⟨rfl, hbz⟩
end Go.Proofs.Ytmicjfdibhoamaa.val
