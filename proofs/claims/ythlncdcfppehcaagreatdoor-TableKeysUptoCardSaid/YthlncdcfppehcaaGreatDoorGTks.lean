/- TableKeys, the walk. The text of the float 1. TableKeys, of any question. From the form's reading of a question (Ask) to its path and its arguments. TableKeys, as a card: called with any question (path, names, arguments) whose reading is of bulk at most 1048576 the Go function returns true and writes nothing that was there. Condition: that bound alone ('Upto'), and the package variables as the program's text lays them (tied). -/
import Derived.Test.YthlncdcfppehcaaGreatDoorGPtw
import Derived.Test.YthlncdcfppehcaaGreatDoorGParts
import Derived.Test.YthlncdcfppehcaaGreatDoorGFtx
import Derived.Test.YthlncdcfppehcaaGreatDoorGRdq
import Derived.Lib.ItoaLen
import Derived.Test.YthlncdcfppehcaaGreatDoorYUpQ
import Derived.ChangeMaps5
section
namespace Go.Proofs.YthlncdcfppehcaaGreatDoor.pth
open Go.RowKit mem val txt app smap
attribute [local go_sem] run_store_float
set_option linter.unusedVariables false

def RetB (v : Value) (w : World) (e : Ending) (w' : World) : Prop := e = .returned v ∧ Below w.heap.size w w'
set_option maxRecDepth 100000 in
theorem call_any (w : World) (x y z u : ByteArray) : Calls Tryz.prog 20 #[.string x, .string y, .string z, .string u] w (RetB (.agg #[.string x, .string y, .string z, .string u]) w) := by
  go_enter Tryz.func20, Tryz.ntmps20
  go_wp2_with fail
  exact bodyPost_ret (v := .agg #[.string x, .string y, .string z, .string u]) (by simp [results, Tryz.results20, go_sem]) rfl ⟨rfl, (Below.refl _ _).alloc (Nat.le_refl _) _⟩
theorem three_alloc (w : World) (o1 o2 o3 : Obj) {W : World} (h : ((w.alloc o1).alloc o2).alloc o3 = W) : W.heap[w.heap.size]? = some o1 ∧ W.heap[w.heap.size + 1]? = some o2 ∧ W.heap[w.heap.size + 1 + 1]? = some o3 ∧ Below w.heap.size w W ∧ w.heap.size + 3 = W.heap.size := by
  subst h
  have e1 : (w.alloc o1).heap.size = w.heap.size + 1 := by simp
  have e2 : ((w.alloc o1).alloc o2).heap.size = w.heap.size + 1 + 1 := by simp
  have e3 := heap_alloc_new ((w.alloc o1).alloc o2) o3
  rw [e2] at e3
  have e4 := heap_alloc_new (w.alloc o1) o2
  rw [e1] at e4
  refine ⟨blk_alloc (blk_alloc (heap_alloc_new _ _) _) _, blk_alloc e4 _, e3, (((Below.refl _ _).alloc (Nat.le_refl _) _).alloc (by simp) _).alloc (by simp; omega) _, by simp⟩
noncomputable def k0 (r : Int) (P : List UInt8) : ByteArray := if r = 0 then ⟨P.toArray⟩ else ⟨#[]⟩
def k1 (r : Int) (a : ByteArray) : ByteArray := if r = 0 then a else ⟨#[]⟩
theorem KeyPost.form {r : Int} {T : List Int} {P : List UInt8} {a b : ByteArray} {w w' : World} {e : Ending} (h : KeyPost r T P a b w e w') :
    e = .returned (.tuple #[.agg #[.string (k0 r P), .string (k1 r a), .string (k1 r b), .string (k1 r (strOf T))], .int .i64 r]) ∧ Below w.heap.size w w' := by
  obtain ⟨h1, h2, h3⟩ := h
  refine ⟨?_, h3⟩
  unfold k0 k1
  by_cases hr : r = 0
  · rw [h1 hr]
    simp [hr]
  · rw [h2 hr]
    simp [hr]
structure KSt (w : World) (kb : Nat) (ks ac : Array Value) (W : World) : Prop where
  ask : W.heap[w.heap.size]? = some (.cells ac 46 (0, 0))
  key : W.heap[kb]? = some (.cells ks 48 (0, 0))
  be : Below w.heap.size w W
theorem KSt.below {w : World} {kb : Nat} {ks ac : Array Value} {W W' : World} (h : KSt w kb ks ac W) (hb : Below W.heap.size W W') : KSt w kb ks ac W' :=
  ⟨(hb.block _ (Array.getElem?_eq_some_iff.1 h.ask).1).trans h.ask, (hb.block _ (Array.getElem?_eq_some_iff.1 h.key).1).trans h.key, h.be.trans (hb.mono h.be.size)⟩
def st8 (W : World) (g : Nat) (x0 x1 x2 x3 x4 x5 x6 x7 : Value) : World := (((((((W.setCell ⟨g, 0, none⟩ x0).setCell ⟨g, 1, none⟩ x1).setCell ⟨g, 2, none⟩ x2).setCell ⟨g, 3, none⟩ x3).setCell ⟨g, 4, none⟩ x4).setCell ⟨g, 5, none⟩ x5).setCell ⟨g, 6, none⟩ x6).setCell ⟨g, 7, none⟩ x7
theorem st8_own {W : World} {g : Nat} {t : TypeId} {c0 c1 c2 c3 c4 c5 c6 c7 : Value} (x0 x1 x2 x3 x4 x5 x6 x7 : Value) (h : W.heap[g]? = some (.cells #[c0, c1, c2, c3, c4, c5, c6, c7] t (0, 0))) :
    (st8 W g x0 x1 x2 x3 x4 x5 x6 x7).heap[g]? = some (.cells #[x0, x1, x2, x3, x4, x5, x6, x7] t (0, 0)) := by
  have h7 := blk_set (blk_set (blk_set (blk_set (blk_set (blk_set (blk_set (blk_set h 0 x0) 1 x1) 2 x2) 3 x3) 4 x4) 5 x5) 6 x6) 7 x7
  simpa [st8] using h7
theorem st8_below (B : Nat) (W : World) (g : Nat) (hB : B ≤ g) (x0 x1 x2 x3 x4 x5 x6 x7 : Value) : Below B W (st8 W g x0 x1 x2 x3 x4 x5 x6 x7) :=
  ((((((((Below.refl _ _).setCell hB _).setCell hB _).setCell hB _).setCell hB _).setCell hB _).setCell hB _).setCell hB _).setCell hB _
theorem st8_other (W : World) (g : Nat) (x0 x1 x2 x3 x4 x5 x6 x7 : Value) (k : Nat) (hk : k ≠ g) : (st8 W g x0 x1 x2 x3 x4 x5 x6 x7).heap[k]? = W.heap[k]? := by
  unfold st8
  rw [Below.heap_setCell _ _ _ _ hk, Below.heap_setCell _ _ _ _ hk, Below.heap_setCell _ _ _ _ hk, Below.heap_setCell _ _ _ _ hk, Below.heap_setCell _ _ _ _ hk, Below.heap_setCell _ _ _ _ hk, Below.heap_setCell _ _ _ _ hk, Below.heap_setCell _ _ _ _ hk]
theorem store4_other (W : World) (g : Nat) (x0 x1 x2 x3 : Value) (k : Nat) (hk : k ≠ g) : ((((W.setCell ⟨g, 0, none⟩ x0).setCell ⟨g, 1, none⟩ x1).setCell ⟨g, 2, none⟩ x2).setCell ⟨g, 3, none⟩ x3).heap[k]? = W.heap[k]? := by
  rw [Below.heap_setCell _ _ _ _ hk, Below.heap_setCell _ _ _ _ hk, Below.heap_setCell _ _ _ _ hk, Below.heap_setCell _ _ _ _ hk]
theorem st8_size (W : World) (g : Nat) (x0 x1 x2 x3 x4 x5 x6 x7 : Value) : (st8 W g x0 x1 x2 x3 x4 x5 x6 x7).heap.size = W.heap.size := by simp [st8, World.setCell]
section
variable (l : List StepT) (a b : ByteArray) (A A' : Option Addr) (c n c' : Nat) (w : World)
set_option maxRecDepth 100000 in
set_option maxHeartbeats 8000000 in
theorem keys_cells (r p : Int) (T : List Int) (P : List UInt8)
    (h0 : ∀ W g1 g2, Below w.heap.size w W → W.heap[g1]? = some (.cells #[.string ⟨#[97]⟩, .int .i64 0, .bool false, .string ⟨#[]⟩, .int .i64 0, .bool true, .string ⟨#[98]⟩, .int .i64 0, .bool false] 52 (0, 0)) → W.heap[g2]? = some (.cells #[.string ⟨#[120]⟩, .int .i64 3, .bool false, .int .i64 0, .float .f64 4607182418800017408, .string ⟨#[]⟩, .string ⟨#[]⟩, .slice none 0 0, .slice none 0 0] 43 (0, 0)) →
      Calls Tryz.prog 19 #[.slice (some ⟨g1, 0, none⟩) 3 3, .string ⟨#[84]⟩, .string ⟨#[98]⟩, .slice (some ⟨g2, 0, none⟩) 1 1] W (RetB (.tuple #[.agg #[.string ⟨#[47, 97, 47, 48, 47, 98]⟩, .string ⟨#[84]⟩, .string ⟨#[98]⟩, .string ⟨#[123, 34, 120, 34, 58, 49, 46, 48, 125]⟩], .int .i64 0]) W))
    (hp : ∀ W, Below w.heap.size w W → Calls Tryz.prog 21 #[.agg #[.int .i64 6, .bool false, .int .i64 0, .float .f64 0, .string ⟨#[]⟩, .string ⟨#[]⟩, .slice none 0 0, .slice A' n c'], .int .i64 20000] W (PartsPost W p))
    (hc : ∀ W, Below w.heap.size w W → Calls Tryz.prog 22 #[.agg #[.int .i64 6, .bool false, .int .i64 0, .float .f64 0, .string ⟨#[]⟩, .string ⟨#[]⟩, .slice none 0 0, .slice A' n c']] W (fun e w' => ∃ A1 c1 A2 c2, e = .returned (.agg #[.int .i64 6, .bool false, .int .i64 0, .float .f64 0, .string ⟨#[]⟩, .string ⟨#[]⟩, .slice A1 0 c1, .slice A2 n c2]) ∧
      Hid (∀ W', w'.heap.size ≤ W'.heap.size → (∀ g, W.heap.size ≤ g → g < w'.heap.size → W'.heap[g]? = w'.heap[g]?) → Below w.heap.size w W' → Calls Tryz.prog 23 #[.slice A l.length c, .string a, .string b, .slice A2 n c2] W' (KeyPost r T P a b W')) ∧ Below W.heap.size W w'))
    (hk : ∀ W, Below w.heap.size w W → Calls Tryz.prog 19 #[.slice A l.length c, .string a, .string b, .slice A' n c'] W (KeyPost r T P a b W)) :
    Calls Tryz.prog 6 #[.agg #[.slice A l.length c, .string a, .string b, .slice A' n c']] w (RetB (.bool true) w) := by
  have H0 := Lib.hid h0
  have HP := Lib.hid hp
  have HC := Lib.hid hc
  have HK := Lib.hid hk
  clear h0 hp hc hk
  go_enter Tryz.func6, Tryz.ntmps6
  go_wp2_with fail
  obtain ⟨w3, hw3⟩ : ∃ w3, ((w.alloc (.cells #[.slice A l.length c, .string a, .string b, .slice A' n c'] 46)).alloc (.cells #[.string ⟨#[97]⟩, .int .i64 0, .bool false, .string ⟨#[]⟩, .int .i64 0, .bool true, .string ⟨#[98]⟩, .int .i64 0, .bool false] 52)).alloc (.cells #[.string ⟨#[120]⟩, .int .i64 3, .bool false, .int .i64 0, .float .f64 4607182418800017408, .string ⟨#[]⟩, .string ⟨#[]⟩, .slice none 0 0, .slice none 0 0] 43) = w3 := ⟨_, rfl⟩
  obtain ⟨g0, g1, g2, hb3, hz3⟩ := three_alloc w _ _ _ hw3
  rw [hw3]
  refine (H0.out w3 _ _ hb3 g1 g2).mono ?_
  rintro e w4 ⟨rfl, hbl⟩
  have G0 : Hid (w4.heap[w.heap.size]? = some (.cells #[.slice A l.length c, .string a, .string b, .slice A' n c'] 46 (0, 0))) := Lib.hid ((hbl.block _ (by omega)).trans g0)
  have HB4 := Lib.hid (hb3.trans (hbl.mono hb3.size))
  have hz4 := hbl.size
  have hz5 : w.heap.size < w4.heap.size := by omega
  clear hw3 g0 g1 g2 hb3 hz3 hbl H0 hz4
  go_upto_region 2 with (fail)
  have HJ : Hid (∀ W, Below w4.heap.size w4 W → W.heap[w4.heap.size]? = some (.cells #[.string ⟨#[47, 97, 47, 48, 47, 98]⟩, .string ⟨#[84]⟩, .string ⟨#[98]⟩, .string ⟨#[123, 34, 120, 34, 58, 49, 46, 48, 125]⟩] 48 (0, 0)) → KSt w w4.heap.size #[.string ⟨#[47, 97, 47, 48, 47, 98]⟩, .string ⟨#[84]⟩, .string ⟨#[98]⟩, .string ⟨#[123, 34, 120, 34, 58, 49, 46, 48, 125]⟩] #[.slice A l.length c, .string a, .string b, .slice A' n c'] W) := Lib.hid (fun W hW hk => ⟨(hW.block _ hz5).trans G0.out, hk, HB4.out.trans (hW.mono HB4.out.size)⟩)
  have hk5 := heap_alloc_new w4 (.cells #[.string ⟨#[47, 97, 47, 48, 47, 98]⟩, .string ⟨#[84]⟩, .string ⟨#[98]⟩, .string ⟨#[123, 34, 120, 34, 58, 49, 46, 48, 125]⟩] 48)
  have hb5 : Below w4.heap.size w4 (w4.alloc (.cells #[.string ⟨#[47, 97, 47, 48, 47, 98]⟩, .string ⟨#[84]⟩, .string ⟨#[98]⟩, .string ⟨#[123, 34, 120, 34, 58, 49, 46, 48, 125]⟩] 48)) := (Below.refl _ _).alloc (Nat.le_refl _) _
  have hz6 : (w4.alloc (.cells #[.string ⟨#[47, 97, 47, 48, 47, 98]⟩, .string ⟨#[84]⟩, .string ⟨#[98]⟩, .string ⟨#[123, 34, 120, 34, 58, 49, 46, 48, 125]⟩] 48)).heap.size = w4.heap.size + 1 := by simp
  generalize w4.alloc (.cells #[.string ⟨#[47, 97, 47, 48, 47, 98]⟩, .string ⟨#[84]⟩, .string ⟨#[98]⟩, .string ⟨#[123, 34, 120, 34, 58, 49, 46, 48, 125]⟩] 48) = w5 at *
  obtain ⟨kb, hkb⟩ : ∃ kb, w4.heap.size = kb := ⟨_, rfl⟩
  rw [hkb] at HJ hk5 hb5 hz5 hz6 ⊢
  have HMK : Hid (∀ W, Below w5.heap.size w5 W → (W.cell? ⟨kb, 0, none⟩ = some (.string ⟨#[47, 97, 47, 48, 47, 98]⟩) ∧ W.cell? ⟨kb, 1, none⟩ = some (.string ⟨#[84]⟩) ∧ W.cell? ⟨kb, 2, none⟩ = some (.string ⟨#[98]⟩) ∧ W.cell? ⟨kb, 3, none⟩ = some (.string ⟨#[123, 34, 120, 34, 58, 49, 46, 48, 125]⟩) ∧ Hid (Below w5.heap.size w5 W))) := Lib.hid (fun W hW => by
    have g := (hW.block kb (by omega)).trans hk5
    obtain ⟨m0, m1, m2, m3⟩ := cells4 g
    exact ⟨m0, m1, m2, m3, Lib.hid hW⟩)
  have HJ5 : Hid (∀ W, Below w5.heap.size w5 W → KSt w kb #[.string ⟨#[47, 97, 47, 48, 47, 98]⟩, .string ⟨#[84]⟩, .string ⟨#[98]⟩, .string ⟨#[123, 34, 120, 34, 58, 49, 46, 48, 125]⟩] #[.slice A l.length c, .string a, .string b, .slice A' n c'] W) := Lib.hid (fun W hW => HJ.out W (hb5.trans (hW.mono (by omega))) ((hW.block kb (by omega)).trans hk5))
  have HCL := Lib.hid (call_any w5.drew ⟨#[47, 97, 47, 48, 47, 98]⟩ ⟨#[84]⟩ ⟨#[98]⟩ ⟨#[123, 34, 120, 34, 58, 49, 46, 48, 125]⟩)
  have HKB : Hid (w.heap.size < kb) := Lib.hid hz5
  clear HJ hk5 hb5 hz6 G0 HB4 hkb hz5
  go_cut [25] from 19 to 25 (fun s25 wx => s25 = .bool false ∧ Hid (KSt w kb #[.string ⟨#[47, 97, 47, 48, 47, 98]⟩, .string ⟨#[84]⟩, .string ⟨#[98]⟩, .string ⟨#[123, 34, 120, 34, 58, 49, 46, 48, 125]⟩] #[.slice A l.length c, .string a, .string b, .slice A' n c'] wx))
  case first =>
    go_region_held3 (fun w' => w'.cell? ⟨kb, 0, none⟩ = some (.string ⟨#[47, 97, 47, 48, 47, 98]⟩) ∧ w'.cell? ⟨kb, 1, none⟩ = some (.string ⟨#[84]⟩) ∧ w'.cell? ⟨kb, 2, none⟩ = some (.string ⟨#[98]⟩) ∧ w'.cell? ⟨kb, 3, none⟩ = some (.string ⟨#[123, 34, 120, 34, 58, 49, 46, 48, 125]⟩) ∧ Hid (Below w5.heap.size w5 w'))
      (first | assumption | exact HMK.out _ ((Below.refl _ _).drew) | (obtain ⟨h0, h1, h2, h3, h5⟩ := ‹_ ∧ _›; exact HMK.out _ (h5.out.trans (hb3.mono h5.out.size))))
      ((go_simp; go_at_call 20; refine HCL.out.mono ?_; rintro e0 wc ⟨rfl, hb3⟩))
    all_goals
      go_wp2_with fail
      go_meet
      case rel => exact ⟨rfl, Lib.hid (HJ5.out _ (((Below.refl w5.heap.size w5).drew).trans hb3))⟩
  case rest =>
    obtain ⟨rfl, HK5⟩ := hcut
    clear HMK HJ5 HCL
    obtain ⟨ad0, ad1, ad2, ad3⟩ := cells4 HK5.out.ask
    have hlt0 : w.heap.size < wc.heap.size := (Array.getElem?_eq_some_iff.1 HK5.out.ask).1
    have hltk : kb < wc.heap.size := (Array.getElem?_eq_some_iff.1 HK5.out.key).1
    have hbv : Below wc.heap.size wc (wc.alloc (.cells #[.int .i64 6, .bool false, .int .i64 0, .float .f64 0, .string ⟨#[]⟩, .string ⟨#[]⟩, .slice none 0 0, .slice A' n c'] 29)) := (Below.refl _ _).alloc (Nat.le_refl _) _
    have hv6 := heap_alloc_new wc (.cells #[.int .i64 6, .bool false, .int .i64 0, .float .f64 0, .string ⟨#[]⟩, .string ⟨#[]⟩, .slice none 0 0, .slice A' n c'] 29)
    obtain ⟨w6, hw6⟩ : ∃ w6, wc.alloc (.cells #[.int .i64 6, .bool false, .int .i64 0, .float .f64 0, .string ⟨#[]⟩, .string ⟨#[]⟩, .slice none 0 0, .slice A' n c'] 29) = w6 := ⟨_, rfl⟩
    go_upto_region 5 with (fail)
    rw [hw6] at hbv hv6
    obtain ⟨vb, hvb⟩ : ∃ vb, wc.heap.size = vb := ⟨_, rfl⟩
    have HK6 := Lib.hid (HK5.out.below hbv)
    rw [hvb] at hv6 hlt0 hltk
    try rw [hvb]
    clear hbv hw6 hvb ad0 ad1 ad2 ad3 HK5
    obtain ⟨v0, v1, v2, v3, v4, v5, v6, v7⟩ := look.blk8 hv6
    have HCp := Lib.hid (HP.out w6 HK6.out.be)
    go_wp2_with fail
    refine HCp.out.mono ?_
    rintro e w7 ⟨rfl, hbl⟩
    have HK7 := Lib.hid (HK6.out.below hbl)
    have hv7 := (hbl.block vb (Array.getElem?_eq_some_iff.1 hv6).1).trans hv6
    clear v0 v1 v2 v3 v4 v5 v6 v7 HCp HK6 hbl hv6 HP
    by_cases hbig : p ≥ 20000
    · go_wp2_with fail
      go_ret
      exact ⟨rfl, HK7.out.be⟩
    obtain ⟨v0, v1, v2, v3, v4, v5, v6, v7⟩ := look.blk8 hv7
    have HCc := Lib.hid (HC.out w7 HK7.out.be)
    go_wp2_with fail
    refine HCc.out.mono ?_
    rintro e w8 ⟨A1, c1, A2, c2, rfl, HR, hbl⟩
    have HK8 := Lib.hid (HK7.out.below hbl)
    have hlv := (Array.getElem?_eq_some_iff.1 hv7).1
    have hv8 := (hbl.block vb hlv).trans hv7
    clear v0 v1 v2 v3 v4 v5 v6 v7 HCc HK7 hv7 HC hbig
    obtain ⟨v0, v1, v2, v3, v4, v5, v6, v7⟩ := look.blk8 hv8
    have f0 := Lib.frozen_of_heap hv8 0
    have f1 := Lib.frozen_of_heap hv8 1
    have f2 := Lib.frozen_of_heap hv8 2
    have f3 := Lib.frozen_of_heap hv8 3
    have f4 := Lib.frozen_of_heap hv8 4
    have f5 := Lib.frozen_of_heap hv8 5
    have f6 := Lib.frozen_of_heap hv8 6
    have f7 := Lib.frozen_of_heap hv8 7
    have HV8 := Lib.hid hv8
    have HBL := Lib.hid hbl
    have hlv7 : vb < w7.heap.size := (Array.getElem?_eq_some_iff.1 (show w7.heap[vb]? = some (.cells #[.int .i64 6, .bool false, .int .i64 0, .float .f64 0, .string ⟨#[]⟩, .string ⟨#[]⟩, .slice none 0 0, .slice A' n c'] 29 (0, 0)) by rw [← hv8]; exact (hbl.block vb hlv).symm)).1
    have hz78 := hbl.size
    clear hv8 hbl
    go_upto_region 8 with (fail)
    obtain ⟨w9, hw9⟩ : ∃ w9, st8 w8 vb (.int .i64 6) (.bool false) (.int .i64 0) (.float .f64 0) (.string ⟨#[]⟩) (.string ⟨#[]⟩) (.slice A1 0 c1) (.slice A2 n c2) = w9 := ⟨_, rfl⟩
    have hv9 := st8_own (.int .i64 6) (.bool false) (.int .i64 0) (.float .f64 0) (.string ⟨#[]⟩) (.string ⟨#[]⟩) (.slice A1 0 c1) (.slice A2 n c2) HV8.out
    have hb9 := st8_below vb w8 vb (Nat.le_refl _) (.int .i64 6) (.bool false) (.int .i64 0) (.float .f64 0) (.string ⟨#[]⟩) (.string ⟨#[]⟩) (.slice A1 0 c1) (.slice A2 n c2)
    have hz9 := st8_size w8 vb (.int .i64 6) (.bool false) (.int .i64 0) (.float .f64 0) (.string ⟨#[]⟩) (.string ⟨#[]⟩) (.slice A1 0 c1) (.slice A2 n c2)
    have hs9 : ∀ g, g ≠ vb → (st8 w8 vb (.int .i64 6) (.bool false) (.int .i64 0) (.float .f64 0) (.string ⟨#[]⟩) (.string ⟨#[]⟩) (.slice A1 0 c1) (.slice A2 n c2)).heap[g]? = w8.heap[g]? := st8_other _ _ _ _ _ _ _ _ _ _
    rw [hw9] at hv9 hb9 hz9 hs9
    unfold st8 at hw9
    rw [hw9]
    clear hw9 v0 v1 v2 v3 v4 v5 v6 v7 f0 f1 f2 f3 f4 f5 f6 f7
    have HK9 : Hid (KSt w kb #[.string ⟨#[47, 97, 47, 48, 47, 98]⟩, .string ⟨#[84]⟩, .string ⟨#[98]⟩, .string ⟨#[123, 34, 120, 34, 58, 49, 46, 48, 125]⟩] #[.slice A l.length c, .string a, .string b, .slice A' n c'] w9) := Lib.hid ⟨(hb9.block _ hlt0).trans HK8.out.ask, (hb9.block _ hltk).trans HK8.out.key, HK8.out.be.trans (hb9.mono (Nat.le_of_lt hlt0))⟩
    have HS9 := Lib.hid hs9
    clear hs9 hb9 HK8 HV8
    have HCk := Lib.hid (HK.out w9 HK9.out.be)
    obtain ⟨ad0, ad1, ad2, ad3⟩ := cells4 HK9.out.ask
    go_wp2_with fail
    refine HCk.out.mono ?_
    rintro e w10 hkp
    obtain ⟨rfl, hbl⟩ := hkp.form
    have HK10 := Lib.hid (HK9.out.below hbl)
    have hlv9 : vb < w9.heap.size := by omega
    have hv10 := (hbl.block vb hlv9).trans hv9
    have hz10 := hbl.size
    have HS10 : Hid (∀ g, w7.heap.size ≤ g → g < w8.heap.size → w10.heap[g]? = w8.heap[g]?) := Lib.hid (fun g h1 h2 => (hbl.block g (by omega)).trans (HS9.out g (by omega)))
    clear hkp hbl HCk HK9 ad0 ad1 ad2 ad3 hv9 HS9 HK
    obtain ⟨y0, hy0⟩ : ∃ y, k0 r P = y := ⟨_, rfl⟩
    obtain ⟨y1, hy1⟩ : ∃ y, k1 r a = y := ⟨_, rfl⟩
    obtain ⟨y2, hy2⟩ : ∃ y, k1 r b = y := ⟨_, rfl⟩
    obtain ⟨y3, hy3⟩ : ∃ y, k1 r (strOf T) = y := ⟨_, rfl⟩
    have HKF : Hid (∀ (w w' : World) (e : Ending), KeyPost r T P a b w e w' → e = .returned (.tuple #[.agg #[.string y0, .string y1, .string y2, .string y3], .int .i64 r]) ∧ Below w.heap.size w w') := Lib.hid (fun w w' e h => by rw [← hy0, ← hy1, ← hy2, ← hy3]; exact h.form)
    rw [hy0, hy1, hy2, hy3]
    clear hy0 hy1 hy2 hy3
    have hkey := HK10.out.key
    obtain ⟨m0, m1, m2, m3⟩ := cells4 hkey
    have f0 := Lib.frozen_of_heap hkey 0
    have f1 := Lib.frozen_of_heap hkey 1
    have f2 := Lib.frozen_of_heap hkey 2
    have f3 := Lib.frozen_of_heap hkey 3
    have HV10 := Lib.hid hv10
    clear hkey hv10
    go_upto_region 9 with (fail)
    obtain ⟨w11, hw11⟩ : ∃ w11, (((w10.setCell ⟨kb, 0, none⟩ (.string y0)).setCell ⟨kb, 1, none⟩ (.string y1)).setCell ⟨kb, 2, none⟩ (.string y2)).setCell ⟨kb, 3, none⟩ (.string y3) = w11 := ⟨_, rfl⟩
    have hst := store4 (B := kb) (.string y0) (.string y1) (.string y2) (.string y3) (Nat.le_refl _) HK10.out.key
    have hoth := store4_other w10 kb (.string y0) (.string y1) (.string y2) (.string y3)
    have hz11 : ((((w10.setCell ⟨kb, 0, none⟩ (.string y0)).setCell ⟨kb, 1, none⟩ (.string y1)).setCell ⟨kb, 2, none⟩ (.string y2)).setCell ⟨kb, 3, none⟩ (.string y3)).heap.size = w10.heap.size := by simp [World.setCell]
    rw [hw11] at hst hoth hz11 ⊢
    clear hw11 m0 m1 m2 m3 f0 f1 f2 f3
    have hk0 := HKB.out
    have hne1 : w.heap.size ≠ kb := by omega
    have HK11 : Hid (KSt w kb #[.string y0, .string y1, .string y2, .string y3] #[.slice A l.length c, .string a, .string b, .slice A' n c'] w11) := Lib.hid ⟨(hoth _ hne1).trans HK10.out.ask, hst.1, HK10.out.be.trans (hst.2.mono (Nat.le_of_lt hk0))⟩
    have HV11 := Lib.hid ((hoth vb (by omega)).trans HV10.out)
    have hcal := HR.out w11 (by omega) (fun g h1 h2 => (hoth g (by omega)).trans (HS10.out g h1 h2)) HK11.out.be
    have HCr := Lib.hid hcal
    clear hcal HS10 HR hst hoth HK10 HV10
    obtain ⟨ad0, ad1, ad2, ad3⟩ := cells4 HK11.out.ask
    obtain ⟨v0, v1, v2, v3, v4, v5, v6, v7⟩ := look.blk8 HV11.out
    go_wp2_with fail
    refine HCr.out.mono ?_
    rintro e w12 hkp
    obtain ⟨rfl, hbl⟩ := HKF.out _ _ _ hkp
    have HK12 := Lib.hid (HK11.out.below hbl)
    have hlk12 : kb < w12.heap.size := (Array.getElem?_eq_some_iff.1 HK12.out.key).1
    clear hkp hbl HCr HK11 ad0 ad1 ad2 ad3 v0 v1 v2 v3 v4 v5 v6 v7 HKF HV11
    go_upto_region 10 with (fail)
    have hbn : Below w12.heap.size w12 (w12.alloc (.cells #[.string y0, .string y1, .string y2, .string y3] 48)) := (Below.refl _ _).alloc (Nat.le_refl _) _
    have gn := heap_alloc_new w12 (.cells #[.string y0, .string y1, .string y2, .string y3] 48)
    have HK13 := Lib.hid (HK12.out.below hbn)
    obtain ⟨w13, hw13⟩ : ∃ w13, w12.alloc (.cells #[.string y0, .string y1, .string y2, .string y3] 48) = w13 := ⟨_, rfl⟩
    rw [hw13] at gn HK13
    try rw [hw13]
    obtain ⟨pb, hpb⟩ : ∃ pb, w12.heap.size = pb := ⟨_, rfl⟩
    rw [hpb] at gn
    try rw [hpb]
    clear hbn hw13 hpb
    obtain ⟨m0, m1, m2, m3⟩ := cells4 (W := w13) HK13.out.key
    obtain ⟨n0, n1, n2, n3⟩ := cells4 (W := w13) gn
    have hrr : (r == r) = true := by simp
    have HF : Hid (Below w.heap.size w w13) := Lib.hid HK13.out.be
    clear HK12 gn
    clear HK13
    go_wp2_with fail
    go_ret
    exact ⟨by simp, HF.out⟩
end
end Go.Proofs.YthlncdcfppehcaaGreatDoor.pth
end
section
namespace Go.Proofs.YthlncdcfppehcaaGreatDoor.pg
open Go.RowKit mem fl big sh uw
set_option linter.unusedVariables false

theorem one_up (j : Nat) : V ((j + 1) * 4503599627370496 + 4503599627370497) = 4503599627370497 * (2 * 2 ^ j) := by rw [V_at (j + 1) _ (by decide) (by decide), Nat.pow_succ']
theorem pow10_of {n m : Nat} (h : n = m) : 10 ^ n = pow10 m := by subst h; rfl
theorem one_V (P : Nat) (hP : 2 ^ 1021 = P) : V (4607182418800017408 - 1) = 9007199254740991 * P ∧ V 4607182418800017408 = 9007199254740992 * P ∧ V (4607182418800017408 + 1) = 9007199254740994 * P := by
  have h1 := V_at 1021 9007199254740991 (by decide) (by decide)
  have h2 := V_at 1021 9007199254740992 (by decide) (by decide)
  have h3 := one_up 1021
  rw [hP] at h1 h2 h3
  refine ⟨h1, h2, h3.trans ?_⟩
  rw [← Nat.mul_assoc]
theorem one_E (P : Nat) (hP : 2 ^ 1021 = P) : E = 9007199254740992 * P := by
  rw [E_eq, ← hP]
  have := p2mul 1021 53 1074 0 (by decide)
  generalize 2 ^ 1074 = x at *
  generalize 2 ^ 1021 = y at *
  have e : (2 : Nat) ^ 53 = 9007199254740992 := by decide
  rw [e] at this
  omega
theorem one_cand : Cand 4607182418800017408 1 0 := by
  obtain ⟨P, hP⟩ : ∃ P, 2 ^ 1021 = P := ⟨_, rfl⟩
  have hp : 0 < P := by rw [← hP]; exact Nat.two_pow_pos 1021
  obtain ⟨v1, v2, v3⟩ := one_V P hP
  have hE := one_E P hP
  clear hP
  have hG : G 0 = F * E := by
    have h4 : ((0 : Int) + 400).toNat = 400 := rfl
    unfold G
    rw [F_p]
    exact congrArg (fun n => n * E) (pow10_of h4)
  obtain ⟨Q, hQ⟩ : ∃ Q, F = Q := ⟨_, rfl⟩
  have hq : 0 < Q := by rw [← hQ]; exact F_pos
  obtain ⟨M, hM⟩ : ∃ M, Q * P = M := ⟨_, rfl⟩
  have hm : 0 < M := by rw [← hM]; exact Nat.mul_pos hq hp
  have hG2 : G 0 = 9007199254740992 * M := by rw [hG, hQ, hE, ← hM]; ac_rfl
  have e1 : Q * (9007199254740991 * P + 9007199254740992 * P) = 18014398509481983 * M := by rw [← hM, ← Nat.add_mul]; ac_rfl
  have e2 : Q * (9007199254740992 * P + 9007199254740994 * P) = 18014398509481986 * M := by rw [← hM, ← Nat.add_mul]; ac_rfl
  have hin : ∀ q, In 4607182418800017408 q 0 ↔ (18014398509481983 * M ≤ 2 * (q * (9007199254740992 * M)) ∧ 2 * (q * (9007199254740992 * M)) ≤ 18014398509481986 * M) := fun q => by
    rw [In_iff _ _ _ (by decide), near_fin (by decide) (by decide), v1, v2, v3, hQ, hG2, e1, e2]
    simp
  refine ⟨by decide, (hin 1).2 ⟨by omega, by omega⟩, .inl ?_, fun q' h => ?_⟩
  · have hce : ce 4607182418800017408 = 9007199254740992 * M := by unfold ce; rw [v2, hQ, ← hM]; ac_rfl
    rw [hce, hG2]
    unfold Half
    exact ⟨.inl (by omega), .inl (by omega)⟩
  · have h2 := (in_ten1 (x := 0) (by decide)).1 h
    obtain ⟨g1, g2⟩ := (hin _).1 h2
    exfalso
    cases q' with
    | zero => simp at g1; omega
    | succ n =>
      have h3 : 10 * (9007199254740992 * M) ≤ 10 * (n + 1) * (9007199254740992 * M) := Nat.mul_le_mul_right _ (by omega)
      omega
theorem ftx_one : ftx 4607182418800017408 = ⟨#[49, 46, 48]⟩ := by
  have h := (ftx_spec 4607182418800017408).1 false 4607182418800017408 rfl (by decide) (default : World) (.returned (.string ⟨#[49, 46, 48]⟩)) default
    ⟨Below.refl _ _, .inr (.inr ⟨by decide, by decide, 1, 0, one_cand, by decide, by refine ⟨?_, ?_, ?_, ?_⟩ <;> decide +kernel, congrArg (fun s => Ending.returned (.string s)) (by decide +kernel : (⟨#[49, 46, 48]⟩ : ByteArray) = strN ((if false = true then [45] else []) ++ layT (dgs 1) (((dgs 1).length : Int) + 0)))⟩)⟩
  have h2 := h.1
  injection h2 with h2
  injection h2 with h2
  exact h2.symm
end Go.Proofs.YthlncdcfppehcaaGreatDoor.pg
end
section
namespace Go.Proofs.YthlncdcfppehcaaGreatDoor.pth
open Go.RowKit mem val txt app smap
set_option linter.unusedVariables false

/-- the arguments as an object -/
def vx (fs : List (ByteArray × V)) : V := .mk 6 false 0 0 ⟨#[]⟩ ⟨#[]⟩ [] fs
theorem vx_is {W : World} {S : Nat → Prop} {fs : List (ByteArray × V)} {A : Option Addr} (c : Nat) (hA : A = none → fs.length = 0) (hF : IsFs W S fs A 0) :
    IsV W S (vx fs) [.int .i64 6, .bool false, .int .i64 0, .float .f64 0, .string ⟨#[]⟩, .string ⟨#[]⟩, .slice none 0 0, .slice A fs.length c] := by
  unfold vx
  simp only [IsV, IsVs]
  exact ⟨none, 0, A, c, rfl, fun _ => rfl, hA, trivial, hF⟩
theorem vx_ok {fs : List (ByteArray × V)} (h : okf fs) : ok (vx fs) := by
  unfold vx
  simp only [ok, oks]
  exact ⟨⟨by decide, by decide, by decide, by decide, by decide⟩, trivial, h⟩
theorem vx_wt (fs : List (ByteArray × V)) : wt (vx fs) = 1 + wtf fs := by
  unfold vx
  simp only [wt, wts]
  show 1 + 0 + 0 + 0 + _ = _
  omega
section
variable (l : List StepT) (a b : ByteArray) (fs : List (ByteArray × V)) (A A' : Option Addr) (c c' : Nat) (w : World) (S S' : Nat → Prop)
theorem key_at (hl : l.length ≤ 1048576) (ht : (pthB l).length ≤ 4398046511104) (hP : IsP w S A l) (hS : Bel S w.heap.size) (hA : A' = none → fs.length = 0) (hF : IsFs w S' fs A' 0) (hS' : Bel S' w.heap.size) (hw : wtf fs ≤ 1048574) (hok : okf fs) (hE : look.Env w) :
    Calls Tryz.prog 19 #[.slice A l.length c, .string a, .string b, .slice A' fs.length c'] w (KeyPost (lk (vx fs)) (tx (vx fs)) (pthB l) a b w) := by
  have h1 := vx_wt fs
  have h2 := sz_wt (vx fs)
  exact key_any (lk (vx fs)) (tx (vx fs)) l a b A A' c fs.length c' w
    (fun W hW => look.write_any (vx fs) _ W S' (by omega) (by omega) (vx_ok hok) ((vx_is c' hA hF).below hS' hW) (hS'.mono hW.size) (hE.below hW))
    (fun W hW => path_any l A c S W hl ht (hP.below hS hW) (hS.mono hW.size) (hE.below hW))
theorem rkey_at (hl : l.length ≤ 1048576) (ht : (pthB l).length ≤ 4398046511104) (hP : IsP w S A l) (hS : Bel S w.heap.size) (hA : A' = none → fs.length = 0) (hF : IsFs w S' fs A' 0) (hS' : Bel S' w.heap.size) (hw : wtf fs ≤ 1048574) (hok : okf fs) (hE : look.Env w) :
    Calls Tryz.prog 23 #[.slice A l.length c, .string a, .string b, .slice A' fs.length c'] w (KeyPost (lk (vx fs)) (tx (vx fs)) (pthB l) a b w) := by
  have h1 := vx_wt fs
  have h2 := sz_wt (vx fs)
  exact rkey_any (lk (vx fs)) (tx (vx fs)) l a b A A' c fs.length c' w
    (fun W hW => (look.rwrite_any (vx fs) _ W S' (by omega) (by omega) (vx_ok hok) ((vx_is c' hA hF).below hS' hW) (hS'.mono hW.size)).mono fun e w' h => ⟨fun hr => by
      obtain ⟨v', e1, e2⟩ := h.1 hr
      exact ⟨v', _, e1, e2, Nat.le_refl _⟩, h.2.1, h.2.2⟩)
    (fun W hW => rpath_any l A c S W hl ht (hP.below hS hW) (hS.mono hW.size) (hE.below hW))
end
def l0 : List StepT := [(⟨#[97]⟩, 0, false), (⟨#[]⟩, 0, true), (⟨#[98]⟩, 0, false)]
def x0 : V := .mk 3 false 0 4607182418800017408 ⟨#[]⟩ ⟨#[]⟩ [] []
def fs0 : List (ByteArray × V) := [(⟨#[120]⟩, x0)]
theorem pth0 : pthB l0 = [47, 97, 47, 48, 47, 98] := by decide +kernel
theorem tx0 : tx (vx fs0) = [123, 34, 120, 34, 58, 49, 46, 48, 125] := by
  have h1 : quoteZ [120] = [34, 120, 34] := by decide +kernel
  have h2 : bz (⟨#[49, 46, 48]⟩ : ByteArray) = [49, 46, 48] := by decide +kernel
  unfold vx fs0 x0
  simp only [tx, txf, txg, fz, pg.ftx_one, h2]
  have h3 : quoteZ (⟨#[120]⟩ : ByteArray).data.toList = [34, 120, 34] := h1
  rw [h3]
  simp
theorem lk0 : lk (vx fs0) = 0 := by
  have h1 : Lib.validD (⟨#[120]⟩ : ByteArray).data.toList = true := by decide +kernel
  unfold vx fs0 x0
  simp only [lk, lkf, nmE, h1]
  simp
theorem blk_at {W : World} {g : Nat} {T : TypeId} {cs : List Value} (h : W.heap[g]? = some (.cells cs.toArray T (0, 0))) (off : Nat) (ds : List Value) (hd : ∀ o u, ds[o]? = some u → cs[off + o]? = some u) : CellsAt W ((⟨g, 0, none⟩ : Addr).add off) ds := fun o u hu => by
  rw [val.add_add, add_zero_off, cell_of_row W g (off + o) _ T (0, 0) h]
  simpa using hd o u hu
theorem first_at (W : World) (g1 g2 : Nat) (h1 : W.heap[g1]? = some (.cells [.string ⟨#[97]⟩, .int .i64 0, .bool false, .string ⟨#[]⟩, .int .i64 0, .bool true, .string ⟨#[98]⟩, .int .i64 0, .bool false].toArray 52 (0, 0))) (h2 : W.heap[g2]? = some (.cells [.string ⟨#[120]⟩, .int .i64 3, .bool false, .int .i64 0, .float .f64 4607182418800017408, .string ⟨#[]⟩, .string ⟨#[]⟩, .slice none 0 0, .slice none 0 0].toArray 43 (0, 0))) (hE : look.Env W) :
    Calls Tryz.prog 19 #[.slice (some ⟨g1, 0, none⟩) 3 3, .string ⟨#[84]⟩, .string ⟨#[98]⟩, .slice (some ⟨g2, 0, none⟩) 1 1] W (RetB (.tuple #[.agg #[.string ⟨#[47, 97, 47, 48, 47, 98]⟩, .string ⟨#[84]⟩, .string ⟨#[98]⟩, .string ⟨#[123, 34, 120, 34, 58, 49, 46, 48, 125]⟩], .int .i64 0]) W) := by
  have hl1 : g1 < W.heap.size := (Array.getElem?_eq_some_iff.1 h1).1
  have hl2 : g2 < W.heap.size := (Array.getElem?_eq_some_iff.1 h2).1
  have hP : IsP W (fun b => b < W.heap.size) (some ⟨g1, 0, none⟩) l0 := fun j s hs => by
    rcases j with _ | _ | _ | j
    · obtain rfl : _ = s := by simpa [l0] using hs
      exact ⟨⟨by decide, by decide, by decide⟩, _, rfl, hl1, blk_at h1 _ _ (fun o u hu => by rcases o with _ | _ | _ | o <;> first | exact hu | simp at hu)⟩
    · obtain rfl : _ = s := by simpa [l0] using hs
      exact ⟨⟨by decide, by decide, by decide⟩, _, rfl, hl1, blk_at h1 _ _ (fun o u hu => by rcases o with _ | _ | _ | o <;> first | exact hu | simp at hu)⟩
    · obtain rfl : _ = s := by simpa [l0] using hs
      exact ⟨⟨by decide, by decide, by decide⟩, _, rfl, hl1, blk_at h1 _ _ (fun o u hu => by rcases o with _ | _ | _ | o <;> first | exact hu | simp at hu)⟩
    · simp [l0] at hs
  have hF : IsFs W (fun b => b < W.heap.size) fs0 (some ⟨g2, 0, none⟩) 0 := by
    unfold fs0 x0
    simp only [IsFs, IsV, IsVs]
    exact ⟨⟨_, _, rfl, hl2, blk_at h2 _ _ (fun o u hu => by simpa using hu), none, 0, none, 0, rfl, fun _ => rfl, fun _ => rfl, trivial, trivial⟩, trivial⟩
  have hw0 : wtf fs0 ≤ 1048574 := by unfold fs0 x0; simp only [wtf, wt, wts]; decide
  have hok0 : okf fs0 := by
    unfold fs0 x0
    simp only [okf, ok, oks]
    exact ⟨by decide, ⟨⟨by decide, by decide, by decide, by decide, by decide⟩, trivial, trivial⟩, trivial⟩
  have h := key_at l0 ⟨#[84]⟩ ⟨#[98]⟩ fs0 (some ⟨g1, 0, none⟩) (some ⟨g2, 0, none⟩) 3 1 W _ _ (by decide) (by rw [pth0]; decide) hP (fun _ h => h) (fun h => by cases h) hF (fun _ h => h) hw0 hok0 hE
  refine Calls.mono h fun e w' hp => ⟨?_, hp.2.2⟩
  rw [hp.1 lk0, pth0, tx0]
  rfl
theorem keys_any (l : List StepT) (a b : ByteArray) (fs : List (ByteArray × V)) (A A' : Option Addr) (c c' : Nat) (w : World) (S S' : Nat → Prop) (hl : l.length ≤ 1048576) (ht : (pthB l).length ≤ 4398046511104) (hP : IsP w S A l) (hS : Bel S w.heap.size)
    (hA : A' = none → fs.length = 0) (hF : IsFs w S' fs A' 0) (hS' : Bel S' w.heap.size) (hw : wtf fs ≤ 1048574) (hok : okf fs) (hE : look.Env w) :
    Calls Tryz.prog 6 #[.agg #[.slice A l.length c, .string a, .string b, .slice A' fs.length c']] w (RetB (.bool true) w) := by
  have e1 := vx_wt fs
  have e2 := sz_wt (vx fs)
  refine keys_cells l a b A A' c fs.length c' w (lk (vx fs)) (pt (vx fs) 20000) (tx (vx fs)) (pthB l)
    (fun W g1 g2 hW h1 h2 => first_at W g1 g2 h1 h2 (hE.below hW))
    (fun W hW => parts_any (sz (vx fs)) (vx fs) (Nat.le_refl _) (by omega) _ 20000 W S' ((vx_is c' hA hF).below hS' hW) (hS'.mono hW.size) (by decide) (by decide))
    (fun W hW => (copyValue_any (sz (vx fs)) (vx fs) (Nat.le_refl _) (by omega) _ W S' ((vx_is c' hA hF).below hS' hW) (hS'.mono hW.size)).mono ?_)
    (fun W hW => key_at l a b fs A A' c c' W S S' hl ht (hP.below hS hW) (hS.mono hW.size) hA (hF.below hS' hW) (hS'.mono hW.size) hw hok (hE.below hW))
  rintro e w' ⟨cs, rfl, hV, hb⟩
  have hV2 := hV
  unfold vx at hV
  simp only [IsV] at hV
  obtain ⟨A1, c1, A2, c2, rfl, _, hA2, _, hF2⟩ := hV
  refine ⟨A1, c1, A2, c2, rfl, Lib.hid (fun W' hz hg hW' => ?_), hb⟩
  have hF3 : IsFs W' (New W.heap.size w') fs A2 0 := hF2.keep (fun p hp => by
    unfold World.cell?
    rw [hg p.block hp.1 hp.2]) (fun _ h => h)
  exact rkey_at l a b fs A A2 c c2 W' S (New W.heap.size w') hl ht (hP.below hS hW') (hS.mono hW'.size) hA2 hF3 (fun _ h => Nat.lt_of_lt_of_le h.2 hz) hw hok (hE.below hW')
end Go.Proofs.YthlncdcfppehcaaGreatDoor.pth
end
section
namespace Go.Proofs.YthlncdcfppehcaaGreatDoor.val
open Go.ChangeShapes Go.WideShapes Go.Deep Go.RowKit mem pth
set_option linter.unusedVariables false
def wsp : List StepT → Nat
  | [] => 0
  | s :: r => 1 + s.1.size + wsp r
theorem wsp_append (l : List StepT) (x : StepT) : wsp (l ++ [x]) = wsp l + (1 + x.1.size) := by
  induction l with
  | nil => simp [wsp]
  | cons s r ih => simp only [List.cons_append, wsp, ih]; omega
theorem stepB_len (s : StepT) (h : okS s) : (stepB s).length ≤ 23 + 2 * s.1.size := by
  obtain ⟨n, i, it⟩ := s
  obtain ⟨h1, h2, h3⟩ := h
  have e1 := Lib.itoa_length_le i h2 h3
  have e2 := escs_len n.data.toList
  have e3 := Lib.size_eq n
  simp only [stepB]
  split
  · omega
  · rw [List.length_append]
    have : (if markB n.data.toList = true then ([126, 50] : List UInt8) else []).length ≤ 2 := by split <;> simp
    omega
theorem pthB_len (l : List StepT) (h : ∀ s ∈ l, okS s) : (pthB l).length ≤ 24 * wsp l := by
  induction l with
  | nil => simp [pthB]
  | cons s r ih =>
    have e1 := stepB_len s (h s (by simp))
    have e2 := ih fun s hs => h s (by simp [hs])
    have e3 : pthB (s :: r) = (47 :: stepB s) ++ pthB r := by simp [pthB]
    rw [e3, List.length_append, List.length_cons]
    simp only [wsp]
    omega
theorem cS : Tryz.prog.cellsOf 52 = 3 := by kernel_rfl
theorem cI : Tryz.prog.cellsOf 3 = 1 := by kernel_rfl
theorem cAsk : Tryz.prog.cellsOf 46 = 4 := by kernel_rfl
theorem cPs : Tryz.prog.cellsOf 44 = 1 := by kernel_rfl
theorem cMs' : Tryz.prog.cellsOf 27 = 1 := by kernel_rfl
theorem list3 {cs : List Value} {a b c : Value} (h : cs.length = 3) (h0 : cs[0]? = some a) (h1 : cs[1]? = some b) (h2 : cs[2]? = some c) : cs = [a, b, c] := by
  rcases cs with _ | ⟨x0, _ | ⟨x1, _ | ⟨x2, _ | ⟨x3, r⟩⟩⟩⟩ <;> simp_all
theorem list4 {cs : List Value} {a b c d : Value} (h : cs.length = 4) (h0 : cs[0]? = some a) (h1 : cs[1]? = some b) (h2 : cs[2]? = some c) (h3 : cs[3]? = some d) : cs = [a, b, c, d] := by
  rcases cs with _ | ⟨x0, _ | ⟨x1, _ | ⟨x2, _ | ⟨x3, _ | ⟨x4, r⟩⟩⟩⟩⟩ <;> simp_all
section
variable {H : Type} {enc : TypeId × Value → H} {w : World} {base : Nat} {sp : Nat → Bool} {held : Bool}
theorem steps_of {fuel : Nat} {cs : List Value} {x : DataW H × List MemPlace} (hM : Rows.uptoBulk x.1 ≤ 1048576) (h : DataW.trod enc Tryz.prog w base sp held fuel 44 cs = some x) :
    ∃ (A : Option Addr) (c : Nat) (l : List StepT), cs = [.slice A l.length c] ∧ IsP w (Low w) A l ∧ l.length ≤ 1048576 ∧ (pthB l).length ≤ 4398046511104 := by
  obtain ⟨A, c, l, q, _, hw, hll, hat⟩ := slice_of 3 (by omega) Tryz.underlying44 cS (fun (s : StepT) ds => ds = [.string s.1, .int .i64 s.2.1, .bool s.2.2] ∧ okS s) wsp (fun s => 1 + s.1.size) (by simp [wsp]) wsp_append h (fun n ds y hy ht => by
    obtain ⟨zs, m, hb', hl', hall'⟩ := fields Tryz.underlying52 ht
    rw [cS] at hl'
    obtain ⟨z0, b0, k0⟩ := hall' 0 _ rfl
    obtain ⟨z1, b1, k1⟩ := hall' 1 _ rfl
    obtain ⟨z2, b2, k2⟩ := hall' 2 _ rfl
    obtain ⟨u0, g0, r0⟩ := drop1 (i := 0) hl' (by omega)
    obtain ⟨u1, g1, r1⟩ := drop1 (i := 1) hl' (by omega)
    obtain ⟨u2, g2, r2⟩ := drop1 (i := 2) hl' (by omega)
    have k0 : DataW.trod enc Tryz.prog w base sp held m 9 [u0] = some z0 := by have hh := congrArg (fun q => (ds.drop 0).take q) cSt; rw [← r0]; rw [← hh]; exact k0
    have k1 : DataW.trod enc Tryz.prog w base sp held m 3 [u1] = some z1 := by have hh := congrArg (fun q => (ds.drop 1).take q) cI; rw [← r1]; rw [← hh]; exact k1
    have k2 : DataW.trod enc Tryz.prog w base sp held m 4 [u2] = some z2 := by have hh := congrArg (fun q => (ds.drop 2).take q) cBo; rw [← r2]; rw [← hh]; exact k2
    obtain ⟨s, q0, rfl, _⟩ := DataW.trod_string Tryz.underlying9 k0
    obtain ⟨i, q1, _, wi⟩ := DataW.trod_int Tryz.underlying3 k1
    obtain ⟨b, q2, _⟩ := DataW.trod_bool Tryz.underlying4 k2
    have hz := two_le (by omega : 0 < 1) b0 b1
    simp only [Rows.uptoBulk] at hz
    have e8 := Lib.size_eq s
    have wfi : -9223372036854775808 ≤ i ∧ i ≤ 9223372036854775807 := by
      have h := wi
      simp only [Lit.wf, Bool.and_eq_true, decide_eq_true_eq] at h
      rw [show IntKind.i64.min = -9223372036854775808 by decide, show IntKind.i64.max = 9223372036854775807 by decide] at h
      exact h
    obtain rfl : u0 = _ := by simpa using q0
    obtain rfl : u1 = _ := by simpa using q1
    obtain rfl : u2 = _ := by simpa using q2
    exact ⟨(s, i, b), ⟨list3 hl' g0 g1 g2, by simp only; omega, wfi.1, wfi.2⟩, by simp only; omega⟩)
  have hok : ∀ s ∈ l, okS s := fun s hs => by
    obtain ⟨j, hj⟩ := List.mem_iff_getElem?.1 hs
    obtain ⟨_, _, _, _, _, h5⟩ := hat j s hj
    exact h5.2
  have := pthB_len l hok
  refine ⟨A, c, l, q, fun j s hs => ?_, by omega, by omega⟩
  obtain ⟨ad, ds, h1, h2, h3, rfl, h5⟩ := hat j s hs
  exact ⟨h5, ad, h1, h2, h3⟩
theorem members_of {fuel : Nat} {cs : List Value} {x : DataW H × List MemPlace} (hM : Rows.uptoBulk x.1 ≤ 1048576) (h : DataW.trod enc Tryz.prog w base sp held fuel 27 cs = some x) :
    ∃ (A' : Option Addr) (c' : Nat) (fs : List (ByteArray × V)), cs = [.slice A' fs.length c'] ∧ (A' = none → fs.length = 0) ∧ IsFs w (Low w) fs A' 0 ∧ wtf fs + 1 ≤ Rows.uptoBulk x.1 ∧ okf fs := by
  obtain ⟨A', c', fs, q7, hA', hwA', _, hfsA⟩ := slice_of 9 (by omega) Tryz.underlying27 cM (fun (p : ByteArray × V) ds => (∃ es, ds = .string p.1 :: es ∧ IsV w (Low w) p.2 es) ∧ p.1.size ≤ 1048576 ∧ ok p.2) wtf (fun p => p.1.size + wt p.2) (by simp [wtf]) (fun l x => by rw [wtf_append]; simp [wtf]) h (fun n ds y hy ht => by
    obtain ⟨zs, m, hb', hl', hall'⟩ := fields Tryz.underlying43 ht
    rw [cM] at hl'
    obtain ⟨z0, c0, k0⟩ := hall' 0 _ rfl
    obtain ⟨z1, c1, k1⟩ := hall' 1 _ rfl
    obtain ⟨u0, g0, r0⟩ := drop1 (i := 0) hl' (by omega)
    have k0 : DataW.trod enc Tryz.prog w base sp held m 9 [u0] = some z0 := by have hh := congrArg (fun q => (ds.drop 0).take q) cSt; rw [← r0]; rw [← hh]; exact k0
    obtain ⟨s, q8, rfl, _⟩ := DataW.trod_string Tryz.underlying9 k0
    have hz := two_le (by omega : 0 < 1) c0 c1
    simp only [Rows.uptoBulk] at hz
    have e8 := Lib.size_eq s
    obtain ⟨v, ⟨hv, hvo⟩, hvs⟩ := value_of _ m _ z1 (Nat.le_refl _) (by omega) k1
    refine ⟨(s, v), ⟨⟨_, ?_, hv⟩, by simp only; omega, hvo⟩, by simp only; omega⟩
    obtain rfl : u0 = .string s := by simpa using q8
    show ds = .string s :: (ds.drop 1).take (Tryz.prog.cellsOf 29)
    have h9 : (ds.drop 1).take (Tryz.prog.cellsOf 29) = ds.drop 1 := (by rw [cV]; exact List.take_of_length_le (by simp; omega))
    rw [h9]
    have h10 := List.drop_eq_getElem_cons (l := ds) (i := 0) (by omega)
    simp only [List.drop_zero] at h10
    have h11 : ds[0]'(by omega) = .string s := by
      rw [List.getElem?_eq_getElem (by omega)] at g0
      injection g0
    rw [h11] at h10
    exact h10)
  have hof : okf fs := okf_of fun x hx => by
    obtain ⟨j, hj⟩ := List.mem_iff_getElem?.1 hx
    obtain ⟨ad, ds, a1, a2, a3, a4⟩ := hfsA j x hj
    exact a4.2
  refine ⟨A', c', fs, q7, hA', IsFs.of fun j p hp => ?_, hwA', hof⟩
  obtain ⟨ad, ds, a1, a2, a3, ⟨es, rfl, a4⟩, _⟩ := hfsA j p hp
  rw [Nat.zero_add]
  exact ⟨ad, es, a1, a2, a3, a4⟩
theorem ask_of {fuel : Nat} {cs : List Value} {x : DataW H × List MemPlace} (hM : Rows.uptoBulk x.1 ≤ 1048576) (h : DataW.trod enc Tryz.prog w base sp held fuel 46 cs = some x) :
    ∃ (l : List StepT) (a b : ByteArray) (fs : List (ByteArray × V)) (A A' : Option Addr) (c c' : Nat), cs = [.slice A l.length c, .string a, .string b, .slice A' fs.length c'] ∧ IsP w (Low w) A l ∧ l.length ≤ 1048576 ∧ (pthB l).length ≤ 4398046511104 ∧
      (A' = none → fs.length = 0) ∧ IsFs w (Low w) fs A' 0 ∧ wtf fs ≤ 1048574 ∧ okf fs := by
  obtain ⟨ys, n, hb, hl, hall⟩ := fields Tryz.underlying46 h
  rw [cAsk] at hl
  obtain ⟨v0, e0, t0⟩ := drop1 (i := 0) hl (by omega)
  obtain ⟨v1, e1, t1⟩ := drop1 (i := 1) hl (by omega)
  obtain ⟨v2, e2, t2⟩ := drop1 (i := 2) hl (by omega)
  obtain ⟨v3, e3, t3⟩ := drop1 (i := 3) hl (by omega)
  obtain ⟨y0, b0, h0⟩ := hall 0 _ rfl
  obtain ⟨y1, b1, h1⟩ := hall 1 _ rfl
  obtain ⟨y2, b2, h2⟩ := hall 2 _ rfl
  obtain ⟨y3, b3, h3⟩ := hall 3 _ rfl
  have h0 : DataW.trod enc Tryz.prog w base sp held n 44 [v0] = some y0 := by have hh := congrArg (fun q => (cs.drop 0).take q) cPs; rw [← t0]; rw [← hh]; exact h0
  have h1 : DataW.trod enc Tryz.prog w base sp held n 9 [v1] = some y1 := by have hh := congrArg (fun q => (cs.drop 1).take q) cSt; rw [← t1]; rw [← hh]; exact h1
  have h2 : DataW.trod enc Tryz.prog w base sp held n 9 [v2] = some y2 := by have hh := congrArg (fun q => (cs.drop 2).take q) cSt; rw [← t2]; rw [← hh]; exact h2
  have h3 : DataW.trod enc Tryz.prog w base sp held n 27 [v3] = some y3 := by have hh := congrArg (fun q => (cs.drop 3).take q) cMs'; rw [← t3]; rw [← hh]; exact h3
  have hz := two_le (by omega : 0 < 3) b0 b3
  obtain ⟨a, q1, _⟩ := DataW.trod_string Tryz.underlying9 h1
  obtain ⟨b, q2, _⟩ := DataW.trod_string Tryz.underlying9 h2
  obtain ⟨A, c, l, q0, hP, hll, hpl⟩ := steps_of (by omega) h0
  obtain ⟨A', c', fs, q3, hA', hF, hwf, hof⟩ := members_of (by omega) h3
  have := bulks.one_le y0.1
  obtain rfl : v0 = _ := by simpa using q0
  obtain rfl : v1 = _ := by simpa using q1
  obtain rfl : v2 = _ := by simpa using q2
  obtain rfl : v3 = _ := by simpa using q3
  exact ⟨l, a, b, fs, A, A', c, c', list4 hl e0 e1 e2 e3, hP, hll, hpl, hA', hF, by omega, hof⟩
end
end Go.Proofs.YthlncdcfppehcaaGreatDoor.val
end
section
namespace Go.Proofs.YthlncdcfppehcaaGreatDoor.upKeys
open Go.ChangeShapes Go.WideShapes Go.ChangeAt Go.RowKit Go.Lib
open Go.ChangeMaps (open_string shut_string)
set_option linter.unusedVariables false

theorem laidOut : laidOutB Tryz.prog = true := by kernel_rfl
section
variable {H : Type} {enc : TypeId × Value → H}
set_option maxRecDepth 100000 in
theorem contract (W : World) (base : Nat) (args : Array Value) (ds gs : List (DataW H)) (before : List MemPlace)
    (hval : ∀ (j : Nat) t v, Tryz.f6.params[j]? = some t → args[j]? = some v → Value.okWide Tryz.prog W .any base t v)
    (hW : DataW.Whole enc Tryz.prog Tryz.f6.params.toList Rows.tableKeysSpec.vars false W args.toList ds gs before) (hk : Rows.uptoSmall H (ds ++ gs) = true) (hL : laidMetH Tryz.prog upQ.laidQ W) :
    Calls Tryz.prog 6 args W fun e W' => ∃ v, e = .returned v ∧ Rows.tableKeysSpec.post enc Tryz.prog Tryz.f6 false true false false W args v W' := by
  have hW' := hW
  obtain ⟨p, q, hA0, hV, rfl, hfz, hnd⟩ := hW
  have hA : DataW.TrodAll enc Tryz.prog W 0 (fun _ => true) true Tryz.f6.params.toList args.toList ds p := hA0
  rw [Tryz.params6] at hA hval
  obtain ⟨v0, vs0, d0, ds0, p0, q0, hargs, rfl, rfl, h0, r0⟩ := trodAll_cons hA
  obtain ⟨rfl, rfl, rfl⟩ := trodAll_nil r0
  obtain rfl : args = #[v0] := by cases args; simp_all
  obtain ⟨rfl, rfl⟩ := trodVars_none hV
  have hbk := bulks.bound hk
  simp only [List.append_nil, Rows.uptoBulkAll] at hbk
  obtain ⟨cs1, rfl, _⟩ := okWide_struct Tryz.underlying46 (hval 0 46 v0 rfl rfl)
  have k0 := h0
  have lt0 : ∀ x ∈ p0, x.block < W.heap.size := by obtain ⟨m, hm⟩ := k0; exact DataW.trod_lt m _ _ _ hm
  obtain ⟨m0, hm0⟩ := h0
  obtain ⟨l, a, b, fs, A, A', c, c', hcs, hP, hll, hpl, hA', hF, hwf, hof⟩ := val.ask_of (by simp only; omega) hm0
  obtain rfl : cs1 = #[.slice A l.length c, .string a, .string b, .slice A' fs.length c'] := Array.toList_inj.1 hcs
  refine (pth.keys_any l a b fs A A' c c' W (val.Low W) (val.Low W) hll hpl hP (fun _ h => h) hA' hF (fun _ h => h) hwf hof (upQ.env hL)).mono fun e W' ⟨he, bel⟩ => ?_
  subst he
  exact ⟨_, rfl, _, _, _, [], _, [], hW', trodAll_mk1 (shut_bool Tryz.underlying4 _), trodAll_cons_mk (Below.trod laidOut (by kernel_rfl) (of_decide_eq_true (by kernel_rfl)) k0 bel lt0) trodAll_mk0, rfl, bel.frame _, fun h => by cases h⟩
end

set_option maxRecDepth 100000 in
theorem lifted (os : Os) (started : os.Started) (H : Type) (enc : TypeId × Value → H) (F : Stop.Interp) :
    ReturnsInHanded {} Tryz.checked os 6 .any ((Rows.OpenSpec.upto Rows.tableKeysSpec).preRow enc Tryz.prog Tryz.f6 Rows.tableKeysUptoRow.domain false Rows.tableKeysUptoRow.laid) (((Rows.OpenSpec.upto Rows.tableKeysSpec).at F).post enc Tryz.prog Tryz.f6 false true false false) := by
  refine returnsInHanded_of_row (C := Tryz.checked) (s := Rows.OpenSpec.upto Rows.tableKeysSpec) upQ.own started (by kernel_rfl) Tryz.func6
    (upQ.witness (enc := enc) os #[.agg #[.slice none 0 0, .string ⟨#[]⟩, .string ⟨#[]⟩, .slice none 0 0]] (by kernel_rfl)
      (OpenSpec.preRow_of_cond 8 (x := ([.agg [.nil, .lit (.string []), .lit (.string []), .nil]], [], [])) (by kernel_rfl) (by kernel_rfl) (fun k hk => by cases hk; kernel_rfl) (by kernel_rfl) (by rw [MakeChecks.laidMetH_plain _ _ _ (by kernel_rfl)]; exact upQ.laid_met os _))) ?_
  intro W base args ds gs before hval hW _ hcond _ hL _ _
  exact contract W base args ds gs before hval hW (hcond _ rfl) hL

theorem over : Rows.TableKeysUptoSaid :=
  OpenClaim.holds_of_cond 6 Tryz.f6 rfl rfl rfl rfl rfl rfl rfl ⟨rfl, rfl, rfl, rfl, rfl⟩ rfl rfl rfl rfl rfl (by kernel_rfl) Tryz.func6 (by kernel_rfl)
    (of_decide_eq_true (by kernel_rfl)) (by unfold Func.isWrapper; first | (rw [if_pos (by decide +kernel)]; kernel_rfl) | (rw [if_neg (by decide +kernel)]; exact ⟨rfl, rfl⟩))
    (fun os started H enc _ F => by rw [OpenClaim.pre_eq_preRow]; exact lifted os started H enc F)

theorem plain (f : FuncId) (fn : Func) (hf : Tryz.pinned.checked.prog.funcNamed "pergola/pergolalaw25.TableKeys" = some f) (hfn : Tryz.pinned.checked.prog.funcs[f]? = some fn) :
    true = Tryz.pinned.checked.prog.looks [] ∧ ∀ (j : Nat) t, fn.params[j]? = some t → Tryz.pinned.checked.prog.wantsStandIn t = false := by
  obtain rfl : f = 6 := Option.some.inj ((show Tryz.prog.funcNamed "pergola/pergolalaw25.TableKeys" = some 6 by kernel_rfl).symm.trans hf) |>.symm
  obtain rfl : fn = Tryz.f6 := (Option.some.inj (Tryz.func6.symm.trans hfn)).symm
  refine ⟨by kernel_rfl, fun j t ht => ?_⟩
  rw [Tryz.params6] at ht
  have hm : t ∈ [46] := by simpa using Array.mem_of_getElem? ht
  have hall : ([46].all fun u => !Tryz.prog.wantsStandIn u) = true := by kernel_rfl
  exact (show Tryz.prog.wantsStandIn t = false by simpa using List.all_eq_true.1 hall t hm)

/-- the statement: the second form's card -/
theorem proved : Rows.TableKeysUptoCardSaid :=
  Claim7.holds_tied_plain_at .later [] _ _ _ _ over (fun _ h => by cases h) (by kernel_rfl) (fun _ h => by cases h) tableKeysUpto_row_tie rfl ⟨rfl, rfl⟩ (by kernel_rfl) rfl plain (by kernel_rfl)
end Go.Proofs.YthlncdcfppehcaaGreatDoor.upKeys
end
