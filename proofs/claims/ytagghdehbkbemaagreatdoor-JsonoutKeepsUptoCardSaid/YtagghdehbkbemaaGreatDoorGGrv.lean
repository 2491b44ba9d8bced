/- A value whose lists have two more records behind them (JsonoutKeeps' grown). kept: a grown value beside the value it was made of: true, nothing written (no condition but that both are read). A list of records in a row, two spare records behind it: what is left of such a row once it is cut back. -/
import Derived.Test.YtagghdehbkbemaaGreatDoorGOwn
import Derived.Handy
import Derived.WalkSpells
import Derived.WalkLawsBesides
import Derived.Deep.DeepMust
import Derived.Deep.RegionHeld3
import Derived.Deep.DeepCutAuto
import Derived.Deep.RegionLaw
import Derived.Test.YtagghdehbkbemaaGreatDoorProg
section
namespace Go.Proofs.YtagghdehbkbemaaGreatDoor.val
open Go.RowKit mem
set_option linter.unusedVariables false

/-- what lies behind the items, behind the fields -/
def spI : List Value := [.int .i64 99, .bool false, .int .i64 0, .float .f64 0, .string ⟨#[115, 112, 97, 114, 101]⟩, .string ⟨#[]⟩, .slice none 0 0, .slice none 0 0, .int .i64 98, .bool false, .int .i64 7, .float .f64 0, .string ⟨#[]⟩, .string ⟨#[]⟩, .slice none 0 0, .slice none 0 0]
def spF : List Value := [.string ⟨#[115, 112, 97, 114, 101]⟩, .int .i64 0, .bool false, .int .i64 0, .float .f64 0, .string ⟨#[]⟩, .string ⟨#[]⟩, .slice none 0 0, .slice none 0 0, .string ⟨#[114, 111, 111, 109]⟩, .int .i64 0, .bool false, .int .i64 0, .float .f64 0, .string ⟨#[]⟩, .string ⟨#[]⟩, .slice none 0 0, .slice none 0 0]
mutual
def IsG (w : World) (S : Nat → Prop) : V → List Value → Prop
  | .mk k b i f t y is fs, cs => ∃ (g c g' c' : Nat),
      cs = [.int .i64 k, .bool b, .int .i64 i, .float .f64 f, .string t, .string y, .slice (some ⟨g, 0, none⟩) is.length c, .slice (some ⟨g', 0, none⟩) fs.length c'] ∧
      is.length + 2 ≤ c ∧ fs.length + 2 ≤ c' ∧ S g ∧ S g' ∧ CellsAt w ((⟨g, 0, none⟩ : Addr).add (is.length * 8)) spI ∧ CellsAt w ((⟨g', 0, none⟩ : Addr).add (fs.length * 9)) spF ∧ IsGs w S is g 0 ∧ IsGf w S fs g' 0
def IsGs (w : World) (S : Nat → Prop) : List V → Nat → Nat → Prop
  | [], _, _ => True
  | v :: r, g, j => (∃ cs : List Value, S g ∧ CellsAt w ((⟨g, 0, none⟩ : Addr).add (j * 8)) cs ∧ IsG w S v cs) ∧ IsGs w S r g (j + 1)
def IsGf (w : World) (S : Nat → Prop) : List (ByteArray × V) → Nat → Nat → Prop
  | [], _, _ => True
  | (s, v) :: r, g, j => (∃ cs : List Value, S g ∧ CellsAt w ((⟨g, 0, none⟩ : Addr).add (j * 9)) (.string s :: cs) ∧ IsG w S v cs) ∧ IsGf w S r g (j + 1)
end
mutual
theorem IsG.keep {w w' : World} {S S' : Nat → Prop} (hk : ∀ p : Addr, S p.block → w'.cell? p = w.cell? p) (hS : ∀ b, S b → S' b) : ∀ (v : V) (cs : List Value), IsG w S v cs → IsG w' S' v cs
  | .mk _ _ _ _ _ _ is fs, cs, h => by
    simp only [IsG] at h ⊢
    obtain ⟨g, c, g', c', h1, h2, h3, h4, h5, h6, h7, h8, h9⟩ := h
    exact ⟨g, c, g', c', h1, h2, h3, hS _ h4, hS _ h5, h6.keep (S := S) (by rw [add_block]; exact h4) hk, h7.keep (S := S) (by rw [add_block]; exact h5) hk, IsGs.keep hk hS is g 0 h8, IsGf.keep hk hS fs g' 0 h9⟩
theorem IsGs.keep {w w' : World} {S S' : Nat → Prop} (hk : ∀ p : Addr, S p.block → w'.cell? p = w.cell? p) (hS : ∀ b, S b → S' b) : ∀ (l : List V) (g j : Nat), IsGs w S l g j → IsGs w' S' l g j
  | [], _, _, _ => by simp only [IsGs]
  | v :: r, g, j, h => by
    simp only [IsGs] at h ⊢
    obtain ⟨⟨cs, h2, h3, h4⟩, h5⟩ := h
    exact ⟨⟨cs, hS _ h2, h3.keep (S := S) (by rw [add_block]; exact h2) hk, IsG.keep hk hS v cs h4⟩, IsGs.keep hk hS r g (j + 1) h5⟩
theorem IsGf.keep {w w' : World} {S S' : Nat → Prop} (hk : ∀ p : Addr, S p.block → w'.cell? p = w.cell? p) (hS : ∀ b, S b → S' b) : ∀ (l : List (ByteArray × V)) (g j : Nat), IsGf w S l g j → IsGf w' S' l g j
  | [], _, _, _ => by simp only [IsGf]
  | (s, v) :: r, g, j, h => by
    simp only [IsGf] at h ⊢
    obtain ⟨⟨cs, h2, h3, h4⟩, h5⟩ := h
    exact ⟨⟨cs, hS _ h2, h3.keep (S := S) (by rw [add_block]; exact h2) hk, IsG.keep hk hS v cs h4⟩, IsGf.keep hk hS r g (j + 1) h5⟩
end
mutual
/-- .. is a value like any other -/
theorem IsG.isV {w : World} {S : Nat → Prop} : ∀ (v : V) (cs : List Value), IsG w S v cs → IsV w S v cs
  | .mk _ _ _ _ _ _ is fs, cs, h => by
    simp only [IsG] at h
    obtain ⟨g, c, g', c', h1, _, _, _, _, _, _, h8, h9⟩ := h
    simp only [IsV]
    exact ⟨some ⟨g, 0, none⟩, c, some ⟨g', 0, none⟩, c', h1, fun h => by (cases h), fun h => by (cases h), IsGs.isVs is g 0 h8, IsGf.isFs fs g' 0 h9⟩
theorem IsGs.isVs {w : World} {S : Nat → Prop} : ∀ (l : List V) (g j : Nat), IsGs w S l g j → IsVs w S l (some ⟨g, 0, none⟩) j
  | [], _, _, _ => by simp only [IsVs]
  | v :: r, g, j, h => by
    simp only [IsGs] at h
    simp only [IsVs]
    obtain ⟨⟨cs, h2, h3, h4⟩, h5⟩ := h
    exact ⟨⟨_, cs, rfl, h2, h3, IsG.isV v cs h4⟩, IsGs.isVs r g (j + 1) h5⟩
theorem IsGf.isFs {w : World} {S : Nat → Prop} : ∀ (l : List (ByteArray × V)) (g j : Nat), IsGf w S l g j → IsFs w S l (some ⟨g, 0, none⟩) j
  | [], _, _, _ => by simp only [IsFs]
  | (s, v) :: r, g, j, h => by
    simp only [IsGf] at h
    simp only [IsFs]
    obtain ⟨⟨cs, h2, h3, h4⟩, h5⟩ := h
    exact ⟨⟨_, cs, rfl, h2, h3, IsG.isV v cs h4⟩, IsGf.isFs r g (j + 1) h5⟩
end
theorem IsGs.at_ {w : World} {S : Nat → Prop} {g : Nat} : ∀ {l : List V} {j : Nat}, IsGs w S l g j → ∀ {i : Nat} {v : V}, l[i]? = some v →
    ∃ cs : List Value, S g ∧ CellsAt w ((⟨g, 0, none⟩ : Addr).add ((j + i) * 8)) cs ∧ IsG w S v cs
  | [], _, _, _, _, hv => by simp at hv
  | x :: r, j, h, i, v, hv => by
    simp only [IsGs] at h
    cases i with
    | zero => simp at hv; subst hv; exact h.1
    | succ i =>
      have := IsGs.at_ h.2 (i := i) (v := v) (by simpa using hv)
      rw [show j + 1 + i = j + (i + 1) from by omega] at this
      exact this
theorem IsGf.at_ {w : World} {S : Nat → Prop} {g : Nat} : ∀ {l : List (ByteArray × V)} {j : Nat}, IsGf w S l g j → ∀ {i : Nat} {p : ByteArray × V}, l[i]? = some p →
    ∃ cs : List Value, S g ∧ CellsAt w ((⟨g, 0, none⟩ : Addr).add ((j + i) * 9)) (.string p.1 :: cs) ∧ IsG w S p.2 cs
  | [], _, _, _, _, hv => by simp at hv
  | (s, x) :: r, j, h, i, p, hv => by
    simp only [IsGf] at h
    cases i with
    | zero => simp at hv; subst hv; exact h.1
    | succ i =>
      have := IsGf.at_ h.2 (i := i) (p := p) (by simpa using hv)
      rw [show j + 1 + i = j + (i + 1) from by omega] at this
      exact this
theorem IsGs.of {w : World} {S : Nat → Prop} {g : Nat} : ∀ {l : List V} {j : Nat}, (∀ (i : Nat) (v : V), l[i]? = some v → ∃ cs : List Value, S g ∧ CellsAt w ((⟨g, 0, none⟩ : Addr).add ((j + i) * 8)) cs ∧ IsG w S v cs) → IsGs w S l g j
  | [], _, _ => by simp only [IsGs]
  | x :: r, j, h => by
    simp only [IsGs]
    refine ⟨h 0 x (by simp), IsGs.of fun i v hv => ?_⟩
    have := h (i + 1) v (by simpa using hv)
    rw [show j + (i + 1) = j + 1 + i from by omega] at this
    exact this
theorem IsGf.of {w : World} {S : Nat → Prop} {g : Nat} : ∀ {l : List (ByteArray × V)} {j : Nat}, (∀ (i : Nat) (p : ByteArray × V), l[i]? = some p → ∃ cs : List Value, S g ∧ CellsAt w ((⟨g, 0, none⟩ : Addr).add ((j + i) * 9)) (.string p.1 :: cs) ∧ IsG w S p.2 cs) → IsGf w S l g j
  | [], _, _ => by simp only [IsGf]
  | (s, x) :: r, j, h => by
    simp only [IsGf]
    refine ⟨h 0 (s, x) (by simp), IsGf.of fun i p hp => ?_⟩
    have := h (i + 1) p (by simpa using hp)
    rw [show j + (i + 1) = j + 1 + i from by omega] at this
    exact this
theorem recG : Rec 8 IsG := ⟨fun h => isV_len (IsG.isV _ _ h), fun h => isV_one (IsG.isV _ _ h), fun hk hS h => IsG.keep hk hS _ _ h⟩
/-- a member, its value grown -/
def IsH (w : World) (S : Nat → Prop) (p : ByteArray × V) (cs : List Value) : Prop := ∃ ds, cs = .string p.1 :: ds ∧ IsG w S p.2 ds
theorem recH : Rec 9 IsH := by
  refine ⟨fun h => ?_, fun h => ?_, fun hk hS h => ?_⟩
  · obtain ⟨ds, rfl, h⟩ := h
    simp [isV_len (IsG.isV _ _ h)]
  · obtain ⟨ds, rfl, h⟩ := h
    intro u hu
    rcases List.mem_cons.1 hu with rfl | hu
    · rfl
    · exact isV_one (IsG.isV _ _ h) u hu
  · obtain ⟨ds, rfl, h⟩ := h
    exact ⟨ds, rfl, IsG.keep hk hS _ _ h⟩
end Go.Proofs.YtagghdehbkbemaaGreatDoor.val
end
section
namespace Go.Proofs.YtagghdehbkbemaaGreatDoor.val
open Go.RowKit mem
theorem IsG.below {w w' : World} {S : Nat → Prop} {n : Nat} {v : V} {cs : List Value} (h : IsG w S v cs) (hB : Bel S n) (hb : Below n w w') : IsG w' S v cs := IsG.keep (fun _ hp => hb.cell (hB _ hp)) (fun _ h => h) _ _ h
theorem IsGs.below {w w' : World} {S : Nat → Prop} {n : Nat} {l : List V} {g j : Nat} (h : IsGs w S l g j) (hB : Bel S n) (hb : Below n w w') : IsGs w' S l g j := IsGs.keep (fun _ hp => hb.cell (hB _ hp)) (fun _ h => h) _ _ _ h
theorem IsGf.below {w w' : World} {S : Nat → Prop} {n : Nat} {l : List (ByteArray × V)} {g j : Nat} (h : IsGf w S l g j) (hB : Bel S n) (hb : Below n w w') : IsGf w' S l g j := IsGf.keep (fun _ hp => hb.cell (hB _ hp)) (fun _ h => h) _ _ _ h
end Go.Proofs.YtagghdehbkbemaaGreatDoor.val
namespace Go.Proofs.YtagghdehbkbemaaGreatDoor.look
open Go.RowKit mem val
attribute [local go_sem] run_store_float
set_option linter.unusedVariables false

def KpPost (w : World) (e : Ending) (w' : World) : Prop := e = .returned (.bool true) ∧ Below w.heap.size w w'
set_option maxRecDepth 100000 in
set_option maxHeartbeats 8000000 in
theorem kept_any : ∀ (N : Nat) (v : V), sz v ≤ N → N ≤ 1048576 → ∀ (cs ds : List Value) (w : World) (S S' : Nat → Prop), IsG w S v cs → IsV w S' v ds → Bel S w.heap.size → Bel S' w.heap.size →
    Calls Tryz.prog 10 #[.agg cs.toArray, .agg ds.toArray] w (KpPost w) := by
  intro N
  induction N with
  | zero => intro v hv; have := sz_pos v; omega
  | succ N ih =>
    intro v hv hN cs ds w S S' hG hV hB hB'
    obtain ⟨k, b, i, f, t, y, is, fs⟩ := v
    simp only [IsG] at hG
    simp only [IsV] at hV
    obtain ⟨g, c, g', c', rfl, hc, hc', hg, hg', hsI, hsF, his, hfs⟩ := hG
    obtain ⟨C, d, C', d', rfl, hC, hC', jis, jfs⟩ := hV
    simp only [sz] at hv
    have hl1 := szs_len is
    have hl2 := szf_len fs
    have hgl := hB g hg
    have hgl' := hB g' hg'
    have IH := Lib.hid ih
    have HB := Lib.hid hB
    have HB' := Lib.hid hB'
    have HI := Lib.hid his
    have HF := Lib.hid hfs
    have HJ := Lib.hid jis
    have HG := Lib.hid jfs
    have i0 := hsI 0 _ rfl
    have i4 := hsI 4 _ rfl
    have i8 := hsI 8 _ rfl
    have i10 := hsI 10 _ rfl
    have f0 := hsF 0 _ rfl
    have f9 := hsF 9 _ rfl
    clear ih hB hB' his hfs jis jfs hsI hsF hC hC'
    generalize hga : (⟨g, 0, none⟩ : Addr) = ga at *
    generalize hgb : (⟨g', 0, none⟩ : Addr) = gb' at *
    go_enter Tryz.func10, Tryz.ntmps10
    go_upto_region 1 with (fail)
    have g1 : ((w.alloc (.cells #[.int .i64 k, .bool b, .int .i64 i, .float .f64 f, .string t, .string y, .slice (some ga) is.length c, .slice (some gb') fs.length c'] 27)).alloc (.cells #[.int .i64 k, .bool b, .int .i64 i, .float .f64 f, .string t, .string y, .slice C is.length d, .slice C' fs.length d'] 27)).heap[w.heap.size]? = some (.cells #[.int .i64 k, .bool b, .int .i64 i, .float .f64 f, .string t, .string y, .slice (some ga) is.length c, .slice (some gb') fs.length c'] 27) := blk_alloc (heap_alloc_new _ _) _
    have g2 : ((w.alloc (.cells #[.int .i64 k, .bool b, .int .i64 i, .float .f64 f, .string t, .string y, .slice (some ga) is.length c, .slice (some gb') fs.length c'] 27)).alloc (.cells #[.int .i64 k, .bool b, .int .i64 i, .float .f64 f, .string t, .string y, .slice C is.length d, .slice C' fs.length d'] 27)).heap[w.heap.size + 1]? = some (.cells #[.int .i64 k, .bool b, .int .i64 i, .float .f64 f, .string t, .string y, .slice C is.length d, .slice C' fs.length d'] 27) := by
      have := heap_alloc_new (w.alloc (.cells #[.int .i64 k, .bool b, .int .i64 i, .float .f64 f, .string t, .string y, .slice (some ga) is.length c, .slice (some gb') fs.length c'] 27)) (.cells #[.int .i64 k, .bool b, .int .i64 i, .float .f64 f, .string t, .string y, .slice C is.length d, .slice C' fs.length d'] 27)
      simpa using this
    have gb : Below w.heap.size w ((w.alloc (.cells #[.int .i64 k, .bool b, .int .i64 i, .float .f64 f, .string t, .string y, .slice (some ga) is.length c, .slice (some gb') fs.length c'] 27)).alloc (.cells #[.int .i64 k, .bool b, .int .i64 i, .float .f64 f, .string t, .string y, .slice C is.length d, .slice C' fs.length d'] 27)) := ((Below.refl _ _).alloc (Nat.le_refl _) _).alloc (by simp) _
    have gs : ((w.alloc (.cells #[.int .i64 k, .bool b, .int .i64 i, .float .f64 f, .string t, .string y, .slice (some ga) is.length c, .slice (some gb') fs.length c'] 27)).alloc (.cells #[.int .i64 k, .bool b, .int .i64 i, .float .f64 f, .string t, .string y, .slice C is.length d, .slice C' fs.length d'] 27)).heap.size = w.heap.size + 2 := by simp
    generalize ((w.alloc (.cells #[.int .i64 k, .bool b, .int .i64 i, .float .f64 f, .string t, .string y, .slice (some ga) is.length c, .slice (some gb') fs.length c'] 27)).alloc (.cells #[.int .i64 k, .bool b, .int .i64 i, .float .f64 f, .string t, .string y, .slice C is.length d, .slice C' fs.length d'] 27)) = w0 at *
    have kk : ∀ (q : Nat) (u : Value), w.cell? ((ga.add (is.length * 8)).add q) = some u → w0.cell? ⟨g, is.length * 8 + q, none⟩ = some u := fun q u h => by
      rw [add_add, ← hga, add_zero_off] at h
      rw [gb.cell (by exact hgl)]
      exact h
    have kk' : ∀ (q : Nat) (u : Value), w.cell? ((gb'.add (fs.length * 9)).add q) = some u → w0.cell? ⟨g', fs.length * 9 + q, none⟩ = some u := fun q u h => by
      rw [add_add, ← hgb, add_zero_off] at h
      rw [gb.cell (by exact hgl')]
      exact h
    have i0 : w0.cell? (ga.add (is.length * 8)) = some (.int .i64 99) := by rw [← hga, add_zero_off]; exact kk 0 _ i0
    have i4 : w0.cell? ⟨(ga.add (is.length * 8)).block, (ga.add (is.length * 8)).off + 4, none⟩ = some (.string ⟨#[115, 112, 97, 114, 101]⟩) := by rw [← hga, add_zero_off]; exact kk 4 _ i4
    have i8 : w0.cell? (ga.add ((is.length + 1) * 8)) = some (.int .i64 98) := by rw [← hga, add_zero_off, show (is.length + 1) * 8 = is.length * 8 + 8 from by omega]; exact kk 8 _ i8
    have i10 : w0.cell? ⟨(ga.add ((is.length + 1) * 8)).block, (ga.add ((is.length + 1) * 8)).off + 2, none⟩ = some (.int .i64 7) := by rw [← hga, add_zero_off, show (is.length + 1) * 8 = is.length * 8 + 8 from by omega]; exact kk 10 _ i10
    have f0 : w0.cell? (gb'.add (fs.length * 9)) = some (.string ⟨#[115, 112, 97, 114, 101]⟩) := by rw [← hgb, add_zero_off]; exact kk' 0 _ f0
    have f9 : w0.cell? (gb'.add ((fs.length + 1) * 9)) = some (.string ⟨#[114, 111, 111, 109]⟩) := by rw [← hgb, add_zero_off, show (fs.length + 1) * 9 = fs.length * 9 + 9 from by omega]; exact kk' 9 _ f9
    have G1 := Lib.hid g1
    have G2 := Lib.hid g2
    have gs' : w.heap.size + 2 ≤ w0.heap.size := by omega
    have a6 := (blk8 g1).2.2.2.2.2.2.1
    have a7 := (blk8 g1).2.2.2.2.2.2.2
    have b6 := (blk8 g2).2.2.2.2.2.2.1
    have b7 := (blk8 g2).2.2.2.2.2.2.2
    clear g1 g2 gs kk kk'
    go_wp2_with fail
    clear i0 i4 i8 i10 f0 f9 a6 a7 b6 b7 hc hc' hg hg' hgl hgl'
    go_loopw [7] (fun vi W => ∃ q : Nat, q ≤ is.length ∧ vi = .int .i64 (q : Int) ∧ Below (w.heap.size + 2) w0 W) (fun i _ => is.length - (intOf i).toNat)
    case atStart => exact ⟨0, Nat.zero_le _, rfl, Below.refl _ _⟩
    case round =>
      obtain ⟨q, hq, rfl, hb⟩ := hrel
      have hbw : Below w.heap.size w wr := gb.trans (hb.mono (by omega))
      have hszr := hb.size
      have R1 := Lib.hid (blk_below G1.out hb (by omega))
      have R2 := Lib.hid (blk_below G2.out hb (by omega))
      by_cases hlt : q < is.length
      · have hx : is[q]? = some is[q] := List.getElem?_eq_getElem hlt
        obtain ⟨cs, hadB, hcs, hvx⟩ := (HI.out.below HB.out hbw).at_ hx
        rw [hga] at hcs
        obtain ⟨ae, ds, rfl, haeB, hds, hvy⟩ := (HJ.out.below HB'.out hbw).at_ hx
        have hszx := szs_get hx
        generalize is[q] = x at *
        have hvx2 := Lib.hid hvx
        have hvy2 := Lib.hid hvy
        obtain ⟨k2, b2, i2, f2, t2, y2, is2, fs2⟩ := x
        simp only [IsG] at hvx
        simp only [IsV] at hvy
        obtain ⟨A2, c2, A2', c2', rfl, _⟩ := hvx
        obtain ⟨C2, e2, C2', e2', rfl, _⟩ := hvy
        obtain ⟨d0, d1, d2, d3, d4, d5, d6, d7⟩ := hcs.eight
        obtain ⟨n0, n1, n2, n3, n4, n5, n6, n7⟩ := hds.eight
        rw [Nat.zero_add] at d0 d1 d2 d3 d4 d5 d6 d7 n0 n1 n2 n3 n4 n5 n6 n7
        have HC := Lib.hid (fun (W : World) (hW : Below w.heap.size wr W) (hWB : w.heap.size ≤ W.heap.size) => IH.out _ (by omega) (by omega) _ _ W S S' (IsG.below hvx2.out HB.out hW) (hvy2.out.below HB'.out hW) (HB.out.mono hWB) (HB'.out.mono hWB))
        clear hcs hds hx hvx2 hvy2 IH
        have a6 := (blk8 R1.out).2.2.2.2.2.2.1
        have b6 := (blk8 R2.out).2.2.2.2.2.2.1
        have hlq : (q : Int) < (is.length : Int) := by omega
        have h0q : (0 : Int) ≤ (q : Int) := by omega
        have hrefl : Below w.heap.size wr wr.drew := (Below.refl _ _).drew
        go_wp2_with fail
        go_region_held3 (fun w' => w'.cell? ⟨w.heap.size, 6, none⟩ = some (.slice (some ga) is.length c) ∧ w'.cell? ⟨w.heap.size + 1, 6, none⟩ = some (.slice (some ae) is.length d) ∧
            w'.cell? (ga.add (q * 8)) = some (.int .i64 k2) ∧ w'.cell? ⟨(ga.add (q * 8)).block, (ga.add (q * 8)).off + 1, none⟩ = some (.bool b2) ∧ w'.cell? ⟨(ga.add (q * 8)).block, (ga.add (q * 8)).off + 2, none⟩ = some (.int .i64 i2) ∧ w'.cell? ⟨(ga.add (q * 8)).block, (ga.add (q * 8)).off + 3, none⟩ = some (.float .f64 f2) ∧ w'.cell? ⟨(ga.add (q * 8)).block, (ga.add (q * 8)).off + 4, none⟩ = some (.string t2) ∧ w'.cell? ⟨(ga.add (q * 8)).block, (ga.add (q * 8)).off + 5, none⟩ = some (.string y2) ∧ w'.cell? ⟨(ga.add (q * 8)).block, (ga.add (q * 8)).off + 6, none⟩ = some (.slice (some ⟨A2, 0, none⟩) is2.length c2) ∧ w'.cell? ⟨(ga.add (q * 8)).block, (ga.add (q * 8)).off + 7, none⟩ = some (.slice (some ⟨A2', 0, none⟩) fs2.length c2') ∧
            w'.cell? (ae.add (q * 8)) = some (.int .i64 k2) ∧ w'.cell? ⟨(ae.add (q * 8)).block, (ae.add (q * 8)).off + 1, none⟩ = some (.bool b2) ∧ w'.cell? ⟨(ae.add (q * 8)).block, (ae.add (q * 8)).off + 2, none⟩ = some (.int .i64 i2) ∧ w'.cell? ⟨(ae.add (q * 8)).block, (ae.add (q * 8)).off + 3, none⟩ = some (.float .f64 f2) ∧ w'.cell? ⟨(ae.add (q * 8)).block, (ae.add (q * 8)).off + 4, none⟩ = some (.string t2) ∧ w'.cell? ⟨(ae.add (q * 8)).block, (ae.add (q * 8)).off + 5, none⟩ = some (.string y2) ∧ w'.cell? ⟨(ae.add (q * 8)).block, (ae.add (q * 8)).off + 6, none⟩ = some (.slice C2 is2.length e2) ∧ w'.cell? ⟨(ae.add (q * 8)).block, (ae.add (q * 8)).off + 7, none⟩ = some (.slice C2' fs2.length e2'))
          (first | exact ⟨a6, b6, d0, d1, d2, d3, d4, d5, d6, d7, n0, n1, n2, n3, n4, n5, n6, n7⟩ | (have kk := fun (a : Addr) (u : Value) (hh : wr.cell? a = some u) => (hb3.cell (p := a) (World.block_lt_of_cell? wr a hh)).trans hh; exact ⟨kk _ _ a6, kk _ _ b6, kk _ _ d0, kk _ _ d1, kk _ _ d2, kk _ _ d3, kk _ _ d4, kk _ _ d5, kk _ _ d6, kk _ _ d7, kk _ _ n0, kk _ _ n1, kk _ _ n2, kk _ _ n3, kk _ _ n4, kk _ _ n5, kk _ _ n6, kk _ _ n7⟩))
          (first | (go_at_call 10; go_must (refine (HC.out _ hrefl (by simp; omega)).mono ?_; rintro e wc ⟨rfl, hb3⟩)))
        clear d0 d1 d2 d3 d4 d5 d6 d7 n0 n1 n2 n3 n4 n5 n6 n7 HC
        go_wp2_with fail
        exact ⟨⟨q + 1, by omega, by go_num, hb.drew.trans (hb3.mono (by simp; omega))⟩, by simp [intOf]; omega⟩
      · obtain rfl : q = is.length := by omega
        have a6 := (blk8 R1.out).2.2.2.2.2.2.1
        have b6 := (blk8 R2.out).2.2.2.2.2.2.1
        clear HI HJ
        go_wp2_with fail
        clear a6 b6 R1 R2 hbw hszr
        go_loopw [8] (fun vi W => ∃ q : Nat, q ≤ fs.length ∧ vi = .int .i64 (q : Int) ∧ Below (w.heap.size + 2) w0 W) (fun i _ => fs.length - (intOf i).toNat)
        case atStart => exact ⟨0, Nat.zero_le _, rfl, hb⟩
        case round =>
          clear hb
          obtain ⟨q, hq, rfl, hb⟩ := hrel
          have hbw : Below w.heap.size w wr := gb.trans (hb.mono (by omega))
          have hszr := hb.size
          have R1 := Lib.hid (blk_below G1.out hb (by omega))
          have R2 := Lib.hid (blk_below G2.out hb (by omega))
          by_cases hlt : q < fs.length
          · have hx : fs[q]? = some fs[q] := List.getElem?_eq_getElem hlt
            obtain ⟨cs, hadB, hcs, hvx⟩ := (HF.out.below HB.out hbw).at_ hx
            rw [hgb] at hcs
            obtain ⟨ae, ds, rfl, haeB, hds, hvy⟩ := (HG.out.below HB'.out hbw).at_ hx
            have hszx := szf_get hx
            generalize fs[q] = x at *
            have hvx2 := Lib.hid hvx
            have hvy2 := Lib.hid hvy
            obtain ⟨s2, k2, b2, i2, f2, t2, y2, is2, fs2⟩ := x
            simp only [IsG] at hvx
            simp only [IsV] at hvy
            obtain ⟨A2, c2, A2', c2', rfl, _⟩ := hvx
            obtain ⟨C2, e2, C2', e2', rfl, _⟩ := hvy
            obtain ⟨d0, d1, d2, d3, d4, d5, d6, d7, d8⟩ := hcs.nine
            obtain ⟨n0, n1, n2, n3, n4, n5, n6, n7, n8⟩ := hds.nine
            rw [Nat.zero_add] at d0 d1 d2 d3 d4 d5 d6 d7 d8 n0 n1 n2 n3 n4 n5 n6 n7 n8
            have HC := Lib.hid (fun (W : World) (hW : Below w.heap.size wr W) (hWB : w.heap.size ≤ W.heap.size) => IH.out _ (by omega) (by omega) _ _ W S S' (IsG.below hvx2.out HB.out hW) (hvy2.out.below HB'.out hW) (HB.out.mono hWB) (HB'.out.mono hWB))
            clear hcs hds hx hvx2 hvy2 IH
            have a7 := (blk8 R1.out).2.2.2.2.2.2.2
            have b7 := (blk8 R2.out).2.2.2.2.2.2.2
            have hlq : (q : Int) < (fs.length : Int) := by omega
            have h0q : (0 : Int) ≤ (q : Int) := by omega
            have hrefl : Below w.heap.size wr wr.drew := (Below.refl _ _).drew
            go_wp2_with fail
            go_region_held3 (fun w' => w'.cell? ⟨w.heap.size, 7, none⟩ = some (.slice (some gb') fs.length c') ∧ w'.cell? ⟨w.heap.size + 1, 7, none⟩ = some (.slice (some ae) fs.length d') ∧
                w'.cell? (gb'.add (q * 9)) = some (.string s2) ∧ w'.cell? ⟨(gb'.add (q * 9)).block, (gb'.add (q * 9)).off + 1, none⟩ = some (.int .i64 k2) ∧ w'.cell? ⟨(gb'.add (q * 9)).block, (gb'.add (q * 9)).off + 1 + 1, none⟩ = some (.bool b2) ∧ w'.cell? ⟨(gb'.add (q * 9)).block, (gb'.add (q * 9)).off + 1 + 2, none⟩ = some (.int .i64 i2) ∧ w'.cell? ⟨(gb'.add (q * 9)).block, (gb'.add (q * 9)).off + 1 + 3, none⟩ = some (.float .f64 f2) ∧ w'.cell? ⟨(gb'.add (q * 9)).block, (gb'.add (q * 9)).off + 1 + 4, none⟩ = some (.string t2) ∧ w'.cell? ⟨(gb'.add (q * 9)).block, (gb'.add (q * 9)).off + 1 + 5, none⟩ = some (.string y2) ∧ w'.cell? ⟨(gb'.add (q * 9)).block, (gb'.add (q * 9)).off + 1 + 6, none⟩ = some (.slice (some ⟨A2, 0, none⟩) is2.length c2) ∧ w'.cell? ⟨(gb'.add (q * 9)).block, (gb'.add (q * 9)).off + 1 + 7, none⟩ = some (.slice (some ⟨A2', 0, none⟩) fs2.length c2') ∧
                w'.cell? (ae.add (q * 9)) = some (.string s2) ∧ w'.cell? ⟨(ae.add (q * 9)).block, (ae.add (q * 9)).off + 1, none⟩ = some (.int .i64 k2) ∧ w'.cell? ⟨(ae.add (q * 9)).block, (ae.add (q * 9)).off + 1 + 1, none⟩ = some (.bool b2) ∧ w'.cell? ⟨(ae.add (q * 9)).block, (ae.add (q * 9)).off + 1 + 2, none⟩ = some (.int .i64 i2) ∧ w'.cell? ⟨(ae.add (q * 9)).block, (ae.add (q * 9)).off + 1 + 3, none⟩ = some (.float .f64 f2) ∧ w'.cell? ⟨(ae.add (q * 9)).block, (ae.add (q * 9)).off + 1 + 4, none⟩ = some (.string t2) ∧ w'.cell? ⟨(ae.add (q * 9)).block, (ae.add (q * 9)).off + 1 + 5, none⟩ = some (.string y2) ∧ w'.cell? ⟨(ae.add (q * 9)).block, (ae.add (q * 9)).off + 1 + 6, none⟩ = some (.slice C2 is2.length e2) ∧ w'.cell? ⟨(ae.add (q * 9)).block, (ae.add (q * 9)).off + 1 + 7, none⟩ = some (.slice C2' fs2.length e2'))
              (first | exact ⟨a7, b7, d0, d1, d2, d3, d4, d5, d6, d7, d8, n0, n1, n2, n3, n4, n5, n6, n7, n8⟩ | (have kk := fun (a : Addr) (u : Value) (hh : wr.cell? a = some u) => (hb3.cell (p := a) (World.block_lt_of_cell? wr a hh)).trans hh; exact ⟨kk _ _ a7, kk _ _ b7, kk _ _ d0, kk _ _ d1, kk _ _ d2, kk _ _ d3, kk _ _ d4, kk _ _ d5, kk _ _ d6, kk _ _ d7, kk _ _ d8, kk _ _ n0, kk _ _ n1, kk _ _ n2, kk _ _ n3, kk _ _ n4, kk _ _ n5, kk _ _ n6, kk _ _ n7, kk _ _ n8⟩))
              (first | (go_at_call 10; go_must (refine (HC.out _ hrefl (by simp; omega)).mono ?_; rintro e wc ⟨rfl, hb3⟩)))
            clear d0 d1 d2 d3 d4 d5 d6 d7 d8 n0 n1 n2 n3 n4 n5 n6 n7 n8 HC
            go_wp2_with fail
            exact ⟨⟨q + 1, by omega, by go_num, hb.drew.trans (hb3.mono (by simp; omega))⟩, by simp [intOf]; omega⟩
          · obtain rfl : q = fs.length := by omega
            have a7 := (blk8 R1.out).2.2.2.2.2.2.2
            have b7 := (blk8 R2.out).2.2.2.2.2.2.2
            go_wp2_with fail
            go_ret
            exact ⟨rfl, hbw⟩
end Go.Proofs.YtagghdehbkbemaaGreatDoor.look
end
section
namespace Go.Proofs.YtagghdehbkbemaaGreatDoor.val
open Go.RowKit mem
set_option linter.unusedVariables false

/-- the list l at block g, its elements' own memory in [base, hi) beside g; sp lies behind it -/
def Lst {α : Type} (e : TypeId) (size : Nat) (R : World → (Nat → Prop) → α → List Value → Prop) (w : World) (base hi : Nat) (l : List α) (sp : List Value) (g c : Nat) : Prop :=
  base ≤ g ∧ g < hi ∧ l.length + 2 ≤ c ∧ c ≤ maxLen ∧ (∃ cur, w.heap[g]? = some (.cells cur e (0, 0))) ∧ CellsAt w ((⟨g, 0, none⟩ : Addr).add (l.length * size)) sp ∧
    ∀ (j : Nat) (x : α), l[j]? = some x → ∃ cs, CellsAt w ((⟨g, 0, none⟩ : Addr).add (j * size)) cs ∧ R w (fun b => base ≤ b ∧ b < hi ∧ b ≠ g) x cs
theorem flat_get2 {size : Nat} : ∀ {css : List (List Value)}, (∀ cs ∈ css, cs.length = size) → css.flatten.length = css.length * size := by
  intro css h
  induction css with
  | nil => simp
  | cons a r ih =>
    rw [List.flatten_cons, List.length_append, ih (fun cs hc => h cs (by simp [hc])), h a (by simp), List.length_cons, Nat.succ_mul, Nat.add_comm]
theorem half {α : Type} {size : Nat} {R : World → (Nat → Prop) → α → List Value → Prop} (hR : Rec size R) {w : World} {base : Nat} {e : TypeId} {v : Value} {l : List α} {css : List (List Value)} {sp : List Value}
    (hown : w.ownsRow base e size v (l.length + 2) (css.flatten ++ sp)) (h : Elems R w (Kids w base v) l css) :
    ∃ g c, v = .slice (some ⟨g, 0, none⟩) (l.length + 2) c ∧ Lst e size R w base w.heap.size l sp g c := by
  obtain ⟨g, c, cur, rfl, hbg, hlt, hc1, hc2, hcur, _, _⟩ := own_block hown (by omega)
  refine ⟨g, c, rfl, hbg, hlt, hc1, hc2, ⟨cur, hcur⟩, fun o u hu => ?_, fun j x hx => ?_⟩
  · rw [add_add]
    have hl : css.flatten.length = l.length * size := by rw [flat_get2 (elems_len hR h), h.1]
    refine hown.cells (g := g) rfl _ u ?_
    rw [List.getElem?_append_right (by omega), show l.length * size + o - css.flatten.length = o from by omega]
    exact hu
  · have hj : j < l.length := (List.getElem?_eq_some_iff.1 hx).1
    have hcs : css[j]? = some (css[j]'(by rw [h.1]; exact hj)) := List.getElem?_eq_getElem _
    refine ⟨_, fun o u hu => ?_, hR.keep (fun _ _ => rfl) (fun b hb => ?_) (h.2 j x _ hx hcs)⟩
    · rw [add_add]
      have hf := flat_get (elems_len hR h) hcs hu
      refine hown.cells (g := g) rfl _ u ?_
      rw [List.getElem?_append_left (List.getElem?_eq_some_iff.1 hf).1]
      exact hf
    · exact ⟨hb.1, hb.2.1, fun e => hb.2.2 (by rw [e]; rfl)⟩
theorem spI_one : ∀ u ∈ spI, u.oneCell' = true := by decide
theorem spF_one : ∀ u ∈ spF, u.oneCell' = true := by decide
theorem Elems.app0 {α : Type} {size : Nat} {R : World → (Nat → Prop) → α → List Value → Prop} (hR : Rec size R) {w w2 : World} {o : Obj} {base : Nat} {v v' : Value} {l : List α} {css : List (List Value)} (h : Elems R w (Kids w base v) l css)
    (hg : (w.alloc o).grownBy w2 v.ownBlock) (hat : v'.ownBlock = v.ownBlock ∨ v'.ownBlock = some (w.alloc o).heap.size) : Elems R w2 (Kids w2 base v') l css := by
  refine h.keep hR (fun p hp => ?_) (fun b hp => ?_)
  · rw [World.cell?_of_block (hg.block p.block (by have := hp.2.1; simp; omega) (fun e => hp.2.2 e.symm))]
    exact World.cell?_of_block (Below.heap_alloc w o p.block hp.2.1)
  · refine ⟨hp.1, ?_, ?_⟩
    · have h1 := hg.size
      have h2 := hp.2.1
      simp at h1
      omega
    · rcases hat with e | e
      · rw [e]
        exact hp.2.2
      · rw [e]
        have h2 := hp.2.1
        simp
        omega
def gcs : V → Nat → Nat → Nat → Nat → List Value
  | .mk k b i f t y is fs, g, c, g', c' => [.int .i64 k, .bool b, .int .i64 i, .float .f64 f, .string t, .string y, .slice (some ⟨g, 0, none⟩) is.length c, .slice (some ⟨g', 0, none⟩) fs.length c']
theorem Lst.keep {α : Type} {size : Nat} {e : TypeId} {R : World → (Nat → Prop) → α → List Value → Prop} (hR : Rec size R) {w w' : World} {base hi : Nat} {l : List α} {sp : List Value} {g c : Nat}
    (h : Lst e size R w base hi l sp g c) (hm : ∀ b, base ≤ b → b < hi → w'.heap[b]? = w.heap[b]?) : Lst e size R w' base hi l sp g c := by
  obtain ⟨h1, h2, h3, h4, ⟨cur, h5⟩, h6, h7⟩ := h
  have hk : ∀ p : Addr, (base ≤ p.block ∧ p.block < hi) → w'.cell? p = w.cell? p := fun p hp => World.cell?_of_block (hm _ hp.1 hp.2)
  refine ⟨h1, h2, h3, h4, ⟨cur, (hm g h1 h2).trans h5⟩, h6.keep (S := fun b => base ≤ b ∧ b < hi) (by rw [add_block]; exact ⟨h1, h2⟩) hk, fun j x hx => ?_⟩
  obtain ⟨cs, h8, h9⟩ := h7 j x hx
  exact ⟨cs, h8.keep (S := fun b => base ≤ b ∧ b < hi) (by rw [add_block]; exact ⟨h1, h2⟩) hk, hR.keep (fun p hp => hk p ⟨hp.1, hp.2.1⟩) (fun _ h => h) h9⟩
/-- a value made of two such lists -/
def Grn (w : World) (n : Nat) (x : V) (g c g' c' : Nat) : Prop :=
  ∃ lo m hi, n ≤ lo ∧ lo ≤ m ∧ m ≤ hi ∧ hi ≤ w.heap.size ∧ Lst 27 8 IsG w lo m (match x with | .mk _ _ _ _ _ _ is _ => is) spI g c ∧ Lst 41 9 IsH w m hi (match x with | .mk _ _ _ _ _ _ _ fs => fs) spF g' c'
theorem grn_end {w wr wz : World} {k : Int} {b : Bool} {i : Int} {f : Nat} {t y : ByteArray} {is : List V} {fs : List (ByteArray × V)} {m hi gI cI gF cF : Nat} (hG : wr.grownBy wz (some (w.heap.size + 1))) (h1 : w.heap.size + 3 ≤ m) (h2 : m ≤ hi) (h3 : hi ≤ wr.heap.size)
    (HI : Lst 27 8 IsG wr (w.heap.size + 3) m is spI gI cI) (HF : Lst 41 9 IsH wr m hi fs spF gF cF) (hb : Below w.heap.size w wr) :
    Grn wz w.heap.size (.mk k b i f t y is fs) gI cI gF cF ∧ Below w.heap.size w wz := by
  have hs := hG.size
  refine ⟨⟨w.heap.size + 3, m, hi, by omega, h1, h2, by omega, HI.keep recG (fun b h4 h5 => hG.block b (by omega) (by intro e; injection e; omega)), HF.keep recH (fun b h4 h5 => hG.block b (by omega) (by intro e; injection e; omega))⟩, hb.grown hG (by omega) (fun q e => by injection e; omega)⟩
theorem Grn.isG {w : World} {n : Nat} {k : Int} {b : Bool} {i : Int} {f : Nat} {t y : ByteArray} {is : List V} {fs : List (ByteArray × V)} {g c g' c' : Nat} (h : Grn w n (.mk k b i f t y is fs) g c g' c') :
    IsG w (New n w) (.mk k b i f t y is fs) [.int .i64 k, .bool b, .int .i64 i, .float .f64 f, .string t, .string y, .slice (some ⟨g, 0, none⟩) is.length c, .slice (some ⟨g', 0, none⟩) fs.length c'] := by
  obtain ⟨lo, m, hi, h1, h2, h3, h4, ⟨a1, a2, a3, a4, a5, a6, a7⟩, ⟨b1, b2, b3, b4, b5, b6, b7⟩⟩ := h
  have s1 : New n w g := ⟨by omega, by omega⟩
  have s2 : New n w g' := ⟨by omega, by omega⟩
  simp only [IsG]
  refine ⟨g, c, g', c', rfl, a3, b3, s1, s2, a6, b6, IsGs.of fun j x hx => ?_, IsGf.of fun j x hx => ?_⟩
  · obtain ⟨cs, c1, c2⟩ := a7 j x hx
    rw [Nat.zero_add]
    exact ⟨cs, s1, c1, IsG.keep (fun _ _ => rfl) (fun b hb => ⟨by omega, by omega⟩) _ _ c2⟩
  · obtain ⟨cs, c1, ds, rfl, c2⟩ := b7 j x hx
    rw [Nat.zero_add]
    exact ⟨ds, s2, c1, IsG.keep (fun _ _ => rfl) (fun b hb => ⟨by omega, by omega⟩) _ _ c2⟩
end Go.Proofs.YtagghdehbkbemaaGreatDoor.val
end
