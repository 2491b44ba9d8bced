/- appendValue of null, an empty list, and an object of such members. -/
import Derived.Test.YtjbfhkcbgafeaaaDoorLook2
import Derived.Lib.AppendStr
namespace Go.Proofs.YtjbfhkcbgafeaaaDoor.look
open Go.RowKit mem txt app smap
attribute [local go_sem] run_store_float
set_option linter.unusedVariables false

theorem kept_box {a w : World} (h : Lib.OthersKept 5 none a w) {k : Nat} {cs : Array Value} {t : TypeId} (hk : a.heap[k]? = some (.cells cs t (0, 0))) (ht : t ≠ 5) : w.heap[k]? = some (.cells cs t (0, 0)) :=
  h k _ hk (by simp) (fun c fz e => by injection e with _ e2; exact ht e2)

/-- the text of an object's members, the values' texts given -/
def memZ (nm : Nat → ByteArray) (lf : Nat → List Int) : Nat → List Int
  | 0 => []
  | i + 1 => memZ nm lf i ++ ((if i = 0 then [] else [44]) ++ (quoteZ (nm i).data.toList ++ ([58] ++ lf i)))
def objZ (nm : Nat → ByteArray) (lf : Nat → List Int) (n : Nat) : List Int := 123 :: (memZ nm lf n ++ [125])

theorem own_next {w : World} {B n : Nat} {v : Value} {xs : List Value} {out more : List Int} (h : w.ownsRow B 5 1 v (n + out.length + more.length) (xs ++ zs out ++ zs more)) : w.ownsRow B 5 1 v (n + (out ++ more).length) (xs ++ zs (out ++ more)) := by
  rw [List.length_append, ← Nat.add_assoc, zs_append, ← List.append_assoc]
  exact h
theorem memZ_le (nm : Nat → ByteArray) (lf : Nat → List Int) (i : Nat) : ∀ d, (memZ nm lf i).length ≤ (memZ nm lf (i + d)).length
  | 0 => Nat.le_refl _
  | d + 1 => by
    have := memZ_le nm lf i d
    show _ ≤ (memZ nm lf (i + d) ++ _).length
    rw [List.length_append]
    omega
theorem objZ_le (nm : Nat → ByteArray) (lf : Nat → List Int) {i N : Nat} (h : i < N) : (memZ nm lf (i + 1)).length + 2 ≤ (objZ nm lf N).length := by
  have := memZ_le nm lf (i + 1) (N - (i + 1))
  rw [show i + 1 + (N - (i + 1)) = N by omega] at this
  unfold objZ
  simp only [List.length_cons, List.length_append, List.length_nil]
  omega
theorem blk9 {w : World} {g : Nat} {t : TypeId} {s c0 c1 c2 c3 c4 c5 c6 c7 : Value} (h : w.heap[g]? = some (.cells #[s, c0, c1, c2, c3, c4, c5, c6, c7] t (0, 0))) :
    w.cell? ⟨g, 0, none⟩ = some s ∧ w.cell? ⟨g, 1, none⟩ = some c0 ∧ w.cell? ⟨g, 2, none⟩ = some c1 ∧ w.cell? ⟨g, 3, none⟩ = some c2 ∧ w.cell? ⟨g, 4, none⟩ = some c3 ∧ w.cell? ⟨g, 5, none⟩ = some c4 ∧ w.cell? ⟨g, 6, none⟩ = some c5 ∧ w.cell? ⟨g, 7, none⟩ = some c6 ∧ w.cell? ⟨g, 8, none⟩ = some c7 :=
  ⟨cell_of_row w g 0 _ t (0, 0) h, cell_of_row w g 1 _ t (0, 0) h, cell_of_row w g 2 _ t (0, 0) h, cell_of_row w g 3 _ t (0, 0) h, cell_of_row w g 4 _ t (0, 0) h, cell_of_row w g 5 _ t (0, 0) h, cell_of_row w g 6 _ t (0, 0) h, cell_of_row w g 7 _ t (0, 0) h, cell_of_row w g 8 _ t (0, 0) h⟩
theorem row_more {w w1 : World} {B n : Nat} {xs : List Value} {out more : List Int} {e : Ending} {w' : World} (hb : Below B w w1) (hk : Lib.OthersKept 5 none w w1) (h : RowPost B (n + out.length) (xs ++ zs out) more w1 e w') : RowPost B n xs (out ++ more) w e w' := by
  obtain ⟨v', rfl, ho, hb', hk'⟩ := h
  exact ⟨v', rfl, by rw [List.length_append, ← Nat.add_assoc, zs_append, ← List.append_assoc]; exact ho, hb.trans hb', hk.trans hk'⟩

set_option maxRecDepth 100000 in
set_option maxHeartbeats 4000000 in
theorem appV_null (B : Nat) (v : Value) (n : Nat) (xs : List Value) (w : World) (hown : w.ownsRow B 5 1 v n xs) (hB : B ≤ w.heap.size) (hn : n ≤ 1099511627776) :
    Calls Tryd.prog 23 #[v, .agg #[.int .i64 0, .bool false, .int .i64 0, .float .f64 0, .string ⟨#[]⟩, .string ⟨#[]⟩, .slice none 0 0, .slice none 0 0]] w (RowPost B n xs [110, 117, 108, 108] w) := by
  obtain ⟨iv, hiv, hv0, hv1, hv2⟩ := info_parts infoB
  have HO := Lib.hid hown
  clear hown
  go_enter Tryd.func23, Tryd.ntmps23
  go_wp2_with (at_builtin; go_must (refine Lib.wpList_append_own_string _ rfl (.tmp 96) _ _ _ rfl B 5 iv Tryd.underlying30 Tryd.underlying9 hiv hv0 hv1 hv2 v n xs rfl (HO.out.alloc _) ⟨#[110, 117, 108, 108]⟩ rfl (show n + 4 ≤ maxLen by unfold maxLen; omega) (show n + 4 ≤ 140737488355328 by omega) (by simp; omega) ?_; intro v' w5 hown' hgrow' _))
  go_ret
  exact ⟨v', rfl, hown', below_app1 (Below.refl _ _) HO.out (Nat.le_refl _) hB hgrow', kept_app (Lib.OthersKept.refl _ _ _) HO.out hgrow'⟩

set_option maxRecDepth 100000 in
set_option maxHeartbeats 4000000 in
theorem appV_list (B : Nat) (v : Value) (n : Nat) (xs : List Value) (w : World) (hown : w.ownsRow B 5 1 v n xs) (hB : B ≤ w.heap.size) (hn : n ≤ 1099511627776) :
    Calls Tryd.prog 23 #[v, .agg #[.int .i64 5, .bool false, .int .i64 0, .float .f64 0, .string ⟨#[]⟩, .string ⟨#[]⟩, .slice none 0 0, .slice none 0 0]] w (RowPost B n xs [91, 93] w) := by
  obtain ⟨iv, hiv, hv0, hv1, hv2⟩ := info_parts infoB
  have HO := Lib.hid hown
  clear hown
  go_enter Tryd.func23, Tryd.ntmps23
  go_upto_region 1 with (fail)
  have gB := heap_alloc_new w (.cells #[.int .i64 5, .bool false, .int .i64 0, .float .f64 0, .string ⟨#[]⟩, .string ⟨#[]⟩, .slice none 0 0, .slice none 0 0] 40)
  have hb0 : Below B w (w.alloc (.cells #[.int .i64 5, .bool false, .int .i64 0, .float .f64 0, .string ⟨#[]⟩, .string ⟨#[]⟩, .slice none 0 0, .slice none 0 0] 40)) := (Below.refl _ _).alloc hB _
  have hk0 : Lib.OthersKept 5 none w (w.alloc (.cells #[.int .i64 5, .bool false, .int .i64 0, .float .f64 0, .string ⟨#[]⟩, .string ⟨#[]⟩, .slice none 0 0, .slice none 0 0] 40)) := (Lib.OthersKept.refl _ _ _).alloc _
  have hz0 : w.heap.size + 1 = (w.alloc (.cells #[.int .i64 5, .bool false, .int .i64 0, .float .f64 0, .string ⟨#[]⟩, .string ⟨#[]⟩, .slice none 0 0, .slice none 0 0] 40)).heap.size := by simp
  have HO0 := Lib.hid (HO.out.alloc (.cells #[.int .i64 5, .bool false, .int .i64 0, .float .f64 0, .string ⟨#[]⟩, .string ⟨#[]⟩, .slice none 0 0, .slice none 0 0] 40))
  generalize (w.alloc (.cells #[.int .i64 5, .bool false, .int .i64 0, .float .f64 0, .string ⟨#[]⟩, .string ⟨#[]⟩, .slice none 0 0, .slice none 0 0] 40)) = W0 at *
  clear HO
  obtain ⟨m0, m1, m2, m3, m4, m5, m6, m7⟩ := blk8 gB
  have GB := Lib.hid gB
  clear gB
  go_wp2_with (at_builtin; go_must (refine wpList_app _ rfl (.tmp 41) (.tmp 42) _ rfl B 5 iv (.int .u8 0) 1 1 Tryd.underlying30 hiv hv0 hv1 hv2 rfl (by omega) v (n) (xs) rfl (HO0.out.alloc _) (W0.heap.size + 1) (some ⟨W0.heap.size, 0, none⟩) 1 1 [.int .u8 91] rfl rfl (Rd.new W0 [.int .u8 91] 5) (by simp) (by intro u hu; simp at hu; subst hu; rfl) (by unfold maxLen; omega) (by omega) (by simp; omega) ?_; intro v1 w1 hown1 hgrow1 hat1; have HO1 := Lib.hid hown1; have HG1 := Lib.hid hgrow1; clear m0 m1 m2 m3 m4 m5 m6 m7; have hk1 := kept_app hk0 HO0.out HG1.out; have hk1' := kept_app (Lib.OthersKept.refl 5 none W0) HO0.out HG1.out; obtain ⟨m0, m1, m2, m3, m4, m5, m6, m7⟩ := blk8 (kept_box hk1' GB.out (by decide)); clear hown1 hgrow1 hat1))
  have hb1 : Below B w w1 := below_app1 hb0 HO0.out (Nat.le_refl _) (by omega) HG1.out
  have hz1 : B ≤ w1.heap.size := by have := hb1.size; omega
  clear m0 m1 m2 m3 m4 m5 m6 m7 hb0 hk0 HO0 HG1
  go_loopw [0, 47] (fun v0 v47 wr => v47 = .int .i64 0 ∧ ∃ vv, vv = v0 ∧ Hid (wr.ownsRow B 5 1 vv (n + 1) (xs ++ [.int .u8 91])) ∧ Below B w wr ∧ Lib.OthersKept 5 none w wr) (fun _ _ _ => 0)
  case atStart => exact ⟨rfl, _, rfl, HO1, hb1, hk1⟩
  case round =>
    obtain ⟨rfl, vv, rfl, HOr, hbr, hkr⟩ := hrel
    have hzr : B ≤ wr.heap.size := by have := hbr.size; omega
    go_wp2_with (at_builtin; go_must (refine wpList_app _ rfl (.tmp 61) (.tmp 62) _ rfl B 5 iv (.int .u8 0) 1 1 Tryd.underlying30 hiv hv0 hv1 hv2 rfl (by omega) vv (n + 1) (xs ++ [.int .u8 91]) rfl (HOr.out.alloc _) (wr.heap.size + 1) (some ⟨wr.heap.size, 0, none⟩) 1 1 [.int .u8 93] rfl rfl (Rd.new wr [.int .u8 93] 5) (by simp) (by intro u hu; simp at hu; subst hu; rfl) (by unfold maxLen; omega) (by omega) (by simp; omega) ?_; intro v5 w5 hown5 hgrow5 hat5; have HO5 := Lib.hid hown5; have HG5 := Lib.hid hgrow5; clear hown5 hgrow5 hat5))
    go_ret
    exact ⟨v5, rfl, own_next (out := [91]) (more := [93]) HO5.out, below_app1 hbr HOr.out (Nat.le_refl _) (by omega) HG5.out, kept_app hkr HOr.out HG5.out⟩

set_option maxRecDepth 100000 in
set_option maxHeartbeats 4000000 in
theorem appV_obj (M : Nat) (hMM : M ≤ 1099511627776) (A : Option Addr) (c N : Nat) (hN : N ≤ 1000) (nm : Nat → ByteArray) (kd : Nat → Int) (lf : Nat → List Int) (B : Nat) (v : Value) (n : Nat) (xs : List Value) (w : World) (hown : w.ownsRow B 5 1 v n xs) (hB : B ≤ w.heap.size) (hn : n + (objZ nm lf N).length ≤ M)
    (hM : Mems w A N nm kd) (hA : ∀ ad, A = some ad → ad.block < B) (hs : ∀ i, i < N → (nm i).size ≤ 4194304)
    (hl : ∀ i, i < N → ∀ (v : Value) (n : Nat) (xs : List Value) (W : World), W.ownsRow B 5 1 v n xs → B ≤ W.heap.size → n ≤ M →
      Calls Tryd.prog 23 #[v, .agg #[.int .i64 (kd i), .bool false, .int .i64 0, .float .f64 0, .string ⟨#[]⟩, .string ⟨#[]⟩, .slice none 0 0, .slice none 0 0]] W (RowPost B n xs (lf i) W)) :
    Calls Tryd.prog 23 #[v, .agg #[.int .i64 6, .bool false, .int .i64 0, .float .f64 0, .string ⟨#[]⟩, .string ⟨#[]⟩, .slice none 0 0, .slice A N c]] w (RowPost B n xs (objZ nm lf N) w) := by
  obtain ⟨iv, hiv, hv0, hv1, hv2⟩ := info_parts infoB
  have HO := Lib.hid hown
  have HM := Lib.hid hM
  have HL := Lib.hid hl
  have HS := Lib.hid hs
  have HN := Lib.hid hn
  have hn0 : n ≤ 1099511627776 := by omega
  clear hown hM hl hs hn
  go_enter Tryd.func23, Tryd.ntmps23
  go_upto_region 1 with (fail)
  have gB := heap_alloc_new w (.cells #[.int .i64 6, .bool false, .int .i64 0, .float .f64 0, .string ⟨#[]⟩, .string ⟨#[]⟩, .slice none 0 0, .slice A N c] 40)
  have hb0 : Below B w (w.alloc (.cells #[.int .i64 6, .bool false, .int .i64 0, .float .f64 0, .string ⟨#[]⟩, .string ⟨#[]⟩, .slice none 0 0, .slice A N c] 40)) := (Below.refl _ _).alloc hB _
  have hk0 : Lib.OthersKept 5 none w (w.alloc (.cells #[.int .i64 6, .bool false, .int .i64 0, .float .f64 0, .string ⟨#[]⟩, .string ⟨#[]⟩, .slice none 0 0, .slice A N c] 40)) := (Lib.OthersKept.refl _ _ _).alloc _
  have hz0 : w.heap.size + 1 = (w.alloc (.cells #[.int .i64 6, .bool false, .int .i64 0, .float .f64 0, .string ⟨#[]⟩, .string ⟨#[]⟩, .slice none 0 0, .slice A N c] 40)).heap.size := by simp
  have HO0 := Lib.hid (HO.out.alloc (.cells #[.int .i64 6, .bool false, .int .i64 0, .float .f64 0, .string ⟨#[]⟩, .string ⟨#[]⟩, .slice none 0 0, .slice A N c] 40))
  generalize (w.alloc (.cells #[.int .i64 6, .bool false, .int .i64 0, .float .f64 0, .string ⟨#[]⟩, .string ⟨#[]⟩, .slice none 0 0, .slice A N c] 40)) = W0 at *
  clear HO
  obtain ⟨m0, m1, m2, m3, m4, m5, m6, m7⟩ := blk8 gB
  have GB := Lib.hid gB
  clear gB
  go_wp2_with (at_builtin; go_must (refine wpList_app _ rfl (.tmp 66) (.tmp 67) _ rfl B 5 iv (.int .u8 0) 1 1 Tryd.underlying30 hiv hv0 hv1 hv2 rfl (by omega) v (n) (xs) rfl (HO0.out.alloc _) (W0.heap.size + 1) (some ⟨W0.heap.size, 0, none⟩) 1 1 [.int .u8 123] rfl rfl (Rd.new W0 [.int .u8 123] 5) (by simp) (by intro u hu; simp at hu; subst hu; rfl) (by unfold maxLen; omega) (by omega) (by simp; omega) ?_; intro v1 w1 hown1 hgrow1 hat1; have HO1 := Lib.hid hown1; have HG1 := Lib.hid hgrow1; clear m0 m1 m2 m3 m4 m5 m6 m7; have hk1 := kept_app hk0 HO0.out HG1.out; have hk1' := kept_app (Lib.OthersKept.refl 5 none W0) HO0.out HG1.out; obtain ⟨m0, m1, m2, m3, m4, m5, m6, m7⟩ := blk8 (kept_box hk1' GB.out (by decide)); clear hown1 hgrow1 hat1))
  have hb1 : Below B w w1 := below_app1 hb0 HO0.out (Nat.le_refl _) (by omega) HG1.out
  clear m0 m1 m2 m3 m4 m5 m6 m7 hb0 hk0 HO0 HG1
  go_loopw [0, 72] (fun v0 v72 wr => ∃ (i : Nat) (vv : Value), i ≤ N ∧ v72 = .int .i64 (i : Int) ∧ vv = v0 ∧ Hid (wr.ownsRow B 5 1 vv (n + (123 :: memZ nm lf i).length) (xs ++ zs (123 :: memZ nm lf i))) ∧ Below B w wr ∧ Lib.OthersKept 5 none w wr) (fun _ v _ => N - (intOf v).toNat)
  case atStart => exact ⟨0, _, Nat.zero_le _, rfl, rfl, HO1, hb1, hk1⟩
  case round =>
    obtain ⟨i, vv, hi, rfl, rfl, HOr, hbr, hkr⟩ := hrel
    have hzr : B ≤ wr.heap.size := by have := hbr.size; omega
    by_cases hlt : i < N
    · obtain ⟨ad, rfl, hadB, hcs⟩ := HM.out i hlt
      have HK := Lib.hid (HL.out i hlt)
      have hsz := HS.out i hlt
      have hmx := objZ_le nm lf hlt
      have hnT := HN.out
      obtain ⟨d0, d1, d2, d3, d4, d5, d6, d7, d8⟩ := (hcs.below (B := B) (by rw [add_block]; exact hA ad rfl) hbr).nine
      have hadr : ad.block < wr.heap.size := by have := hA ad rfl; omega
      have HE := Lib.hid (show memZ nm lf (i + 1) = memZ nm lf i ++ ((if i = 0 then [] else [44]) ++ (quoteZ (nm i).data.toList ++ ([58] ++ lf i))) from rfl)
      have hlE : (memZ nm lf (i + 1)).length = (memZ nm lf i).length + ((if i = 0 then [] else [(44 : Int)]).length + ((quoteZ (nm i).data.toList).length + (1 + (lf i).length))) := by rw [HE.out]; simp [List.length_append]; omega
      clear hcs
      generalize nm i = s at *
      generalize kd i = k at *
      generalize lf i = l at *
      obtain ⟨z, hz⟩ : ∃ z, memZ nm lf i = z := ⟨_, rfl⟩
      rw [hz] at HOr HE hlE
      clear hz
      generalize hzz : memZ nm lf (i + 1) = zn at *
      have HZZ := Lib.hid hzz
      clear hzz
      have gM := heap_alloc_new wr (.cells #[.string s, .int .i64 k, .bool false, .int .i64 0, .float .f64 0, .string ⟨#[]⟩, .string ⟨#[]⟩, .slice none 0 0, .slice none 0 0] 55)
      have hbM : Below B w (wr.alloc (.cells #[.string s, .int .i64 k, .bool false, .int .i64 0, .float .f64 0, .string ⟨#[]⟩, .string ⟨#[]⟩, .slice none 0 0, .slice none 0 0] 55)) := hbr.alloc hzr _
      have hkM : Lib.OthersKept 5 none w (wr.alloc (.cells #[.string s, .int .i64 k, .bool false, .int .i64 0, .float .f64 0, .string ⟨#[]⟩, .string ⟨#[]⟩, .slice none 0 0, .slice none 0 0] 55)) := hkr.alloc _
      have hzM : wr.heap.size + 1 = (wr.alloc (.cells #[.string s, .int .i64 k, .bool false, .int .i64 0, .float .f64 0, .string ⟨#[]⟩, .string ⟨#[]⟩, .slice none 0 0, .slice none 0 0] 55)).heap.size := by simp
      have HOM := Lib.hid (HOr.out.alloc (.cells #[.string s, .int .i64 k, .bool false, .int .i64 0, .float .f64 0, .string ⟨#[]⟩, .string ⟨#[]⟩, .slice none 0 0, .slice none 0 0] 55))
      have hlz : ((123 : Int) :: z).length = z.length + 1 := rfl
      go_upto_region 27 with (fail)
      clear d0 d1 d2 d3 d4 d5 d6 d7 d8
      generalize (wr.alloc (.cells #[.string s, .int .i64 k, .bool false, .int .i64 0, .float .f64 0, .string ⟨#[]⟩, .string ⟨#[]⟩, .slice none 0 0, .slice none 0 0] 55)) = W1 at *
      obtain ⟨d0, d1, d2, d3, d4, d5, d6, d7, d8⟩ := blk9 gM
      have GM := Lib.hid gM
      clear gM
      have hfin : ∀ (v5 : Value) (w5 : World) (sep : List Int), sep = (if i = 0 then [] else [44]) → w5.ownsRow B 5 1 v5 (n + (123 :: z ++ sep).length + (quoteZ s.data.toList).length + 1 + l.length) (xs ++ zs (123 :: z ++ sep) ++ zs (quoteZ s.data.toList) ++ [.int .u8 58] ++ zs l) → Hid (w5.ownsRow B 5 1 v5 (n + (123 :: zn).length) (xs ++ zs (123 :: zn))) := fun v5 w5 sep hs h => by
        rw [HE.out, ← hs]
        have e1 : n + (123 :: (z ++ (sep ++ (quoteZ s.data.toList ++ ([58] ++ l))))).length = n + (123 :: z ++ sep).length + (quoteZ s.data.toList).length + 1 + l.length := by simp [List.length_append]; omega
        have e2 : xs ++ zs (123 :: (z ++ (sep ++ (quoteZ s.data.toList ++ ([58] ++ l))))) = xs ++ zs (123 :: z ++ sep) ++ zs (quoteZ s.data.toList) ++ [.int .u8 58] ++ zs l := by simp [zs, List.map_append]
        rw [e1, e2]
        exact h
      have HFIN := Lib.hid hfin
      clear hfin HE
      rcases Nat.eq_zero_or_pos i with h0 | h0
      rotate_left
      have hgt : decide ((i : Int) > 0) = true := decide_eq_true (by omega)
      rw [if_neg (by omega)] at hlE
      go_wp2_with (at_builtin; go_must (refine wpList_app _ rfl (.tmp 79) (.tmp 80) _ rfl B 5 iv (.int .u8 0) 1 1 Tryd.underlying30 hiv hv0 hv1 hv2 rfl (by omega) vv (n + (123 :: z).length) (xs ++ zs (123 :: z)) rfl (HOM.out.alloc _) (W1.heap.size + 1) (some ⟨W1.heap.size, 0, none⟩) 1 1 [.int .u8 44] rfl rfl (Rd.new W1 [.int .u8 44] 5) (by simp) (by intro u hu; simp at hu; subst hu; rfl) (by unfold maxLen; omega) (by omega) (by simp; omega) ?_; intro v2 w2 hown2 hgrow2 hat2; have HO2 : Hid (w2.ownsRow B 5 1 v2 (n + (123 :: z ++ [44]).length) (xs ++ zs (123 :: z ++ [44]))) := Lib.hid (own_next (out := 123 :: z) (more := [44]) hown2); have hb2 : Below B w w2 := below_app1 hbM HOM.out (Nat.le_refl _) (by omega) hgrow2; have hk2 : Lib.OthersKept 5 none w w2 := kept_app hkM HOM.out hgrow2; have hk2' : Lib.OthersKept 5 none W1 w2 := kept_app (Lib.OthersKept.refl _ _ _) HOM.out hgrow2; have GM2 := Lib.hid (kept_box hk2' GM.out (by decide)); clear d0 d1 d2 d3 d4 d5 d6 d7 d8; obtain ⟨d0, d1, d2, d3, d4, d5, d6, d7, d8⟩ := blk9 GM2.out; have hz2 : B ≤ w2.heap.size := Nat.le_trans hB hb2.size; clear hown2 hgrow2 hat2 hk2' hbM hkM HOM GM))
      have hlz2 : (((123 : Int) :: z) ++ [44]).length = z.length + 1 + 1 := by simp
      have hq : (quoteZ s.data.toList).length + (1 + l.length) + z.length + 1 ≤ zn.length := by rw [hlE]; simp; omega
      refine (appendText_any s hsz B v2 (n + (123 :: z ++ [44]).length) (xs ++ zs (123 :: z ++ [44])) w2 HO2.out (by omega) (by omega)).mono ?_
      rintro e w3 ⟨v3, rfl, ho3, hb3, hk3⟩
      have HO3 := Lib.hid ho3
      have GM3 := Lib.hid (kept_box hk3 GM2.out (by decide))
      clear d0 d1 d2 d3 d4 d5 d6 d7 d8
      obtain ⟨d0, d1, d2, d3, d4, d5, d6, d7, d8⟩ := blk9 GM3.out
      have hb4 : Below B w w3 := hb2.trans hb3
      have hk4 : Lib.OthersKept 5 none w w3 := hk2.trans hk3
      have hz3 : B ≤ w3.heap.size := by have := hb4.size; omega
      clear ho3 hb3 hk3 hb2 hk2
      go_wp2_with (at_builtin; go_must (refine wpList_app _ rfl (.tmp 85) (.tmp 86) _ rfl B 5 iv (.int .u8 0) 1 1 Tryd.underlying30 hiv hv0 hv1 hv2 rfl (by omega) v3 (n + (123 :: z ++ [44]).length + (quoteZ s.data.toList).length) (xs ++ zs (123 :: z ++ [44]) ++ zs (quoteZ s.data.toList)) rfl (HO3.out.alloc _) (w3.heap.size + 1) (some ⟨w3.heap.size, 0, none⟩) 1 1 [.int .u8 58] rfl rfl (Rd.new w3 [.int .u8 58] 5) (by simp) (by intro u hu; simp at hu; subst hu; rfl) (by unfold maxLen; omega) (by omega) (by simp; omega) ?_; intro v4 w4 hown4 hgrow4 hat4; have HO4 := Lib.hid hown4; have hb5 : Below B w w4 := below_app1 hb4 HO3.out (Nat.le_refl _) (by omega) hgrow4; have hk5 : Lib.OthersKept 5 none w w4 := kept_app hk4 HO3.out hgrow4; have hk5' : Lib.OthersKept 5 none w3 w4 := kept_app (Lib.OthersKept.refl _ _ _) HO3.out hgrow4; have GM4 := Lib.hid (kept_box hk5' GM3.out (by decide)); clear d0 d1 d2 d3 d4 d5 d6 d7 d8; obtain ⟨d0, d1, d2, d3, d4, d5, d6, d7, d8⟩ := blk9 GM4.out; have hz4 : B ≤ w4.heap.size := Nat.le_trans hB hb5.size; clear hown4 hgrow4 hat4 hk5' hb4 hk4))
      clear d0 d1 d2 d3 d4 d5 d6 d7 d8
      refine (HK.out v4 _ _ w4 HO4.out (by omega) (by omega)).mono ?_
      rintro e w6 ⟨v6, rfl, ho6, hb6, hk6⟩
      have HO6 := HFIN.out v6 w6 [44] (by rw [if_neg (by omega)]) ho6
      have hb7 : Below B w w6 := hb5.trans hb6
      have hk7 : Lib.OthersKept 5 none w w6 := hk5.trans hk6
      clear ho6 hb6 hk6 hb5 hk5 HO4 HO3
      go_wp2_with fail
      exact ⟨⟨i + 1, _, by omega, by go_num, rfl, by rw [HZZ.out]; exact HO6, hb7, hk7⟩, by simp [intOf]; omega⟩
      have hgt : decide ((i : Int) > 0) = false := decide_eq_false (by omega)
      rw [if_pos h0] at hlE
      have HO2 : Hid (W1.ownsRow B 5 1 vv (n + (123 :: z ++ []).length) (xs ++ zs (123 :: z ++ []))) := by rw [List.append_nil]; exact HOM
      go_wp2_with fail
      have hlz2 : (((123 : Int) :: z) ++ ([] : List Int)).length = z.length + 1 + 0 := by simp
      have hq : (quoteZ s.data.toList).length + (1 + l.length) + z.length + 0 ≤ zn.length := by rw [hlE]; simp; omega
      refine (appendText_any s hsz B vv (n + (123 :: z ++ ([] : List Int)).length) (xs ++ zs (123 :: z ++ ([] : List Int))) W1 HO2.out (by omega) (by omega)).mono ?_
      rintro e w3 ⟨v3, rfl, ho3, hb3, hk3⟩
      have HO3 := Lib.hid ho3
      have GM3 := Lib.hid (kept_box hk3 GM.out (by decide))
      clear d0 d1 d2 d3 d4 d5 d6 d7 d8
      obtain ⟨d0, d1, d2, d3, d4, d5, d6, d7, d8⟩ := blk9 GM3.out
      have hb4 : Below B w w3 := hbM.trans hb3
      have hk4 : Lib.OthersKept 5 none w w3 := hkM.trans hk3
      have hz3 : B ≤ w3.heap.size := by have := hb4.size; omega
      clear ho3 hb3 hk3 hbM hkM
      go_wp2_with (at_builtin; go_must (refine wpList_app _ rfl (.tmp 85) (.tmp 86) _ rfl B 5 iv (.int .u8 0) 1 1 Tryd.underlying30 hiv hv0 hv1 hv2 rfl (by omega) v3 (n + (123 :: z ++ ([] : List Int)).length + (quoteZ s.data.toList).length) (xs ++ zs (123 :: z ++ ([] : List Int)) ++ zs (quoteZ s.data.toList)) rfl (HO3.out.alloc _) (w3.heap.size + 1) (some ⟨w3.heap.size, 0, none⟩) 1 1 [.int .u8 58] rfl rfl (Rd.new w3 [.int .u8 58] 5) (by simp) (by intro u hu; simp at hu; subst hu; rfl) (by unfold maxLen; omega) (by omega) (by simp; omega) ?_; intro v4 w4 hown4 hgrow4 hat4; have HO4 := Lib.hid hown4; have hb5 : Below B w w4 := below_app1 hb4 HO3.out (Nat.le_refl _) (by omega) hgrow4; have hk5 : Lib.OthersKept 5 none w w4 := kept_app hk4 HO3.out hgrow4; have hk5' : Lib.OthersKept 5 none w3 w4 := kept_app (Lib.OthersKept.refl _ _ _) HO3.out hgrow4; have GM4 := Lib.hid (kept_box hk5' GM3.out (by decide)); clear d0 d1 d2 d3 d4 d5 d6 d7 d8; obtain ⟨d0, d1, d2, d3, d4, d5, d6, d7, d8⟩ := blk9 GM4.out; have hz4 : B ≤ w4.heap.size := Nat.le_trans hB hb5.size; clear hown4 hgrow4 hat4 hk5' hb4 hk4))
      clear d0 d1 d2 d3 d4 d5 d6 d7 d8
      refine (HK.out v4 _ _ w4 HO4.out (by omega) (by omega)).mono ?_
      rintro e w6 ⟨v6, rfl, ho6, hb6, hk6⟩
      have HO6 := HFIN.out v6 w6 ([] : List Int) (by rw [if_pos h0]) ho6
      have hb7 : Below B w w6 := hb5.trans hb6
      have hk7 : Lib.OthersKept 5 none w w6 := hk5.trans hk6
      clear ho6 hb6 hk6 hb5 hk5 HO4 HO3
      go_wp2_with fail
      exact ⟨⟨i + 1, _, by omega, by go_num, rfl, by rw [HZZ.out]; exact HO6, hb7, hk7⟩, by simp [intOf]; omega⟩
    · obtain rfl : i = N := by omega
      have hnT := HN.out
      have hlo : (objZ nm lf i).length = (123 :: memZ nm lf i).length + 1 := by simp [objZ]
      generalize hzz : memZ nm lf i = z at *
      go_wp2_with (at_builtin; go_must (refine wpList_app _ rfl (.tmp 93) (.tmp 94) _ rfl B 5 iv (.int .u8 0) 1 1 Tryd.underlying30 hiv hv0 hv1 hv2 rfl (by omega) vv (n + (123 :: z).length) (xs ++ zs (123 :: z)) rfl (HOr.out.alloc _) (wr.heap.size + 1) (some ⟨wr.heap.size, 0, none⟩) 1 1 [.int .u8 125] rfl rfl (Rd.new wr [.int .u8 125] 5) (by simp) (by intro u hu; simp at hu; subst hu; rfl) (by unfold maxLen; omega) (by omega) (by simp; omega) ?_; intro v5 w5 hown5 hgrow5 hat5; have HO5 := Lib.hid hown5; have HG5 := Lib.hid hgrow5; clear hown5 hgrow5 hat5))
      go_ret
      exact ⟨v5, rfl, by rw [show objZ nm lf i = (123 :: z) ++ [125] by unfold objZ; rw [hzz]; rfl]; exact own_next (out := 123 :: z) (more := [125]) HO5.out, below_app1 hbr HOr.out (Nat.le_refl _) (by omega) HG5.out, kept_app hkr HOr.out HG5.out⟩
end Go.Proofs.YtjbfhkcbgafeaaaDoor.look
