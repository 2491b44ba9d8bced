/- A float's one text, as a function of its bits. PLAIN LEAN: the text of a value, and its first fault. PLAIN LEAN: the parts of a value in their order; the first fault by its parts. -/
import Derived.Test.YtagghdehbkbemaaGreatDoorGRt
import Derived.Test.YtagghdehbkbemaaGreatDoorGVal
section
namespace Go.Proofs.YtagghdehbkbemaaGreatDoor.pg
open Go.RowKit mem fl big sh uw
set_option linter.unusedVariables false

theorem half_of (x : Nat) (hx : x < 18446744073709551616) : ∃ (s : Bool) (a : Nat), x = a + sgn s ∧ a < 9223372036854775808 := by
  by_cases h : x < 9223372036854775808
  · exact ⟨false, x, by simp [sgn], h⟩
  · exact ⟨true, x - 9223372036854775808, by simp [sgn]; omega, by omega⟩
theorem layT_pos (q : Nat) (y : Int) (h : Bd q y) : 0 < (layT (dgs q) ((dgs q).length + y)).length := by
  unfold layT
  split
  · simp; omega
  · split
    · simp; omega
    · split
      · simp
      · split
        · simp; omega
        · simp; omega
/-- every answer of 'text' at the float x is S -/
def TextIs (x : Nat) (S : ByteArray) : Prop := ∀ (s : Bool) (a : Nat), x = a + sgn s → a < 9223372036854775808 → ∀ w e w', TtPost s a w e w' → e = .returned (.string S) ∧ Below w.heap.size w w'
theorem sgn_same {s s' : Bool} {a a' : Nat} (h : a + sgn s = a' + sgn s') (ha : a < 9223372036854775808) (ha' : a' < 9223372036854775808) : s = s' ∧ a = a' := by
  cases s <;> cases s' <;> simp [sgn] at h <;> first | exact ⟨rfl, by omega⟩ | omega
theorem text_one (x : Nat) : ∃ S : ByteArray, TextIs x S ∧ S.size ≤ 1001 ∧ (x < 18446744073709551616 → ((S.size = 0) ↔ 9218868437227405312 ≤ x % 9223372036854775808)) := by
  by_cases hx : x < 18446744073709551616
  · obtain ⟨s, a, rfl, ha⟩ := half_of x hx
    have hm : (a + sgn s) % 9223372036854775808 = a := by cases s <;> simp [sgn] <;> omega
    rw [hm]
    by_cases h : ∃ w e w', TtPost s a w e w'
    · obtain ⟨w0, e0, w0', h0⟩ := h
      obtain ⟨S, rfl, _⟩ := rt.tt_string h0
      refine ⟨S, fun s' a' he ha' w e w' h1 => ?_, ?_, fun _ => ?_⟩
      · obtain ⟨rfl, rfl⟩ := sgn_same he ha ha'
        exact ⟨rt.tt_same h1 h0, h1.1⟩
      · rcases h0.2 with ⟨_, e1⟩ | ⟨_, e1⟩ | ⟨_, _, q, y, _, _, hb, e1⟩
        · injection e1 with e1; injection e1 with e1; subst e1; decide
        · injection e1 with e1; injection e1 with e1; subst e1; rw [strN_size]; cases s <;> decide
        · injection e1 with e1; injection e1 with e1; subst e1; rw [strN_size, List.length_append]; have := layT_len q y hb; have h2 : (if s = true then [45] else ([] : List Nat)).length ≤ 1 := by cases s <;> decide
          omega
      · rcases h0.2 with ⟨h1, e1⟩ | ⟨h1, e1⟩ | ⟨h1, h2, q, y, hC, hq, hb, e1⟩
        · injection e1 with e1; injection e1 with e1; subst e1; exact ⟨fun _ => h1, fun _ => rfl⟩
        · injection e1 with e1; injection e1 with e1; subst e1; rw [strN_size, List.length_append]; exact ⟨fun h => by simp at h, fun h => by omega⟩
        · injection e1 with e1; injection e1 with e1; subst e1
          rw [strN_size, List.length_append]
          have hl : 0 < (layT (dgs q) ((dgs q).length + y)).length := layT_pos q y hb
          constructor <;> intro h <;> omega
    · refine ⟨if 9218868437227405312 ≤ a then ⟨#[]⟩ else ⟨#[48]⟩, fun s' a' he ha' w e w' h1 => ?_, ?_, fun _ => ?_⟩
      · obtain ⟨rfl, rfl⟩ := sgn_same he ha ha'
        exact absurd ⟨w, e, w', h1⟩ h
      · split <;> decide
      · split
        · exact ⟨fun _ => by assumption, fun _ => rfl⟩
        · constructor
          · intro h; cases h
          · intro h; omega
  · exact ⟨⟨#[]⟩, fun s a he ha => by exfalso; cases s <;> simp [sgn] at he <;> omega, by decide, fun h => absurd h hx⟩
noncomputable def ftx (x : Nat) : ByteArray := Classical.choose (text_one x)
theorem ftx_spec (x : Nat) : TextIs x (ftx x) ∧ (ftx x).size ≤ 1001 ∧ (x < 18446744073709551616 → (((ftx x).size = 0) ↔ 9218868437227405312 ≤ x % 9223372036854775808)) := Classical.choose_spec (text_one x)

/-- what the number texts ask of a world -/
structure NumAt (w : World) : Prop where
  pow : PowAt w
  lt : 8 < w.heap.size
  tab : Lib.TabIs Tryz.prog w "internal/strconv.uint64pow10" .u64 Lib.pow10Tab
theorem NumAt.below {w w' : World} (h : NumAt w) (hb : Below w.heap.size w w') : NumAt w' := ⟨h.pow.below hb (by have := h.lt; omega), by have := h.lt; have := hb.size; omega, tab_below h.tab hb⟩
theorem floatText_any (x : Nat) (hx : x < 18446744073709551616) (w : World) (h : NumAt w) : Calls Tryz.prog 35 #[.float .f64 x] w fun e w' => e = .returned (.string (ftx x)) ∧ Below w.heap.size w w' := by
  obtain ⟨s, a, rfl, ha⟩ := half_of x hx
  exact (text_any s a w ha h.pow (by have := h.lt; omega) h.tab).mono fun e w' hp => (ftx_spec _).1 s a rfl ha w e w' hp
theorem textBits_any (x : Nat) (hx : x < 18446744073709551616) (w : World) : Calls Tryz.prog 46 #[.int .u64 (x : Int)] w fun e w' => e = .returned (.string (ftx x)) ∧ Below w.heap.size w w' := by
  obtain ⟨s, a, rfl, ha⟩ := half_of x hx
  exact (rt.tb_any s a w ha).mono fun e w' hp => (ftx_spec _).1 s a rfl ha w e w' hp
end Go.Proofs.YtagghdehbkbemaaGreatDoor.pg
end
section
namespace Go.Proofs.YtagghdehbkbemaaGreatDoor.val
open Go.RowKit mem txt
set_option linter.unusedVariables false

/-- bytes as numbers -/
def bz (s : ByteArray) : List Int := s.data.toList.map fun c => (c.toNat : Int)
theorem bz_length (s : ByteArray) : (bz s).length = s.size := by unfold bz; rw [List.length_map]; rfl
/-- a whole number's text -/
def wz (i : Int) : List Int := bz (big.strN (big.wtx i))
/-- a float's text -/
noncomputable def fz (f : Nat) : List Int := bz (pg.ftx f)
def tfz (b : Bool) : List Int := if b = true then [116, 114, 117, 101] else [102, 97, 108, 115, 101]

mutual
/-- the canonical text -/
noncomputable def tx : V → List Int
  | .mk k b i f t y is fs =>
    if k = 1 then tfz b else if k = 2 then wz i else if k = 3 then fz f else if k = 4 then quoteZ t.data.toList
    else if k = 5 then 91 :: (txs is ++ [93]) else if k = 6 then 123 :: (txf fs ++ [125]) else [110, 117, 108, 108]
/-- items, from the first on -/
noncomputable def txs : List V → List Int
  | [] => []
  | v :: r => tx v ++ txr r
/-- items, a comma ahead of each -/
noncomputable def txr : List V → List Int
  | [] => []
  | v :: r => 44 :: (tx v ++ txr r)
noncomputable def txf : List (ByteArray × V) → List Int
  | [] => []
  | (s, v) :: r => quoteZ s.data.toList ++ (58 :: (tx v ++ txg r))
noncomputable def txg : List (ByteArray × V) → List Int
  | [] => []
  | (s, v) :: r => 44 :: (quoteZ s.data.toList ++ (58 :: (tx v ++ txg r)))
end
/-- what is to come behind i items -/
noncomputable def tailS (i : Nat) (l : List V) : List Int := if i = 0 then txs l else txr l
noncomputable def tailF (i : Nat) (l : List (ByteArray × V)) : List Int := if i = 0 then txf l else txg l
theorem tailS_nil (i : Nat) : tailS i [] = [] := by unfold tailS; split <;> simp only [txs, txr]
theorem tailF_nil (i : Nat) : tailF i [] = [] := by unfold tailF; split <;> simp only [txf, txg]
theorem tailS_first (v : V) (r : List V) : tailS 0 (v :: r) = tx v ++ tailS 1 r := by simp [tailS, txs]
theorem tailS_more {i : Nat} (h : 0 < i) (v : V) (r : List V) : tailS i (v :: r) = 44 :: (tx v ++ tailS (i + 1) r) := by
  unfold tailS
  rw [if_neg (by omega), if_neg (by omega)]
  simp only [txr]
theorem tailF_first (s : ByteArray) (v : V) (r : List (ByteArray × V)) : tailF 0 ((s, v) :: r) = quoteZ s.data.toList ++ (58 :: (tx v ++ tailF 1 r)) := by simp [tailF, txf]
theorem tailF_more {i : Nat} (h : 0 < i) (s : ByteArray) (v : V) (r : List (ByteArray × V)) : tailF i ((s, v) :: r) = 44 :: (quoteZ s.data.toList ++ (58 :: (tx v ++ tailF (i + 1) r))) := by
  unfold tailF
  rw [if_neg (by omega), if_neg (by omega)]
  simp only [txg]

open Classical in
/-- the first fault of an object's names; 'seen': those ahead -/
noncomputable def nmE : List ByteArray → List (ByteArray × V) → Int
  | _, [] => 0
  | seen, (s, _) :: r => if Lib.validD s.data.toList = true then (if s ∈ seen then 5 else nmE (s :: seen) r) else 1
mutual
/-- the first fault, 0: none -/
noncomputable def lk : V → Int
  | .mk k _ _ f t _ is fs =>
    if k = 0 ∨ k = 1 ∨ k = 2 then 0
    else if k = 3 then (if 9218868437227405312 ≤ f % 9223372036854775808 then 6 else 0)
    else if k = 4 then (if Lib.validD t.data.toList = true then 0 else 1)
    else if k = 5 then lks is
    else if k = 6 then (if nmE [] fs = 0 then lkf fs else nmE [] fs)
    else 2
noncomputable def lks : List V → Int
  | [] => 0
  | v :: r => if lk v = 0 then lks r else lk v
noncomputable def lkf : List (ByteArray × V) → Int
  | [] => 0
  | (_, v) :: r => if lk v = 0 then lkf r else lk v
end

mutual
/-- a value that fits: its numbers in their ranges, its texts not too long -/
def ok : V → Prop
  | .mk _ _ i f t y is fs => (-9223372036854775808 ≤ i ∧ i ≤ 9223372036854775807 ∧ f < 18446744073709551616 ∧ t.size ≤ 1048576 ∧ y.size ≤ 1048576) ∧ oks is ∧ okf fs
def oks : List V → Prop
  | [] => True
  | v :: r => ok v ∧ oks r
def okf : List (ByteArray × V) → Prop
  | [] => True
  | (s, v) :: r => s.size ≤ 1048576 ∧ ok v ∧ okf r
end
mutual
/-- its weight: its parts and their bytes -/
def wt : V → Nat
  | .mk _ _ _ _ t y is fs => 1 + t.size + y.size + wts is + wtf fs
def wts : List V → Nat
  | [] => 0
  | v :: r => wt v + wts r
def wtf : List (ByteArray × V) → Nat
  | [] => 0
  | (s, v) :: r => s.size + wt v + wtf r
end
theorem wt_pos (v : V) : 0 < wt v := by cases v; simp only [wt]; omega
mutual
theorem sz_wt : ∀ v : V, sz v ≤ wt v
  | .mk _ _ _ _ _ _ is fs => by simp only [sz, wt]; have := szs_wt is; have := szf_wt fs; omega
theorem szs_wt : ∀ l : List V, szs l ≤ wts l
  | [] => by simp only [szs, wts]; omega
  | v :: r => by simp only [szs, wts]; have := sz_wt v; have := szs_wt r; omega
theorem szf_wt : ∀ l : List (ByteArray × V), szf l ≤ wtf l
  | [] => by simp only [szf, wtf]; omega
  | (s, v) :: r => by simp only [szf, wtf]; have := sz_wt v; have := szf_wt r; omega
end
theorem oks_get {l : List V} (h : oks l) {j : Nat} {v : V} (hv : l[j]? = some v) : ok v := by
  induction l generalizing j with
  | nil => simp at hv
  | cons x r ih =>
    simp only [oks] at h
    cases j with
    | zero => simp at hv; subst hv; exact h.1
    | succ j => exact ih h.2 (by simpa using hv)
theorem okf_get {l : List (ByteArray × V)} (h : okf l) {j : Nat} {p : ByteArray × V} (hv : l[j]? = some p) : p.1.size ≤ 1048576 ∧ ok p.2 := by
  induction l generalizing j with
  | nil => simp at hv
  | cons x r ih =>
    obtain ⟨s, x⟩ := x
    simp only [okf] at h
    cases j with
    | zero => simp at hv; subst hv; exact ⟨h.1, h.2.1⟩
    | succ j => exact ih h.2.2 (by simpa using hv)
theorem wts_get {l : List V} {j : Nat} {v : V} (hv : l[j]? = some v) : wt v ≤ wts l := by
  induction l generalizing j with
  | nil => simp at hv
  | cons x r ih =>
    simp only [wts]
    cases j with
    | zero => simp at hv; subst hv; omega
    | succ j => have := ih (j := j) (by simpa using hv); omega
theorem wtf_get {l : List (ByteArray × V)} {j : Nat} {p : ByteArray × V} (hv : l[j]? = some p) : p.1.size + wt p.2 ≤ wtf l := by
  induction l generalizing j with
  | nil => simp at hv
  | cons x r ih =>
    obtain ⟨s, x⟩ := x
    simp only [wtf]
    cases j with
    | zero => simp at hv; subst hv; simp only; omega
    | succ j => have := ih (j := j) (by simpa using hv); omega

theorem quoteZ_len (s : ByteArray) : (quoteZ s.data.toList).length ≤ 6 * s.size + 2 := by
  have := encZ_length s.data.toList.length s.data.toList (Nat.le_refl _)
  have h2 := Lib.size_eq s
  simp only [quoteZ, List.length_cons, List.length_append, List.length_nil]
  omega
theorem wz_len (i : Int) (h1 : -9223372036854775808 ≤ i) (h2 : i ≤ 9223372036854775807) : (wz i).length ≤ 30 := by
  unfold wz
  rw [bz_length, big.strN_size]
  unfold big.wtx
  split
  · rw [List.length_cons, uw.dgs_length]
    have := uw.nd20 i.natAbs (by omega)
    omega
  · rw [uw.dgs_length]
    have := uw.nd20 i.natAbs (by omega)
    omega
theorem fz_len (f : Nat) : (fz f).length ≤ 1001 := by unfold fz; rw [bz_length]; exact (pg.ftx_spec f).2.1
mutual
theorem tx_len : ∀ v : V, ok v → (tx v).length + 10 ≤ 2000 * wt v
  | .mk k b i f t y is fs, h => by
    simp only [ok] at h
    obtain ⟨⟨h1, h2, h3, h4, h5⟩, h6, h7⟩ := h
    have e1 := wz_len i h1 h2
    have e2 := fz_len f
    have e3 := quoteZ_len t
    have e4 := (txs_len is h6).1
    have e5 := (txf_len fs h7).1
    simp only [tx, wt]
    split
    · unfold tfz; split <;> simp <;> omega
    split
    · omega
    split
    · omega
    split
    · omega
    split
    · simp only [List.length_cons, List.length_append, List.length_nil]; omega
    split
    · simp only [List.length_cons, List.length_append, List.length_nil]; omega
    · simp; omega
theorem txs_len : ∀ l : List V, oks l → (txs l).length ≤ 2000 * wts l ∧ (txr l).length ≤ 2000 * wts l
  | [], _ => by simp [txs, txr]
  | v :: r, h => by
    simp only [oks] at h
    have e1 := tx_len v h.1
    have e2 := (txs_len r h.2).2
    simp only [txs, txr, wts, List.length_cons, List.length_append]
    omega
theorem txf_len : ∀ l : List (ByteArray × V), okf l → (txf l).length ≤ 2000 * wtf l ∧ (txg l).length ≤ 2000 * wtf l
  | [], _ => by simp [txf, txg]
  | (s, v) :: r, h => by
    simp only [okf] at h
    have e1 := tx_len v h.2.1
    have e2 := (txf_len r h.2.2).2
    have e3 := quoteZ_len s
    simp only [txf, txg, wtf, List.length_cons, List.length_append]
    omega
end
end Go.Proofs.YtagghdehbkbemaaGreatDoor.val
end
section
namespace Go.Proofs.YtagghdehbkbemaaGreatDoor.val
open Go.RowKit mem txt
set_option linter.unusedVariables false

/-- the fault of one part by itself -/
noncomputable def own : V → Int
  | .mk k _ _ f t _ _ fs => if k < 0 ∨ 6 < k then 2 else if k = 3 ∧ 9218868437227405312 ≤ f % 9223372036854775808 then 6 else if k = 4 ∧ ¬ Lib.validD t.data.toList = true then 1 else if k = 6 then nmE [] fs else 0
mutual
/-- the parts, a value ahead of its children -/
def prt : V → List V
  | .mk k b i f t y is fs => .mk k b i f t y is fs :: (if k = 5 then prts is else if k = 6 then prtf fs else [])
def prts : List V → List V
  | [] => []
  | v :: r => prt v ++ prts r
def prtf : List (ByteArray × V) → List V
  | [] => []
  | (_, v) :: r => prt v ++ prtf r
end
/-- the first fault of the parts -/
noncomputable def fst0 : List V → Int
  | [] => 0
  | v :: r => if own v = 0 then fst0 r else own v
theorem fst0_app (l r : List V) : fst0 (l ++ r) = if fst0 l = 0 then fst0 r else fst0 l := by
  induction l with
  | nil => simp [fst0]
  | cons x l ih =>
    simp only [List.cons_append, fst0, ih]
    by_cases h : own x = 0
    · simp [h]
    · simp [h]
mutual
theorem lk_prt : ∀ v : V, fst0 (prt v) = lk v
  | .mk k b i f t y is fs => by
    have e1 := lks_prt is
    have e2 := lkf_prt fs
    rw [prt, fst0]
    generalize hw : own (.mk k b i f t y is fs) = o
    simp only [own] at hw
    simp only [lk]
    by_cases c0 : k = 0 ∨ k = 1 ∨ k = 2
    · rw [if_neg (by omega), if_neg (by omega), if_neg (by omega), if_neg (by omega)] at hw
      rw [if_pos c0, ← hw, if_pos rfl, if_neg (by omega), if_neg (by omega)]
      rfl
    rw [if_neg c0]
    by_cases c3 : k = 3
    · subst c3
      rw [if_neg (by omega)] at hw
      rw [if_pos rfl]
      by_cases hb : 9218868437227405312 ≤ f % 9223372036854775808
      · rw [if_pos ⟨rfl, hb⟩] at hw
        rw [← hw, if_neg (by decide), if_pos hb]
      · rw [if_neg (by simp; omega), if_neg (by omega), if_neg (by omega)] at hw
        rw [← hw, if_pos rfl, if_neg hb, if_neg (by omega), if_neg (by omega)]
        rfl
    rw [if_neg c3]
    by_cases c4 : k = 4
    · subst c4
      rw [if_neg (by omega), if_neg (by omega)] at hw
      rw [if_pos rfl]
      by_cases hb : Lib.validD t.data.toList = true
      · rw [if_neg (by simp [hb]), if_neg (by omega)] at hw
        rw [← hw, if_pos rfl, if_pos hb, if_neg (by omega), if_neg (by omega)]
        rfl
      · rw [if_pos ⟨rfl, hb⟩] at hw
        rw [← hw, if_neg (by decide), if_neg hb]
    rw [if_neg c4]
    by_cases c5 : k = 5
    · subst c5
      rw [if_neg (by omega), if_neg (by omega), if_neg (by omega), if_neg (by omega)] at hw
      rw [← hw, if_pos rfl, if_pos rfl, if_pos rfl, e1]
    rw [if_neg c5]
    by_cases c6 : k = 6
    · subst c6
      rw [if_neg (by omega), if_neg (by omega), if_neg (by omega), if_pos rfl] at hw
      rw [← hw]
      simp [e2]
    rw [if_pos (by omega)] at hw
    rw [← hw]
    simp [c5, c6]
theorem lks_prt : ∀ l : List V, fst0 (prts l) = lks l
  | [] => by simp only [prts, fst0, lks]
  | v :: r => by simp only [prts, lks, fst0_app, lk_prt v, lks_prt r]
theorem lkf_prt : ∀ l : List (ByteArray × V), fst0 (prtf l) = lkf l
  | [] => by simp only [prtf, fst0, lkf]
  | (s, v) :: r => by simp only [prtf, lkf, fst0_app, lk_prt v, lkf_prt r]
end
mutual
theorem prt_len : ∀ v : V, (prt v).length ≤ sz v
  | .mk k b i f t y is fs => by
    have e1 := prts_len is
    have e2 := prtf_len fs
    simp only [prt, sz, List.length_cons]
    split
    · omega
    · split
      · omega
      · simp
        omega
theorem prts_len : ∀ l : List V, (prts l).length ≤ szs l
  | [] => by simp [prts, szs]
  | v :: r => by have := prt_len v; have := prts_len r; simp only [prts, szs, List.length_append]; omega
theorem prtf_len : ∀ l : List (ByteArray × V), (prtf l).length ≤ szf l
  | [] => by simp [prtf, szf]
  | (s, v) :: r => by have := prt_len v; have := prtf_len r; simp only [prtf, szf, List.length_append]; omega
end
end Go.Proofs.YtagghdehbkbemaaGreatDoor.val
end
