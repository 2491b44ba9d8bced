/- PLAIN LEAN: values that are written alike. The law's littered: a value that is written alike, in new memory. The law's littered at a list. -/
import Derived.Test.YthlncdcfppehcaaDoorGFtx
import Derived.Test.YthlncdcfppehcaaDoorGRow
import Derived.Test.YthlncdcfppehcaaDoorYLook
import Derived.Handy
import Derived.WalkSpells
import Derived.Deep.DeepMust
import Derived.Deep.RegionLaw
import Derived.Deep.RegionWith
import Derived.Deep.Cut
import Derived.Deep.RegionHeld3
section
namespace Go.Proofs.YthlncdcfppehcaaDoor.val
open Go.RowKit mem txt
set_option linter.unusedVariables false

/-- x' is written as x, and is not much greater -/
structure Like (x x' : V) : Prop where
  lk : lk x' = lk x
  tx : tx x' = tx x
  ok : ok x'
  wt : wt x' ≤ 16 * wt x
  sz : sz x' ≤ 8 * sz x
def Likes : List V → List V → Prop
  | [], [] => True
  | x :: r, x' :: r' => Like x x' ∧ Likes r r'
  | _, _ => False
def FLikes : List (ByteArray × V) → List (ByteArray × V) → Prop
  | [], [] => True
  | x :: r, x' :: r' => (x'.1 = x.1 ∧ x.1.size ≤ 1048576 ∧ Like x.2 x'.2) ∧ FLikes r r'
  | _, _ => False
theorem Likes.snoc {x x' : V} (hx : Like x x') : ∀ {l l' : List V}, Likes l l' → Likes (l ++ [x]) (l' ++ [x'])
  | [], [], _ => ⟨hx, trivial⟩
  | y :: r, y' :: r', h => ⟨h.1, Likes.snoc hx h.2⟩
  | [], _ :: _, h => h.elim
  | _ :: _, [], h => h.elim
theorem FLikes.snoc {x x' : ByteArray × V} (hx : x'.1 = x.1 ∧ x.1.size ≤ 1048576 ∧ Like x.2 x'.2) : ∀ {l l' : List (ByteArray × V)}, FLikes l l' → FLikes (l ++ [x]) (l' ++ [x'])
  | [], [], _ => ⟨hx, trivial⟩
  | y :: r, y' :: r', h => ⟨h.1, FLikes.snoc hx h.2⟩
  | [], _ :: _, h => h.elim
  | _ :: _, [], h => h.elim
theorem Likes.all : ∀ {l l' : List V}, Likes l l' → l'.length = l.length ∧ lks l' = lks l ∧ txs l' = txs l ∧ txr l' = txr l ∧ oks l' ∧ wts l' ≤ 16 * wts l ∧ szs l' ≤ 8 * szs l
  | [], [], _ => by simp [lks, txs, txr, oks, wts, szs]
  | x :: r, x' :: r', h => by
    obtain ⟨e1, e2, e3, e4, e5, e6, e7⟩ := Likes.all h.2
    have h1 := h.1.lk
    have h2 := h.1.tx
    have h3 := h.1.wt
    have h4 := h.1.sz
    simp only [lks, txs, txr, oks, wts, szs, List.length_cons, h1, h2, e1, e2, e4]
    exact ⟨trivial, trivial, trivial, trivial, ⟨h.1.ok, e5⟩, by omega, by omega⟩
  | [], _ :: _, h => h.elim
  | _ :: _, [], h => h.elim
theorem FLikes.all : ∀ {l l' : List (ByteArray × V)}, FLikes l l' → l'.length = l.length ∧ lkf l' = lkf l ∧ txf l' = txf l ∧ txg l' = txg l ∧ okf l' ∧ wtf l' ≤ 16 * wtf l ∧ szf l' ≤ 8 * szf l ∧ ∀ seen, nmE seen l' = nmE seen l
  | [], [], _ => by simp [lkf, txf, txg, okf, wtf, szf]
  | (s, x) :: r, (s', x') :: r', h => by
    obtain ⟨e1, e2, e3, e4, e5, e6, e7, e8⟩ := FLikes.all h.2
    have h0 : s' = s := h.1.1
    subst h0
    have h1 := h.1.2.2.lk
    have h2 := h.1.2.2.tx
    have h3 := h.1.2.2.wt
    have h4 := h.1.2.2.sz
    simp only at h1 h2 h3 h4
    simp only [lkf, txf, txg, okf, wtf, szf, nmE, List.length_cons, h1, h2, e1, e2, e4]
    exact ⟨trivial, trivial, trivial, trivial, ⟨h.1.2.1, h.1.2.2.ok, e5⟩, by omega, by omega, fun seen => by simp only [e8]⟩
  | [], _ :: _, h => h.elim
  | _ :: _, [], h => h.elim
/-- two values of one kind -/
theorem like_mk {k : Int} {b b' : Bool} {i i' : Int} {f f' : Nat} {t t' y y' : ByteArray} {is is' : List V} {fs fs' : List (ByteArray × V)} (h1 : k = 1 → b' = b) (h2 : k = 2 → i' = i) (h3 : k = 3 → f' = f) (h4 : k = 4 → t' = t) (h5 : k = 5 → Likes is is') (h6 : k = 6 → FLikes fs fs')
    (hi : -9223372036854775808 ≤ i' ∧ i' ≤ 9223372036854775807 ∧ f' < 18446744073709551616 ∧ t'.size ≤ 1048576) (ht : t'.size ≤ 1 + t.size) (hy : y'.size ≤ 1) (hk5 : k ≠ 5 → oks is' ∧ wts is' ≤ 1 ∧ szs is' ≤ 1) (hk6 : k ≠ 6 → okf fs' ∧ wtf fs' ≤ 4 ∧ szf fs' ≤ 2) :
    Like (.mk k b i f t y is fs) (.mk k b' i' f' t' y' is' fs') := by
  have a5 : oks is' ∧ wts is' ≤ 16 * wts is + 1 ∧ szs is' ≤ 8 * szs is + 1 := by
    by_cases h : k = 5
    · obtain ⟨_, _, _, _, e5, e6, e7⟩ := (h5 h).all
      exact ⟨e5, by omega, by omega⟩
    · obtain ⟨e5, e6, e7⟩ := hk5 h
      exact ⟨e5, by omega, by omega⟩
  have a6 : okf fs' ∧ wtf fs' ≤ 16 * wtf fs + 4 ∧ szf fs' ≤ 8 * szf fs + 2 := by
    by_cases h : k = 6
    · obtain ⟨_, _, _, _, e5, e6, e7, _⟩ := (h6 h).all
      exact ⟨e5, by omega, by omega⟩
    · obtain ⟨e5, e6, e7⟩ := hk6 h
      exact ⟨e5, by omega, by omega⟩
  refine ⟨?_, ?_, ?_, ?_, ?_⟩
  · simp only [lk]
    by_cases c0 : k = 0 ∨ k = 1 ∨ k = 2
    · rw [if_pos c0, if_pos c0]
    rw [if_neg c0, if_neg c0]
    by_cases c3 : k = 3
    · rw [if_pos c3, if_pos c3, h3 c3]
    rw [if_neg c3, if_neg c3]
    by_cases c4 : k = 4
    · rw [if_pos c4, if_pos c4, h4 c4]
    rw [if_neg c4, if_neg c4]
    by_cases c5 : k = 5
    · rw [if_pos c5, if_pos c5, (h5 c5).all.2.1]
    rw [if_neg c5, if_neg c5]
    by_cases c6 : k = 6
    · rw [if_pos c6, if_pos c6, (h6 c6).all.2.2.2.2.2.2.2 [], (h6 c6).all.2.1]
    rw [if_neg c6, if_neg c6]
  · simp only [tx]
    by_cases c1 : k = 1
    · rw [if_pos c1, if_pos c1, h1 c1]
    rw [if_neg c1, if_neg c1]
    by_cases c2 : k = 2
    · rw [if_pos c2, if_pos c2, h2 c2]
    rw [if_neg c2, if_neg c2]
    by_cases c3 : k = 3
    · rw [if_pos c3, if_pos c3, h3 c3]
    rw [if_neg c3, if_neg c3]
    by_cases c4 : k = 4
    · rw [if_pos c4, if_pos c4, h4 c4]
    rw [if_neg c4, if_neg c4]
    by_cases c5 : k = 5
    · rw [if_pos c5, if_pos c5, (h5 c5).all.2.2.1]
    rw [if_neg c5, if_neg c5]
    by_cases c6 : k = 6
    · rw [if_pos c6, if_pos c6, (h6 c6).all.2.2.1]
    rw [if_neg c6, if_neg c6]
  · simp only [ok]
    exact ⟨⟨hi.1, hi.2.1, hi.2.2.1, hi.2.2.2, by omega⟩, a5.1, a6.1⟩
  · simp only [wt]
    omega
  · simp only [sz]
    omega
/-- what a value of no use holds -/
def nine : V := .mk 9 false 0 0 ⟨#[]⟩ ⟨#[]⟩ [] []
def zeroV : V := .mk 0 false 0 0 ⟨#[]⟩ ⟨#[]⟩ [] []
def blanks : List (ByteArray × V) := [(⟨#[255]⟩, zeroV), (⟨#[255]⟩, zeroV)]
theorem nine_ok : oks [nine] ∧ wts [nine] ≤ 1 ∧ szs [nine] ≤ 1 := by
  simp only [nine, oks, wts, szs, ok, wt, sz, okf, wtf, szf]
  decide
theorem blanks_ok : okf blanks ∧ wtf blanks ≤ 4 ∧ szf blanks ≤ 2 := by
  simp only [blanks, zeroV, okf, wtf, szf, ok, wt, sz, oks, wts, szs]
  decide
end Go.Proofs.YthlncdcfppehcaaDoor.val
end
section
namespace Go.Proofs.YthlncdcfppehcaaDoor.look
open Go.RowKit mem txt app smap val
attribute [local go_sem] run_store_float
set_option linter.unusedVariables false

def LtPost (x : V) (w : World) (e : Ending) (w' : World) : Prop := ∃ x' cs, Like x x' ∧ e = .returned (.agg cs.toArray) ∧ IsV w' (New w.heap.size w') x' cs ∧ Below w.heap.size w w'
theorem five_alloc (w : World) (o1 o2 o3 o4 o5 : Obj) {W : World} (hW : ((((w.alloc o1).alloc o2).alloc o3).alloc o4).alloc o5 = W) : W.heap[w.heap.size]? = some o1 ∧ W.heap[w.heap.size + 1]? = some o2 ∧ W.heap[w.heap.size + 1 + 1]? = some o3 ∧ W.heap[w.heap.size + 1 + 1 + 1]? = some o4 ∧ W.heap[w.heap.size + 1 + 1 + 1 + 1]? = some o5 ∧ Below w.heap.size w W ∧ w.heap.size + 5 = W.heap.size := by
  subst hW
  refine ⟨blk_alloc (blk_alloc (blk_alloc (blk_alloc (heap_alloc_new _ _) _) _) _) _, blk_alloc (blk_alloc (blk_alloc (by simpa using heap_alloc_new (w.alloc o1) o2) _) _) _, blk_alloc (blk_alloc (by simpa using heap_alloc_new ((w.alloc o1).alloc o2) o3) _) _, blk_alloc (by simpa using heap_alloc_new (((w.alloc o1).alloc o2).alloc o3) o4) _, by simpa using heap_alloc_new ((((w.alloc o1).alloc o2).alloc o3).alloc o4) o5, ?_, by simp⟩
  exact (((((Below.refl w.heap.size w).alloc (Nat.le_refl _) _).alloc (by simp) _).alloc (by simp only [World.size_alloc]; omega) _).alloc (by simp only [World.size_alloc]; omega) _).alloc (by simp only [World.size_alloc]; omega) _
theorem set8 {W W' : World} {g : Nat} {t : TypeId} {c0 c1 c2 c3 c4 c5 c6 c7 : Value} (h : W.heap[g]? = some (.cells #[c0, c1, c2, c3, c4, c5, c6, c7] t (0, 0))) (a0 a1 a2 a3 a4 a5 a6 a7 : Value)
    (hW : (((((((W.setCell ⟨g, 0, none⟩ a0).setCell ⟨g, 1, none⟩ a1).setCell ⟨g, 2, none⟩ a2).setCell ⟨g, 3, none⟩ a3).setCell ⟨g, 4, none⟩ a4).setCell ⟨g, 5, none⟩ a5).setCell ⟨g, 6, none⟩ a6).setCell ⟨g, 7, none⟩ a7 = W') :
    W'.heap[g]? = some (.cells #[a0, a1, a2, a3, a4, a5, a6, a7] t (0, 0)) ∧ (∀ k, k ≠ g → W'.heap[k]? = W.heap[k]?) ∧ Below g W W' ∧ W'.heap.size = W.heap.size := by
  subst hW
  refine ⟨?_, fun k hk => ?_, ?_, by simp [World.setCell]⟩
  · simpa using blk_set (blk_set (blk_set (blk_set (blk_set (blk_set (blk_set (blk_set h 0 a0) 1 a1) 2 a2) 3 a3) 4 a4) 5 a5) 6 a6) 7 a7
  · have e := fun (w : World) (j : Nat) (u : Value) => Below.heap_setCell w ⟨g, j, none⟩ u k hk
    simp only [e]
  · have hh := Nat.le_refl g
    exact ((((((((Below.refl g W).setCell hh _).setCell hh _).setCell hh _).setCell hh _).setCell hh _).setCell hh _).setCell hh _).setCell hh _
theorem cells_blk {W : World} {g : Nat} {T : TypeId} {cs : List Value} (h : W.heap[g]? = some (.cells cs.toArray T (0, 0))) (off : Nat) (ds : List Value) (hd : ∀ o u, ds[o]? = some u → cs[off + o]? = some u) : CellsAt W ((⟨g, 0, none⟩ : Addr).add off) ds := fun o u hu => by
  rw [add_add, add_zero_off, cell_of_row W g (off + o) _ T (0, 0) h]
  simpa using hd o u hu
/-- the parts of no use -/
theorem nine_at {W : World} {g B : Nat} (hB : B ≤ g) (h : W.heap[g]? = some (.cells #[.int .i64 9, .bool false, .int .i64 0, .float .f64 0, .string ⟨#[]⟩, .string ⟨#[]⟩, .slice none 0 0, .slice none 0 0] 30 (0, 0))) : IsVs W (New B W) [nine] (some ⟨g, 0, none⟩) 0 := by
  simp only [IsVs, nine, IsV]
  exact ⟨⟨_, _, rfl, ⟨hB, blk_lt h⟩, cells_blk (cs := [.int .i64 9, .bool false, .int .i64 0, .float .f64 0, .string ⟨#[]⟩, .string ⟨#[]⟩, .slice none 0 0, .slice none 0 0]) h _ _ (fun o u hu => by simpa using hu), none, 0, none, 0, rfl, by simp, by simp, trivial, trivial⟩, trivial⟩
theorem blanks_at {W : World} {g B : Nat} (hB : B ≤ g) (h : W.heap[g]? = some (.cells #[.string ⟨#[255]⟩, .int .i64 0, .bool false, .int .i64 0, .float .f64 0, .string ⟨#[]⟩, .string ⟨#[]⟩, .slice none 0 0, .slice none 0 0, .string ⟨#[255]⟩, .int .i64 0, .bool false, .int .i64 0, .float .f64 0, .string ⟨#[]⟩, .string ⟨#[]⟩, .slice none 0 0, .slice none 0 0] 38 (0, 0))) : IsFs W (New B W) blanks (some ⟨g, 0, none⟩) 0 := by
  simp only [IsFs, blanks, zeroV, IsV]
  exact ⟨⟨_, _, rfl, ⟨hB, blk_lt h⟩, cells_blk (cs := [.string ⟨#[255]⟩, .int .i64 0, .bool false, .int .i64 0, .float .f64 0, .string ⟨#[]⟩, .string ⟨#[]⟩, .slice none 0 0, .slice none 0 0, .string ⟨#[255]⟩, .int .i64 0, .bool false, .int .i64 0, .float .f64 0, .string ⟨#[]⟩, .string ⟨#[]⟩, .slice none 0 0, .slice none 0 0]) h _ _ (fun o u hu => by
      have ho := (List.getElem?_eq_some_iff.1 hu).1
      simp only [List.length_cons, List.length_nil] at ho
      rcases o with _ | _ | _ | _ | _ | _ | _ | _ | _ | o
      all_goals first | exact hu | omega), none, 0, none, 0, rfl, by simp, by simp, trivial, trivial⟩,
    ⟨_, _, rfl, ⟨hB, blk_lt h⟩, cells_blk (cs := [.string ⟨#[255]⟩, .int .i64 0, .bool false, .int .i64 0, .float .f64 0, .string ⟨#[]⟩, .string ⟨#[]⟩, .slice none 0 0, .slice none 0 0, .string ⟨#[255]⟩, .int .i64 0, .bool false, .int .i64 0, .float .f64 0, .string ⟨#[]⟩, .string ⟨#[]⟩, .slice none 0 0, .slice none 0 0]) h _ _ (fun o u hu => by
      have ho := (List.getElem?_eq_some_iff.1 hu).1
      simp only [List.length_cons, List.length_nil] at ho
      rcases o with _ | _ | _ | _ | _ | _ | _ | _ | _ | o
      all_goals first | exact hu | omega), none, 0, none, 0, rfl, by simp, by simp, trivial, trivial⟩, trivial⟩
theorem lit_end {w W W' : World} {x : V} {k : Int} {b : Bool} {i : Int} {f : Nat} {t y : ByteArray} {A A' : Option Addr} {c c' : Nat} {is : List V} {fs : List (ByteArray × V)} (hx : Like x (.mk k b i f t y is fs)) (hb : Below w.heap.size w W) (hz : w.heap.size + 2 ≤ W.heap.size)
    (hA : A = none → is.length = 0) (hA' : A' = none → fs.length = 0) (hI : IsVs W (New (w.heap.size + 1 + 1) W) is A 0) (hF : IsFs W (New (w.heap.size + 1 + 1) W) fs A' 0) (h2 : ∀ k, k ≠ w.heap.size + 1 → W'.heap[k]? = W.heap[k]?) (h3 : Below (w.heap.size + 1) W W') (h4 : W'.heap.size = W.heap.size) :
    LtPost x w (.returned (.agg #[.int .i64 k, .bool b, .int .i64 i, .float .f64 f, .string t, .string y, .slice A is.length c, .slice A' fs.length c'])) W' := by
  have hk : ∀ p : Addr, New (w.heap.size + 1 + 1) W p.block → W'.cell? p = W.cell? p := fun p hp => World.cell?_of_block (h2 p.block (by have := hp.1; omega))
  have hn : ∀ q, New (w.heap.size + 1 + 1) W q → New w.heap.size W' q := fun q hq => ⟨by have := hq.1; omega, by have := hq.2; omega⟩
  refine ⟨.mk k b i f t y is fs, [.int .i64 k, .bool b, .int .i64 i, .float .f64 f, .string t, .string y, .slice A is.length c, .slice A' fs.length c'], hx, rfl, ?_, hb.trans (h3.mono (by omega))⟩
  simp only [IsV]
  exact ⟨A, c, A', c', rfl, hA, hA', hI.keep hk hn, hF.keep hk hn⟩
section
variable (b : Bool) (i : Int) (f : Nat) (t y : ByteArray) (A A' : Option Addr) (n m c c' : Nat) (w : World)
set_option maxRecDepth 100000 in
set_option maxHeartbeats 4000000 in
theorem lit_none (k nn : Int) (h1 : k ≠ 1) (h2 : k ≠ 2) (h3 : k ≠ 3) (h4 : k ≠ 4) (h5 : k ≠ 5) (h6 : k ≠ 6) (is : List V) (fs : List (ByteArray × V)) (hok : ok (.mk k b i f t y is fs)) (hn : -4611686018427387904 ≤ nn ∧ nn ≤ 4611686018427387904) : Calls Tryd.prog 13 #[.agg #[.int .i64 k, .bool b, .int .i64 i, .float .f64 f, .string t, .string y, .slice A n c, .slice A' m c'], .int .i64 nn] w (LtPost (.mk k b i f t y is fs) w) := by
  have q1 : (k == 1) = false := beq_false_of_ne h1
  have q2 : (k == 2) = false := beq_false_of_ne h2
  have q3 : (k == 3) = false := beq_false_of_ne h3
  have q4 : (k == 4) = false := beq_false_of_ne h4
  have q5 : (k == 5) = false := beq_false_of_ne h5
  have q6 : (k == 6) = false := beq_false_of_ne h6
  obtain ⟨bb, hbb⟩ : ∃ bb, (nn.tmod 2 == 0) = bb := ⟨_, rfl⟩
  simp only [ok] at hok
  have HBD : Hid (-9223372036854775808 ≤ (nn : Int) ∧ (nn : Int) ≤ 9223372036854775807 ∧ (4602678819172646912 : Nat) < 18446744073709551616 ∧ (⟨#[255]⟩ : ByteArray).size ≤ 1048576) := Lib.hid ⟨by omega, by omega, by omega, by decide⟩
  clear hok
  have HKK := Lib.hid (And.intro h1 (And.intro h2 (And.intro h3 (And.intro h4 (And.intro h5 h6)))))
  clear h1 h2 h3 h4 h5 h6
  go_enter Tryd.func13, Tryd.ntmps13
  go_wp2_with fail
  obtain ⟨W5, hW5⟩ : ∃ W5, (((((w.alloc (.cells #[.int .i64 k, .bool b, .int .i64 i, .float .f64 f, .string t, .string y, .slice A n c, .slice A' m c'] 30)).alloc (.cells #[.int .i64 k, .bool bb, .int .i64 nn, .float .f64 4602678819172646912, .string ⟨#[255]⟩, .string ⟨#[254]⟩, .slice (some ⟨w.heap.size + 1 + 1, 0, none⟩) 1 1, .slice (some ⟨w.heap.size + 1 + 1 + 1, 0, none⟩) 2 2] 30)).alloc (.cells #[.int .i64 9, .bool false, .int .i64 0, .float .f64 0, .string ⟨#[]⟩, .string ⟨#[]⟩, .slice none 0 0, .slice none 0 0] 30)).alloc (.cells #[.string ⟨#[255]⟩, .int .i64 0, .bool false, .int .i64 0, .float .f64 0, .string ⟨#[]⟩, .string ⟨#[]⟩, .slice none 0 0, .slice none 0 0, .string ⟨#[255]⟩, .int .i64 0, .bool false, .int .i64 0, .float .f64 0, .string ⟨#[]⟩, .string ⟨#[]⟩, .slice none 0 0, .slice none 0 0] 38)).alloc (.cells #[.int .i64 k, .bool bb, .int .i64 nn, .float .f64 4602678819172646912, .string ⟨#[255]⟩, .string ⟨#[254]⟩, .slice (some ⟨w.heap.size + 1 + 1, 0, none⟩) 1 1, .slice (some ⟨w.heap.size + 1 + 1 + 1, 0, none⟩) 2 2] 30)) = W5 := ⟨_, rfl⟩
  rw [hW5]
  obtain ⟨g0, g1, g2, g3, g4, hb, hz⟩ := five_alloc w _ _ _ _ _ hW5
  clear hW5
  obtain ⟨o0, o1, o2, o3, o4, o5, o6, o7⟩ := blk8 g1
  have hfin := lit_end (x := .mk k b i f t y is fs) (c := 1) (c' := 2) (W' := W5) (like_mk (b' := bb) (i' := nn) (f' := 4602678819172646912) (t' := ⟨#[255]⟩) (y' := ⟨#[254]⟩) (is' := [nine]) (fs' := blanks) (fun h => absurd h HKK.out.1) (fun h => absurd h HKK.out.2.1) (fun h => absurd h HKK.out.2.2.1) (fun h => absurd h HKK.out.2.2.2.1) (fun h => absurd h HKK.out.2.2.2.2.1) (fun h => absurd h HKK.out.2.2.2.2.2) HBD.out (show (1 : Nat) ≤ 1 + t.size by omega) (by decide) (fun _ => nine_ok) (fun _ => blanks_ok)) hb (by omega) (by simp) (by simp) (nine_at (Nat.le_refl _) g2) (blanks_at (by omega) g3) (fun _ _ => rfl) (Below.refl _ _) rfl
  exact bodyPost_ret (v := .agg #[.int .i64 k, .bool bb, .int .i64 nn, .float .f64 4602678819172646912, .string ⟨#[255]⟩, .string ⟨#[254]⟩, .slice (some ⟨w.heap.size + 1 + 1, 0, none⟩) 1 1, .slice (some ⟨w.heap.size + 1 + 1 + 1, 0, none⟩) 2 2]) (by simp [results, Tryd.results13, go_sem, o0, o1, o2, o3, o4, o5, o6, o7]) rfl hfin
set_option maxRecDepth 100000 in
set_option maxHeartbeats 4000000 in
theorem lit_bool (k nn : Int) (hk : k = 1) (is : List V) (fs : List (ByteArray × V)) (hok : ok (.mk k b i f t y is fs)) (hn : -4611686018427387904 ≤ nn ∧ nn ≤ 4611686018427387904) : Calls Tryd.prog 13 #[.agg #[.int .i64 k, .bool b, .int .i64 i, .float .f64 f, .string t, .string y, .slice A n c, .slice A' m c'], .int .i64 nn] w (LtPost (.mk k b i f t y is fs) w) := by
  have q1 : (k == 1) = true := by rw [hk]; rfl
  have q2 : (k == 2) = false := by rw [hk]; rfl
  have q3 : (k == 3) = false := by rw [hk]; rfl
  have q4 : (k == 4) = false := by rw [hk]; rfl
  have q5 : (k == 5) = false := by rw [hk]; rfl
  have q6 : (k == 6) = false := by rw [hk]; rfl
  obtain ⟨bb, hbb⟩ : ∃ bb, (nn.tmod 2 == 0) = bb := ⟨_, rfl⟩
  simp only [ok] at hok
  have HBD : Hid (-9223372036854775808 ≤ (nn : Int) ∧ (nn : Int) ≤ 9223372036854775807 ∧ (4602678819172646912 : Nat) < 18446744073709551616 ∧ (⟨#[255]⟩ : ByteArray).size ≤ 1048576) := Lib.hid ⟨by omega, by omega, by omega, by decide⟩
  clear hok
  have HKK := Lib.hid hk
  clear hk
  go_enter Tryd.func13, Tryd.ntmps13
  go_wp2_with fail
  obtain ⟨W5, hW5⟩ : ∃ W5, (((((w.alloc (.cells #[.int .i64 k, .bool b, .int .i64 i, .float .f64 f, .string t, .string y, .slice A n c, .slice A' m c'] 30)).alloc (.cells #[.int .i64 k, .bool b, .int .i64 nn, .float .f64 4602678819172646912, .string ⟨#[255]⟩, .string ⟨#[254]⟩, .slice (some ⟨w.heap.size + 1 + 1, 0, none⟩) 1 1, .slice (some ⟨w.heap.size + 1 + 1 + 1, 0, none⟩) 2 2] 30)).alloc (.cells #[.int .i64 9, .bool false, .int .i64 0, .float .f64 0, .string ⟨#[]⟩, .string ⟨#[]⟩, .slice none 0 0, .slice none 0 0] 30)).alloc (.cells #[.string ⟨#[255]⟩, .int .i64 0, .bool false, .int .i64 0, .float .f64 0, .string ⟨#[]⟩, .string ⟨#[]⟩, .slice none 0 0, .slice none 0 0, .string ⟨#[255]⟩, .int .i64 0, .bool false, .int .i64 0, .float .f64 0, .string ⟨#[]⟩, .string ⟨#[]⟩, .slice none 0 0, .slice none 0 0] 38)).alloc (.cells #[.int .i64 k, .bool b, .int .i64 nn, .float .f64 4602678819172646912, .string ⟨#[255]⟩, .string ⟨#[254]⟩, .slice (some ⟨w.heap.size + 1 + 1, 0, none⟩) 1 1, .slice (some ⟨w.heap.size + 1 + 1 + 1, 0, none⟩) 2 2] 30)) = W5 := ⟨_, rfl⟩
  rw [hW5]
  obtain ⟨g0, g1, g2, g3, g4, hb, hz⟩ := five_alloc w _ _ _ _ _ hW5
  clear hW5
  obtain ⟨o0, o1, o2, o3, o4, o5, o6, o7⟩ := blk8 g1
  have hfin := lit_end (x := .mk k b i f t y is fs) (c := 1) (c' := 2) (W' := W5) (like_mk (b' := b) (i' := nn) (f' := 4602678819172646912) (t' := ⟨#[255]⟩) (y' := ⟨#[254]⟩) (is' := [nine]) (fs' := blanks) (fun h => rfl) (fun h => absurd (h.symm.trans HKK.out) (by decide)) (fun h => absurd (h.symm.trans HKK.out) (by decide)) (fun h => absurd (h.symm.trans HKK.out) (by decide)) (fun h => absurd (h.symm.trans HKK.out) (by decide)) (fun h => absurd (h.symm.trans HKK.out) (by decide)) HBD.out (show (1 : Nat) ≤ 1 + t.size by omega) (by decide) (fun _ => nine_ok) (fun _ => blanks_ok)) hb (by omega) (by simp) (by simp) (nine_at (Nat.le_refl _) g2) (blanks_at (by omega) g3) (fun _ _ => rfl) (Below.refl _ _) rfl
  exact bodyPost_ret (v := .agg #[.int .i64 k, .bool b, .int .i64 nn, .float .f64 4602678819172646912, .string ⟨#[255]⟩, .string ⟨#[254]⟩, .slice (some ⟨w.heap.size + 1 + 1, 0, none⟩) 1 1, .slice (some ⟨w.heap.size + 1 + 1 + 1, 0, none⟩) 2 2]) (by simp [results, Tryd.results13, go_sem, o0, o1, o2, o3, o4, o5, o6, o7]) rfl hfin
set_option maxRecDepth 100000 in
set_option maxHeartbeats 4000000 in
theorem lit_int (k nn : Int) (hk : k = 2) (is : List V) (fs : List (ByteArray × V)) (hok : ok (.mk k b i f t y is fs)) (hn : -4611686018427387904 ≤ nn ∧ nn ≤ 4611686018427387904) : Calls Tryd.prog 13 #[.agg #[.int .i64 k, .bool b, .int .i64 i, .float .f64 f, .string t, .string y, .slice A n c, .slice A' m c'], .int .i64 nn] w (LtPost (.mk k b i f t y is fs) w) := by
  have q1 : (k == 1) = false := by rw [hk]; rfl
  have q2 : (k == 2) = true := by rw [hk]; rfl
  have q3 : (k == 3) = false := by rw [hk]; rfl
  have q4 : (k == 4) = false := by rw [hk]; rfl
  have q5 : (k == 5) = false := by rw [hk]; rfl
  have q6 : (k == 6) = false := by rw [hk]; rfl
  obtain ⟨bb, hbb⟩ : ∃ bb, (nn.tmod 2 == 0) = bb := ⟨_, rfl⟩
  simp only [ok] at hok
  have HBD : Hid (-9223372036854775808 ≤ (i : Int) ∧ (i : Int) ≤ 9223372036854775807 ∧ (4602678819172646912 : Nat) < 18446744073709551616 ∧ (⟨#[255]⟩ : ByteArray).size ≤ 1048576) := Lib.hid ⟨by omega, by omega, by omega, by decide⟩
  clear hok
  have HKK := Lib.hid hk
  clear hk
  go_enter Tryd.func13, Tryd.ntmps13
  go_wp2_with fail
  obtain ⟨W5, hW5⟩ : ∃ W5, (((((w.alloc (.cells #[.int .i64 k, .bool b, .int .i64 i, .float .f64 f, .string t, .string y, .slice A n c, .slice A' m c'] 30)).alloc (.cells #[.int .i64 k, .bool bb, .int .i64 i, .float .f64 4602678819172646912, .string ⟨#[255]⟩, .string ⟨#[254]⟩, .slice (some ⟨w.heap.size + 1 + 1, 0, none⟩) 1 1, .slice (some ⟨w.heap.size + 1 + 1 + 1, 0, none⟩) 2 2] 30)).alloc (.cells #[.int .i64 9, .bool false, .int .i64 0, .float .f64 0, .string ⟨#[]⟩, .string ⟨#[]⟩, .slice none 0 0, .slice none 0 0] 30)).alloc (.cells #[.string ⟨#[255]⟩, .int .i64 0, .bool false, .int .i64 0, .float .f64 0, .string ⟨#[]⟩, .string ⟨#[]⟩, .slice none 0 0, .slice none 0 0, .string ⟨#[255]⟩, .int .i64 0, .bool false, .int .i64 0, .float .f64 0, .string ⟨#[]⟩, .string ⟨#[]⟩, .slice none 0 0, .slice none 0 0] 38)).alloc (.cells #[.int .i64 k, .bool bb, .int .i64 i, .float .f64 4602678819172646912, .string ⟨#[255]⟩, .string ⟨#[254]⟩, .slice (some ⟨w.heap.size + 1 + 1, 0, none⟩) 1 1, .slice (some ⟨w.heap.size + 1 + 1 + 1, 0, none⟩) 2 2] 30)) = W5 := ⟨_, rfl⟩
  rw [hW5]
  obtain ⟨g0, g1, g2, g3, g4, hb, hz⟩ := five_alloc w _ _ _ _ _ hW5
  clear hW5
  obtain ⟨o0, o1, o2, o3, o4, o5, o6, o7⟩ := blk8 g1
  have hfin := lit_end (x := .mk k b i f t y is fs) (c := 1) (c' := 2) (W' := W5) (like_mk (b' := bb) (i' := i) (f' := 4602678819172646912) (t' := ⟨#[255]⟩) (y' := ⟨#[254]⟩) (is' := [nine]) (fs' := blanks) (fun h => absurd (h.symm.trans HKK.out) (by decide)) (fun h => rfl) (fun h => absurd (h.symm.trans HKK.out) (by decide)) (fun h => absurd (h.symm.trans HKK.out) (by decide)) (fun h => absurd (h.symm.trans HKK.out) (by decide)) (fun h => absurd (h.symm.trans HKK.out) (by decide)) HBD.out (show (1 : Nat) ≤ 1 + t.size by omega) (by decide) (fun _ => nine_ok) (fun _ => blanks_ok)) hb (by omega) (by simp) (by simp) (nine_at (Nat.le_refl _) g2) (blanks_at (by omega) g3) (fun _ _ => rfl) (Below.refl _ _) rfl
  exact bodyPost_ret (v := .agg #[.int .i64 k, .bool bb, .int .i64 i, .float .f64 4602678819172646912, .string ⟨#[255]⟩, .string ⟨#[254]⟩, .slice (some ⟨w.heap.size + 1 + 1, 0, none⟩) 1 1, .slice (some ⟨w.heap.size + 1 + 1 + 1, 0, none⟩) 2 2]) (by simp [results, Tryd.results13, go_sem, o0, o1, o2, o3, o4, o5, o6, o7]) rfl hfin
set_option maxRecDepth 100000 in
set_option maxHeartbeats 4000000 in
theorem lit_float (k nn : Int) (hk : k = 3) (is : List V) (fs : List (ByteArray × V)) (hok : ok (.mk k b i f t y is fs)) (hn : -4611686018427387904 ≤ nn ∧ nn ≤ 4611686018427387904) : Calls Tryd.prog 13 #[.agg #[.int .i64 k, .bool b, .int .i64 i, .float .f64 f, .string t, .string y, .slice A n c, .slice A' m c'], .int .i64 nn] w (LtPost (.mk k b i f t y is fs) w) := by
  have q1 : (k == 1) = false := by rw [hk]; rfl
  have q2 : (k == 2) = false := by rw [hk]; rfl
  have q3 : (k == 3) = true := by rw [hk]; rfl
  have q4 : (k == 4) = false := by rw [hk]; rfl
  have q5 : (k == 5) = false := by rw [hk]; rfl
  have q6 : (k == 6) = false := by rw [hk]; rfl
  obtain ⟨bb, hbb⟩ : ∃ bb, (nn.tmod 2 == 0) = bb := ⟨_, rfl⟩
  simp only [ok] at hok
  have HBD : Hid (-9223372036854775808 ≤ (nn : Int) ∧ (nn : Int) ≤ 9223372036854775807 ∧ (f : Nat) < 18446744073709551616 ∧ (⟨#[255]⟩ : ByteArray).size ≤ 1048576) := Lib.hid ⟨by omega, by omega, by omega, by decide⟩
  clear hok
  have HKK := Lib.hid hk
  clear hk
  go_enter Tryd.func13, Tryd.ntmps13
  go_wp2_with fail
  obtain ⟨W5, hW5⟩ : ∃ W5, (((((w.alloc (.cells #[.int .i64 k, .bool b, .int .i64 i, .float .f64 f, .string t, .string y, .slice A n c, .slice A' m c'] 30)).alloc (.cells #[.int .i64 k, .bool bb, .int .i64 nn, .float .f64 f, .string ⟨#[255]⟩, .string ⟨#[254]⟩, .slice (some ⟨w.heap.size + 1 + 1, 0, none⟩) 1 1, .slice (some ⟨w.heap.size + 1 + 1 + 1, 0, none⟩) 2 2] 30)).alloc (.cells #[.int .i64 9, .bool false, .int .i64 0, .float .f64 0, .string ⟨#[]⟩, .string ⟨#[]⟩, .slice none 0 0, .slice none 0 0] 30)).alloc (.cells #[.string ⟨#[255]⟩, .int .i64 0, .bool false, .int .i64 0, .float .f64 0, .string ⟨#[]⟩, .string ⟨#[]⟩, .slice none 0 0, .slice none 0 0, .string ⟨#[255]⟩, .int .i64 0, .bool false, .int .i64 0, .float .f64 0, .string ⟨#[]⟩, .string ⟨#[]⟩, .slice none 0 0, .slice none 0 0] 38)).alloc (.cells #[.int .i64 k, .bool bb, .int .i64 nn, .float .f64 f, .string ⟨#[255]⟩, .string ⟨#[254]⟩, .slice (some ⟨w.heap.size + 1 + 1, 0, none⟩) 1 1, .slice (some ⟨w.heap.size + 1 + 1 + 1, 0, none⟩) 2 2] 30)) = W5 := ⟨_, rfl⟩
  rw [hW5]
  obtain ⟨g0, g1, g2, g3, g4, hb, hz⟩ := five_alloc w _ _ _ _ _ hW5
  clear hW5
  obtain ⟨o0, o1, o2, o3, o4, o5, o6, o7⟩ := blk8 g1
  have hfin := lit_end (x := .mk k b i f t y is fs) (c := 1) (c' := 2) (W' := W5) (like_mk (b' := bb) (i' := nn) (f' := f) (t' := ⟨#[255]⟩) (y' := ⟨#[254]⟩) (is' := [nine]) (fs' := blanks) (fun h => absurd (h.symm.trans HKK.out) (by decide)) (fun h => absurd (h.symm.trans HKK.out) (by decide)) (fun h => rfl) (fun h => absurd (h.symm.trans HKK.out) (by decide)) (fun h => absurd (h.symm.trans HKK.out) (by decide)) (fun h => absurd (h.symm.trans HKK.out) (by decide)) HBD.out (show (1 : Nat) ≤ 1 + t.size by omega) (by decide) (fun _ => nine_ok) (fun _ => blanks_ok)) hb (by omega) (by simp) (by simp) (nine_at (Nat.le_refl _) g2) (blanks_at (by omega) g3) (fun _ _ => rfl) (Below.refl _ _) rfl
  exact bodyPost_ret (v := .agg #[.int .i64 k, .bool bb, .int .i64 nn, .float .f64 f, .string ⟨#[255]⟩, .string ⟨#[254]⟩, .slice (some ⟨w.heap.size + 1 + 1, 0, none⟩) 1 1, .slice (some ⟨w.heap.size + 1 + 1 + 1, 0, none⟩) 2 2]) (by simp [results, Tryd.results13, go_sem, o0, o1, o2, o3, o4, o5, o6, o7]) rfl hfin
set_option maxRecDepth 100000 in
set_option maxHeartbeats 4000000 in
theorem lit_text (k nn : Int) (hk : k = 4) (is : List V) (fs : List (ByteArray × V)) (hok : ok (.mk k b i f t y is fs)) (hn : -4611686018427387904 ≤ nn ∧ nn ≤ 4611686018427387904) : Calls Tryd.prog 13 #[.agg #[.int .i64 k, .bool b, .int .i64 i, .float .f64 f, .string t, .string y, .slice A n c, .slice A' m c'], .int .i64 nn] w (LtPost (.mk k b i f t y is fs) w) := by
  have q1 : (k == 1) = false := by rw [hk]; rfl
  have q2 : (k == 2) = false := by rw [hk]; rfl
  have q3 : (k == 3) = false := by rw [hk]; rfl
  have q4 : (k == 4) = true := by rw [hk]; rfl
  have q5 : (k == 5) = false := by rw [hk]; rfl
  have q6 : (k == 6) = false := by rw [hk]; rfl
  obtain ⟨bb, hbb⟩ : ∃ bb, (nn.tmod 2 == 0) = bb := ⟨_, rfl⟩
  simp only [ok] at hok
  have HBD : Hid (-9223372036854775808 ≤ (nn : Int) ∧ (nn : Int) ≤ 9223372036854775807 ∧ (4602678819172646912 : Nat) < 18446744073709551616 ∧ (t : ByteArray).size ≤ 1048576) := Lib.hid ⟨by omega, by omega, by omega, by omega⟩
  clear hok
  have HKK := Lib.hid hk
  clear hk
  go_enter Tryd.func13, Tryd.ntmps13
  go_wp2_with fail
  obtain ⟨W5, hW5⟩ : ∃ W5, (((((w.alloc (.cells #[.int .i64 k, .bool b, .int .i64 i, .float .f64 f, .string t, .string y, .slice A n c, .slice A' m c'] 30)).alloc (.cells #[.int .i64 k, .bool bb, .int .i64 nn, .float .f64 4602678819172646912, .string t, .string ⟨#[254]⟩, .slice (some ⟨w.heap.size + 1 + 1, 0, none⟩) 1 1, .slice (some ⟨w.heap.size + 1 + 1 + 1, 0, none⟩) 2 2] 30)).alloc (.cells #[.int .i64 9, .bool false, .int .i64 0, .float .f64 0, .string ⟨#[]⟩, .string ⟨#[]⟩, .slice none 0 0, .slice none 0 0] 30)).alloc (.cells #[.string ⟨#[255]⟩, .int .i64 0, .bool false, .int .i64 0, .float .f64 0, .string ⟨#[]⟩, .string ⟨#[]⟩, .slice none 0 0, .slice none 0 0, .string ⟨#[255]⟩, .int .i64 0, .bool false, .int .i64 0, .float .f64 0, .string ⟨#[]⟩, .string ⟨#[]⟩, .slice none 0 0, .slice none 0 0] 38)).alloc (.cells #[.int .i64 k, .bool bb, .int .i64 nn, .float .f64 4602678819172646912, .string t, .string ⟨#[254]⟩, .slice (some ⟨w.heap.size + 1 + 1, 0, none⟩) 1 1, .slice (some ⟨w.heap.size + 1 + 1 + 1, 0, none⟩) 2 2] 30)) = W5 := ⟨_, rfl⟩
  rw [hW5]
  obtain ⟨g0, g1, g2, g3, g4, hb, hz⟩ := five_alloc w _ _ _ _ _ hW5
  clear hW5
  obtain ⟨o0, o1, o2, o3, o4, o5, o6, o7⟩ := blk8 g1
  have hfin := lit_end (x := .mk k b i f t y is fs) (c := 1) (c' := 2) (W' := W5) (like_mk (b' := bb) (i' := nn) (f' := 4602678819172646912) (t' := t) (y' := ⟨#[254]⟩) (is' := [nine]) (fs' := blanks) (fun h => absurd (h.symm.trans HKK.out) (by decide)) (fun h => absurd (h.symm.trans HKK.out) (by decide)) (fun h => absurd (h.symm.trans HKK.out) (by decide)) (fun h => rfl) (fun h => absurd (h.symm.trans HKK.out) (by decide)) (fun h => absurd (h.symm.trans HKK.out) (by decide)) HBD.out (by omega) (by decide) (fun _ => nine_ok) (fun _ => blanks_ok)) hb (by omega) (by simp) (by simp) (nine_at (Nat.le_refl _) g2) (blanks_at (by omega) g3) (fun _ _ => rfl) (Below.refl _ _) rfl
  exact bodyPost_ret (v := .agg #[.int .i64 k, .bool bb, .int .i64 nn, .float .f64 4602678819172646912, .string t, .string ⟨#[254]⟩, .slice (some ⟨w.heap.size + 1 + 1, 0, none⟩) 1 1, .slice (some ⟨w.heap.size + 1 + 1 + 1, 0, none⟩) 2 2]) (by simp [results, Tryd.results13, go_sem, o0, o1, o2, o3, o4, o5, o6, o7]) rfl hfin
end
end Go.Proofs.YthlncdcfppehcaaDoor.look
end
section
namespace Go.Proofs.YthlncdcfppehcaaDoor.look
open Go.RowKit mem txt app smap val
attribute [local go_sem] run_store_float
set_option linter.unusedVariables false

/-- while the new list grows -/
structure LvSt (w : World) (vb : Array Value) (cur : Value → Array Value) (vv : Value) (css : List (List Value)) (done : List V) (W : World) : Prop where
  be : Below w.heap.size w W
  box : W.heap[w.heap.size]? = some (.cells vb 30 (0, 0))
  res : W.heap[w.heap.size + 1]? = some (.cells #[.int .i64 0, .bool false, .int .i64 0, .float .f64 0, .string ⟨#[]⟩, .string ⟨#[]⟩, .slice none 0 0, .slice none 0 0] 30 (0, 0))
  j3 : W.heap[w.heap.size + 1 + 1 + 1]? = some (.cells #[.string ⟨#[255]⟩, .int .i64 0, .bool false, .int .i64 0, .float .f64 0, .string ⟨#[]⟩, .string ⟨#[]⟩, .slice none 0 0, .slice none 0 0, .string ⟨#[255]⟩, .int .i64 0, .bool false, .int .i64 0, .float .f64 0, .string ⟨#[]⟩, .string ⟨#[]⟩, .slice none 0 0, .slice none 0 0] 38 (0, 0))
  cu : W.heap[w.heap.size + 1 + 1 + 1 + 1]? = some (.cells (cur vv) 30 (0, 0))
  own : W.ownsRow (w.heap.size + 5) 30 8 vv done.length css.flatten
  el : Elems IsV W (val.Kids W (w.heap.size + 5) vv) done css
  sz : w.heap.size + 5 ≤ W.heap.size
theorem LvSt.below {w W W' : World} {vb : Array Value} {cur : Value → Array Value} {vv : Value} {css : List (List Value)} {done : List V} (h : LvSt w vb cur vv css done W) (hb : Below W.heap.size W W') : LvSt w vb cur vv css done W' :=
  ⟨h.be.trans (hb.mono h.be.size), blk_below h.box hb (blk_lt h.box), blk_below h.res hb (blk_lt h.res), blk_below h.j3 hb (blk_lt h.j3), blk_below h.cu hb (blk_lt h.cu), own_below h.own hb, h.el.below recV hb, Nat.le_trans h.sz hb.size⟩
theorem LvSt.grow {w W w5 : World} {o : Obj} {vb : Array Value} {cur : Value → Array Value} {vv : Value} {css : List (List Value)} {done : List V} (h : LvSt w vb cur vv css done W) (hg : (W.alloc o).grownBy w5 vv.ownBlock) : w5.heap[w.heap.size + 1 + 1 + 1 + 1]? = some (.cells (cur vv) 30 (0, 0)) :=
  blk_grown (blk_alloc h.cu _) hg (own_ne h.own (by omega))
theorem LvSt.step {w W w5 : World} {o : Obj} {vb : Array Value} {cur : Value → Array Value} {vv v' : Value} {css : List (List Value)} {done : List V} {x : V} {cs : List Value} (h : LvSt w vb cur vv css done W) (hg : (W.alloc o).grownBy w5 vv.ownBlock)
    (hat : v'.ownBlock = vv.ownBlock ∨ v'.ownBlock = some (W.alloc o).heap.size) (hown : w5.ownsRow (w.heap.size + 5) 30 8 v' (done.length + 1) (css.flatten ++ cs)) (hx : IsV W (val.Kids W (w.heap.size + 5) vv) x cs) (hc : (cur vv).setIfInBounds 6 v' = cur v') :
    LvSt w vb cur v' (css ++ [cs]) (done ++ [x]) (w5.setCell ⟨w.heap.size + 1 + 1 + 1 + 1, 6, none⟩ v') := by
  have hne : ∀ g, g < w.heap.size + 5 → some g ≠ vv.ownBlock := fun g hg => own_ne h.own hg
  have hs := hg.size
  have hs2 := h.sz
  have far : ∀ {g : Nat} {o' : Obj}, W.heap[g]? = some o' → g < w.heap.size + 1 + 1 + 1 + 1 → (w5.setCell ⟨w.heap.size + 1 + 1 + 1 + 1, 6, none⟩ v').heap[g]? = some o' := fun hgg hl => blk_far (blk_grown (blk_alloc hgg _) hg (hne _ (by omega))) (show _ ≠ w.heap.size + 1 + 1 + 1 + 1 by omega) _
  refine ⟨?_, far h.box (by omega), far h.res (by omega), far h.j3 (by omega), ?_, ?_, ?_, by simp [World.setCell] at hs ⊢; omega⟩
  · exact ((h.be.alloc (by omega) _).grown hg (by simp; omega) (fun kk hkk => by have := (h.own.lt kk hkk).1; omega)).setCell (show w.heap.size ≤ w.heap.size + 1 + 1 + 1 + 1 by omega) _
  · rw [← hc]
    exact blk_set (h.grow hg) 6 v'
  · rw [List.length_append, List.flatten_append]
    have hown2 : w5.ownsRow (w.heap.size + 5) 30 8 v' (done.length + [x].length) (css.flatten ++ [cs].flatten) := by simpa using hown
    exact ownsRow_setCell_below hown2 (show w.heap.size + 1 + 1 + 1 + 1 < w.heap.size + 5 by omega) _
  · exact (Elems.app recV h.el hx hg hat).low recV (show w.heap.size + 1 + 1 + 1 + 1 < w.heap.size + 5 by omega) _
theorem infoV : (Tryd.prog.info? 30).map (fun i => (i.zero, i.size, i.bytes)) = some (some (.agg #[.int .i64 0, .bool false, .int .i64 0, .float .f64 0, .string ⟨#[]⟩, .string ⟨#[]⟩, .slice none 0 0, .slice none 0 0]), 8, 112) := by kernel_rfl
section
variable (b : Bool) (i : Int) (f : Nat) (t y : ByteArray) (A A' : Option Addr) (n m c c' : Nat) (w : World) (S : Nat → Prop)
set_option maxRecDepth 100000 in
set_option maxHeartbeats 4000000 in
theorem lit_list (k nn : Int) (hk : k = 5) (is : List V) (fs : List (ByteArray × V)) (hl : is.length = n) (hn2 : n ≤ 1048576) (hI : IsVs w S is A 0) (hS : Bel S w.heap.size) (hn : -4611686018427387904 ≤ nn ∧ nn + 1048576 ≤ 4611686018427387904)
    (hR : ∀ (W : World) (x : V) (cs : List Value) (q : Nat), q < n → Below w.heap.size w W → x ∈ is → IsV W S x cs → Calls Tryd.prog 13 #[.agg cs.toArray, .int .i64 (nn + (q : Int))] W (LtPost x W)) :
    Calls Tryd.prog 13 #[.agg #[.int .i64 k, .bool b, .int .i64 i, .float .f64 f, .string t, .string y, .slice A n c, .slice A' m c'], .int .i64 nn] w (LtPost (.mk k b i f t y is fs) w) := by
  obtain ⟨iv, hiv, hv0, hv1, hv2⟩ := info_parts infoV
  have q1 : (k == 1) = false := by rw [hk]; rfl
  have q2 : (k == 2) = false := by rw [hk]; rfl
  have q3 : (k == 3) = false := by rw [hk]; rfl
  have q4 : (k == 4) = false := by rw [hk]; rfl
  have q5 : (k == 5) = true := by rw [hk]; rfl
  have q6 : (k == 6) = false := by rw [hk]; rfl
  obtain ⟨bb, hbb⟩ : ∃ bb, (nn.tmod 2 == 0) = bb := ⟨_, rfl⟩
  have HKK := Lib.hid hk
  have HI := Lib.hid hI
  have HS := Lib.hid hS
  have HR := Lib.hid hR
  have HN := Lib.hid hl
  clear hk hI hS hR hl
  go_enter Tryd.func13, Tryd.ntmps13
  go_wp2_with fail
  obtain ⟨W5, hW5⟩ : ∃ W5, (((((w.alloc (.cells #[.int .i64 k, .bool b, .int .i64 i, .float .f64 f, .string t, .string y, .slice A n c, .slice A' m c'] 30)).alloc (.cells #[.int .i64 0, .bool false, .int .i64 0, .float .f64 0, .string ⟨#[]⟩, .string ⟨#[]⟩, .slice none 0 0, .slice none 0 0] 30)).alloc (.cells #[.int .i64 9, .bool false, .int .i64 0, .float .f64 0, .string ⟨#[]⟩, .string ⟨#[]⟩, .slice none 0 0, .slice none 0 0] 30)).alloc (.cells #[.string ⟨#[255]⟩, .int .i64 0, .bool false, .int .i64 0, .float .f64 0, .string ⟨#[]⟩, .string ⟨#[]⟩, .slice none 0 0, .slice none 0 0, .string ⟨#[255]⟩, .int .i64 0, .bool false, .int .i64 0, .float .f64 0, .string ⟨#[]⟩, .string ⟨#[]⟩, .slice none 0 0, .slice none 0 0] 38)).alloc (.cells #[.int .i64 k, .bool bb, .int .i64 nn, .float .f64 4602678819172646912, .string ⟨#[255]⟩, .string ⟨#[254]⟩, .slice none 0 0, .slice (some ⟨w.heap.size + 1 + 1 + 1, 0, none⟩) 2 2] 30)) = W5 := ⟨_, rfl⟩
  rw [hW5]
  obtain ⟨g0, g1, g2, g3, g4, hb, hz⟩ := five_alloc w _ _ _ _ _ hW5
  have HST : Hid (LvSt w #[.int .i64 k, .bool b, .int .i64 i, .float .f64 f, .string t, .string y, .slice A n c, .slice A' m c'] (fun vv => #[.int .i64 k, .bool bb, .int .i64 nn, .float .f64 4602678819172646912, .string ⟨#[255]⟩, .string ⟨#[254]⟩, vv, .slice (some ⟨w.heap.size + 1 + 1 + 1, 0, none⟩) 2 2]) (.slice none 0 0) [] [] W5) := Lib.hid ⟨hb, g0, g1, g3, g4, World.ownsRow_nil _ _ _ _, Elems.nil, by omega⟩
  clear hW5 g0 g1 g2 g3 g4 hb hz hbb
  go_loopw [6] (fun v6 wr => ∃ (q : Nat) (vv : Value) (css : List (List Value)) (done : List V), q ≤ n ∧ v6 = .int .i64 (q : Int) ∧ done.length = q ∧ Hid (Likes (is.take q) done) ∧ Hid (LvSt w #[.int .i64 k, .bool b, .int .i64 i, .float .f64 f, .string t, .string y, .slice A n c, .slice A' m c'] (fun vv => #[.int .i64 k, .bool bb, .int .i64 nn, .float .f64 4602678819172646912, .string ⟨#[255]⟩, .string ⟨#[254]⟩, vv, .slice (some ⟨w.heap.size + 1 + 1 + 1, 0, none⟩) 2 2]) vv css done wr)) (fun v _ => n - (intOf v).toNat)
  case atStart => exact ⟨0, _, [], [], Nat.zero_le _, rfl, rfl, Lib.hid (by simp [Likes]), HST⟩
  case round =>
    clear HST
    obtain ⟨q, vv, css, done, hq, rfl, hdl, HL, HC⟩ := hrel
    obtain ⟨m0, m1, m2, m3, m4, m5, m6, m7⟩ := blk8 HC.out.box
    have hszr := HC.out.sz
    by_cases hlt : q < n
    · obtain ⟨x, hx⟩ : ∃ p, is[q]? = some p := ⟨_, List.getElem?_eq_getElem (by rw [HN.out]; exact hlt)⟩
      obtain ⟨ad, cs, rfl, hadB, hcs, hvx⟩ := (HI.out.below HS.out HC.out.be).at_ hx
      rw [Nat.zero_add] at hcs
      have hadw : ad.block < w.heap.size := HS.out _ hadB
      have HRX := Lib.hid (fun (W : World) (hW : Below wr.heap.size wr W) => HR.out W x cs q hlt (HC.out.be.trans (hW.mono (by omega))) (List.mem_of_getElem? hx) (hvx.below (HS.out.mono (by omega)) hW))
      have HX := Lib.hid hx
      obtain ⟨k2, b2, i2, f2, t2, y2, is2, fs2⟩ := x
      simp only [IsV] at hvx
      obtain ⟨A2, c2, A2', c2', rfl, _⟩ := hvx
      obtain ⟨d0, d1, d2, d3, d4, d5, d6, d7⟩ := hcs.eight
      have hq0 : (0 : Int) ≤ (q : Int) := by omega
      have hqn : (q : Int) < (n : Int) := by omega
      clear hcs hx
      go_wp2_with fail
      refine (HRX.out wr (Below.refl _ _)).mono ?_
      rintro e wc ⟨x', cs', hlk, rfl, hV', hb2⟩
      have HLK := Lib.hid hlk
      have HV := Lib.hid hV'
      obtain ⟨k3, b3, i3, f3, t3, y3, is3, fs3⟩ := x'
      simp only [IsV] at hV'
      obtain ⟨A3, c3, A3', c3', rfl, _⟩ := hV'
      have hb3 : Below wr.heap.size wr (wc.alloc (.cells #[.int .i64 k3, .bool b3, .int .i64 i3, .float .f64 f3, .string t3, .string y3, .slice A3 is3.length c3, .slice A3' fs3.length c3'] 30)) := hb2.alloc hb2.size _
      have hb4 : Below wc.heap.size wc (wc.alloc (.cells #[.int .i64 k3, .bool b3, .int .i64 i3, .float .f64 f3, .string t3, .string y3, .slice A3 is3.length c3, .slice A3' fs3.length c3'] 30)) := (Below.refl _ _).alloc (Nat.le_refl _) _
      have gX := heap_alloc_new wc (.cells #[.int .i64 k3, .bool b3, .int .i64 i3, .float .f64 f3, .string t3, .string y3, .slice A3 is3.length c3, .slice A3' fs3.length c3'] 30)
      have hzc := hb2.size
      have HV2 : Hid (IsV (wc.alloc (.cells #[.int .i64 k3, .bool b3, .int .i64 i3, .float .f64 f3, .string t3, .string y3, .slice A3 is3.length c3, .slice A3' fs3.length c3'] 30)) (New wr.heap.size wc) (.mk k3 b3 i3 f3 t3 y3 is3 fs3) [.int .i64 k3, .bool b3, .int .i64 i3, .float .f64 f3, .string t3, .string y3, .slice A3 is3.length c3, .slice A3' fs3.length c3']) := Lib.hid (HV.out.keep (fun p hp => hb4.cell hp.2) (fun _ h => h))
      have hzd : wc.heap.size + 1 = (wc.alloc (.cells #[.int .i64 k3, .bool b3, .int .i64 i3, .float .f64 f3, .string t3, .string y3, .slice A3 is3.length c3, .slice A3' fs3.length c3'] 30)).heap.size := by simp
      clear d0 d1 d2 d3 d4 d5 d6 d7 m0 m1 m2 m3 m4 m5 m6 m7 HRX hlk hb2 hb4 HV
      obtain ⟨wd, hwd⟩ : ∃ wd, wc.alloc (.cells #[.int .i64 k3, .bool b3, .int .i64 i3, .float .f64 f3, .string t3, .string y3, .slice A3 is3.length c3, .slice A3' fs3.length c3'] 30) = wd := ⟨_, rfl⟩
      rw [hwd] at hb3 gX HV2 hzd
      have HD := Lib.hid (HC.out.below hb3)
      have HWD := Lib.hid hwd
      have HDL := Lib.hid hdl
      obtain ⟨m0, m1, m2, m3, m4, m5, m6, m7⟩ := blk8 HD.out.box
      obtain ⟨n0, n1, n2, n3, n4, n5, n6, n7⟩ := blk8 HD.out.cu
      obtain ⟨s0, s1, s2, s3, s4, s5, s6, s7⟩ := blk8 gX
      have hzr := HC.out.sz
      have hcl : wc.heap.size < wd.heap.size := by omega
      clear hwd gX hb3
      go_upto_region 17 with (fail)
      rw [HWD.out]
      have hlen0 : done.length = q := HDL.out
      go_wp2_with (at_builtin; go_must (refine wpList_app (wd.alloc (.cells #[.int .i64 k3, .bool b3, .int .i64 i3, .float .f64 f3, .string t3, .string y3, .slice A3 is3.length c3, .slice A3' fs3.length c3'] 30)) rfl (.tmp 64) (.tmp 66) _ rfl (w.heap.size + 5) 30 iv _ 8 112 Tryd.underlying22 hiv hv0 hv1 hv2 rfl (by omega) vv done.length css.flatten rfl (HD.out.own.alloc _) (wd.heap.size + 1) (some ⟨wd.heap.size, 0, none⟩) 1 1 [.int .i64 k3, .bool b3, .int .i64 i3, .float .f64 f3, .string t3, .string y3, .slice A3 is3.length c3, .slice A3' fs3.length c3'] rfl rfl (Rd.new wd [.int .i64 k3, .bool b3, .int .i64 i3, .float .f64 f3, .string t3, .string y3, .slice A3 is3.length c3, .slice A3' fs3.length c3'] 30) (by simp) (isV_one HV2.out) (by unfold maxLen; omega) (by omega) (by simp; omega) ?_; intro v' w5 hown' hgrow hat; have HO' := Lib.hid hown'; have HG' := Lib.hid hgrow; have HA' := Lib.hid hat; have R3w := HD.out.grow hgrow; have j6w := (blk8 R3w).2.2.2.2.2.2.1; have jfw := blk_frozen R3w 6; obtain ⟨A5, c5, rfl, _, _, _⟩ := own_form hown'; clear hown' hgrow hat R3w))
      have hst := HD.out.step HG'.out HA'.out HO'.out (HV2.out.more (fun b hb => (show val.Kids wd (w.heap.size + 5) vv b from ⟨by have := hb.1; omega, by have := hb.2; omega, fun e => by have := (HC.out.own.lt b e).2; have := hb.1; omega⟩))) (by simp)
      rw [hlen0] at hst
      have HLL : Hid (Likes (is.take (q + 1)) (done ++ [.mk k3 b3 i3 f3 t3 y3 is3 fs3])) := Lib.hid (by rw [List.take_add_one, HX.out]; exact Likes.snoc HLK.out HL.out)
      exact ⟨⟨q + 1, _, _, _, by omega, by go_num, by simp [HDL.out], HLL, Lib.hid hst⟩, by simp [intOf]; omega⟩
    · obtain rfl : q = n := by omega
      have hT : is.take q = is := List.take_of_length_le (by rw [HN.out]; exact Nat.le_refl _)
      rw [hT] at HL
      obtain ⟨A1, c1, rfl, hA1, _⟩ := own_form HC.out.own
      obtain ⟨n0, n1, n2, n3, n4, n5, n6, n7⟩ := blk8 HC.out.cu
      obtain ⟨o0, o1, o2, o3, o4, o5, o6, o7⟩ := blk8 HC.out.res
      have of0 := blk_frozen HC.out.res 0
      have of1 := blk_frozen HC.out.res 1
      have of2 := blk_frozen HC.out.res 2
      have of3 := blk_frozen HC.out.res 3
      have of4 := blk_frozen HC.out.res 4
      have of5 := blk_frozen HC.out.res 5
      have of6 := blk_frozen HC.out.res 6
      have of7 := blk_frozen HC.out.res 7
      go_wp2_with fail
      obtain ⟨W', hW'⟩ : ∃ W', (((((((wr.setCell ⟨w.heap.size + 1, 0, none⟩ (.int .i64 k)).setCell ⟨w.heap.size + 1, 1, none⟩ (.bool bb)).setCell ⟨w.heap.size + 1, 2, none⟩ (.int .i64 nn)).setCell ⟨w.heap.size + 1, 3, none⟩ (.float .f64 4602678819172646912)).setCell ⟨w.heap.size + 1, 4, none⟩ (.string ⟨#[255]⟩)).setCell ⟨w.heap.size + 1, 5, none⟩ (.string ⟨#[254]⟩)).setCell ⟨w.heap.size + 1, 6, none⟩ (.slice A1 q c1)).setCell ⟨w.heap.size + 1, 7, none⟩ (.slice (some ⟨w.heap.size + 1 + 1 + 1, 0, none⟩) 2 2) = W' := ⟨_, rfl⟩
      rw [hW']
      obtain ⟨e1, e2, e3, e4⟩ := set8 HC.out.res _ _ _ _ _ _ _ _ hW'
      have hI' := own_isVs HC.out.own HC.out.el
      have hF' := blanks_at (B := w.heap.size + 1 + 1) (by omega) HC.out.j3
      have hall := HL.out.all
      have hx : Like (.mk k b i f t y is fs) (.mk k bb nn 4602678819172646912 ⟨#[255]⟩ ⟨#[254]⟩ done blanks) :=
        like_mk (fun h => absurd (h.symm.trans HKK.out) (by decide)) (fun h => absurd (h.symm.trans HKK.out) (by decide)) (fun h => absurd (h.symm.trans HKK.out) (by decide)) (fun h => absurd (h.symm.trans HKK.out) (by decide)) (fun _ => HL.out) (fun h => absurd (h.symm.trans HKK.out) (by decide))
          ⟨by omega, by omega, by omega, by decide⟩ (show (1 : Nat) ≤ 1 + t.size by omega) (by decide) (fun h => absurd HKK.out h) (fun _ => blanks_ok)
      have hfin := lit_end (c := c1) (c' := 2) (W' := W') hx HC.out.be (by have := HC.out.sz; omega) hA1 (by simp) (hI'.keep (fun _ _ => rfl) (fun b hb => (show New (w.heap.size + 1 + 1) wr b from ⟨by have := hb.1; omega, hb.2⟩))) hF' e2 e3 e4
      rw [hdl] at hfin
      obtain ⟨p0, p1, p2, p3, p4, p5, p6, p7⟩ := blk8 e1
      exact bodyPost_ret (v := .agg #[.int .i64 k, .bool bb, .int .i64 nn, .float .f64 4602678819172646912, .string ⟨#[255]⟩, .string ⟨#[254]⟩, .slice A1 q c1, .slice (some ⟨w.heap.size + 1 + 1 + 1, 0, none⟩) 2 2]) (by simp [results, Tryd.results13, go_sem, p0, p1, p2, p3, p4, p5, p6, p7]) rfl hfin
end
end Go.Proofs.YthlncdcfppehcaaDoor.look
end
