/- Lists of records in a row of the call's own, their parts in old blocks: read and written on. tree.own of any value; tree.children; tree.Sound. tree.Sound of any value; JsonoutRefuses of any value. -/
import Derived.Test.YthlncdcfppehcaaDoorGOwn
import Derived.Test.YthlncdcfppehcaaDoorGArr
import Derived.Test.YthlncdcfppehcaaDoorGRfu
import Derived.Test.YthlncdcfppehcaaDoorGTow
import Derived.Test.YthlncdcfppehcaaDoorGSpl
import Derived.Test.YthlncdcfppehcaaDoorYRsz
import Derived.Test.YthlncdcfppehcaaDoorGSzp
import Derived.Test.YthlncdcfppehcaaDoorGDfq
section
namespace Go.Proofs.YthlncdcfppehcaaDoor.val
open Go.RowKit mem app
set_option linter.unusedVariables false

/-- the row's block afterwards: the same, or a new one -/
def Nx (w : World) (v v' : Value) : Prop := v'.ownBlock = v.ownBlock ∨ ∃ k, v'.ownBlock = some k ∧ w.heap.size ≤ k
theorem Nx.refl (w : World) (v : Value) : Nx w v v := .inl rfl
theorem Nx.trans {w w1 : World} {v v1 v2 : Value} (h : Nx w v v1) (hw : w.heap.size ≤ w1.heap.size) (h2 : Nx w1 v1 v2) : Nx w v v2 := by
  rcases h2 with e | ⟨j, e, hj⟩
  · rcases h with e1 | ⟨i, e1, hi⟩
    · exact .inl (e.trans e1)
    · exact .inr ⟨i, e.trans e1, hi⟩
  · exact .inr ⟨j, e, by omega⟩
theorem gtrans {w w1 w2 : World} {v v1 : Value} (h : w.grownBy w1 v.ownBlock) (hn : Nx w v v1) (h2 : w1.grownBy w2 v1.ownBlock) : w.grownBy w2 v.ownBlock :=
  ⟨h2.os.trans h.os, h2.tape.trans h.tape, h2.output.trans h.output, Nat.le_trans h.size h2.size, fun k hk hne => by
    have h1 := h.block k hk hne
    refine (h2.block k (Nat.lt_of_lt_of_le hk h.size) ?_).trans h1
    rcases hn with e | ⟨j, e, hj⟩
    · rw [e]; exact hne
    · rw [e]
      intro h3
      injection h3 with h3
      omega⟩
theorem galloc (w : World) (o : Obj) (row : Option Nat) : w.grownBy (w.alloc o) row := ⟨rfl, rfl, rfl, by simp, fun k hk _ => Lib.alloc_old w o k hk⟩
theorem gbelow {w w' : World} (h : Below w.heap.size w w') (row : Option Nat) : w.grownBy w' row := ⟨h.os, h.tape, h.output, h.size, fun k hk _ => h.block k hk⟩
/-- an owned list of records; their parts lie in S -/
def Row {α : Type} (T : TypeId) (size : Nat) (R : World → (Nat → Prop) → α → List Value → Prop) (w : World) (B : Nat) (S : Nat → Prop) (v : Value) (l : List α) : Prop :=
  ∃ css, w.ownsRow B T size v l.length css.flatten ∧ Elems R w S l css
section
variable {α : Type} {T : TypeId} {size : Nat} {R : World → (Nat → Prop) → α → List Value → Prop}
theorem Row.nil (w : World) (B : Nat) (S : Nat → Prop) : Row T size R w B S (.slice none 0 0) [] := ⟨[], World.ownsRow_nil w B T size, Elems.nil⟩
theorem Row.form {w : World} {B : Nat} {S : Nat → Prop} {v : Value} {l : List α} (h : Row T size R w B S v l) : ∃ A c, v = .slice A l.length c ∧ (A = none → l.length = 0) := by
  obtain ⟨css, h1, _⟩ := h
  obtain ⟨A, c, e, hn, _⟩ := own_form h1
  exact ⟨A, c, e, hn⟩
theorem Row.lt {w : World} {B : Nat} {S : Nat → Prop} {v : Value} {l : List α} (h : Row T size R w B S v l) : ∀ k, v.ownBlock = some k → B ≤ k ∧ k < w.heap.size := by
  obtain ⟨css, h1, _⟩ := h
  exact h1.lt
/-- the row stands where its block and S stand -/
theorem Row.stay (hR : Rec size R) {w w' : World} {B : Nat} {S : Nat → Prop} {v : Value} {l : List α} (h : Row T size R w B S v l) (hS : Bel S B) (hB : Below B w w') (hk : ∀ g, v.ownBlock = some g → w'.heap[g]? = w.heap[g]?) : Row T size R w' B S v l := by
  obtain ⟨css, h1, h2⟩ := h
  exact ⟨css, own_kept h1 hk, h2.keep hR (fun p hp => hB.cell (hS _ hp)) (fun _ h => h)⟩
theorem Row.below (hR : Rec size R) {w w' : World} {B : Nat} {S : Nat → Prop} {v : Value} {l : List α} (h : Row T size R w B S v l) (hS : Bel S B) (hB : B ≤ w.heap.size) (hb : Below w.heap.size w w') : Row T size R w' B S v l :=
  h.stay hR hS (hb.mono hB) fun g hg => hb.block g (h.lt g hg).2
theorem Row.block {w : World} {B : Nat} {S : Nat → Prop} {v : Value} {l : List α} (h : Row T size R w B S v l) : ∀ g, v.ownBlock = some g → ∃ cur, w.heap[g]? = some (.cells cur T (0, 0)) := by
  obtain ⟨css, h1, _⟩ := h
  exact own_cells h1
/-- two rows of unlike types lie apart -/
theorem Row.ne {β : Type} {T2 : TypeId} {size2 : Nat} {R2 : World → (Nat → Prop) → β → List Value → Prop} {w : World} {B B2 : Nat} {S S2 : Nat → Prop} {v v2 : Value} {l : List α} {l2 : List β} (h : Row T size R w B S v l) (h2 : Row T2 size2 R2 w B2 S2 v2 l2) (hT : T ≠ T2) : ∀ g, v.ownBlock = some g → some g ≠ v2.ownBlock := by
  intro g hg e
  obtain ⟨c1, e1⟩ := h.block g hg
  obtain ⟨c2, e2⟩ := h2.block g e.symm
  rw [e1] at e2
  injection e2 with e2
  injection e2 with _ e2
  exact hT e2
/-- element j: its cells -/
theorem Row.at_ (hR : Rec size R) {w : World} {B : Nat} {S : Nat → Prop} {A : Option Addr} {n c : Nat} {l : List α} (h : Row T size R w B S (.slice A n c) l) {j : Nat} {x : α} (hx : l[j]? = some x) :
    ∃ (ad : Addr) (cs : List Value), A = some ad ∧ ad.block < w.heap.size ∧ CellsAt w (ad.add (j * size)) cs ∧ R w S x cs := by
  obtain ⟨css, h1, h2⟩ := h
  have hj : j < l.length := (List.getElem?_eq_some_iff.1 hx).1
  obtain ⟨g, c2, cur, hv, hbg, hlt, _, _, _, _, _⟩ := own_block h1 (by omega)
  have hcs : css[j]? = some (css[j]'(by rw [h2.1]; exact hj)) := List.getElem?_eq_getElem _
  refine ⟨⟨g, 0, none⟩, _, by injection hv, hlt, fun o u hu => ?_, h2.2 j x _ hx hcs⟩
  rw [add_add]
  exact h1.cells (g := g) (by rw [hv]; rfl) _ u (flat_get (elems_len hR h2) hcs hu)
/-- one record more -/
theorem Row.snoc (hR : Rec size R) {w w' : World} {B : Nat} {S : Nat → Prop} {v' : Value} {l : List α} {css : List (List Value)} {x : α} {cs : List Value} (h2 : Elems R w S l css) (hx : R w S x cs) (hS : Bel S B) (hb : Below B w w')
    (ho : w'.ownsRow B T size v' (l.length + 1) (css.flatten ++ cs)) : Row T size R w' B S v' (l ++ [x]) := by
  refine ⟨css ++ [cs], by rw [List.length_append, List.flatten_append]; simpa using ho, (h2.snoc hx).keep hR (fun p hp => hb.cell (hS _ hp)) (fun _ h => h)⟩
/-- the append of one record, its literal just made -/
theorem wpList_row {P : Program} (W : World) {ops : Array Oper} {rest : List Oper} {o : Oper} {a : Act} {Q : Exit → Act → World → Prop} (hR : Rec size R) (hgd : o.guard = none) (s x : Operand) (t : TypeId)
    (ho : o.op = .call { callee := .builtin .append, args := #[s, x], argTypes := #[t, t] }) (cs : List Value) (i : TypeInfo) (z : Value) (bytes : Nat) (ht : P.underlying t = some (.slice T)) (hi : P.info? T = some i) (hz : i.zero = some z)
    (hsize : i.size = size) (hby : i.bytes = bytes) (hzs : z.cells.size = size) (hsz : 0 < size) (hbl : bytes ≤ 4096) (B : Nat) (S : Nat → Prop) (u : Value) (l : List α) (y : α) (hs : a.eval s = u) (hx : a.eval x = .slice (some ⟨W.heap.size, 0, none⟩) 1 1)
    (hrow : Row T size R W B S u l) (hy : R W S y cs) (hS : Bel S B) (hn : l.length ≤ 4194304) (hB : B ≤ W.heap.size)
    (h : ∀ u' W', Row T size R W' B S u' (l ++ [y]) → W.grownBy W' u.ownBlock → Nx W u u' → wpList P ops Q rest (a.put o.dst u') W') : wpList P ops Q (o :: rest) a (W.alloc (.cells cs.toArray T)) := by
  obtain ⟨css, h1, h2⟩ := hrow
  have hlen : cs.length = size := hR.len hy
  refine wpList_app (W.alloc (.cells cs.toArray T)) hgd s x t ho B T i z size bytes ht hi hz hsize hby hzs hsz u l.length css.flatten hs (h1.alloc _) (W.heap.size + 1) (some ⟨W.heap.size, 0, none⟩) 1 1 cs hx (by rw [hlen]; omega) (Rd.new W cs T) (by intro h; cases h) (hR.one hy) (by unfold maxLen; omega) ?_ (by simp; omega) ?_
  · have := Nat.mul_le_mul (show l.length + 1 ≤ 4194305 by omega) hbl
    omega
  · intro u' W' hown hgrow hat
    have hg : W.grownBy W' u.ownBlock := gtrans (galloc W _ _) (.inl rfl) hgrow
    have hb : Below B W W' := ⟨hg.os, hg.tape, hg.output, hg.size, fun k hk => hg.block k (by omega) (by intro e1; have := (h1.lt k e1.symm).1; omega)⟩
    refine h u' W' (Row.snoc hR h2 hy hS hb hown) hg ?_
    rcases hat with e | e
    · exact .inl e
    · exact .inr ⟨_, e, by simp⟩
end
/-- a step: a name, an index, a mark -/
def IsSt (_ : World) (_ : Nat → Prop) (x : ByteArray × Int × Bool) (cs : List Value) : Prop := cs = [.string x.1, .int .i64 x.2.1, .bool x.2.2]
theorem recSt : Rec 3 IsSt := ⟨fun h => by rw [h]; rfl, fun h => by rw [h]; intro u hu; simp at hu; rcases hu with rfl | rfl | rfl <;> rfl, fun _ _ h => h⟩
/-- a part: a path, which does not count, and a value -/
def IsPt (w : World) (S : Nat → Prop) (x : V) (cs : List Value) : Prop := ∃ A n c ds, cs = .slice A n c :: ds ∧ IsV w S x ds
theorem recPt : Rec 9 IsPt := by
  refine ⟨fun h => ?_, fun h => ?_, fun hk hS h => ?_⟩
  · obtain ⟨A, n, c, ds, rfl, h⟩ := h
    simp [isV_len h]
  · obtain ⟨A, n, c, ds, rfl, h⟩ := h
    intro u hu
    rcases List.mem_cons.1 hu with rfl | hu
    · rfl
    · exact isV_one h u hu
  · obtain ⟨A, n, c, ds, rfl, h⟩ := h
    exact ⟨A, n, c, ds, rfl, h.keep hk hS⟩
end Go.Proofs.YthlncdcfppehcaaDoor.val
end
section
namespace Go.Proofs.YthlncdcfppehcaaDoor.look
open Go.RowKit mem txt app smap val
attribute [local go_sem] run_store_float Oper.semAt_some
set_option linter.unusedVariables false

theorem town_any (x : V) (hsz : sz x ≤ 1048576) (hok : ok x) (cs : List Value) (w : World) (S : Nat → Prop) (hV : IsV w S x cs) (hS : Bel S w.heap.size) (hT : Tabs w) : Calls Tryd.prog 26 #[.agg cs.toArray] w (ToPost (own x) w) := by
  obtain ⟨k, b, i, f, t, y, is, fs⟩ := x
  simp only [IsV] at hV
  obtain ⟨A, c, A', c', rfl, _, _, hI, hF⟩ := hV
  simp only [ok] at hok
  obtain ⟨⟨_, _, hf, ht, _⟩, hoi, hof⟩ := hok
  simp only [sz] at hsz
  have hK := fun W => tkind_any b i f t y A A' is.length fs.length c c' W k
  have hlf := szf_len fs
  by_cases h0 : k < 0 ∨ 7 < k
  · rw [show own (.mk k b i f t y is fs) = 2 by simp only [own]; rw [if_pos (by omega)]]
    exact town_out b i f t y A A' _ _ c c' w k (kd k) (by unfold kd; rw [if_pos h0]; omega) hK
  have hkd : kd k = k := if_neg h0
  rw [hkd] at hK
  by_cases h7 : k = 7
  · subst h7
    exact town_seven b i f t y A A' _ _ c c' w hK
  by_cases h3 : k = 3
  · subst h3
    obtain ⟨s, a, ha, hfa⟩ : ∃ (s : Bool) (a : Nat), a < 9223372036854775808 ∧ f = a + big.sgn s := by
      by_cases hh : f < 9223372036854775808
      · exact ⟨false, f, hh, by simp [big.sgn]⟩
      · exact ⟨true, f - 9223372036854775808, by omega, by simp [big.sgn]; omega⟩
    have hmod : f % 9223372036854775808 = a := by rw [hfa]; unfold big.sgn; split <;> omega
    have e : own (.mk 3 b i f t y is fs) = if decide (9218868437227405312 < a) = true ∨ decide (a = 9218868437227405312) = true then 6 else 0 := by
      simp only [own]
      rw [if_neg (by omega), hmod]
      simp only [decide_eq_true_eq]
      by_cases h : 9218868437227405312 ≤ a
      · rw [if_pos ⟨trivial, h⟩, if_pos (by omega)]
      · rw [if_neg (by omega), if_neg (by omega), if_neg (by omega), if_neg (by omega)]
    rw [e]
    refine town_float b i f t y A A' _ _ c c' w _ _ (fun W => ?_) (fun h W => ?_) hK
    · rw [hfa]
      exact pg.isNaN_any s a W ha
    · rw [hfa]
      exact pg.isInf_any s a W (by simpa using h)
  by_cases h4 : k = 4
  · subst h4
    have e : own (.mk 4 b i f t y is fs) = if Lib.validD t.data.toList = true then 0 else 1 := by
      simp only [own]
      rw [if_neg (by omega), if_neg (by omega)]
      by_cases h : Lib.validD t.data.toList = true
      · rw [if_neg (by simp [h]), if_neg (by omega), if_pos h]
      · rw [if_pos ⟨trivial, h⟩, if_neg h]
    rw [e]
    exact town_text b i f t y A A' _ _ c c' w _ (fun W hW => clean_any t W (by omega) (hT.below hW)) hK
  by_cases h6 : k = 6
  · subst h6
    rw [show own (.mk 6 b i f t y is fs) = nmE [] fs by simp only [own]; rw [if_neg (by omega), if_neg (by omega), if_neg (by omega), if_pos trivial]]
    exact town_obj b i f t y A A' _ _ c c' w S fs rfl (by omega) hF hS hof hT hK
  · rw [show own (.mk k b i f t y is fs) = 0 by simp only [own]; rw [if_neg (by omega), if_neg (by omega), if_neg (by omega), if_neg h6]]
    exact town_plain b i f t y A A' _ _ c c' w k h7 h3 h4 h6 hK
section
variable (b : Bool) (i : Int) (f : Nat) (t y : ByteArray) (A A' : Option Addr) (n m c c' : Nat) (w : World)
theorem children_any (k : Int) : Calls Tryd.prog 27 #[.agg #[.int .i64 k, .bool b, .int .i64 i, .float .f64 f, .string t, .string y, .slice A n c, .slice A' m c']] w fun e w' => e = .returned (.func (.func 40) #[] #[.pointer (some ⟨w.heap.size, 0, none⟩)]) ∧ w' = w.alloc (.cells #[.int .i64 k, .bool b, .int .i64 i, .float .f64 f, .string t, .string y, .slice A n c, .slice A' m c'] 30) := by
  go_enter Tryd.func27, Tryd.ntmps27
  go_wp2_with fail
  go_ret
  exact ⟨rfl, rfl⟩
end
theorem infoSt : (Tryd.prog.info? 62).map (fun i => (i.zero, i.size, i.bytes)) = some (some (.agg #[.string ⟨#[]⟩, .int .i64 0, .bool false]), 3, 32) := by kernel_rfl
abbrev St := ByteArray × Int × Bool
/-- a path of at most d steps, in new memory; the fault r -/
def TdPost (d : Nat) (r : Int) (w : World) (e : Ending) (w' : World) : Prop := ∃ A c, ∃ l : List St, l.length ≤ d ∧ e = .returned (.tuple #[.slice A l.length c, .int .i64 r]) ∧ Row 62 3 IsSt w' w.heap.size (fun _ => False) (.slice A l.length c) l ∧ Below w.heap.size w w'
theorem elems_flat {α : Type} {size : Nat} {R : World → (Nat → Prop) → α → List Value → Prop} (hR : Rec size R) {w : World} {S : Nat → Prop} {l : List α} {css : List (List Value)} (h : Elems R w S l css) : css.flatten.length = l.length * size := by
  have h3 := elems_len hR h
  rw [← h.1]
  clear h
  induction css with
  | nil => simp
  | cons x r ih =>
    rw [List.flatten_cons, List.length_append, h3 x (by simp), ih (fun y hy => h3 y (by simp [hy])), List.length_cons, Nat.succ_mul]
    omega
theorem elems_one {α : Type} {size : Nat} {R : World → (Nat → Prop) → α → List Value → Prop} (hR : Rec size R) {w : World} {S : Nat → Prop} {l : List α} {css : List (List Value)} (h : Elems R w S l css) : ∀ u ∈ css.flatten, u.oneCell' = true := fun u hu => by
  obtain ⟨cs, hcs, hu⟩ := List.mem_flatten.1 hu
  obtain ⟨j, hj, rfl⟩ := List.getElem_of_mem hcs
  exact hR.one (h.2 j (l[j]'(by rw [← h.1]; exact hj)) _ (List.getElem?_eq_getElem _) (List.getElem?_eq_getElem hj)) u hu
theorem own_base {w : World} {b b' : Nat} {e : TypeId} {size n : Nat} {v : Value} {xs : List Value} (h : w.ownsRow b e size v n xs) (hb : b' ≤ b) : w.ownsRow b' e size v n xs := by
  obtain ⟨h1, h2⟩ := h
  refine ⟨h1, ?_⟩
  rcases h2 with h2 | ⟨g, cap, cur, hv, hg, r⟩
  · exact .inl h2
  · exact .inr ⟨g, cap, cur, hv, by omega, r⟩
theorem wpListIn_app {F : Fence} {n0 : Nat} {P : Program} (w : World) {ops : Array Oper} {rest : List Oper} {o : Oper} {a : Act} {Q : Exit → Act → World → Prop} (hgd : o.guard = none) (s x : Operand) (t : TypeId)
    (ho : o.op = .call { callee := .builtin .append, args := #[s, x], argTypes := #[t, t] })
    (base : Nat) (e : TypeId) (i : TypeInfo) (z : Value) (size bytes : Nat) (ht : P.underlying t = some (.slice e)) (hi : P.info? e = some i) (hz : i.zero = some z)
    (hsize : i.size = size) (hby : i.bytes = bytes) (hzs : z.cells.size = size) (hsz : 0 < size)
    (v : Value) (n : Nat) (xs : List Value) (hs : a.eval s = v) (hown : w.ownsRow base e size v n xs)
    (B : Nat) (A : Option Addr) (m c : Nat) (news : List Value) (hx : a.eval x = .slice A m c) (hl : news.length = m * size) (hr : Rd w B A news) (hnz : A = none → m = 0) (h1 : ∀ u ∈ news, u.oneCell' = true)
    (h63 : n + m ≤ maxLen) (hbytes : (n + m) * bytes ≤ 140737488355328) (hbase : base ≤ w.heap.size)
    (h : ∀ v' w', w'.ownsRow base e size v' (n + m) (xs ++ news) → w.grownBy w' v.ownBlock → (v'.ownBlock = v.ownBlock ∨ v'.ownBlock = some w.heap.size) → wpListIn F n0 P ops Q rest (a.put o.dst v') w') : wpListIn F n0 P ops Q (o :: rest) a w := by
  refine wpListIn_plain hgd fun K hK' => ?_
  obtain ⟨v', w', hrun, r1, r2, r3⟩ := run_app (P := P) w base t o.type e i z size bytes ht hi hz hsize hby hzs hsz v n xs hown B A m c news hl hr hnz h1 h63 hbytes hbase
  unfold Oper.wpIn
  refine ⟨?_, ?_⟩
  · simp [Oper.about, ho, resolve, Target.leads, Sem.run_pure]
  · rw [Oper.semAt_plain F _ _ (by rw [ho]; intro c hc'; cases hc')]
    simp [execOp, ho, resolve, invoke, builtin, hs, hx, hrun, Result.andThen]
    exact hK' _ _ (h v' w' r1 r2 r3)
/-- while the range runs: nothing found -/
structure SdSt (w : World) (r : Int) (kids : List V) (q : Nat) (wr : World) : Prop where
  be : Below w.heap.size w wr
  c2 : wr.heap[w.heap.size + 1]? = some (.cells #[.slice none 0 0] 44 (0, 0))
  c3 : wr.heap[w.heap.size + 1 + 1]? = some (.cells #[.int .i64 0] 32 (0, 0))
  rs : lks (kids.drop q) = r
/-- found -/
structure SdEx (w : World) (r : Int) (d : Nat) (cd : Code) (wr : World) : Prop where
  be : Below w.heap.size w wr
  rt : cd = .ret
  ex : ∃ A c, ∃ l : List St, l.length ≤ d ∧ wr.heap[w.heap.size + 1]? = some (.cells #[.slice A l.length c] 44 (0, 0)) ∧ wr.heap[w.heap.size + 1 + 1]? = some (.cells #[.int .i64 r] 32 (0, 0)) ∧ Row 62 3 IsSt wr w.heap.size (fun _ => False) (.slice A l.length c) l
section
variable (b : Bool) (i : Int) (f : Nat) (t y : ByteArray) (A A' : Option Addr) (n m c c' : Nat) (w : World)
theorem three_alloc (w : World) (o1 o2 o3 : Obj) : (((w.alloc o1).alloc o2).alloc o3).heap[w.heap.size]? = some o1 ∧ (((w.alloc o1).alloc o2).alloc o3).heap[w.heap.size + 1]? = some o2 ∧ (((w.alloc o1).alloc o2).alloc o3).heap[w.heap.size + 1 + 1]? = some o3 ∧ Below w.heap.size w (((w.alloc o1).alloc o2).alloc o3) ∧ w.heap.size + 3 ≤ (((w.alloc o1).alloc o2).alloc o3).heap.size :=
  ⟨blk_alloc (blk_alloc (heap_alloc_new _ _) _) _, blk_alloc (by simpa using heap_alloc_new (w.alloc o1) o2) _, by simpa using heap_alloc_new ((w.alloc o1).alloc o2) o3, (((Below.refl w.heap.size w).alloc (Nat.le_refl _) _).alloc (by simp) _).alloc (by simp only [World.size_alloc]; omega) _, by simp⟩
theorem two_set {w1 : World} {g : Nat} {t1 t2 : TypeId} {x0 y0 : Value} (h1 : w1.heap[g]? = some (.cells #[x0] t1 (0, 0))) (h2 : w1.heap[g + 1]? = some (.cells #[y0] t2 (0, 0))) (x y : Value) :
    ((w1.setCell ⟨g, 0, none⟩ x).setCell ⟨g + 1, 0, none⟩ y).heap[g]? = some (.cells #[x] t1 (0, 0)) ∧ ((w1.setCell ⟨g, 0, none⟩ x).setCell ⟨g + 1, 0, none⟩ y).heap[g + 1]? = some (.cells #[y] t2 (0, 0)) ∧ (∀ n, n ≤ g → Below n w1 ((w1.setCell ⟨g, 0, none⟩ x).setCell ⟨g + 1, 0, none⟩ y)) ∧ ∀ k, g + 1 < k → ((w1.setCell ⟨g, 0, none⟩ x).setCell ⟨g + 1, 0, none⟩ y).heap[k]? = w1.heap[k]? := by
  refine ⟨?_, ?_, fun n hn => ((Below.refl _ _).setCell hn _).setCell (show n ≤ g + 1 by omega) _, fun k hk => (Below.heap_setCell _ _ _ k (show k ≠ g + 1 by omega)).trans (Below.heap_setCell _ _ _ k (show k ≠ g by omega))⟩
  · rw [Below.heap_setCell _ _ _ g (show g ≠ g + 1 by omega)]
    simpa using blk_set h1 0 x
  · have h3 : (w1.setCell ⟨g, 0, none⟩ x).heap[g + 1]? = some (.cells #[y0] t2 (0, 0)) := (Below.heap_setCell _ _ _ (g + 1) (show g + 1 ≠ g by omega)).trans h2
    simpa using blk_set h3 0 y
set_option maxRecDepth 100000 in
set_option maxHeartbeats 4000000 in
theorem tsound_bad (k r : Int) (hr : r ≠ 0) (hO : ∀ W, Below w.heap.size w W → Calls Tryd.prog 26 #[.agg #[.int .i64 k, .bool b, .int .i64 i, .float .f64 f, .string t, .string y, .slice A n c, .slice A' m c']] W (ToPost r W)) : Calls Tryd.prog 15 #[.agg #[.int .i64 k, .bool b, .int .i64 i, .float .f64 f, .string t, .string y, .slice A n c, .slice A' m c']] w (TdPost 0 r w) := by
  have hne : (r == 0) = false := beq_false_of_ne hr
  have hne2 : (r != 0) = true := by simp [bne, hne]
  have HO := Lib.hid hO
  clear hO hr
  obtain ⟨z1, z2, z3, hb0, hs0⟩ := three_alloc w (.cells #[.int .i64 k, .bool b, .int .i64 i, .float .f64 f, .string t, .string y, .slice A n c, .slice A' m c'] 30) (.cells #[.slice none 0 0] 44) (.cells #[.int .i64 0] 32)
  obtain ⟨m0, m1, m2, m3, m4, m5, m6, m7⟩ := blk8 z1
  generalize hW3 : (((w.alloc (.cells #[.int .i64 k, .bool b, .int .i64 i, .float .f64 f, .string t, .string y, .slice A n c, .slice A' m c'] 30)).alloc (.cells #[.slice none 0 0] 44)).alloc (.cells #[.int .i64 0] 32)) = W3 at *
  refine (callsIn_wide (n := 6)).1 ?_
  refine callsIn_of_wp_marks Tryd.func15 rfl trivial ?_ rfl
  simp only [Tryd.ntmps15, List.size_toArray, List.length_cons, List.length_nil, Nat.reduceAdd, Nat.reduceSub, Array.replicate_succ, Array.replicate_zero, List.push_toArray, List.append_toArray, List.nil_append, List.cons_append]
  gi_wp2_with fail
  refine ⟨trivial, (callsIn_wide.2 (HO.out W3 hb0)).mono ?_⟩
  rintro e w1 ⟨rfl, hb1⟩
  have hb01 := hb0.trans (hb1.mono (by omega))
  have g2 := blk_below z2 hb1 (by omega)
  have g3 := blk_below z3 hb1 (by omega)
  clear m0 m1 m2 m3 m4 m5 m6 m7 z1 z2 z3 HO hW3 hb1
  have j2 := cell_of_row w1 (w.heap.size + 1) 0 _ _ (0, 0) g2
  have j3 := cell_of_row w1 (w.heap.size + 1 + 1) 0 _ _ (0, 0) g3
  have f2 := blk_frozen g2 0
  have f3 := blk_frozen g3 0
  have G2 := Lib.hid g2
  have G3 := Lib.hid g3
  have HB := Lib.hid hb01
  clear hb0 hb01 g2 g3
  have q := two_set G2.out G3.out (.slice none 0 0) (.int .i64 r)
  gi_wp2_with fail
  obtain ⟨q2, q3, qb, _⟩ := q
  have cA := cell_of_row _ (w.heap.size + 1) 0 _ _ (0, 0) q2
  have cB := cell_of_row _ (w.heap.size + 1 + 1) 0 _ _ (0, 0) q3
  have hbz := HB.out.trans (qb (w.heap.size) (by omega))
  generalize ((w1.setCell ⟨w.heap.size + 1, 0, none⟩ (.slice none 0 0)).setCell ⟨w.heap.size + 1 + 1, 0, none⟩ (.int .i64 r)) = wz at *
  refine ⟨.tuple #[.slice none 0 0, .int .i64 r], ?_, ⟨none, 0, [], Nat.zero_le _, rfl, Row.nil _ _ _, hbz⟩⟩
  simp [results, Tryd.f15, go_sem, cA, cB]
theorem lks_drop {l : List V} {q : Nat} {x : V} (h : l[q]? = some x) : lks (l.drop q) = if lk x = 0 then lks (l.drop (q + 1)) else lk x := by
  obtain ⟨h1, h2⟩ := List.getElem?_eq_some_iff.1 h
  rw [List.drop_eq_getElem_cons h1, h2]
  simp only [lks]
theorem SdSt.keep {r : Int} {kids : List V} {q B : Nat} {W W' : World} (h : SdSt w r kids q W) (hB : w.heap.size + 3 ≤ B) (hb : Below B W W') : SdSt w r kids q W' :=
  ⟨h.be.trans (hb.mono (by omega)), blk_below h.c2 hb (by omega), blk_below h.c3 hb (by omega), h.rs⟩
theorem SdEx.keep {r : Int} {d B : Nat} {cd : Code} {W W' : World} (h : SdEx w r d cd W) (hB : w.heap.size + 3 ≤ B) (hb : Below B W W') (he : Ext W W') : SdEx w r d cd W' := by
  obtain ⟨h1, h2, A, c, l, hl, e2, e3, hr⟩ := h
  refine ⟨h1.trans (hb.mono (by omega)), h2, A, c, l, hl, blk_below e2 hb (by omega), blk_below e3 hb (by omega), ?_⟩
  refine hr.stay recSt (fun _ hf => hf.elim) (hb.mono (by omega)) fun g hg => ?_
  obtain ⟨cur, hc⟩ := hr.block g hg
  exact (he.cells _ _ _ _ hc).trans hc.symm
set_option maxRecDepth 100000 in
set_option maxHeartbeats 4000000 in
theorem tsound_kids (k : Int) (d : Nat) (S : Nat → Prop) (kids : List V) (hd : d ≤ 1048576) (hS : Bel S w.heap.size) (hO : ∀ W, Below w.heap.size w W → Calls Tryd.prog 26 #[.agg #[.int .i64 k, .bool b, .int .i64 i, .float .f64 f, .string t, .string y, .slice A n c, .slice A' m c']] W (ToPost 0 W))
    (hseq : ∀ g, SeqC Tryd.prog 40 #[.pointer (some ⟨g, 0, none⟩)] kids.length (fun _ => encK S kids) w.heap.size (fun W => W.heap[g]? = some (.cells #[.int .i64 k, .bool b, .int .i64 i, .float .f64 f, .string t, .string y, .slice A n c, .slice A' m c'] 30 (0, 0)) ∧ Below w.heap.size w W))
    (hR : ∀ W x cs, Below w.heap.size w W → x ∈ kids → IsV W S x cs → Calls Tryd.prog 15 #[.agg cs.toArray] W (TdPost d (lk x) W)) : Calls Tryd.prog 15 #[.agg #[.int .i64 k, .bool b, .int .i64 i, .float .f64 f, .string t, .string y, .slice A n c, .slice A' m c']] w (TdPost (d + 1) (lks kids) w) := by
  obtain ⟨iv, hiv, hv0, hv1, hv2⟩ := info_parts infoSt
  have HO := Lib.hid hO
  have HQ := Lib.hid hseq
  have HR := Lib.hid hR
  have HS := Lib.hid hS
  have HE : Hid (lks (kids.drop 0) = lks kids) := Lib.hid rfl
  generalize lks kids = r at *
  clear hO hseq hR hS
  obtain ⟨z1, z2, z3, hb0, hs0⟩ := three_alloc w (.cells #[.int .i64 k, .bool b, .int .i64 i, .float .f64 f, .string t, .string y, .slice A n c, .slice A' m c'] 30) (.cells #[.slice none 0 0] 44) (.cells #[.int .i64 0] 32)
  obtain ⟨m0, m1, m2, m3, m4, m5, m6, m7⟩ := blk8 z1
  generalize hW3 : (((w.alloc (.cells #[.int .i64 k, .bool b, .int .i64 i, .float .f64 f, .string t, .string y, .slice A n c, .slice A' m c'] 30)).alloc (.cells #[.slice none 0 0] 44)).alloc (.cells #[.int .i64 0] 32)) = W3 at *
  refine (callsIn_wide (n := 6)).1 ?_
  refine callsIn_of_wp_marks Tryd.func15 rfl trivial ?_ rfl
  simp only [Tryd.ntmps15, List.size_toArray, List.length_cons, List.length_nil, Nat.reduceAdd, Nat.reduceSub, Array.replicate_succ, Array.replicate_zero, List.push_toArray, List.append_toArray, List.nil_append, List.cons_append]
  gi_wp2_with fail
  refine ⟨trivial, (callsIn_wide.2 (HO.out W3 hb0)).mono ?_⟩
  rintro e w1 ⟨rfl, hb1⟩
  have hs1 := hb1.size
  have hb01 := hb0.trans (hb1.mono (by omega))
  have g1 := blk_below z1 hb1 (by omega)
  have g2 := blk_below z2 hb1 (by omega)
  have g3 := blk_below z3 hb1 (by omega)
  clear m0 m1 m2 m3 m4 m5 m6 m7 z1 z2 z3 HO hW3 hb1 hb0
  obtain ⟨m0, m1, m2, m3, m4, m5, m6, m7⟩ := blk8 g1
  clear g1
  have HC2 := Lib.hid g2
  have HC3 := Lib.hid g3
  have HB1 := Lib.hid hb01
  clear g2 g3 hb01
  gi_wp2_with fail
  refine ⟨trivial, (callsIn_wide.2 (children_any b i f t y A A' n m c c' w1 k)).mono ?_⟩
  rintro e w2 ⟨rfl, hw2⟩
  have hbox : w2.heap[w1.heap.size]? = some (.cells #[.int .i64 k, .bool b, .int .i64 i, .float .f64 f, .string t, .string y, .slice A n c, .slice A' m c'] 30 (0, 0)) := by rw [hw2]; exact heap_alloc_new _ _
  have hb12 : Below w1.heap.size w1 w2 := by rw [hw2]; exact (Below.refl _ _).alloc (Nat.le_refl _) _
  have hs2 : w2.heap.size = w1.heap.size + 1 := by rw [hw2]; simp
  clear hw2 m0 m1 m2 m3 m4 m5 m6 m7
  have hST : SdSt w r kids 0 w2 := ⟨HB1.out.trans (hb12.mono (by omega)), blk_below HC2.out hb12 (by omega), blk_below HC3.out hb12 (by omega), HE.out⟩
  clear HC2 HC3 HE
  gi_wp2_with fail
  refine range_C (n := w.heap.size) (gf := 40) (lb := #[.pointer (some ⟨w1.heap.size, 0, none⟩)]) rfl (enters_of Tryd.func40 (by kernel_rfl) rfl)
    (HQ.out w1.heap.size) (by omega) (fun W1 hb => ⟨blk_below hbox hb (by omega), hST.be.trans (hb.mono (by omega))⟩)
    (fun B q W args h => by obtain ⟨s, j, bo, x, cs, _, rfl, _⟩ := h; rfl)
    (fun q W => SdSt w r kids q W) (fun cd W => SdEx w r (d + 1) cd W)
    (fun q W W' h hb he => h.keep _ (by omega) hb) (fun cd W W' h hb he => h.keep _ (by omega) hb he) hST ?round ?done ?stop
  case round =>
    rintro l' k9 q B W1 args hl hl2 hBW hq HI1 ⟨s, j, bo, x, cs, hx, rfl, hV⟩ hbw
    obtain ⟨k2, b2, i2, f2, t2, y2, is2, fs2⟩ := x
    have HV := Lib.hid hV
    simp only [IsV] at hV
    obtain ⟨A2, c2, A2', c2', rfl, _⟩ := hV
    have hnW1 : w.heap.size ≤ W1.heap.size := HI1.be.size
    have hbv : Below W1.heap.size W1 ((W1.alloc (.cells #[.string s, .int .i64 j, .bool bo] 62)).alloc (.cells #[.int .i64 k2, .bool b2, .int .i64 i2, .float .f64 f2, .string t2, .string y2, .slice A2 is2.length c2, .slice A2' fs2.length c2'] 30)) := ((Below.refl _ _).alloc (Nat.le_refl _) _).alloc (by simp) _
    gi_wp2_with fail
    refine ⟨Keep.of_below hbv hnW1, HI1.keep _ (by omega) (hbv.mono (by omega)), ?_⟩
    intro W2 hz2 ho2 hb2 _ hI2
    have gS := (ho2 W1.heap.size (by omega)).trans (blk_alloc (heap_alloc_new W1 (.cells #[.string s, .int .i64 j, .bool bo] 62)) (.cells #[.int .i64 k2, .bool b2, .int .i64 i2, .float .f64 f2, .string t2, .string y2, .slice A2 is2.length c2, .slice A2' fs2.length c2'] 30))
    have gV : W2.heap[W1.heap.size + 1]? = some (.cells #[.int .i64 k2, .bool b2, .int .i64 i2, .float .f64 f2, .string t2, .string y2, .slice A2 is2.length c2, .slice A2' fs2.length c2'] 30) := (ho2 (W1.heap.size + 1) (by omega)).trans (by simpa using heap_alloc_new (W1.alloc (.cells #[.string s, .int .i64 j, .bool bo] 62)) (.cells #[.int .i64 k2, .bool b2, .int .i64 i2, .float .f64 f2, .string t2, .string y2, .slice A2 is2.length c2, .slice A2' fs2.length c2'] 30))
    have hb12' : Below w.heap.size W1 W2 := (hbv.mono hnW1).trans (hb2.mono (by omega))
    have hVW2 : IsV W2 S (.mk k2 b2 i2 f2 t2 y2 is2 fs2) [.int .i64 k2, .bool b2, .int .i64 i2, .float .f64 f2, .string t2, .string y2, .slice A2 is2.length c2, .slice A2' fs2.length c2'] := recV.keep (fun p hp => hb12'.cell (HS.out _ hp)) (fun _ h => h) HV.out
    have HRX := Lib.hid (HR.out W2 _ _ hI2.be (List.mem_of_getElem? hx) hVW2)
    obtain ⟨e0, e1, e2, e3, e4, e5, e6, e7⟩ := blk8 gV
    obtain ⟨o, ho⟩ : ∃ o, lk (.mk k2 b2 i2 f2 t2 y2 is2 fs2) = o := ⟨_, rfl⟩
    have hdr := lks_drop hx
    rw [ho] at HRX hdr
    rw [hI2.rs] at hdr
    have HDR := Lib.hid hdr
    have GS := Lib.hid gS
    have hs2' : W1.heap.size + 1 < W2.heap.size := blk_lt gV
    have hs22 : w2.heap.size ≤ W2.heap.size := by omega
    clear hdr ho hVW2 HV hx gV gS hbv hb2 hz2 ho2 HI1
    gi_wp2_with fail
    refine ⟨trivial, (fun h => by cases h), (CallsIn.inRound l' (callsIn_wide.2 HRX.out)).mono ?_⟩
    rintro e W3 ⟨Ap, cp, lp, hlp, rfl, hrow, hb3⟩
    have hI3 := hI2.keep _ (B := w2.heap.size) (by omega) (hb3.mono (by omega))
    have hs3 := hb3.size
    clear e0 e1 e2 e3 e4 e5 e6 e7 HRX
    by_cases ho0 : o = 0
    · subst ho0
      have HD2 : Hid (lks (kids.drop (q + 1)) = r) := Lib.hid (by rw [HDR.out, if_pos rfl])
      clear HDR hrow
      gi_wp2_with fail
      exact ⟨Keep.of_below hb3 (by omega), hI3.be, hI3.c2, hI3.c3, HD2.out⟩
    · have hro : r = o := by rw [HDR.out, if_neg ho0]
      have hne : (o == 0) = false := beq_false_of_ne ho0
      have hne2 : (o != 0) = true := by simp [bne, hne]
      obtain ⟨css, hown0, hel0⟩ := hrow
      have hgS := blk_below GS.out hb3 (by omega)
      have s0 := cell_of_row W3 W1.heap.size 0 _ _ (0, 0) hgS
      have s1 := cell_of_row W3 W1.heap.size 1 _ _ (0, 0) hgS
      have s2 := cell_of_row W3 W1.heap.size 2 _ _ (0, 0) hgS
      have HOWN : Hid ((W3.alloc (.cells #[.string s, .int .i64 j, .bool bo] 62)).ownsRow W3.heap.size 62 3 (.slice (some ⟨W3.heap.size, 0, none⟩) 1 1) 1 [.string s, .int .i64 j, .bool bo]) := Lib.hid ⟨by simp, .inr ⟨W3.heap.size, 1, _, rfl, Nat.le_refl _, heap_alloc_new _ _, by omega, by decide, by simp, by simp⟩⟩
      obtain ⟨_, _, hvf, hAn, _⟩ := own_form hown0
      injection hvf with hv1 _ hv2
      subst hv1 hv2
      have hfl := elems_flat recSt hel0
      have hone := elems_one recSt hel0
      have HRD := Lib.hid (Rd.of_own (hown0.alloc (.cells #[.string s, .int .i64 j, .bool bo] 62)))
      have c2' := (Lib.alloc_old W3 (.cells #[.string s, .int .i64 j, .bool bo] 62) (w.heap.size + 1) (by omega)).trans hI3.c2
      have c3' := (Lib.alloc_old W3 (.cells #[.string s, .int .i64 j, .bool bo] 62) (w.heap.size + 1 + 1) (by omega)).trans hI3.c3
      have HC2 := Lib.hid c2'
      have HC3 := Lib.hid c3'
      have HI3 := Lib.hid hI3
      have HB3 := Lib.hid hb3
      have HHS := Lib.hid (show (W3.alloc (.cells #[.string s, .int .i64 j, .bool bo] 62)).heap.size = W3.heap.size + 1 by simp)
      clear HDR hown0 hgS c2' c3' hI3 hb3 GS hI2 HC2 HC3
      have hz3 : w.heap.size + 3 ≤ W3.heap.size := by omega
      gi_wp2_with (gi_at_builtin; (refine wpListIn_app (W3.alloc (.cells #[.string s, .int .i64 j, .bool bo] 62)) rfl (.tmp 26) (.tmp 27) 44 rfl W3.heap.size 62 iv _ 3 32 Tryd.underlying44 hiv hv0 hv1 hv2 rfl (by omega) (.slice (some ⟨W3.heap.size, 0, none⟩) 1 1) 1 _ rfl HOWN.out (W3.alloc (.cells #[.string s, .int .i64 j, .bool bo] 62)).heap.size Ap lp.length cp _ rfl hfl HRD.out hAn hone (by unfold maxLen; omega) (by omega) (by simp) ?_; intro v1 w4 hown1 hgrow1 hat1; have HO1 := Lib.hid hown1; obtain ⟨A1, c1, rfl, _⟩ := own_form hown1; have HB4 := Lib.hid (((Below.refl W3.heap.size W3).alloc (Nat.le_refl _) (.cells #[.string s, .int .i64 j, .bool bo] 62)).grown hgrow1 (by simp) (fun kk hkk => by simp [Value.ownBlock] at hkk; omega)); have HG2 := Lib.hid (blk_below HI3.out.c2 HB4.out (by omega)); have HG3 := Lib.hid (blk_below HI3.out.c3 HB4.out (by omega)); have j2 := cell_of_row w4 (w.heap.size + 1) 0 _ _ (0, 0) HG2.out; have j3 := cell_of_row w4 (w.heap.size + 1 + 1) 0 _ _ (0, 0) HG3.out; have f2' := blk_frozen HG2.out 0; have f3' := blk_frozen HG3.out 0; clear hown1 hgrow1 hat1 s0 s1 s2))
      obtain ⟨q2, q3, qb, qo⟩ := two_set HG2.out HG3.out (.slice A1 (1 + lp.length) c1) (.int .i64 o)
      have hb4 := HB4.out.size
      have hbz : Below w.heap.size W3 ((w4.setCell ⟨w.heap.size + 1, 0, none⟩ (.slice A1 (1 + lp.length) c1)).setCell ⟨w.heap.size + 1 + 1, 0, none⟩ (.int .i64 o)) := (HB4.out.mono (by omega)).trans (qb w.heap.size (by omega))
      have hkk : ∀ k, w.heap.size + 1 + 1 < k → k < W3.heap.size → ((w4.setCell ⟨w.heap.size + 1, 0, none⟩ (.slice A1 (1 + lp.length) c1)).setCell ⟨w.heap.size + 1 + 1, 0, none⟩ (.int .i64 o)).heap[k]? = W3.heap[k]? := fun k h1 h2 => (qo k h1).trans (HB4.out.block k h2)
      have hown2 := own_kept (w' := (w4.setCell ⟨w.heap.size + 1, 0, none⟩ (.slice A1 (1 + lp.length) c1)).setCell ⟨w.heap.size + 1 + 1, 0, none⟩ (.int .i64 o)) HO1.out (fun g hg => qo g (by have := (HO1.out.lt g hg).1; omega))
      generalize ((w4.setCell ⟨w.heap.size + 1, 0, none⟩ (.slice A1 (1 + lp.length) c1)).setCell ⟨w.heap.size + 1 + 1, 0, none⟩ (.int .i64 o)) = wz at *
      rw [show 1 + lp.length = lp.length + 1 from Nat.add_comm _ _] at q2 hown2
      refine ⟨⟨(HB3.out.mono (by omega)).trans hbz, fun k h1 h2 => (hkk k (by omega) (by omega)).trans (HB3.out.block k h2)⟩, HI3.out.be.trans hbz, rfl, A1, c1, (s, j, bo) :: lp, by simp; omega, ?_, ?_, ?_⟩
      · rw [List.length_cons]; exact q2
      · rw [hro]; exact q3
      · rw [List.length_cons]
        refine ⟨[.string s, .int .i64 j, .bool bo] :: css, ?_, ?_⟩
        · rw [List.flatten_cons, List.length_cons]
          exact own_base hown2 (by omega)
        · exact ⟨by simp [hel0.1], fun jj x cs h1 h2 => by
            cases jj with
            | zero => simp at h1 h2; subst h1 h2; rfl
            | succ jj => exact hel0.2 jj x cs (by simpa using h1) (by simpa using h2)⟩
  case done =>
    rintro D W4 hD hI hK3
    have hr0 : r = 0 := by rw [← hI.rs, List.drop_length]; simp only [lks]
    have hl4 := blk_lt hK3
    have HBE := Lib.hid hI.be
    have HG2 := Lib.hid hI.c2
    have HG3 := Lib.hid hI.c3
    have j2 := cell_of_row W4 (w.heap.size + 1) 0 _ _ (0, 0) HG2.out
    have j3 := cell_of_row W4 (w.heap.size + 1 + 1) 0 _ _ (0, 0) HG3.out
    have f2' := blk_frozen HG2.out 0
    have f3' := blk_frozen HG3.out 0
    have HKD := Lib.hid hK3
    subst hr0
    clear hI hK3 HQ HR hST hbox
    gi_wp2_with fail
    obtain ⟨q2, q3, qb, qo⟩ := two_set HG2.out HG3.out (.slice none 0 0) (.int .i64 0)
    have hKz := (qo D (by omega)).trans HKD.out
    have hbz := HBE.out.trans (qb w.heap.size (by omega))
    generalize ((W4.setCell ⟨w.heap.size + 1, 0, none⟩ (.slice none 0 0)).setCell ⟨w.heap.size + 1 + 1, 0, none⟩ (.int .i64 0)) = wz at *
    refine ⟨by simp, .inl ⟨_, _, rfl, run_takeDeferred hKz, ?_⟩⟩
    have hlz := blk_lt hKz
    have p2 : (wz.putObj D (.deferred none)).heap[w.heap.size + 1]? = _ := (World.putObj_heap_other (by omega)).trans q2
    have p3 : (wz.putObj D (.deferred none)).heap[w.heap.size + 1 + 1]? = _ := (World.putObj_heap_other (by omega)).trans q3
    have hbp := hbz.trans (belowK_b (w := w) (Nat.le_refl _) wz D _ (.deferred none) (by omega) hKz rfl rfl)
    generalize (wz.putObj D (.deferred none)) = wp at *
    have cA := cell_of_row wp (w.heap.size + 1) 0 _ _ (0, 0) p2
    have cB := cell_of_row wp (w.heap.size + 1 + 1) 0 _ _ (0, 0) p3
    refine ⟨.tuple #[.slice none 0 0, .int .i64 0], ?_, ⟨none, 0, [], Nat.zero_le _, rfl, Row.nil _ _ _, hbp⟩⟩
    simp [results, Tryd.f15, go_sem, cA, cB]
  case stop =>
    rintro D cd W4 hD hI hK3
    obtain rfl := hI.rt
    have hl4 := blk_lt hK3
    have hI2 := hI.keep _ (B := w2.heap.size) (by omega) (belowK_b (w := w2) (Nat.le_refl _) W4 D _ (.deferred none) (by omega) hK3 rfl rfl) (Ext.put hK3 (fun _ _ _ e => by cases e) (.deferred none))
    obtain ⟨hbe, _, A1, c1, l, hl, p2, p3, hrow⟩ := hI2
    gi_wp2_with fail
    refine ⟨by simp, .inl ⟨_, _, rfl, run_takeDeferred hK3, ?_⟩⟩
    generalize (W4.putObj D (.deferred none)) = wp at *
    have cA := cell_of_row wp (w.heap.size + 1) 0 _ _ (0, 0) p2
    have cB := cell_of_row wp (w.heap.size + 1 + 1) 0 _ _ (0, 0) p3
    refine ⟨.tuple #[.slice A1 l.length c1, .int .i64 r], ?_, ⟨A1, c1, l, hl, rfl, hrow, hbe⟩⟩
    simp [results, Tryd.f15, go_sem, cA, cB]
end
end Go.Proofs.YthlncdcfppehcaaDoor.look
end
section
namespace Go.Proofs.YthlncdcfppehcaaDoor.look
open Go.RowKit mem txt app smap val
set_option linter.unusedVariables false

theorem lkf_map : ∀ l : List (ByteArray × V), lkf l = lks (l.map (·.2))
  | [] => by simp only [lkf, lks, List.map_nil]
  | (s, v) :: r => by simp only [lkf, lks, List.map_cons, lkf_map r]
theorem sz_mem {x : V} : ∀ {l : List V}, x ∈ l → sz x ≤ szs l
  | [], h => by cases h
  | v :: r, h => by
    simp only [szs]
    rcases List.mem_cons.1 h with rfl | h
    · omega
    · have := sz_mem h
      omega
theorem szf_map : ∀ l : List (ByteArray × V), szs (l.map (·.2)) = szf l
  | [] => by simp only [szf, szs, List.map_nil]
  | (s, v) :: r => by simp only [szf, szs, List.map_cons, szf_map r]
theorem oks_mem {x : V} : ∀ {l : List V}, oks l → x ∈ l → ok x
  | [], _, h => by cases h
  | v :: r, ho, h => by
    simp only [oks] at ho
    rcases List.mem_cons.1 h with rfl | h
    · exact ho.1
    · exact oks_mem ho.2 h
theorem okf_map : ∀ {l : List (ByteArray × V)}, okf l → oks (l.map (·.2))
  | [], _ => by simp only [oks, List.map_nil]
  | (s, v) :: r, h => by
    simp only [okf] at h
    simp only [oks, List.map_cons]
    exact ⟨h.2.1, okf_map h.2.2⟩
/-- the children of a value -/
def kidsOf : V → List V
  | .mk k _ _ _ _ _ is fs => if k = 5 then is else if k = 6 then fs.map (·.2) else []
theorem lk_own (x : V) : lk x = if own x = 0 then lks (kidsOf x) else own x := by
  obtain ⟨k, b, i, f, t, y, is, fs⟩ := x
  rw [← lk_prt, prt, fst0]
  by_cases h : own (.mk k b i f t y is fs) = 0
  · rw [if_pos h, if_pos h]
    simp only [kidsOf]
    split
    · exact lks_prt is
    · split
      · rw [lkf_prt, lkf_map]
      · simp only [fst0, lks]
  · rw [if_neg h, if_neg h]
theorem TdPost.more {d d' : Nat} {r : Int} {w : World} {e : Ending} {w' : World} (h : TdPost d r w e w') (hd : d ≤ d') : TdPost d' r w e w' := by
  obtain ⟨A, c, l, hl, h⟩ := h
  exact ⟨A, c, l, by omega, h⟩
theorem seqC_pre {P : Program} {f : Nat} {lb : Array Value} {N : Nat} {encs : Nat → Nat → World → Array Value → Prop} {n : Nat} {Pre Pre' : World → Prop} (h : SeqC P f lb N encs n Pre) (hp : ∀ W, Pre' W → Pre W) : SeqC P f lb N encs n Pre' :=
  fun l W0 J Jx hP => h l W0 J Jx (hp _ hP)
theorem tsound_any : ∀ (N : Nat) (x : V), sz x ≤ N → N ≤ 1048576 → ok x → ∀ (cs : List Value) (w : World) (S : Nat → Prop), IsV w S x cs → Bel S w.heap.size → Tabs w →
    Calls Tryd.prog 15 #[.agg cs.toArray] w (TdPost N (lk x) w) := by
  intro N
  induction N with
  | zero =>
    intro x hx
    obtain ⟨k, b, i, f, t, y, is, fs⟩ := x
    simp only [sz] at hx
    omega
  | succ N ih =>
    intro x hx hN hok cs w S hV hS hT
    have hO := fun W (hW : Below w.heap.size w W) => town_any x (by omega) hok cs W S (hV.below hS hW) (hS.mono hW.size) (hT.below hW)
    have hlk := lk_own x
    by_cases ho : own x = 0
    · rw [if_pos ho] at hlk
      rw [ho] at hO
      have hkz : szs (kidsOf x) ≤ N ∧ oks (kidsOf x) := by
        obtain ⟨k, b, i, f, t, y, is, fs⟩ := x
        simp only [sz] at hx
        simp only [ok] at hok
        simp only [kidsOf]
        split
        · exact ⟨by omega, hok.2.1⟩
        · split
          · rw [szf_map]
            exact ⟨by omega, okf_map hok.2.2⟩
          · simp only [szs, oks]
            exact ⟨by omega, trivial⟩
      have hR := fun (W : World) (z : V) (ds : List Value) (hW : Below w.heap.size w W) (hz : z ∈ kidsOf x) (hZ : IsV W S z ds) =>
        ih z (by have := sz_mem hz; omega) (by omega) (oks_mem hkz.2 hz) ds W S hZ (hS.mono hW.size) (hT.below hW)
      rw [hlk]
      obtain ⟨k, b, i, f, t, y, is, fs⟩ := x
      have hown : k ≠ 7 ∧ 0 ≤ k ∧ k ≤ 6 := by
        simp only [own] at ho
        by_cases hk : k < 0 ∨ 6 < k
        · rw [if_pos hk] at ho
          cases ho
        · omega
      simp only [IsV] at hV
      obtain ⟨A, c, A', c', rfl, _, _, hI, hF⟩ := hV
      simp only [sz] at hx
      have hl1 := szs_len is
      have hl2 := szf_len fs
      have hK := fun W => tkind_any b i f t y A A' is.length fs.length c c' W k
      rw [show kd k = k from if_neg (by omega)] at hK
      refine tsound_kids b i f t y A A' is.length fs.length c c' w k N S _ (by omega) hS hO (fun g => ?_) hR
      by_cases h5 : k = 5
      · subst h5
        simp only [kidsOf, if_pos]
        exact kidseq_list b i f t y A A' _ _ c c' S is w g _ rfl (by omega) hI hS (Nat.le_refl _) hK
      by_cases h6 : k = 6
      · subst h6
        simp only [kidsOf, if_neg (show ¬ (6 : Int) = 5 by decide), if_pos]
        rw [List.length_map]
        exact kidseq_obj b i f t y A A' _ _ c c' S fs w g _ rfl (by omega) hF hS (Nat.le_refl _) hK
      · simp only [kidsOf, if_neg h5, if_neg h6]
        exact seqC_pre (kidseq_none b i f t y A A' _ _ c c' S k k h5 h6 g _ hK) fun W h => h.1
    · rw [if_neg ho] at hlk
      rw [hlk]
      obtain ⟨k, b, i, f, t, y, is, fs⟩ := x
      simp only [IsV] at hV
      obtain ⟨A, c, A', c', rfl, _⟩ := hV
      exact (tsound_bad b i f t y A A' _ _ c c' w k _ ho hO).mono fun e w' h => h.more (by omega)
theorem tx_pos (x : V) (hok : ok x) (h : lk x = 0) : 0 < (tx x).length := by
  obtain ⟨k, b, i, f, t, y, is, fs⟩ := x
  simp only [ok] at hok
  simp only [tx]
  split
  · unfold tfz; split <;> simp
  split
  · unfold wz
    rw [bz_length, big.strN_size]
    unfold big.wtx
    split
    · simp
    · rw [uw.dgs_length]
      exact Lib.nDigits_pos _
  split
  · rename_i h1 h2 h3
    simp only [lk] at h
    rw [if_neg (by omega), if_pos h3] at h
    unfold fz
    rw [bz_length]
    have := (pg.ftx_spec f).2.2 hok.1.2.2.1
    by_cases hz : (pg.ftx f).size = 0
    · rw [if_pos (this.1 hz)] at h
      cases h
    · omega
  split
  · simp [quoteZ]
  split
  · simp
  split
  · simp
  · simp
theorem refuses_any (x : V) (cs : List Value) (w : World) (S : Nat → Prop) (hx : wt x ≤ 1048576) (hok : ok x) (hV : IsV w S x cs) (hS : Bel S w.heap.size) (hE : Env w) : Calls Tryd.prog 6 #[.agg cs.toArray] w (TruePost w) := by
  have hsz := sz_wt x
  have hlen := tx_len x hok
  have hpos := tx_pos x hok
  have h0 := fun W (hW : Below w.heap.size w W) => awake_any W (hE.below hW)
  have h1 := fun W (hW : Below w.heap.size w W) => rsize_any (sz x) x (Nat.le_refl _) (by omega) cs 100000 W S (hV.below hS hW) (hS.mono hW.size) (by decide) (by decide)
  have h2 := fun W (hW : Below w.heap.size w W) => (tsound_any (sz x) x (Nat.le_refl _) (by omega) hok cs W S (hV.below hS hW) (hS.mono hW.size) (hE.below hW).tabs).mono (R' := TsPost (lk x) W) fun e w' h => by
    obtain ⟨A, c, l, _, e1, _, hb⟩ := h
    exact ⟨A, _, c, e1, hb⟩
  have h3 := fun W (hW : Below w.heap.size w W) => write_any x cs W S (by omega) (by omega) hok (hV.below hS hW) (hS.mono hW.size) (hE.below hW)
  have h4 := fun W (hW : Below w.heap.size w W) => size_any x cs W S (by omega) (by omega) hok (hV.below hS hW) (hS.mono hW.size) (hE.below hW)
  generalize lk x = r at *
  generalize tx x = T at *
  obtain ⟨k, b, i, f, t, y, is, fs⟩ := x
  simp only [IsV] at hV
  obtain ⟨A, c, A', c', rfl, _⟩ := hV
  exact refuses_cells b i f t y A A' _ _ c c' w k r _ T (by omega) (by omega) hpos h0 h1 h2 h3 h4
end Go.Proofs.YthlncdcfppehcaaDoor.look
end
