/- A variable that holds an outcome; Find and Len by the rows that were handed to New. -/
import Derived.Test.YtmicjfdibhoamaaRows2
namespace Go.Proofs.Ytmicjfdibhoamaa.val
open Go.RowKit mem

theorem nrm_sz (o : O) : sz o.nrm.v ≤ sz o.v := by
  obtain ⟨f, v⟩ := o
  have := sz_pos v
  cases f
  · exact Nat.le_refl _
  · show sz V0 ≤ sz v
    have h : sz V0 = 1 := by simp [sz, V0, szs, szf]
    omega
def OutAt (w : World) (S : Nat → Prop) (g : Nat) (o : O) (k : Int) (b : Bool) (i : Int) (f : Nat) (t y : ByteArray) (A : Option Addr) (n c : Nat) (A' : Option Addr) (n' c' : Nat) : Prop :=
  w.heap[g]? = some (.cells #[.bool o.fail, .int .i64 k, .bool b, .int .i64 i, .float .f64 f, .string t, .string y, .slice A n c, .slice A' n' c'] 37 (0, 0)) ∧ OutCells w S o k b i f t y A n c A' n' c'
theorem OutAt.below {w w' : World} {S : Nat → Prop} {g : Nat} {o : O} {k : Int} {b : Bool} {i : Int} {f : Nat} {t y : ByteArray} {A : Option Addr} {n c : Nat} {A' : Option Addr} {n' c' : Nat} {B : Nat}
    (h : OutAt w S g o k b i f t y A n c A' n' c') (hS : Bel S B) (hg : g < B) (hb : Below B w w') : OutAt w' S g o k b i f t y A n c A' n' c' :=
  ⟨blk_below h.1 hb hg, recO.keep (fun _ hp => hb.cell (hS _ hp)) (fun _ h => h) h.2⟩
theorem OutAt.cells {w : World} {S : Nat → Prop} {g : Nat} {o : O} {k : Int} {b : Bool} {i : Int} {f : Nat} {t y : ByteArray} {A : Option Addr} {n c : Nat} {A' : Option Addr} {n' c' : Nat} (h : OutAt w S g o k b i f t y A n c A' n' c') :
    w.cell? ⟨g, 0, none⟩ = some (.bool o.fail) ∧ w.cell? ⟨g, 1, none⟩ = some (.int .i64 k) ∧ w.cell? ⟨g, 2, none⟩ = some (.bool b) ∧ w.cell? ⟨g, 3, none⟩ = some (.int .i64 i) ∧ w.cell? ⟨g, 4, none⟩ = some (.float .f64 f) ∧ w.cell? ⟨g, 5, none⟩ = some (.string t) ∧ w.cell? ⟨g, 6, none⟩ = some (.string y) ∧ w.cell? ⟨g, 7, none⟩ = some (.slice A n c) ∧ w.cell? ⟨g, 8, none⟩ = some (.slice A' n' c') :=
  blk9 h.1
theorem OutAt.lt {w : World} {S : Nat → Prop} {g : Nat} {o : O} {k : Int} {b : Bool} {i : Int} {f : Nat} {t y : ByteArray} {A : Option Addr} {n c : Nat} {A' : Option Addr} {n' c' : Nat} (h : OutAt w S g o k b i f t y A n c A' n' c') : g < w.heap.size := blk_lt h.1
/-- sameOut at two variables of one outcome -/
theorem sameAt {w W : World} {S S' : Nat → Prop} {g g' : Nat} {o : O} {k : Int} {b : Bool} {i : Int} {f : Nat} {t y : ByteArray} {A : Option Addr} {n c : Nat} {A' : Option Addr} {n' c' : Nat} {k2 : Int} {b2 : Bool} {i2 : Int} {f2 : Nat} {t2 y2 : ByteArray} {A2 : Option Addr} {n2 c2 : Nat} {A2' : Option Addr} {n2' c2' : Nat}
    (h : OutAt w S g o k b i f t y A n c A' n' c') (h2 : OutAt w S' g' o k2 b2 i2 f2 t2 y2 A2 n2 c2 A2' n2' c2') (hS : Bel S w.heap.size) (hS' : Bel S' w.heap.size) (ho : sz o.v ≤ 1048576) (hW : Below w.heap.size w W) :
    Calls Try.prog 18 #[.agg #[.bool o.fail, .int .i64 k, .bool b, .int .i64 i, .float .f64 f, .string t, .string y, .slice A n c, .slice A' n' c'], .agg #[.bool o.fail, .int .i64 k2, .bool b2, .int .i64 i2, .float .f64 f2, .string t2, .string y2, .slice A2 n2 c2, .slice A2' n2' c2']] W (TruePost W) :=
  sameOut_refl o ho _ _ W S S' (recO.keep (fun _ hp => hW.cell (hS _ hp)) (fun _ h => h) h.2) (recO.keep (fun _ hp => hW.cell (hS' _ hp)) (fun _ h => h) h2.2) (hS.mono hW.size) (hS'.mono hW.size)

def FindOut (w : World) (o : O) (e : Ending) (w' : World) : Prop := Below w.heap.size w w' ∧ ∃ k b i f t y A n c A' n' c',
  e = .returned (.tuple #[.agg #[.bool o.fail, .int .i64 k, .bool b, .int .i64 i, .float .f64 f, .string t, .string y, .slice A n c, .slice A' n' c'], .bool true]) ∧ OutCells w' (New w.heap.size w') o k b i f t y A n c A' n' c'
theorem tabFind_es (w W : World) (g : Nat) (es : List (C × O)) (hT : TabAt w g (tabR es)) (hW : Below w.heap.size w W) (c : C) (hc : c.ok) (o oN : O) (hN : Hid (o.nrm = oN)) (ho : get es c = some o) (hsz : sz o.v ≤ 1048576) :
    Calls Try.prog 17 #[.pointer (some ⟨g + 2, 0, none⟩), .agg #[.string c.p, .string c.q, .string c.f, .string c.a]] W (FindOut W oN) := by
  obtain rfl := hN.out
  refine (tabFind_some W g _ (hT.below hW) c hc o.nrm (by rw [get_tabR, ho]; rfl) (Nat.le_trans (nrm_sz o) hsz)).mono fun e w' h => ?_
  rw [nrm_nrm] at h
  exact h
theorem tabFind_no (w W : World) (g : Nat) (es : List (C × O)) (hT : TabAt w g (tabR es)) (hW : Below w.heap.size w W) (c : C) (hc : c.ok) (ho : get es c = none) :
    Calls Try.prog 17 #[.pointer (some ⟨g + 2, 0, none⟩), .agg #[.string c.p, .string c.q, .string c.f, .string c.a]] W (RetPost W (.tuple #[.agg #[.bool false, .int .i64 0, .bool false, .int .i64 0, .float .f64 0, .string ⟨#[]⟩, .string ⟨#[]⟩, .slice none 0 0, .slice none 0 0], .bool false])) :=
  tabFind_none W g _ (hT.below hW) c hc (by rw [get_tabR, ho]; rfl)
theorem tabLen_int (w W : World) (g : Nat) (rows : List (C × O)) (hT : TabAt w g rows) (hW : Below w.heap.size w W) (z : Int) (hz : (rows.length : Int) = z) :
    Calls Try.prog 19 #[.pointer (some ⟨g + 2, 0, none⟩)] W fun e w' => e = .returned (.int .i64 z) ∧ W = w' := by
  subst hz
  exact tabLen_any W g rows (hT.below hW)
theorem out0 (w : World) (S : Nat → Prop) : OutCells w S ⟨true, V0⟩ 0 false 0 0 ⟨#[]⟩ ⟨#[]⟩ none 0 0 none 0 0 := by
  refine ⟨_, rfl, ?_⟩
  simp only [V0, IsV]
  exact ⟨none, 0, none, 0, rfl, fun _ => rfl, fun _ => rfl, by simp only [IsVs], by simp only [IsFs]⟩
theorem get_head (c : C) (o : O) (es : List (C × O)) : get ((c, o) :: es) c = some o := by simp [get]
theorem get_last (c : C) (o : O) (es : List (C × O)) (h : get es c = none) : get (es ++ [(c, o)]) c = some o := by rw [get_append, h]; simp [get]
theorem get_had (c : C) (o p : O) (es : List (C × O)) (h : get es c = some p) : get (es ++ [(c, o)]) c = some p := by rw [get_append, h]
theorem get_sz {es : List (C × O)} {c : C} {o : O} (h : get es c = some o) : sz o.v ≤ szE es := by
  obtain ⟨j, hj⟩ := List.getElem?_of_mem (get_some_mem h)
  exact szE_get hj
theorem outAt_new {w : World} {S : Nat → Prop} {o : O} {k : Int} {b : Bool} {i : Int} {f : Nat} {t y : ByteArray} {A : Option Addr} {n c : Nat} {A' : Option Addr} {n' c' : Nat} (h : OutCells w S o k b i f t y A n c A' n' c') (hS : Bel S w.heap.size) :
    OutAt (w.alloc (.cells #[.bool o.fail, .int .i64 k, .bool b, .int .i64 i, .float .f64 f, .string t, .string y, .slice A n c, .slice A' n' c'] 37)) S w.heap.size o k b i f t y A n c A' n' c' :=
  ⟨heap_alloc_new w _, recO.keep (fun p hp => World.cell?_of_block (Below.heap_alloc w _ p.block (hS _ hp))) (fun _ h => h) h⟩
theorem isE_v {w : World} {S : Nat → Prop} {e : C × O} {a b c d : ByteArray} {f : Bool} {ds : List Value} (h : IsE w S e (.string a :: .string b :: .string c :: .string d :: .bool f :: ds)) : IsV w S e.2.v ds := by
  obtain ⟨ds', h1, h2⟩ := h
  injection h1 with _ h1
  injection h1 with _ h1
  injection h1 with _ h1
  injection h1 with _ h1
  injection h1 with _ h1
  subst h1
  exact h2
theorem OutAt.grown {w w' : World} {S : Nat → Prop} {g r : Nat} {o : O} {k : Int} {b : Bool} {i : Int} {f : Nat} {t y : ByteArray} {A : Option Addr} {n c : Nat} {A' : Option Addr} {n' c' : Nat}
    (h : OutAt w S g o k b i f t y A n c A' n' c') (hg : w.grownBy w' (some r)) (hne : g ≠ r) (hS : ∀ b, S b → b < w.heap.size ∧ b ≠ r) : OutAt w' S g o k b i f t y A n c A' n' c' :=
  ⟨blk_grown h.1 hg (by intro e; injection e; omega), recO.keep (fun p hp => World.cell?_of_block (hg.block p.block (hS _ hp).1 (by intro e; injection e with e; exact (hS _ hp).2 e))) (fun _ h => h) h.2⟩
theorem outCells_grown {w w' : World} {S : Nat → Prop} {r : Nat} {o : O} {k : Int} {b : Bool} {i : Int} {f : Nat} {t y : ByteArray} {A : Option Addr} {n c : Nat} {A' : Option Addr} {n' c' : Nat}
    (h : OutCells w S o k b i f t y A n c A' n' c') (hg : w.grownBy w' (some r)) (hS : ∀ b, S b → b < w.heap.size ∧ b ≠ r) : OutCells w' S o k b i f t y A n c A' n' c' :=
  recO.keep (fun p hp => World.cell?_of_block (hg.block p.block (hS _ hp).1 (by intro e; injection e with e; exact (hS _ hp).2 e))) (fun _ h => h) h
theorem get_skip {c d : C} (o : O) (es : List (C × O)) (h : d ≠ c) : get ((d, o) :: es) c = get es c := by simp [get, h]
theorem get_of_mem {es : List (C × O)} {e : C × O} (h : e ∈ es) : ∃ o, get es e.1 = some o := by
  cases hg : get es e.1 with
  | some o => exact ⟨o, rfl⟩
  | none => exact absurd (List.mem_map.2 ⟨e, h, rfl⟩) (get_none_of.1 hg)
theorem toList_inj {a b : ByteArray} (h : a.toList = b.toList) : a = b := by
  rw [ByteArray.toList_eq, ByteArray.toList_eq] at h
  exact ByteArray.ext (Array.toList_inj.1 h)
theorem c_eq {z1 z2 z3 z4 x1 x2 x3 x4 : ByteArray} (h1 : z1.toList = x1.toList) (h2 : z2.toList = x2.toList) (h3 : z3.toList = x3.toList) (h4 : z4.toList = x4.toList) : true = decide ((⟨z1, z2, z3, z4⟩ : C) = ⟨x1, x2, x3, x4⟩) := by
  rw [toList_inj h1, toList_inj h2, toList_inj h3, toList_inj h4]
  simp
theorem c_ne1 {z1 z2 z3 z4 x1 x2 x3 x4 : ByteArray} (h1 : ¬ z1.toList = x1.toList) : false = decide ((⟨z1, z2, z3, z4⟩ : C) = ⟨x1, x2, x3, x4⟩) := (decide_eq_false (fun h => h1 (by injection h with a; rw [a]))).symm
theorem c_ne2 {z1 z2 z3 z4 x1 x2 x3 x4 : ByteArray} (h1 : ¬ z2.toList = x2.toList) : false = decide ((⟨z1, z2, z3, z4⟩ : C) = ⟨x1, x2, x3, x4⟩) := (decide_eq_false (fun h => h1 (by injection h with _ a; rw [a]))).symm
theorem c_ne3 {z1 z2 z3 z4 x1 x2 x3 x4 : ByteArray} (h1 : ¬ z3.toList = x3.toList) : false = decide ((⟨z1, z2, z3, z4⟩ : C) = ⟨x1, x2, x3, x4⟩) := (decide_eq_false (fun h => h1 (by injection h with _ _ a; rw [a]))).symm
theorem c_ne4 {z1 z2 z3 z4 x1 x2 x3 x4 : ByteArray} (h1 : ¬ z4.toList = x4.toList) : false = decide ((⟨z1, z2, z3, z4⟩ : C) = ⟨x1, x2, x3, x4⟩) := (decide_eq_false (fun h => h1 (by injection h with _ _ _ a; rw [a]))).symm
theorem get_app_some {es : List (C × O)} {c : C} {p : O} (r : List (C × O)) (h : get es c = some p) : get (es ++ r) c = some p := by rw [get_append, h]
theorem TabAt.to {w w' : World} {g : Nat} {rows : List (C × O)} (h : TabAt w g rows) (hb : Below w.heap.size w w') : TabAt w' g rows := h.below hb
end Go.Proofs.Ytmicjfdibhoamaa.val
