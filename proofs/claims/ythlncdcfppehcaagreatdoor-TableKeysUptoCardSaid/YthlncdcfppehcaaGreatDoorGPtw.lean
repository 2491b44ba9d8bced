/- tree.PathText. table.Key and the reference's Key. The reference's Key. -/
import Derived.Test.YthlncdcfppehcaaGreatDoorGShelfB
import Derived.Test.YthlncdcfppehcaaGreatDoorGSnd6
section
namespace Go.Proofs.YthlncdcfppehcaaGreatDoor.pth
open Go.RowKit mem val
set_option linter.unusedVariables false

/-- a builder at block b that holds the bytes X -/
def Bd (b : Nat) (X : List UInt8) (W : World) : Prop := Lib.IsBuilder 85 5 b b (Lib.byteCells X) W
/-- a round's state: the builder, the world before, the step's box -/
structure St (b G : Nat) (o : Array Value) (w : World) (X : List UInt8) (W : World) : Prop where
  bd : Bd b X W
  be : Below b w W
  box : W.heap[G]? = some (.cells o 52 (0, 0))
theorem St.below {b G : Nat} {o : Array Value} {w : World} {X : List UInt8} {W W' : World} (h : St b G o w X W) (hbw : b ≤ W.heap.size) (hb : Below W.heap.size W W') : St b G o w X W' :=
  ⟨sbd.isb_below h.bd hb, h.be.trans (hb.mono hbw), (hb.block G (Array.getElem?_eq_some_iff.1 h.box).1).trans h.box⟩
theorem St.lt {b G : Nat} {o : Array Value} {w : World} {X : List UInt8} {W : World} (h : St b G o w X W) : b < W.heap.size := by
  rcases h.bd with k | k
  · exact k.lt
  · exact k.lt
theorem St.byte {b G : Nat} {o : Array Value} {w : World} {X : List UInt8} {W : World} (h : St b G o w X W) (hG : G ≠ b) (c : UInt8) (x : Int) (hx : x = c.toNat) (hX : X.length ≤ 17592186044416) :
    Calls Tryz.prog 51 #[.pointer (some ⟨b, 0, none⟩), .int .u8 x] W fun e w' => e = .returned .nilIface ∧ St b G o w (X ++ [c]) w' := by
  subst hx
  refine (sbd.byte_any b b (Lib.byteCells X) c.toNat W h.bd (by rw [Lib.byteCells_length]; omega) (Nat.le_of_lt h.lt)).mono ?_
  rintro e w' ⟨rfl, h1, h2, h3⟩
  refine ⟨rfl, ?_, h.be.trans h2, h3 G _ _ _ h.box (by decide) hG⟩
  unfold Bd
  rw [Lib.byteCells_append]
  exact Or.inr h1
theorem St.str {b G : Nat} {o : Array Value} {w : World} {X : List UInt8} {W : World} (h : St b G o w X W) (hG : G ≠ b) (Y : List UInt8) (y : ByteArray) (hy : y = ⟨Y.toArray⟩) (hX : X.length ≤ 17592186044416) (hY : Y.length ≤ 17592186044416) :
    Calls Tryz.prog 52 #[.pointer (some ⟨b, 0, none⟩), .string y] W fun e w' => e = .returned (.tuple #[.int .i64 y.size, .nilIface]) ∧ St b G o w (X ++ Y) w' := by
  subst hy
  refine (sbd.str_any b b (Lib.byteCells X) ⟨Y.toArray⟩ W h.bd (by rw [Lib.byteCells_length]; show _ + Y.length ≤ _; omega) (Nat.le_of_lt h.lt)).mono ?_
  rintro e w' ⟨rfl, h1, h2, h3⟩
  refine ⟨rfl, ?_, h.be.trans h2, h3 G _ _ _ h.box (by decide) hG⟩
  unfold Bd
  rw [Lib.byteCells_append]
  exact Or.inr h1
theorem escs_take {l : List UInt8} (q : Nat) : (escs (l.take q)).length ≤ (escs l).length := by
  have h : escs l = escs (l.take q) ++ escs (l.drop q) := by
    unfold escs
    rw [← List.flatMap_append, List.take_append_drop]
  rw [h, List.length_append]
  omega
theorem St.cells {b G : Nat} {c0 c1 c2 : Value} {w : World} {X : List UInt8} {W : World} (h : St b G #[c0, c1, c2] w X W) : W.cell? ⟨G, 0, none⟩ = some c0 ∧ W.cell? ⟨G, 1, none⟩ = some c1 ∧ W.cell? ⟨G, 2, none⟩ = some c2 :=
  ⟨cell_of_row W G 0 _ 52 (0, 0) h.box, cell_of_row W G 1 _ 52 (0, 0) h.box, cell_of_row W G 2 _ 52 (0, 0) h.box⟩
set_option maxRecDepth 100000 in
set_option maxHeartbeats 4000000 in
theorem path_any (l : List StepT) (A : Option Addr) (c : Nat) (S : Nat → Prop) (w : World) (hl : l.length ≤ 1048576) (ht : (pthB l).length ≤ 4398046511104) (hP : IsP w S A l) (hS : Bel S w.heap.size) (hE : look.Env w) :
    Calls Tryz.prog 35 #[.slice A l.length c] w (StPost (pthB l) w) := by
  have HP := Lib.hid hP
  have HS := Lib.hid hS
  have HE := Lib.hid hE
  clear hP hS hE
  obtain ⟨w1, hw1⟩ : ∃ w1, w.alloc (.cells #[.pointer none, .slice none 0 0] 85) = w1 := ⟨_, rfl⟩
  have HB : Hid (Bd w.heap.size [] w1) := Lib.hid (by rw [← hw1]; exact Lib.fresh_isBuilder 85 5 w)
  have hb : Below w.heap.size w w1 := by rw [← hw1]; exact (Below.refl _ _).alloc (Nat.le_refl _) _
  go_enter Tryz.func35, Tryz.ntmps35
  go_wp2_with fail
  clear hw1
  go_loopw [5, 6, 9] (fun v5 v6 v9 W => ∃ q : Nat, q ≤ l.length ∧ v9 = .int .i64 (q : Int) ∧ Hid (Bd w.heap.size (pthB (l.take q)) W) ∧ Below w.heap.size w W) (fun _ _ i _ => l.length - (intOf i).toNat)
  case atStart => exact ⟨0, Nat.zero_le _, rfl, HB, hb⟩
  case round =>
    clear hb HB
    obtain ⟨q, hq, rfl, HB, hb⟩ := hrel
    by_cases hlt : q < l.length
    · obtain ⟨s, hs⟩ : ∃ x, l[q]? = some x := ⟨_, List.getElem?_eq_getElem hlt⟩
      obtain ⟨hok, ad, rfl, hadB, hcs⟩ := HP.out.below HS.out hb q s hs
      have hnx := pthB_next hs
      have htk := pthB_take (l := l) (q + 1)
      obtain ⟨n, i, it⟩ := s
      obtain ⟨c0, c1, c2⟩ := three hcs
      rw [hnx, List.length_append, List.length_cons] at htk
      have HNX := Lib.hid hnx
      have hz := hb.size
      have hbB : Below w.heap.size w (wr.alloc (.cells #[.string n, .int .i64 i, .bool it] 52)) := hb.alloc (by omega) _
      have HST : Hid (St w.heap.size wr.heap.size #[.string n, .int .i64 i, .bool it] w (pthB (l.take q)) (wr.alloc (.cells #[.string n, .int .i64 i, .bool it] 52))) := Lib.hid ⟨sbd.isb_below HB.out ((Below.refl _ _).alloc (Nat.le_refl _) _), hbB, heap_alloc_new _ _⟩
      have hG : wr.heap.size ≠ w.heap.size := by
        have : w.heap.size < wr.heap.size := by
          rcases HB.out with k | k
          · exact k.lt
          · exact k.lt
        omega
      obtain ⟨G, hGe⟩ : ∃ G, wr.heap.size = G := ⟨_, rfl⟩
      rw [hGe] at HST hG
      obtain ⟨X, hX⟩ : ∃ X, pthB (l.take q) = X := ⟨_, rfl⟩
      rw [hX] at HST HNX htk
      have HC := Lib.hid (HST.out.byte hG 47 47 rfl (by omega))
      have HN := Lib.hid hok.1
      have HI1 := Lib.hid hok.2
      clear hcs hs hnx hbB HB hX hok hb hz
      go_wp2_with fail
      refine HC.out.mono ?_
      rintro e w2 ⟨rfl, hst⟩
      clear HC HST c0 c1 c2
      clear hGe
      obtain ⟨b0, b1, b2⟩ := hst.cells
      have HS2 := Lib.hid hst
      have hlt2 := hst.lt
      have hE2 := HE.out.below hst.be
      clear hst
      cases it with
      | true =>
        simp only [stepB, if_true] at HNX htk
        have HC := Lib.hid (itoa_any i HI1.out.1 HI1.out.2 w2 hE2)
        clear hE2
        go_wp2_with fail
        refine HC.out.mono ?_
        rintro e w3 ⟨rfl, hb3⟩
        have HC2 := Lib.hid ((HS2.out.below (Nat.le_of_lt hlt2) hb3).str hG (Lib.itoa i) _ rfl (by rw [List.length_append]; simp; omega) (by omega))
        clear HC HS2 hb3 b0 b1 b2
        go_wp2_with fail
        refine HC2.out.mono ?_
        rintro e w4 ⟨rfl, hst⟩
        have HF : Hid (Bd w.heap.size (pthB (l.take (q + 1))) w4) := Lib.hid (by
          rw [HNX.out]
          have := hst.bd
          rw [List.append_assoc] at this
          exact this)
        have hbz := hst.be
        clear HC2 hst
        go_wp2_with fail
        exact ⟨⟨q + 1, by omega, by go_num, HF, hbz⟩, by simp [intOf]; omega⟩
      | false =>
        clear HI1 hE2
        have hsb : stepB (n, i, false) = (if markB n.data.toList = true then [126, 50] else []) ++ escs n.data.toList := by simp [stepB]
        rw [hsb] at HNX htk
        clear hsb
        have HM := Lib.hid (marked_any n w2)
        have hsz := Lib.size_eq n
        obtain ⟨nl, hnl⟩ : ∃ nl, n.data.toList = nl := ⟨_, rfl⟩
        have hel := escs_len nl
        obtain ⟨mb, hmb⟩ : ∃ mb, markB n.data.toList = mb := ⟨_, rfl⟩
        rw [hmb] at HM HNX htk
        rw [hnl] at hsz HNX htk
        have HL := Lib.hid hnl
        clear hmb hnl
        obtain ⟨pre, hpre⟩ : ∃ pre : List UInt8, (if mb = true then [126, 50] else []) = pre := ⟨_, rfl⟩
        rw [hpre] at HNX htk
        have HPre := Lib.hid hpre
        clear hpre
        have hnl2 : nl.length ≤ 1048576 := by have := HN.out; omega
        have hpl : X.length + 1 ≤ 17592186044416 := by omega
        go_wp2_with fail
        refine HM.out.mono ?_
        rintro e w3 ⟨rfl, rfl⟩
        clear HM b0 b1 b2
        go_upto_if 22 with (fail)
        go_cut [6] from 23 to 23 (fun u6' wx => u6' = u6 ∧ Hid (St w.heap.size G #[.string n, .int .i64 i, .bool false] w (X ++ 47 :: pre) wx))
        case first =>
          cases mb with
          | false =>
            obtain rfl : [] = pre := by simpa using HPre.out
            go_wp2_with fail
            go_meet
            case rel => exact ⟨rfl, HS2⟩
          | true =>
            obtain rfl : [126, 50] = pre := by simpa using HPre.out
            have HC := Lib.hid (HS2.out.str hG [126, 50] ⟨#[126, 50]⟩ rfl (by simp; omega) (by simp))
            go_wp2_with fail
            refine HC.out.mono ?_
            rintro e w4 ⟨rfl, hst⟩
            have HQ : Hid (St w.heap.size G #[.string n, .int .i64 i, .bool false] w (X ++ 47 :: [126, 50]) w4) := Lib.hid (by simpa using hst)
            clear HC hst
            go_wp2_with fail
            go_meet
            case rel => exact ⟨rfl, HQ⟩
        case rest =>
          obtain ⟨_, HQ0⟩ := hcut
          have HQ : Hid (St w.heap.size G #[.string n, .int .i64 i, .bool false] w (X ++ 47 :: (pre ++ escs (nl.take 0))) wc) := Lib.hid (by simpa [escs] using HQ0.out)
          clear HQ0 HPre HS2
          go_wp2_with fail
          go_loopw [6] (fun v6 W => ∃ j : Nat, j ≤ nl.length ∧ v6 = .int .i64 (j : Int) ∧ Hid (St w.heap.size G #[.string n, .int .i64 i, .bool false] w (X ++ 47 :: (pre ++ escs (nl.take j))) W)) (fun i _ => nl.length - (intOf i).toNat)
          case atStart => exact ⟨0, Nat.zero_le _, rfl, HQ⟩
          case round =>
            clear HQ
            obtain ⟨j, hj, rfl, HQ⟩ := hrel
            obtain ⟨b0, _, _⟩ := HQ.out.cells
            by_cases hjl : j < nl.length
            · obtain ⟨ch, hc⟩ : ∃ x, nl[j]? = some x := ⟨_, List.getElem?_eq_getElem hjl⟩
              have hc2 : n.data.toList[j]? = some ch := by rw [HL.out]; exact hc
              obtain ⟨hqs, hx⟩ := idx_of hc2
              have hen := escs_next hc
              have het := escs_take (l := nl) (j + 1)
              rw [hen, List.length_append] at het
              have hXl : (X ++ 47 :: (pre ++ escs (nl.take j))).length ≤ 17592186044416 := by
                rw [List.length_append] at htk
                rw [List.length_append, List.length_cons, List.length_append]
                omega
              have HXL := Lib.hid hXl
              have HEN : Hid (X ++ 47 :: (pre ++ escs (nl.take (j + 1))) = (X ++ 47 :: (pre ++ escs (nl.take j))) ++ escP ch) := Lib.hid (by rw [hen]; simp)
              obtain ⟨x, hxx⟩ : ∃ x, ch.toNat = x := ⟨_, rfl⟩
              rw [hxx] at hx
              clear hc hc2 hen het hXl
              by_cases h126 : x = 126
              · subst h126
                have HC := Lib.hid (HQ.out.str hG [126, 48] ⟨#[126, 48]⟩ rfl HXL.out (by simp))
                have HE2 : Hid (escP ch = [126, 48]) := Lib.hid (by unfold escP; rw [if_pos hxx])
                go_wp2_with fail
                refine HC.out.mono ?_
                rintro e w5 ⟨rfl, hst⟩
                rw [← HE2.out, ← HEN.out] at hst
                have HF := Lib.hid hst
                clear HC hst HQ b0
                go_wp2_with fail
                exact ⟨⟨j + 1, by omega, by go_num, HF⟩, by simp [intOf]; omega⟩
              · have hb1 : ((x : Int) == 126) = false := beq_false_of_ne (by omega)
                by_cases h47 : x = 47
                · subst h47
                  have HC := Lib.hid (HQ.out.str hG [126, 49] ⟨#[126, 49]⟩ rfl HXL.out (by simp))
                  have HE2 : Hid (escP ch = [126, 49]) := Lib.hid (by unfold escP; rw [if_neg (by omega), if_pos hxx])
                  go_wp2_with fail
                  refine HC.out.mono ?_
                  rintro e w5 ⟨rfl, hst⟩
                  rw [← HE2.out, ← HEN.out] at hst
                  have HF := Lib.hid hst
                  clear HC hst HQ b0
                  go_wp2_with fail
                  exact ⟨⟨j + 1, by omega, by go_num, HF⟩, by simp [intOf]; omega⟩
                · have hb2 : ((x : Int) == 47) = false := beq_false_of_ne (by omega)
                  have HC := Lib.hid (HQ.out.byte hG ch x (by rw [hxx]) HXL.out)
                  have HE2 : Hid (escP ch = [ch]) := Lib.hid (by unfold escP; rw [if_neg (by omega), if_neg (by omega)])
                  go_wp2_with fail
                  refine HC.out.mono ?_
                  rintro e w5 ⟨rfl, hst⟩
                  rw [← HE2.out, ← HEN.out] at hst
                  have HF := Lib.hid hst
                  clear HC hst HQ b0
                  go_wp2_with fail
                  exact ⟨⟨j + 1, by omega, by go_num, HF⟩, by simp [intOf]; omega⟩
            · obtain rfl : j = nl.length := by omega
              rw [List.take_length] at HQ
              have HF : Hid (Bd w.heap.size (pthB (l.take (q + 1))) wr) := Lib.hid (by rw [HNX.out]; exact HQ.out.bd)
              have hbz := HQ.out.be
              go_wp2_with fail
              exact ⟨⟨q + 1, by omega, by go_num, HF, hbz⟩, by simp [intOf]; omega⟩
    · obtain rfl : q = l.length := by omega
      rw [List.take_length] at HB
      have hz := hb.size
      have HC := Lib.hid (shelfb.Builder_String_any w.heap.size w.heap.size (pthB l) wr HB.out hz)
      go_wp2_with fail
      refine HC.out.mono ?_
      rintro e w2 ⟨rfl, hb2⟩
      have hbz := hb.trans hb2
      go_wp2_with fail
      go_ret
      exact ⟨rfl, hbz⟩
end Go.Proofs.YthlncdcfppehcaaGreatDoor.pth
end
section
namespace Go.Proofs.YthlncdcfppehcaaGreatDoor.pth
open Go.RowKit mem val txt app smap
set_option linter.unusedVariables false

def KeyPost (r : Int) (T : List Int) (P : List UInt8) (a b : ByteArray) (w : World) (e : Ending) (w' : World) : Prop :=
  (r = 0 → e = .returned (.tuple #[.agg #[.string ⟨P.toArray⟩, .string a, .string b, .string (strOf T)], .int .i64 0])) ∧
  (r ≠ 0 → e = .returned (.tuple #[.agg #[.string ⟨#[]⟩, .string ⟨#[]⟩, .string ⟨#[]⟩, .string ⟨#[]⟩], .int .i64 r])) ∧ Below w.heap.size w w'
theorem res2 {P : Program} {fn : Func} {p u : Tmp} {ty : TypeId} (h : fn.results = #[.cell p ty, .tmp u]) (tmps : Array Value) (w : World) (g : Nat) (t : TypeId) (cs : Array Value) (fr : Nat × Nat) (d : TypeDesc)
    (hp : tmps.getD p undef = .pointer (some ⟨g, 0, none⟩)) (hg : w.heap[g]? = some (.cells cs t fr))
    (hu : P.underlying ty = some d) (hd : (match d with | .struct _ | .array _ _ => true | _ => false) = true) (hi : (P.info? ty).map (·.size) = some cs.size) :
    (results fn tmps).run P w = .ok (.tuple #[.agg cs, tmps.getD u undef]) w := by
  rw [results_cell_tmp h, hp]
  simp [asAddr, run_loadVar_row w g t ty cs fr d hg hu hd hi, Result.andThen]
theorem store4 {W : World} {g B : Nat} {t : TypeId} {c0 c1 c2 c3 : Value} (x0 x1 x2 x3 : Value) (hB : B ≤ g) (h : W.heap[g]? = some (.cells #[c0, c1, c2, c3] t (0, 0))) :
    ((((W.setCell ⟨g, 0, none⟩ x0).setCell ⟨g, 1, none⟩ x1).setCell ⟨g, 2, none⟩ x2).setCell ⟨g, 3, none⟩ x3).heap[g]? = some (.cells #[x0, x1, x2, x3] t (0, 0)) ∧
    Below B W ((((W.setCell ⟨g, 0, none⟩ x0).setCell ⟨g, 1, none⟩ x1).setCell ⟨g, 2, none⟩ x2).setCell ⟨g, 3, none⟩ x3) := by
  refine ⟨?_, ((((Below.refl _ _).setCell hB _).setCell hB _).setCell hB _).setCell hB _⟩
  have h0 := blk_set h 0 x0
  have h1 := blk_set h0 1 x1
  have h2 := blk_set h1 2 x2
  have h3 := blk_set h2 3 x3
  simpa using h3
theorem sizeC : (Tryz.prog.info? 48).map (·.size) = some 4 := by kernel_rfl
theorem cells4 {W : World} {g : Nat} {t : TypeId} {c0 c1 c2 c3 : Value} (h : W.heap[g]? = some (.cells #[c0, c1, c2, c3] t (0, 0))) : W.cell? ⟨g, 0, none⟩ = some c0 ∧ W.cell? ⟨g, 1, none⟩ = some c1 ∧ W.cell? ⟨g, 2, none⟩ = some c2 ∧ W.cell? ⟨g, 3, none⟩ = some c3 :=
  ⟨cell_of_row W g 0 _ t (0, 0) h, cell_of_row W g 1 _ t (0, 0) h, cell_of_row W g 2 _ t (0, 0) h, cell_of_row W g 3 _ t (0, 0) h⟩
set_option maxRecDepth 100000 in
set_option maxHeartbeats 4000000 in
theorem key_any (r : Int) (T : List Int) (l : List StepT) (a b : ByteArray) (A A' : Option Addr) (c n c' : Nat) (w : World)
    (h1 : ∀ W, Below w.heap.size w W → Calls Tryz.prog 15 #[.agg #[.int .i64 6, .bool false, .int .i64 0, .float .f64 0, .string ⟨#[]⟩, .string ⟨#[]⟩, .slice none 0 0, .slice A' n c']] W (look.WrPost r T W))
    (h2 : ∀ W, Below w.heap.size w W → Calls Tryz.prog 35 #[.slice A l.length c] W (StPost (pthB l) W)) :
    Calls Tryz.prog 19 #[.slice A l.length c, .string a, .string b, .slice A' n c'] w (KeyPost r T (pthB l) a b w) := by
  have H2 := Lib.hid h2
  obtain ⟨w1, hw1⟩ : ∃ w1, w.alloc (.cells #[.string ⟨#[]⟩, .string ⟨#[]⟩, .string ⟨#[]⟩, .string ⟨#[]⟩] 48) = w1 := ⟨_, rfl⟩
  have g1 : w1.heap[w.heap.size]? = some (.cells #[.string ⟨#[]⟩, .string ⟨#[]⟩, .string ⟨#[]⟩, .string ⟨#[]⟩] 48 (0, 0)) := by rw [← hw1]; exact heap_alloc_new _ _
  have hb1 : Below w.heap.size w w1 := by rw [← hw1]; exact (Below.refl _ _).alloc (Nat.le_refl _) _
  have HC := Lib.hid (h1 w1 hb1)
  have HB1 := Lib.hid hb1
  have G1 := Lib.hid g1
  clear h1 h2 g1 hb1
  go_enter Tryz.func19, Tryz.ntmps19
  go_wp2_with fail
  refine HC.out.mono ?_
  rintro e w2 ⟨ha, hb, hbl⟩
  have hb2 := HB1.out.trans (hbl.mono HB1.out.size)
  have hlt1 : w.heap.size < w1.heap.size := (Array.getElem?_eq_some_iff.1 G1.out).1
  have g2 : w2.heap[w.heap.size]? = some (.cells #[.string ⟨#[]⟩, .string ⟨#[]⟩, .string ⟨#[]⟩, .string ⟨#[]⟩] 48 (0, 0)) := (hbl.block w.heap.size hlt1).trans G1.out
  by_cases hr : r = 0
  · obtain ⟨v1, B1, rfl, ho1, _⟩ := ha hr
    obtain ⟨A1, c1, rfl, hA1, _⟩ := own_form ho1
    subst hr
    have HO1 := Lib.hid ho1
    have HA1 := Lib.hid hA1
    have HB2 := Lib.hid hb2
    have G2 := Lib.hid g2
    obtain ⟨X, hX⟩ : ∃ X, strOf T = X := ⟨_, rfl⟩
    have HXc : Hid (∀ W, Below w2.heap.size w2 W → (convert 36 9 (.slice A1 T.length c1)).run Tryz.prog W = .ok (.string X) W) := Lib.hid (fun W hW => by
      rw [← hX]
      exact run_conv_bytes 36 9 5 A1 _ c1 Tryz.underlying36 Tryz.underlying5 Tryz.underlying9 (Rd.of_own (look.own_below HO1.out hW)) HA1.out)
    have HX := Lib.hid hX
    clear ha hb ho1 hA1 hb2 HC HB1 G1 hbl g2 hX hw1
    go_upto_region 4 with (fail)
    have hdr : Below w2.heap.size w2 w2.drew := (Below.refl _ _).drew
    have HK := Lib.hid (H2.out w2.drew (HB2.out.trans (hdr.mono HB2.out.size)))
    have hlt2 : w.heap.size < w2.heap.size := (Array.getElem?_eq_some_iff.1 G2.out).1
    have HMK : Hid (∀ W, Below w2.heap.size w2 W → (W.frozen? ⟨w.heap.size, 0, none⟩ = false ∧ W.frozen? ⟨w.heap.size, 1, none⟩ = false ∧ W.frozen? ⟨w.heap.size, 2, none⟩ = false ∧ W.frozen? ⟨w.heap.size, 3, none⟩ = false ∧ W.cell? ⟨w.heap.size, 0, none⟩ = some (.string ⟨#[]⟩) ∧ W.cell? ⟨w.heap.size, 1, none⟩ = some (.string ⟨#[]⟩) ∧ W.cell? ⟨w.heap.size, 2, none⟩ = some (.string ⟨#[]⟩) ∧ W.cell? ⟨w.heap.size, 3, none⟩ = some (.string ⟨#[]⟩) ∧ (convert 36 9 (.slice A1 T.length c1)).run Tryz.prog W = .ok (.string X) W ∧ Hid (Below w2.heap.size w2 W))) := Lib.hid (fun W hW => by
      have g3 := (hW.block w.heap.size hlt2).trans G2.out
      obtain ⟨m0, m1, m2, m3⟩ := cells4 g3
      exact ⟨Lib.frozen_of_heap g3 0, Lib.frozen_of_heap g3 1, Lib.frozen_of_heap g3 2, Lib.frozen_of_heap g3 3, m0, m1, m2, m3, HXc.out W hW, Lib.hid hW⟩)
    have HHL := Lib.hid hlt2
    clear hdr hlt2 hlt1
    obtain ⟨f0, f1, f2, f3, m0, m1, m2, m3, hcv, _⟩ := HMK.out w2.drew ((Below.refl _ _).drew)
    (go_region_law ((go_simp; go_at_call 35; refine HK.out.mono ?_; rintro e0 wc ⟨rfl, hb3⟩; obtain ⟨k0, k1, k2, k3, n0, n1, n2, n3, kcv, hbz⟩ := HMK.out wc (((Below.refl w2.heap.size w2).drew).trans hb3); clear hb3)))
    all_goals
      have hbz' := hbz.out
      have g3 := (hbz'.block w.heap.size HHL.out).trans G2.out
      have HST := Lib.hid (store4 (B := w.heap.size) (.string ⟨(pthB l).toArray⟩) (.string a) (.string b) (.string X) (Nat.le_refl _) g3)
      have HBZ := Lib.hid (HB2.out.trans (hbz'.mono HB2.out.size))
      clear hbz' g3 k0 k1 k2 k3 n0 n1 n2 n3 kcv hbz f0 f1 f2 f3 m0 m1 m2 m3 hcv HK HMK HXc
      go_wp2_with fail
      refine bodyPost_ret (res2 rfl _ _ w.heap.size 48 #[.string ⟨(pthB l).toArray⟩, .string a, .string b, .string X] (0, 0) _ rfl HST.out.1 Tryz.underlying48 rfl sizeC) rfl ?_
      exact ⟨fun _ => by rw [HX.out]; rfl, fun h => absurd rfl h, HBZ.out.trans HST.out.2⟩
  · obtain rfl := hb hr
    have hne : (r == 0) = false := beq_false_of_ne hr
    have hne2 : (r != 0) = true := by simp [bne, hne]
    have HR := Lib.hid hr
    obtain ⟨m0, m1, m2, m3⟩ := cells4 g2
    have f0 := Lib.frozen_of_heap g2 0
    have f1 := Lib.frozen_of_heap g2 1
    have f2 := Lib.frozen_of_heap g2 2
    have f3 := Lib.frozen_of_heap g2 3
    have hst := store4 (B := w.heap.size) (.string ⟨#[]⟩) (.string ⟨#[]⟩) (.string ⟨#[]⟩) (.string ⟨#[]⟩) (Nat.le_refl _) g2
    have HST := Lib.hid hst
    have HB2 := Lib.hid hb2
    clear ha hb hr HC HB1 G1 hbl hst g2 hb2 hw1
    go_wp2_with fail
    refine bodyPost_ret (res2 rfl _ _ w.heap.size 48 #[.string ⟨#[]⟩, .string ⟨#[]⟩, .string ⟨#[]⟩, .string ⟨#[]⟩] (0, 0) _ rfl HST.out.1 Tryz.underlying48 rfl sizeC) rfl ?_
    exact ⟨fun h => absurd h HR.out, fun _ => rfl, HB2.out.trans HST.out.2⟩
end Go.Proofs.YthlncdcfppehcaaGreatDoor.pth
end
section
namespace Go.Proofs.YthlncdcfppehcaaGreatDoor.pth
open Go.RowKit mem val txt app smap
set_option linter.unusedVariables false

set_option maxRecDepth 100000 in
set_option maxHeartbeats 4000000 in
theorem rkey_any (r : Int) (T : List Int) (l : List StepT) (a b : ByteArray) (A A' : Option Addr) (c n c' : Nat) (w : World)
    (h1 : ∀ W, Below w.heap.size w W → Calls Tryz.prog 14 #[.agg #[.int .i64 6, .bool false, .int .i64 0, .float .f64 0, .string ⟨#[]⟩, .string ⟨#[]⟩, .slice none 0 0, .slice A' n c']] W (look.WrPost r T W))
    (h2 : ∀ W, Below w.heap.size w W → Calls Tryz.prog 36 #[.slice A l.length c] W (StPost (pthB l) W)) :
    Calls Tryz.prog 23 #[.slice A l.length c, .string a, .string b, .slice A' n c'] w (KeyPost r T (pthB l) a b w) := by
  have H2 := Lib.hid h2
  obtain ⟨w1, hw1⟩ : ∃ w1, w.alloc (.cells #[.string ⟨#[]⟩, .string ⟨#[]⟩, .string ⟨#[]⟩, .string ⟨#[]⟩] 48) = w1 := ⟨_, rfl⟩
  have g1 : w1.heap[w.heap.size]? = some (.cells #[.string ⟨#[]⟩, .string ⟨#[]⟩, .string ⟨#[]⟩, .string ⟨#[]⟩] 48 (0, 0)) := by rw [← hw1]; exact heap_alloc_new _ _
  have hb1 : Below w.heap.size w w1 := by rw [← hw1]; exact (Below.refl _ _).alloc (Nat.le_refl _) _
  have HC := Lib.hid (h1 w1 hb1)
  have HB1 := Lib.hid hb1
  have G1 := Lib.hid g1
  clear h1 h2 g1 hb1
  go_enter Tryz.func23, Tryz.ntmps23
  go_wp2_with fail
  refine HC.out.mono ?_
  rintro e w2 ⟨ha, hb, hbl⟩
  have hb2 := HB1.out.trans (hbl.mono HB1.out.size)
  have hlt1 : w.heap.size < w1.heap.size := (Array.getElem?_eq_some_iff.1 G1.out).1
  have g2 : w2.heap[w.heap.size]? = some (.cells #[.string ⟨#[]⟩, .string ⟨#[]⟩, .string ⟨#[]⟩, .string ⟨#[]⟩] 48 (0, 0)) := (hbl.block w.heap.size hlt1).trans G1.out
  by_cases hr : r = 0
  · obtain ⟨v1, B1, rfl, ho1, _⟩ := ha hr
    obtain ⟨A1, c1, rfl, hA1, _⟩ := own_form ho1
    subst hr
    have HO1 := Lib.hid ho1
    have HA1 := Lib.hid hA1
    have HB2 := Lib.hid hb2
    have G2 := Lib.hid g2
    obtain ⟨X, hX⟩ : ∃ X, strOf T = X := ⟨_, rfl⟩
    have HXc : Hid (∀ W, Below w2.heap.size w2 W → (convert 36 9 (.slice A1 T.length c1)).run Tryz.prog W = .ok (.string X) W) := Lib.hid (fun W hW => by
      rw [← hX]
      exact run_conv_bytes 36 9 5 A1 _ c1 Tryz.underlying36 Tryz.underlying5 Tryz.underlying9 (Rd.of_own (look.own_below HO1.out hW)) HA1.out)
    have HX := Lib.hid hX
    clear ha hb ho1 hA1 hb2 HC HB1 G1 hbl g2 hX hw1
    go_upto_region 4 with (fail)
    have hdr : Below w2.heap.size w2 w2.drew := (Below.refl _ _).drew
    have HK := Lib.hid (H2.out w2.drew (HB2.out.trans (hdr.mono HB2.out.size)))
    have hlt2 : w.heap.size < w2.heap.size := (Array.getElem?_eq_some_iff.1 G2.out).1
    have HMK : Hid (∀ W, Below w2.heap.size w2 W → (W.frozen? ⟨w.heap.size, 0, none⟩ = false ∧ W.frozen? ⟨w.heap.size, 1, none⟩ = false ∧ W.frozen? ⟨w.heap.size, 2, none⟩ = false ∧ W.frozen? ⟨w.heap.size, 3, none⟩ = false ∧ W.cell? ⟨w.heap.size, 0, none⟩ = some (.string ⟨#[]⟩) ∧ W.cell? ⟨w.heap.size, 1, none⟩ = some (.string ⟨#[]⟩) ∧ W.cell? ⟨w.heap.size, 2, none⟩ = some (.string ⟨#[]⟩) ∧ W.cell? ⟨w.heap.size, 3, none⟩ = some (.string ⟨#[]⟩) ∧ (convert 36 9 (.slice A1 T.length c1)).run Tryz.prog W = .ok (.string X) W ∧ Hid (Below w2.heap.size w2 W))) := Lib.hid (fun W hW => by
      have g3 := (hW.block w.heap.size hlt2).trans G2.out
      obtain ⟨m0, m1, m2, m3⟩ := cells4 g3
      exact ⟨Lib.frozen_of_heap g3 0, Lib.frozen_of_heap g3 1, Lib.frozen_of_heap g3 2, Lib.frozen_of_heap g3 3, m0, m1, m2, m3, HXc.out W hW, Lib.hid hW⟩)
    have HHL := Lib.hid hlt2
    clear hdr hlt2 hlt1
    obtain ⟨f0, f1, f2, f3, m0, m1, m2, m3, hcv, _⟩ := HMK.out w2.drew ((Below.refl _ _).drew)
    (go_region_law ((go_simp; go_at_call 36; refine HK.out.mono ?_; rintro e0 wc ⟨rfl, hb3⟩; obtain ⟨k0, k1, k2, k3, n0, n1, n2, n3, kcv, hbz⟩ := HMK.out wc (((Below.refl w2.heap.size w2).drew).trans hb3); clear hb3)))
    all_goals
      have hbz' := hbz.out
      have g3 := (hbz'.block w.heap.size HHL.out).trans G2.out
      have HST := Lib.hid (store4 (B := w.heap.size) (.string ⟨(pthB l).toArray⟩) (.string a) (.string b) (.string X) (Nat.le_refl _) g3)
      have HBZ := Lib.hid (HB2.out.trans (hbz'.mono HB2.out.size))
      clear hbz' g3 k0 k1 k2 k3 n0 n1 n2 n3 kcv hbz f0 f1 f2 f3 m0 m1 m2 m3 hcv HK HMK HXc
      go_wp2_with fail
      refine bodyPost_ret (res2 rfl _ _ w.heap.size 48 #[.string ⟨(pthB l).toArray⟩, .string a, .string b, .string X] (0, 0) _ rfl HST.out.1 Tryz.underlying48 rfl sizeC) rfl ?_
      exact ⟨fun _ => by rw [HX.out]; rfl, fun h => absurd rfl h, HBZ.out.trans HST.out.2⟩
  · obtain rfl := hb hr
    have hne : (r == 0) = false := beq_false_of_ne hr
    have hne2 : (r != 0) = true := by simp [bne, hne]
    have HR := Lib.hid hr
    obtain ⟨m0, m1, m2, m3⟩ := cells4 g2
    have f0 := Lib.frozen_of_heap g2 0
    have f1 := Lib.frozen_of_heap g2 1
    have f2 := Lib.frozen_of_heap g2 2
    have f3 := Lib.frozen_of_heap g2 3
    have hst := store4 (B := w.heap.size) (.string ⟨#[]⟩) (.string ⟨#[]⟩) (.string ⟨#[]⟩) (.string ⟨#[]⟩) (Nat.le_refl _) g2
    have HST := Lib.hid hst
    have HB2 := Lib.hid hb2
    clear ha hb hr HC HB1 G1 hbl hst g2 hb2 hw1
    go_wp2_with fail
    refine bodyPost_ret (res2 rfl _ _ w.heap.size 48 #[.string ⟨#[]⟩, .string ⟨#[]⟩, .string ⟨#[]⟩, .string ⟨#[]⟩] (0, 0) _ rfl HST.out.1 Tryz.underlying48 rfl sizeC) rfl ?_
    exact ⟨fun h => absurd h HR.out, fun _ => rfl, HB2.out.trans HST.out.2⟩
end Go.Proofs.YthlncdcfppehcaaGreatDoor.pth
end
