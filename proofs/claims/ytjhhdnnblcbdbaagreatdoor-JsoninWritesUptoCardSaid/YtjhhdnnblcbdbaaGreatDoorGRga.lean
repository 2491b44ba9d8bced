/- number.Read, walked: of any text. number.Read of any text: what it answers, plain. -/
import Derived.Test.YtjhhdnnblcbdbaaGreatDoorGTga
import Derived.Test.YtjhhdnnblcbdbaaGreatDoorGRe
import Derived.Lib.ParseIntBTie
section
namespace Go.Proofs.YtjhhdnnblcbdbaaGreatDoor.dcm
open Go.RowKit mem fl big us uw pg
set_option linter.unusedVariables false
attribute [local go_sem] run_store_float
def numV (k v:Int) (b:Nat) (e:Int):Value:= .tuple #[.agg #[.int .i64 k,.int .i64 v,.float .f64 b],.int .i64 e]
def fltV (neg:Bool) (R:Nat):Value:=if R=9218868437227405312 then numV 0 0 0 7 else numV 3 0 (R+sgn neg) 0
set_option maxRecDepth 100000 in
set_option maxHeartbeats 4000000 in
theorem read_none (T:ByteArray) (n:Nat) (e1 e2 f:Int) (hsz:T.size=n) (hn:n≤1100000) (hpf:pfx.pf (intsOf T) 0=(e1,e2,f)) (h:f=0∨e1≠(n:Int)) (w:World):
  Calls Tryz.prog 17 #[.string T] w fun e w'=>e= .returned (numV 0 0 0 20)∧Below w.heap.size w w':=by
 have hp:=prefix_text T (w.alloc (.cells #[.int .i64 0,.int .i64 0,.float .f64 0] 41)) (by omega)
 rw [hpf] at hp
 have HP:=Lib.hid hp
 clear hp hpf
 have hcv:∀w:World,(convert 9 22 (.string T)).run Tryz.prog w=_:=fun w=>Lib.run_convert_string_bytes w 9 22 5 T Tryz.underlying9 Tryz.underlying22 Tryz.underlying5
 rw [hsz] at hcv
 have HB:=Lib.hid (fun w=>below_bytes w 5 T)
 rw [hsz,show (w.alloc (.cells #[.int .i64 0,.int .i64 0,.float .f64 0] 41)).heap.size=w.heap.size+1 by simp] at HP
 go_enter Tryz.func17,Tryz.ntmps17
 go_wp2_with fail
 refine (HP.out _).mono ?_
 rintro e w1 ⟨rfl,rfl⟩
 have hg1:(Lib.bytesWorld (w.alloc (.cells #[.int .i64 0,.int .i64 0,.float .f64 0] 41)) 5 T).heap[w.heap.size]? =some (.cells #[.int .i64 0,.int .i64 0,.float .f64 0] 41):=(Lib.bytesWorld_at_old _ _ _ _ (by simp)).trans (heap_alloc_new w _)
 have hb1:Below w.heap.size w (Lib.bytesWorld (w.alloc (.cells #[.int .i64 0,.int .i64 0,.float .f64 0] 41)) 5 T):=((Below.refl _ _).alloc (Nat.le_refl _) _).trans ((HB.out _).mono (by simp))
 have hs1:w.heap.size<(Lib.bytesWorld (w.alloc (.cells #[.int .i64 0,.int .i64 0,.float .f64 0] 41)) 5 T).heap.size:=by rw [Lib.bytesWorld_size];simp;omega
 clear hcv HP HB
 generalize Lib.bytesWorld (w.alloc (.cells #[.int .i64 0,.int .i64 0,.float .f64 0] 41)) 5 T=w1 at*
 have HB1:=Lib.hid hb1
 have HG1:=Lib.hid hg1
 clear hb1 hg1
 have hg2:=HG1.out
 have HB2:=HB1
 have z0:=blk_frozen hg2 0
 have z1:=blk_frozen hg2 1
 have z2:=blk_frozen hg2 2
 have y0:=blk_cell hg2 (i:=0) (by simp)
 have y1:=blk_cell hg2 (i:=1) (by simp)
 have y2:=blk_cell hg2 (i:=2) (by simp)
 simp at y0 y1 y2
 have HG2:=Lib.hid hg2
 clear hg2
 by_cases h0:f=0
 ·have hf1:(f==0)=true:=by rw [h0];rfl
  clear h
  go_wp2_with fail
  have hfc:=num_cells (v0:= .int .i64 0) (v1:= .int .i64 0) (v2:= .float .f64 0) HG2.out
  have r0:=blk_cell hfc (i:=0) (by simp)
  have r1:=blk_cell hfc (i:=1) (by simp)
  have r2:=blk_cell hfc (i:=2) (by simp)
  simp only [List.getElem_toArray,List.getElem_cons_zero,List.getElem_cons_succ] at r0 r1 r2
  refine bodyPost_ret (v:= .tuple #[.agg #[.int .i64 0,.int .i64 0,.float .f64 0],.int .i64 20]) (by simp [results,Tryz.results17,go_sem,r0,r1,r2]) rfl ?_
  exact ⟨rfl,((HB2.out.setCell (by simp) _).setCell (by simp) _).setCell (by simp) _⟩
 ·have hf1:(f==0)=false:=beq_false_of_ne h0
  have he1:(e1 !=(n:Int))=true:=bne_iff_ne.2 (by rcases h with h | h;exact absurd h h0;exact h)
  have he2:¬(e1=(n:Int)):=by rcases h with h | h;exact absurd h h0;exact h
  clear h
  go_wp2_with fail
  have hfc:=num_cells (v0:= .int .i64 0) (v1:= .int .i64 0) (v2:= .float .f64 0) HG2.out
  have r0:=blk_cell hfc (i:=0) (by simp)
  have r1:=blk_cell hfc (i:=1) (by simp)
  have r2:=blk_cell hfc (i:=2) (by simp)
  simp only [List.getElem_toArray,List.getElem_cons_zero,List.getElem_cons_succ] at r0 r1 r2
  refine bodyPost_ret (v:= .tuple #[.agg #[.int .i64 0,.int .i64 0,.float .f64 0],.int .i64 20]) (by simp [results,Tryz.results17,go_sem,r0,r1,r2]) rfl ?_
  exact ⟨rfl,((HB2.out.setCell (by simp) _).setCell (by simp) _).setCell (by simp) _⟩
set_option maxRecDepth 100000 in
set_option maxHeartbeats 4000000 in
theorem read_flt (T:ByteArray) (n:Nat) (neg:Bool) (Q:Nat→Prop) (hsz:T.size=n) (hn:n≤1100000) (hpf:pfx.pf (intsOf T) 0=((n:Int),(n:Int),2))
  (hT:∀w,REnv w→Calls Tryz.prog 36 #[.string T] w fun e w'=>∃R,Q R∧R≤9218868437227405312∧e= .returned (.float .f64 (R+sgn neg))∧Below w.heap.size w w')
  (w:World) (hE:REnv w):
  Calls Tryz.prog 17 #[.string T] w fun e w'=>∃R,Q R∧R≤9218868437227405312∧e= .returned (fltV neg R)∧Below w.heap.size w w':=by
 have HT:=Lib.hid hT
 have HE:=Lib.hid hE
 have HInf:=Lib.hid (fun (R:Nat) (hR:R≤9218868437227405312) w=>isInf_any neg R w hR)
 have hp:=prefix_text T (w.alloc (.cells #[.int .i64 0,.int .i64 0,.float .f64 0] 41)) (by omega)
 rw [hpf] at hp
 have HP:=Lib.hid hp
 clear hp hE hT hpf
 have hnn:((n:Int) !=n)=false:=by simp
 have hnn2:((n:Int)==n)=true:=by simp
 have hcv:∀w:World,(convert 9 22 (.string T)).run Tryz.prog w=_:=fun w=>Lib.run_convert_string_bytes w 9 22 5 T Tryz.underlying9 Tryz.underlying22 Tryz.underlying5
 rw [hsz] at hcv
 have HB:=Lib.hid (fun w=>below_bytes w 5 T)
 rw [hsz,show (w.alloc (.cells #[.int .i64 0,.int .i64 0,.float .f64 0] 41)).heap.size=w.heap.size+1 by simp] at HP
 go_enter Tryz.func17,Tryz.ntmps17
 go_wp2_with fail
 refine (HP.out _).mono ?_
 rintro e w1 ⟨rfl,rfl⟩
 have hg1:(Lib.bytesWorld (w.alloc (.cells #[.int .i64 0,.int .i64 0,.float .f64 0] 41)) 5 T).heap[w.heap.size]? =some (.cells #[.int .i64 0,.int .i64 0,.float .f64 0] 41):=(Lib.bytesWorld_at_old _ _ _ _ (by simp)).trans (heap_alloc_new w _)
 have hb1:Below w.heap.size w (Lib.bytesWorld (w.alloc (.cells #[.int .i64 0,.int .i64 0,.float .f64 0] 41)) 5 T):=((Below.refl _ _).alloc (Nat.le_refl _) _).trans ((HB.out _).mono (by simp))
 have hs1:w.heap.size<(Lib.bytesWorld (w.alloc (.cells #[.int .i64 0,.int .i64 0,.float .f64 0] 41)) 5 T).heap.size:=by rw [Lib.bytesWorld_size];simp;omega
 clear hcv HP HB
 generalize Lib.bytesWorld (w.alloc (.cells #[.int .i64 0,.int .i64 0,.float .f64 0] 41)) 5 T=w1 at*
 have HB1:=Lib.hid hb1
 have HG1:=Lib.hid hg1
 clear hb1 hg1
 go_wp2_with fail
 refine (HT.out w1 (HE.out.below HB1.out)).mono ?_
 rintro e w2 ⟨R,hQ,hR,rfl,hb2⟩
 have hg2:=(hb2.block _ hs1).trans HG1.out
 have HB2:=Lib.hid (HB1.out.trans (hb2.mono (Nat.le_of_lt hs1)))
 clear hb2 HG1 HB1
 have HQ:=Lib.hid hQ
 have HIr:=Lib.hid (HInf.out R hR)
 have HR:=Lib.hid hR
 clear hQ hR HInf
 by_cases hi:R=9218868437227405312
 ·rw [decide_eq_true hi] at HIr
  have HF:=Lib.hid (show fltV neg R=numV 0 0 0 7 from if_pos hi)
  clear hi
  go_wp2_with fail
  refine (HIr.out _).mono ?_
  rintro e w3 ⟨rfl,rfl⟩
  have z0:=blk_frozen hg2 0
  have z1:=blk_frozen hg2 1
  have z2:=blk_frozen hg2 2
  have y0:=blk_cell hg2 (i:=0) (by simp)
  have y1:=blk_cell hg2 (i:=1) (by simp)
  have y2:=blk_cell hg2 (i:=2) (by simp)
  simp at y0 y1 y2
  have HG2:=Lib.hid hg2
  clear hg2
  go_wp2_with fail
  have hfc:=num_cells (v0:= .int .i64 0) (v1:= .int .i64 0) (v2:= .float .f64 0) HG2.out
  have r0:=blk_cell hfc (i:=0) (by simp)
  have r1:=blk_cell hfc (i:=1) (by simp)
  have r2:=blk_cell hfc (i:=2) (by simp)
  simp only [List.getElem_toArray,List.getElem_cons_zero,List.getElem_cons_succ] at r0 r1 r2
  refine bodyPost_ret (v:= .tuple #[.agg #[.int .i64 0,.int .i64 0,.float .f64 0],.int .i64 7]) (by simp [results,Tryz.results17,go_sem,r0,r1,r2]) rfl ?_
  exact ⟨R,HQ.out,HR.out,by rw [HF.out];rfl,((HB2.out.setCell (by simp) _).setCell (by simp) _).setCell (by simp) _⟩
 ·rw [decide_eq_false hi] at HIr
  have HF:=Lib.hid (show fltV neg R=numV 3 0 (R+sgn neg) 0 from if_neg hi)
  clear hi
  go_wp2_with fail
  refine (HIr.out _).mono ?_
  rintro e w3 ⟨rfl,rfl⟩
  have z0:=blk_frozen hg2 0
  have z1:=blk_frozen hg2 1
  have z2:=blk_frozen hg2 2
  have y0:=blk_cell hg2 (i:=0) (by simp)
  have y1:=blk_cell hg2 (i:=1) (by simp)
  have y2:=blk_cell hg2 (i:=2) (by simp)
  simp at y0 y1 y2
  have HG2:=Lib.hid hg2
  clear hg2
  go_wp2_with fail
  have hfc:=num_cells (v0:= .int .i64 3) (v1:= .int .i64 0) (v2:= .float .f64 (R+sgn neg)) HG2.out
  have r0:=blk_cell hfc (i:=0) (by simp)
  have r1:=blk_cell hfc (i:=1) (by simp)
  have r2:=blk_cell hfc (i:=2) (by simp)
  simp only [List.getElem_toArray,List.getElem_cons_zero,List.getElem_cons_succ] at r0 r1 r2
  refine bodyPost_ret (v:= .tuple #[.agg #[.int .i64 3,.int .i64 0,.float .f64 (R+sgn neg)],.int .i64 0]) (by simp [results,Tryz.results17,go_sem,r0,r1,r2]) rfl ?_
  exact ⟨R,HQ.out,HR.out,by rw [HF.out];rfl,((HB2.out.setCell (by simp) _).setCell (by simp) _).setCell (by simp) _⟩
set_option maxRecDepth 100000 in
set_option maxHeartbeats 4000000 in
theorem read_rng (T:ByteArray) (n:Nat) (neg:Bool) (Q:Nat→Prop) (hsz:T.size=n) (hn:n≤1100000) (hpf:pfx.pf (intsOf T) 0=((n:Int),(n:Int),1))
  (hT:∀w,REnv w→Calls Tryz.prog 36 #[.string T] w fun e w'=>∃R,Q R∧R≤9218868437227405312∧e= .returned (.float .f64 (R+sgn neg))∧Below w.heap.size w w')
  (hI:∀w,REnv w→Calls Tryz.prog 35 #[.string T,.int .i64 10,.int .i64 64] w fun e w'=>∃(v:Int) (tp:TypeId) (p:Value),e= .returned (.tuple #[.int .i64 v,.iface tp p])∧Below w.heap.size w w')
  (w:World) (hE:REnv w):
  Calls Tryz.prog 17 #[.string T] w fun e w'=>∃R,Q R∧R≤9218868437227405312∧e= .returned (fltV neg R)∧Below w.heap.size w w':=by
 have HT:=Lib.hid hT
 have HI:=Lib.hid hI
 have HE:=Lib.hid hE
 have HInf:=Lib.hid (fun (R:Nat) (hR:R≤9218868437227405312) w=>isInf_any neg R w hR)
 have hp:=prefix_text T (w.alloc (.cells #[.int .i64 0,.int .i64 0,.float .f64 0] 41)) (by omega)
 rw [hpf] at hp
 have HP:=Lib.hid hp
 clear hp hE hT hpf hI
 have hnn:((n:Int) !=n)=false:=by simp
 have hnn2:((n:Int)==n)=true:=by simp
 have hcv:∀w:World,(convert 9 22 (.string T)).run Tryz.prog w=_:=fun w=>Lib.run_convert_string_bytes w 9 22 5 T Tryz.underlying9 Tryz.underlying22 Tryz.underlying5
 rw [hsz] at hcv
 have HB:=Lib.hid (fun w=>below_bytes w 5 T)
 rw [hsz,show (w.alloc (.cells #[.int .i64 0,.int .i64 0,.float .f64 0] 41)).heap.size=w.heap.size+1 by simp] at HP
 go_enter Tryz.func17,Tryz.ntmps17
 go_wp2_with fail
 refine (HP.out _).mono ?_
 rintro e w1 ⟨rfl,rfl⟩
 have hg1:(Lib.bytesWorld (w.alloc (.cells #[.int .i64 0,.int .i64 0,.float .f64 0] 41)) 5 T).heap[w.heap.size]? =some (.cells #[.int .i64 0,.int .i64 0,.float .f64 0] 41):=(Lib.bytesWorld_at_old _ _ _ _ (by simp)).trans (heap_alloc_new w _)
 have hb1:Below w.heap.size w (Lib.bytesWorld (w.alloc (.cells #[.int .i64 0,.int .i64 0,.float .f64 0] 41)) 5 T):=((Below.refl _ _).alloc (Nat.le_refl _) _).trans ((HB.out _).mono (by simp))
 have hs1:w.heap.size<(Lib.bytesWorld (w.alloc (.cells #[.int .i64 0,.int .i64 0,.float .f64 0] 41)) 5 T).heap.size:=by rw [Lib.bytesWorld_size];simp;omega
 clear hcv HP HB
 generalize Lib.bytesWorld (w.alloc (.cells #[.int .i64 0,.int .i64 0,.float .f64 0] 41)) 5 T=w1 at*
 have HB1:=Lib.hid hb1
 have HG1:=Lib.hid hg1
 clear hb1 hg1
 go_wp2_with fail
 refine (HI.out w1 (HE.out.below HB1.out)).mono ?_
 rintro e w1b ⟨vi,tp,pv,rfl,hb1b⟩
 have hg1b:=(hb1b.block _ hs1).trans HG1.out
 have HB1b:=Lib.hid (HB1.out.trans (hb1b.mono (Nat.le_of_lt hs1)))
 have hs1b:w.heap.size<w1b.heap.size:=Nat.lt_of_lt_of_le hs1 hb1b.size
 clear hb1b HG1 HB1 HI hs1
 have HG1:=Lib.hid hg1b
 clear hg1b
 go_wp2_with fail
 refine (HT.out w1b (HE.out.below HB1b.out)).mono ?_
 rintro e w2 ⟨R,hQ,hR,rfl,hb2⟩
 have hg2:=(hb2.block _ hs1b).trans HG1.out
 have HB2:=Lib.hid (HB1b.out.trans (hb2.mono (Nat.le_of_lt hs1b)))
 clear hb2 HG1 HB1b
 have HQ:=Lib.hid hQ
 have HIr:=Lib.hid (HInf.out R hR)
 have HR:=Lib.hid hR
 clear hQ hR HInf
 by_cases hi:R=9218868437227405312
 ·rw [decide_eq_true hi] at HIr
  have HF:=Lib.hid (show fltV neg R=numV 0 0 0 7 from if_pos hi)
  clear hi
  go_wp2_with fail
  refine (HIr.out _).mono ?_
  rintro e w3 ⟨rfl,rfl⟩
  have z0:=blk_frozen hg2 0
  have z1:=blk_frozen hg2 1
  have z2:=blk_frozen hg2 2
  have y0:=blk_cell hg2 (i:=0) (by simp)
  have y1:=blk_cell hg2 (i:=1) (by simp)
  have y2:=blk_cell hg2 (i:=2) (by simp)
  simp at y0 y1 y2
  have HG2:=Lib.hid hg2
  clear hg2
  go_wp2_with fail
  have hfc:=num_cells (v0:= .int .i64 0) (v1:= .int .i64 0) (v2:= .float .f64 0) HG2.out
  have r0:=blk_cell hfc (i:=0) (by simp)
  have r1:=blk_cell hfc (i:=1) (by simp)
  have r2:=blk_cell hfc (i:=2) (by simp)
  simp only [List.getElem_toArray,List.getElem_cons_zero,List.getElem_cons_succ] at r0 r1 r2
  refine bodyPost_ret (v:= .tuple #[.agg #[.int .i64 0,.int .i64 0,.float .f64 0],.int .i64 7]) (by simp [results,Tryz.results17,go_sem,r0,r1,r2]) rfl ?_
  exact ⟨R,HQ.out,HR.out,by rw [HF.out];rfl,((HB2.out.setCell (by simp) _).setCell (by simp) _).setCell (by simp) _⟩
 ·rw [decide_eq_false hi] at HIr
  have HF:=Lib.hid (show fltV neg R=numV 3 0 (R+sgn neg) 0 from if_neg hi)
  clear hi
  go_wp2_with fail
  refine (HIr.out _).mono ?_
  rintro e w3 ⟨rfl,rfl⟩
  have z0:=blk_frozen hg2 0
  have z1:=blk_frozen hg2 1
  have z2:=blk_frozen hg2 2
  have y0:=blk_cell hg2 (i:=0) (by simp)
  have y1:=blk_cell hg2 (i:=1) (by simp)
  have y2:=blk_cell hg2 (i:=2) (by simp)
  simp at y0 y1 y2
  have HG2:=Lib.hid hg2
  clear hg2
  go_wp2_with fail
  have hfc:=num_cells (v0:= .int .i64 3) (v1:= .int .i64 0) (v2:= .float .f64 (R+sgn neg)) HG2.out
  have r0:=blk_cell hfc (i:=0) (by simp)
  have r1:=blk_cell hfc (i:=1) (by simp)
  have r2:=blk_cell hfc (i:=2) (by simp)
  simp only [List.getElem_toArray,List.getElem_cons_zero,List.getElem_cons_succ] at r0 r1 r2
  refine bodyPost_ret (v:= .tuple #[.agg #[.int .i64 3,.int .i64 0,.float .f64 (R+sgn neg)],.int .i64 0]) (by simp [results,Tryz.results17,go_sem,r0,r1,r2]) rfl ?_
  exact ⟨R,HQ.out,HR.out,by rw [HF.out];rfl,((HB2.out.setCell (by simp) _).setCell (by simp) _).setCell (by simp) _⟩
end Go.Proofs.YtjhhdnnblcbdbaaGreatDoor.dcm
end
section
namespace Go.Proofs.YtjhhdnnblcbdbaaGreatDoor.dcm
open Go.RowKit mem fl big us uw pg
set_option linter.unusedVariables false
set_option linter.unusedSimpArgs false
def wholeZ (l:List Nat):Int:=if l.head? =some 45 then-((dvn (l.drop 1):Nat):Int) else ((dvn l:Nat):Int)
def fits (l:List Nat):Prop:= -9223372036854775808≤wholeZ l∧wholeZ l<9223372036854775808
instance (l:List Nat):Decidable (fits l):=by unfold fits;exact inferInstance
def form (l:List Nat):Int:=pfx.fm (pfx.adv 0 l)
theorem fm_range (s:Int):pfx.fm s=0∨pfx.fm s=1∨pfx.fm s=2:=by
 unfold pfx.fm
 split
 ·exact .inr (.inl rfl)
 ·split
  ·exact .inr (.inr rfl)
  ·exact .inl rfl
def asks (l:List Nat):Prop:=form l=2∨(form l=1∧¬fits l)
def ans (l:List Nat) (R:Nat):Value:=if form l=0 then numV 0 0 0 20 else if form l=1∧fits l then numV 2 (wholeZ l) 0 0 else fltV (decide (l.head? =some 45)) R
def Sd (P:Nat) (l:List Nat) (R:Nat):Prop:=Dec P (dvn (spB l)) (spX l-(spB l).length) R
def RdPost (P:Nat) (l:List Nat) (w:World) (e:Ending) (w':World):Prop:=∃R,(asks l→Sd P l R∧R≤9218868437227405312)∧e= .returned (ans l R)∧Below w.heap.size w w'
theorem late (T:List Nat):∀st:Int,4≤st→pfx.fm (pfx.adv st T)≠1:=by
 induction T with
 | nil=>
   intro st h
   show pfx.fm st≠1
   unfold pfx.fm
   rw [if_neg (by omega)]
   split <;> decide
 | cons c T ih=>
   intro st h
   rw [pfx.adv_cons]
   refine ih _ ?_
   unfold pfx.nx
   rw [if_neg (by omega),if_neg (by omega)]
   repeat' split
   all_goals omega
theorem whole_digs:∀(T:List Nat) (st:Int),0≤st→st≤3→pfx.fm (pfx.adv st T)=1→(st=0→T.head?≠some 45)→(∀c∈T,Dig c)∧(st≤1→T≠[]):=by
 intro T
 induction T with
 | nil=>
   intro st h0 h3 h _
   refine ⟨fun c hc=>absurd hc (by simp),fun h1=>?_⟩
   have h':pfx.fm st=1:=h
   unfold pfx.fm at h'
   rw [if_neg (by omega),if_neg (by omega)] at h'
   exact absurd h' (by decide)
 | cons c T ih=>
   intro st h0 h3 h hh
   rw [pfx.adv_cons] at h
   have key:∀s':Int,pfx.nx st (c:Int)=s'→1≤s'→s'≤3→Dig c→(∀x∈c :: T,Dig x)∧(st≤1→c :: T≠[]):=by
    intro s' h1 h2 h4 h5
    rw [h1] at h
    have:=(ih s' (by omega) h4 h (fun hz=>by omega)).1
    exact ⟨fun x hx=>by rcases List.mem_cons.1 hx with rfl | hx;exact h5;exact this x hx,fun _=>by simp⟩
   have bad:∀s':Int,pfx.nx st (c:Int)=s'→4≤s'→False:=fun s' h1 h2=>by rw [h1] at h;exact late T s' h2 h
   obtain ⟨nv,hnv⟩:∃nv,pfx.nx st (c:Int)=nv:=⟨_,rfl⟩
   have hn:=hnv
   unfold pfx.nx at hn
   by_cases s01:st=0∨st=1
   ·rw [if_pos s01] at hn
    split at hn
    ·rename_i hc
     exact absurd (by simp;omega) (hh hc.2)
    ·split at hn
     ·exact key 2 (hnv.trans hn.symm) (by omega) (by omega) ⟨by omega,by omega⟩
     ·split at hn
      ·rename_i hd
       exact key 3 (hnv.trans hn.symm) (by omega) (by omega) ((dig_iff c).1 hd)
      ·exact (bad 9 (hnv.trans hn.symm) (by omega)).elim
   ·rw [if_neg s01,if_pos (by omega)] at hn
    split at hn
    ·rename_i hd
     exact key 3 (hnv.trans hn.symm) (by omega) (by omega) ((dig_iff c).1 hd.1)
    ·split at hn
     ·exact (bad 4 (hnv.trans hn.symm) (by omega)).elim
     ·split at hn
      ·exact (bad 6 (hnv.trans hn.symm) (by omega)).elim
      ·exact (bad 9 (hnv.trans hn.symm) (by omega)).elim
theorem whole_shape {l:List Nat} (h:form l=1):∃neg ds,l=(if neg=true then [45] else [])++ds∧(∀c∈ds,Dig c)∧ds≠[]∧decide (l.head? =some 45)=neg∧wholeZ l=if neg=true then-((dvn ds:Nat):Int) else ((dvn ds:Nat):Int):=by
 unfold form at h
 by_cases hd:l.head? =some 45
 ·obtain ⟨T,rfl⟩:∃T,l=45 :: T:=by
   cases l with
   | nil=>simp at hd
   | cons c T=>simp at hd;exact ⟨T,by rw [hd]⟩
  rw [pfx.adv_sign] at h
  have:=whole_digs T 1 (by omega) (by omega) h (fun h0=>by omega)
  exact ⟨true,T,rfl,this.1,this.2 (by omega),by simp,by unfold wholeZ;rw [if_pos hd];rfl⟩
 ·have:=whole_digs l 0 (by omega) (by omega) h (fun _=>hd)
  exact ⟨false,l,rfl,this.1,this.2 (by omega),by simp [hd],by unfold wholeZ;rw [if_neg hd];rfl⟩
theorem pu_all:∀(ds:List Nat),(∀c∈ds,Dig c)→∀acc:Nat,acc<18446744073709551616→Lib.parseUint10 acc (by8 ds)=if acc*10^ds.length+dvn ds<18446744073709551616 then .ok (acc*10^ds.length+dvn ds) else .range
 | [],_,acc,h=>by
   have e:acc*10^([]:List Nat).length+dvn []=acc:=by simp [dvn]
   rw [e,if_pos h]
   rfl
 | c :: ds,hd,acc,h=>by
   have hc:=hd c (by simp)
   unfold Dig at hc
   have ec:(UInt8.ofNat c).toNat=c:=by rw [UInt8.toNat_ofNat'];omega
   show Lib.parseUint10 acc (UInt8.ofNat c :: by8 ds)=_
   have hp:0<10^ds.length:=Nat.pow_pos (by omega)
   have e:acc*10^(c :: ds).length+dvn (c :: ds)=(acc*10+(c-48))*10^ds.length+dvn ds:=by
    rw [dvn_cons,List.length_cons,Nat.pow_succ,Nat.add_mul,Nat.mul_assoc acc,Nat.mul_comm 10]
    omega
   rw [e]
   simp only [Lib.parseUint10,ec]
   rw [if_pos hc]
   by_cases h1:1844674407370955162≤acc
   ·rw [if_pos h1]
    have h2:18446744073709551616*1≤(acc*10+(c-48))*10^ds.length:=Nat.mul_le_mul (by omega) hp
    rw [if_neg (by omega)]
   ·rw [if_neg h1]
    by_cases h3:18446744073709551616≤acc*10+(c-48)
    ·rw [if_pos h3]
     have h2:18446744073709551616*1≤(acc*10+(c-48))*10^ds.length:=Nat.mul_le_mul h3 hp
     rw [if_neg (by omega)]
    ·rw [if_neg h3]
     exact pu_all ds (fun d h=>hd d (by simp [h])) _ (by omega)
theorem parse_whole' {l:List Nat} (h:form l=1):(fits l→Lib.parseIntB 64 (by8 l)= .ok (wholeZ l))∧(¬fits l→Lib.parseIntB 64 (by8 l)= .range):=by
 obtain ⟨neg,ds,hl,hds,hne,hng,hz⟩:=whole_shape h
 unfold fits
 rw [hz,Lib.parseIntB_64,hl]
 have hp:=pu_all ds hds 0 (by omega)
 rw [Nat.zero_mul,Nat.zero_add] at hp
 have hn8:by8 ds≠[]:=fun hh=>hne (List.map_eq_nil_iff.1 hh)
 cases neg
 ·simp only [Bool.false_eq_true,if_false,List.nil_append]
  obtain ⟨c,r,hc⟩:∃c r,ds=c :: r:=by
   cases ds with
   | nil=>exact absurd rfl hne
   | cons c r=>exact ⟨c,r,rfl⟩
  have hcb:=hds c (by rw [hc];simp)
  unfold Dig at hcb
  have h8:by8 ds=UInt8.ofNat c :: by8 r:=by rw [hc];rfl
  have ec:(UInt8.ofNat c).toNat=c:=by rw [UInt8.toNat_ofNat'];omega
  generalize dvn ds=u at*
  rw [h8] at hp hn8 ⊢
  simp only [Lib.atoiAll,ec]
  rw [if_neg (show ¬(c=43∨c=45) by omega)]
  simp only [Lib.parseMag,if_neg hn8,hp]
  by_cases hu:u<18446744073709551616
  ·rw [if_pos hu]
   simp only
   by_cases h9:u<9223372036854775808
   ·rw [if_neg (by omega),if_neg (by omega),if_neg (by omega)]
    exact ⟨fun _=>rfl,fun hh=>absurd (show-9223372036854775808≤(u:Int)∧(u:Int)<9223372036854775808 by omega) hh⟩
   ·rw [if_pos (by omega)]
    exact ⟨fun hh=>by omega,fun _=>rfl⟩
  ·rw [if_neg hu]
   exact ⟨fun hh=>by omega,fun _=>rfl⟩
 ·simp only [if_true]
  rw [show by8 ([45]++ds)=UInt8.ofNat 45 :: by8 ds from rfl]
  have e45:(UInt8.ofNat 45).toNat=45:=rfl
  simp only [Lib.atoiAll,e45]
  simp only [or_true,if_true,Lib.parseMag,if_neg hn8,hp]
  generalize dvn ds=u at*
  by_cases hu:u<18446744073709551616
  ·rw [if_pos hu]
   simp only
   by_cases h9:u≤9223372036854775808
   ·rw [if_neg (by simp),if_neg (by simp;omega)]
    exact ⟨fun _=>rfl,fun hh=>absurd (show-9223372036854775808≤ -(u:Int)∧ -(u:Int)<9223372036854775808 by omega) hh⟩
   ·rw [if_neg (by simp),if_pos (by simp;omega)]
    exact ⟨fun hh=>by omega,fun _=>rfl⟩
  ·rw [if_neg hu]
   exact ⟨fun hh=>by omega,fun _=>rfl⟩
theorem parse_whole {l:List Nat} (h:form l=1):Lib.parseIntB 64 (by8 l)=if fits l then .ok (wholeZ l) else .range:=by
 obtain ⟨h1,h2⟩:=parse_whole' h
 split
 ·rename_i hh;exact h1 hh
 ·rename_i hh;exact h2 hh
theorem run_not:∀(L:List Nat) (st e f:Int) (i:Nat),L≠[]→e≤(i:Int)→pfx.fm (pfx.adv st L)=0→(pfx.run st e f i (L.map fun n:Nat=>(n:Int))).1<((i+L.length:Nat):Int)
 | [],_,_,_,_,h,_,_=>absurd rfl h
 | c :: r,st,e,f,i,_,he,hf=>by
   rw [pfx.adv_cons] at hf
   rw [List.map_cons,pfx.run,List.length_cons]
   by_cases h9:pfx.nx st (c:Int)=9
   ·rw [if_pos h9]
    simp only
    omega
   ·rw [if_neg h9]
    cases r with
    | nil=>
      have hf':pfx.fm (pfx.nx st (c:Int))=0:=hf
      rw [if_pos hf',List.map_nil,pfx.run]
      simp only [List.length_nil]
      omega
    | cons d r=>
      have ih:=fun e f he=>run_not (d :: r) (pfx.nx st (c:Int)) e f (i+1) (by simp) he hf
      rw [show i+((d :: r).length+1)=i+1+(d :: r).length by omega]
      split
      ·exact ih e f (by omega)
      ·exact ih _ _ (by omega)
theorem pf_not {l:List Nat} (h:form l=0):(pfx.pf (l.map fun n:Nat=>(n:Int)) 0).2.2=0∨(pfx.pf (l.map fun n:Nat=>(n:Int)) 0).1≠((l.length:Nat):Int):=by
 unfold form at h
 unfold pfx.pf
 rw [if_neg (by simp)]
 cases l with
 | nil=>left;rfl
 | cons c r=>
   right
   have:=run_not (c :: r) 0 0 0 0 (by simp) (by omega) h
   simp only [Int.toNat_zero,List.drop_zero]
   rw [Nat.zero_add] at this
   omega
theorem sp_good {l:List Nat} (h:form l≠0):(∀c∈spB l,48≤c∧c≤57)∧(spB l≠[]→(spB l).getD 0 0≠48)∧(spB l).length≤l.length:=by
 obtain ⟨neg,M,Rr,hle,hM,hRs,hng,hdrop⟩:=nt_shape h
 obtain ⟨htw,hdw⟩:=tw_split hM hRs
 have hspM:pg.spM l=M:=by unfold pg.spM;rw [hdrop];exact htw
 obtain ⟨d1,d2,d3⟩:=sp_digs M hM ⟨[],0,false⟩ ⟨fun c hc=>absurd hc (by simp),fun hh=>absurd rfl hh⟩
 have hMl:M.length≤l.length:=by rw [hle];simp;omega
 have hspB:spB l=(M.foldl spStep ⟨[],0,false⟩).b:=by unfold spB spF;rw [hspM]
 rw [hspB]
 simp only [List.length_nil] at d2
 exact ⟨d1.1,d1.2,by omega⟩
theorem strN_data (s:ByteArray):s.data.toList=by8 (nats s):=by
 unfold by8 nats
 rw [List.map_map]
 refine ((List.map_congr_left fun c _=>?_).trans (List.map_id _)).symm
 simp
theorem ints_nats (s:ByteArray):intsOf s=(nats s).map fun n:Nat=>(n:Int):=rfl
theorem spAt_gen {s:ByteArray} (h0:0<s.size) (hn:s.size≤1100000) (hE:∀k,k<s.size→isE ((nats s).getD k 0)=true→k+1<s.size):SpAt s (decide ((nats s).head? =some 45)) (spB (nats s)) (spX (nats s)):=fun w=>by
 by_cases h:(nats s).head? =some 45
 ·exact split_neg s w h0 hn hE h
 ·exact split_pos s w h0 hn hE h
theorem read_all {P z:Nat} (hz:z=1074) (hP:P=2^z) (s:ByteArray) (hn:s.size≤1100000) (w:World) (hE:REnv w):
  Calls Tryz.prog 17 #[.string s] w (RdPost P (nats s) w):=by
 have hlen:=nats_length s
 by_cases hf0:form (nats s)=0
 ·have hp:=pf_not hf0
  rw [hlen] at hp
  obtain ⟨⟨e1,e2,f⟩,hpe⟩:∃x,pfx.pf (intsOf s) 0=x:=⟨_,rfl⟩
  rw [ints_nats] at hpe
  rw [hpe] at hp
  refine (read_none s s.size e1 e2 f rfl hn (by rw [ints_nats];exact hpe) hp w).mono ?_
  rintro e w' ⟨he,hb⟩
  refine ⟨0,fun ha=>?_,by rw [he];unfold ans;rw [if_pos hf0],hb⟩
  rcases ha with ha | ⟨ha,_⟩ <;> rw [hf0] at ha <;> exact absurd ha (by decide)
 ·have hne:nats s≠[]:=fun h=>hf0 (by rw [h];rfl)
  have hs0:0<s.size:=by rw [←hlen];exact List.length_pos_iff.2 hne
  have hpt:=pf_text (s:=s) rfl hne hf0
  obtain ⟨g1,g2,g3⟩:=sp_good hf0
  have hsp:=spAt_gen hs0 hn (by rw [←hlen];exact e_last (st:=0) hf0)
  have hTF:∀w,REnv w→Calls Tryz.prog 36 #[.string s] w fun e w'=>∃R,Sd P (nats s) R∧R≤9218868437227405312∧e= .returned (.float .f64 (R+sgn (decide ((nats s).head? =some 45))))∧Below w.heap.size w w':=fun w hw=>toFloat_gen hz hP hsp g1 g2 (by omega) w hw
  rcases fm_range (pfx.adv 0 (nats s)) with hfm | hfm | hfm
  ·exact absurd hfm hf0
  ·have hf1:form (nats s)=1:=hfm
   rw [hfm] at hpt
   have hpw:=parse_whole hf1
   rw [←strN_data] at hpw
   by_cases hft:fits (nats s)
   ·rw [if_pos hft] at hpw
    refine (read_whole s s.size (wholeZ (nats s)) rfl hn hpt (fun w=>shelf.strconv_ParseInt_10_at64_ok s (by omega) _ hpw w) w).mono ?_
    rintro e w' ⟨he,hb⟩
    refine ⟨0,fun ha=>?_,by rw [he];unfold ans;rw [if_neg hf0,if_pos ⟨hf1,hft⟩];rfl,hb⟩
    rcases ha with ha | ⟨_,ha⟩
    ·rw [hf1] at ha;exact absurd ha (by decide)
    ·exact absurd hft ha
   ·rw [if_neg hft] at hpw
    refine (read_rng s s.size _ (Sd P (nats s)) rfl hn hpt hTF (fun w hw=>?_) w hE).mono ?_
    ·obtain ⟨tp,p,hv⟩:=erAt_var hw.er
     refine (shelf.strconv_ParseInt_10_at64_range_var s (by omega) hpw tp p w hv).mono ?_
     rintro e w' ⟨N,he,_,_,hb⟩
     exact ⟨_,_,_,he,hb⟩
    ·rintro e w' ⟨R,hQ,hR,he,hb⟩
     exact ⟨R,fun _=>⟨hQ,hR⟩,by rw [he];unfold ans;rw [if_neg hf0,if_neg (fun hh=>hft hh.2)],hb⟩
  ·have hf2:form (nats s)=2:=hfm
   rw [hfm] at hpt
   refine (read_flt s s.size _ (Sd P (nats s)) rfl hn hpt hTF w hE).mono ?_
   rintro e w' ⟨R,hQ,hR,he,hb⟩
   exact ⟨R,fun _=>⟨hQ,hR⟩,by rw [he];unfold ans;rw [if_neg hf0,if_neg (fun hh=>by rw [hf2] at hh;exact absurd hh.1 (by decide))],hb⟩
end Go.Proofs.YtjhhdnnblcbdbaaGreatDoor.dcm
end
