/- The reader in memory: its block, what its methods leave, and the fault that they throw. The reader's small steps: stop, next, want, blanks, word. The reader's blanks and words. -/
import Derived.Test.YtjhhdnnblcbdbaaGreatDoorProg
import Derived.Test.YtjhhdnnblcbdbaaGreatDoorGVal
import Derived.Handy
import Derived.WalkKit
import Derived.WalkLawsBesides
import Derived.Lib.Hide
import Derived.Laws.Pointers
import Derived.Deep.DeepMust
import Derived.WalkSpells
import Derived.Deep.RegionLaw
import Derived.Deep.RegionWith
import Derived.Deep.RegionHeld3
import Derived.Deep.Cut
import Derived.Deep.CutRange
import Derived.Deep.QuietTactic
import Derived.BigQuiet
section
namespace Go.Proofs.YtjhhdnnblcbdbaaGreatDoor.jw
open Go.RowKit mem val jp
set_option linter.unusedVariables false
set_option linter.unusedSectionVars false
structure Kp (g B:Nat) (w w':World):Prop where
 os:w'.os=w.os
 tape:w'.tape=w.tape
 output:w'.output=w.output
 size:w.heap.size≤w'.heap.size
 block:∀k,k<B→k≠g→w'.heap[k]? =w.heap[k]?
theorem Kp.refl (g B:Nat) (w:World):Kp g B w w:=⟨rfl,rfl,rfl,Nat.le_refl _,fun _ _ _=>rfl⟩
theorem Kp.trans {g B:Nat} {a b c:World} (h:Kp g B a b) (k:Kp g B b c):Kp g B a c:=
 ⟨k.os.trans h.os,k.tape.trans h.tape,k.output.trans h.output,Nat.le_trans h.size k.size,fun i hi hg=>(k.block i hi hg).trans (h.block i hi hg)⟩
theorem Kp.mono {g B B':Nat} {w w':World} (h:Kp g B w w') (hB:B'≤B):Kp g B' w w':=⟨h.os,h.tape,h.output,h.size,fun k hk hg=>h.block k (Nat.lt_of_lt_of_le hk hB) hg⟩
theorem Kp.of {g B:Nat} {w w':World} (h:Below B w w'):Kp g B w w':=⟨h.os,h.tape,h.output,h.size,fun k hk _=>h.block k hk⟩
theorem Kp.next {g B:Nat} {a b c:World} (h:Kp g B a b) (k:Kp g b.heap.size b c) (hB:B≤b.heap.size):Kp g B a c:=h.trans (k.mono hB)
theorem Kp.below {g B:Nat} {w w':World} (h:Kp g B w w') (hB:B≤g):Below B w w':=⟨h.os,h.tape,h.output,h.size,fun k hk=>h.block k hk (by omega)⟩
theorem Kp.drew {g B:Nat} {a w:World} (h:Kp g B a w):Kp g B a w.drew:=⟨h.os,h.tape,h.output,h.size,h.block⟩
theorem Kp.drewN {g B:Nat} {a w:World} (h:Kp g B a w) (n:Nat):Kp g B a (w.drewN n):=⟨h.os,h.tape,h.output,h.size,h.block⟩
theorem Kp.alloc {g B:Nat} {a w:World} (h:Kp g B a w) (hB:B≤w.heap.size) (o:Obj):Kp g B a (w.alloc o):=
 ⟨h.os,h.tape,h.output,Nat.le_trans h.size (by simp),fun k hk hg=>(Below.heap_alloc w o k (by omega)).trans (h.block k hk hg)⟩
theorem Kp.self {g B:Nat} {a w:World} (h:Kp g B a w) (p:Addr) (hp:p.block=g) (u:Value):Kp g B a (w.setCell p u):=
 ⟨h.os,h.tape,h.output,by simpa [World.setCell] using h.size,fun k hk hg=>(Below.heap_setCell w p u k (by omega)).trans (h.block k hk hg)⟩
theorem Kp.setCell {g B:Nat} {a w:World} (h:Kp g B a w) {p:Addr} (hp:B≤p.block) (u:Value):Kp g B a (w.setCell p u):=
 ⟨h.os,h.tape,h.output,by simpa [World.setCell] using h.size,fun k hk hg=>(Below.heap_setCell w p u k (by omega)).trans (h.block k hk hg)⟩
theorem Kp.grown {g B:Nat} {a w w':World} {row:Option Nat} (h:Kp g B a w) (hg:w.grownBy w' row) (hB:B≤w.heap.size) (hr:∀k,row=some k→B≤k):Kp g B a w':=by
 have hb:=(Below.refl B w).grown hg hB hr
 exact h.trans (Kp.of hb)
theorem Kp.cell {g B:Nat} {w w':World} (h:Kp g B w w') {p:Addr} (hp:p.block<B) (hg:p.block≠g):w'.cell? p=w.cell? p:=World.cell?_of_block (w:=w) (h.block p.block hp hg)
def Rdr (w:World) (g:Nat) (A:Option Addr) (n c:Nat) (p o dp:Int):Prop:=w.heap[g]? =some (.cells #[.slice A n c,.int .i64 p,.int .i64 o,.int .i64 dp] 69 (0,0))
theorem Rdr.cells {w:World} {g:Nat} {A:Option Addr} {n c:Nat} {p o dp:Int} (h:Rdr w g A n c p o dp):
  w.cell? ⟨g,0,none⟩=some (.slice A n c)∧w.cell? ⟨g,1,none⟩=some (.int .i64 p)∧w.cell? ⟨g,2,none⟩=some (.int .i64 o)∧w.cell? ⟨g,3,none⟩=some (.int .i64 dp):=
 ⟨cell_of_row w g 0 _ _ (0,0) h,cell_of_row w g 1 _ _ (0,0) h,cell_of_row w g 2 _ _ (0,0) h,cell_of_row w g 3 _ _ (0,0) h⟩
theorem Rdr.frozen {w:World} {g:Nat} {A:Option Addr} {n c:Nat} {p o dp:Int} (h:Rdr w g A n c p o dp) (i:Nat):w.frozen? ⟨g,i,none⟩=false:=by simp [World.frozen?,show w.heap[g]? =_ from h]
theorem Rdr.lt {w:World} {g:Nat} {A:Option Addr} {n c:Nat} {p o dp:Int} (h:Rdr w g A n c p o dp):g<w.heap.size:=(Array.getElem?_eq_some_iff.1 h).1
theorem Rdr.keep {w w':World} {g:Nat} {A:Option Addr} {n c:Nat} {p o dp:Int} (h:Rdr w g A n c p o dp) (hk:w'.heap[g]? =w.heap[g]?):Rdr w' g A n c p o dp:=hk.trans h
theorem Rdr.below {w w':World} {g B:Nat} {A:Option Addr} {n c:Nat} {p o dp:Int} (h:Rdr w g A n c p o dp) (hb:Below B w w') (hB:g<B):Rdr w' g A n c p o dp:=(hb.block g hB).trans h
theorem Rdr.alloc {w:World} {g:Nat} {A:Option Addr} {n c:Nat} {p o dp:Int} (h:Rdr w g A n c p o dp) (ob:Obj):Rdr (w.alloc ob) g A n c p o dp:=(Below.heap_alloc w ob g h.lt).trans h
theorem Rdr.at_ {w:World} {g:Nat} {A:Option Addr} {n c:Nat} {p o dp:Int} (h:Rdr w g A n c p o dp) (q:Int):Rdr (w.setCell ⟨g,1,none⟩ (.int .i64 q)) g A n c q o dp:=by
 have:=blk_set h 1 (.int .i64 q)
 simpa [Rdr] using this
theorem Rdr.open_ {w:World} {g:Nat} {A:Option Addr} {n c:Nat} {p o dp:Int} (h:Rdr w g A n c p o dp) (q:Int):Rdr (w.setCell ⟨g,2,none⟩ (.int .i64 q)) g A n c p q dp:=by
 have:=blk_set h 2 (.int .i64 q)
 simpa [Rdr] using this
def flt (p e:Int):Ending:= .panicked [{ v:= .iface 65 (.agg #[.int .i64 p,.int .i64 e]),recovered:=false}]
def us (l:List Nat):List Value:=(l.map fun n:Nat=>(n:Int)).map (Value.int .u8)
def NumOf (F:Nf) (w0:World):Prop:=∀(s:ByteArray),s.size≤1100000→∀W,Below w0.heap.size w0 W→
 Calls Tryz.prog 17 #[.string s] W fun e w'=>e= .returned (.tuple #[.agg #[.int .i64 (F (s.data.toList.map UInt8.toNat)).1,.int .i64 (F (s.data.toList.map UInt8.toNat)).2.1,.float .f64 (F (s.data.toList.map UInt8.toNat)).2.2.1],.int .i64 (F (s.data.toList.map UInt8.toNat)).2.2.2])∧Below W.heap.size W w'
structure Cx (F:Nf) (w0:World) (g:Nat) (A:Option Addr) (n:Nat) (src:List Nat):Prop where
 len:src.length=n
 le:n≤1099511627776
 tok:∀p,pE (src.drop p)≤1100000
 byte:∀x∈src,x<256
 rd:Rd w0 w0.heap.size A (us src)
 num:NumOf F w0
 nf:∀l,(F l).2.2.2≠50∧(F l).2.2.2≠71
 lo:w0.heap.size≤g
theorem Cx.at_ {F:Nf} {w0 w:World} {g:Nat} {A:Option Addr} {n:Nat} {src:List Nat} (h:Cx F w0 g A n src) (hb:Below w0.heap.size w0 w) {p:Nat} (hp:p<n):
  ∃ad,A=some ad∧ad.block<w0.heap.size∧w.cell? (ad.add p)=some (.int .u8 ((src.getD p 0:Nat):Int)):=by
 obtain ⟨ad,e,hl,hc⟩:=h.rd p (.int .u8 ((src.getD p 0:Nat):Int)) (by
  have hps:p<src.length:=by rw [h.len];exact hp
  simp [us,List.getElem?_eq_getElem hps,List.getD_eq_getElem?_getD])
 exact ⟨ad,e,hl,(hb.cell (p:=ad.add p) (by rw [add_block];exact hl)).trans hc⟩
theorem Cx.lt256 {F:Nf} {w0:World} {g:Nat} {A:Option Addr} {n:Nat} {src:List Nat} (h:Cx F w0 g A n src) (p:Nat):src.getD p 0<256:=by
 by_cases hp:p<src.length
 ·rw [List.getD_eq_getElem?_getD,List.getElem?_eq_getElem hp]
  exact h.byte _ (List.getElem_mem hp)
 ·rw [List.getD_eq_getElem?_getD,List.getElem?_eq_none (by omega)]
  decide
theorem head_drop (src:List Nat) (p:Nat):(src.drop p).headD 0=src.getD p 0:=by
 rw [List.getD_eq_getElem?_getD,List.headD_eq_head?_getD,List.head?_drop]
theorem drop_one (src:List Nat) (p:Nat) (h:p<src.length):src.drop p=src.getD p 0 :: src.drop (p+1):=by
 rw [List.drop_eq_getElem_cons h,List.getD_eq_getElem?_getD,List.getElem?_eq_getElem h]
 rfl
def Pst {α:Type} (g:Nat) (A:Option Addr) (n c:Nat) (o:α→Int) (dp:Int) (R:α→Value→World→Prop) (p:Nat) (r:Rs α) (w:World) (e:Ending) (w':World):Prop:=
 Kp g w.heap.size w w'∧match r with
 | .ok a k=>∃v,e= .returned v∧R a v w'∧Rdr w' g A n c ((p+k:Nat):Int) (o a) dp
 | .er k x=>e=flt ((p+k:Nat):Int) x
def RB (a:Bool) (v:Value) (w:World):Prop:=v= .bool a
def RU (a:Unit) (v:Value) (w:World):Prop:=v= .tuple #[]
end Go.Proofs.YtjhhdnnblcbdbaaGreatDoor.jw
end
section
namespace Go.Proofs.YtjhhdnnblcbdbaaGreatDoor.jw
open Go.RowKit mem val jp
set_option linter.unusedVariables false
set_option linter.unusedSectionVars false
structure Sm (w w':World):Prop where
 os:w'.os=w.os
 tape:w'.tape=w.tape
 output:w'.output=w.output
 heap:w'.heap=w.heap
theorem Sm.refl (w:World):Sm w w:=⟨rfl,rfl,rfl,rfl⟩
theorem Sm.drewN (w:World) (n:Nat):Sm w (w.drewN n):=⟨rfl,rfl,rfl,rfl⟩
theorem Sm.kp {w w':World} (h:Sm w w') (g B:Nat):Kp g B w w':=⟨h.os,h.tape,h.output,by rw [h.heap];exact Nat.le_refl _,fun k _ _=>by rw [h.heap]⟩
theorem Sm.rdr {w w':World} (h:Sm w w') {g:Nat} {A:Option Addr} {n c:Nat} {p o dp:Int} (hr:Rdr w g A n c p o dp):Rdr w' g A n c p o dp:=by unfold Rdr;rw [h.heap];exact hr
theorem Sm.below {w w':World} (h:Sm w w') {B:Nat} {a:World} (hb:Below B a w):Below B a w':=⟨h.os.trans hb.os,h.tape.trans hb.tape,h.output.trans hb.output,by rw [h.heap];exact hb.size,fun k hk=>by rw [h.heap];exact hb.block k hk⟩
theorem Rdr.drewN {w:World} {g:Nat} {A:Option Addr} {n c:Nat} {p o dp:Int} (h:Rdr w g A n c p o dp) (k:Nat):Rdr (w.drewN k) g A n c p o dp:=h
theorem Kp.sm {g B:Nat} {a w w':World} (h:Kp g B a w) (k:Sm w w'):Kp g B a w':=h.trans (k.kp g B)
section
variable {F:Nf} {w0:World} {g:Nat} {A:Option Addr} {n:Nat} {src:List Nat} (HC:Cx F w0 g A n src) {c:Nat} {o dp:Int}
include HC
omit HC in
set_option maxRecDepth 100000 in
set_option maxHeartbeats 400000 in
theorem stop_any (w:World) (p:Nat) (hr:Rdr w g A n c (p:Int) o dp):Calls Tryz.prog 29 #[.pointer (some ⟨g,0,none⟩)] w fun e w'=>e=flt (p:Int) 50∧w'=w:=by
 obtain ⟨c0,c1,c2,c3⟩:=hr.cells
 go_enter Tryz.func29,Tryz.ntmps29
 go_wp2_with fail
 exact ⟨rfl,rfl,rfl⟩
set_option maxRecDepth 100000 in
set_option maxHeartbeats 400000 in
theorem next_any (w:World) (p:Nat) (hb:Below w0.heap.size w0 w) (hr:Rdr w g A n c (p:Int) o dp) (hp:p≤n):
  Calls Tryz.prog 50 #[.pointer (some ⟨g,0,none⟩)] w fun e w'=>e= .returned (.int .u8 ((src.getD p 0:Nat):Int))∧Sm w w':=by
 obtain ⟨c0,c1,c2,c3⟩:=hr.cells
 have hn:=HC.le
 by_cases hlt:p<n
 ·obtain ⟨ad,rfl,hab,hcp⟩:=HC.at_ hb hlt
  have hlt':(p:Int)<(n:Int):=by omega
  go_enter Tryz.func50,Tryz.ntmps50
  go_wp2_with fail
  go_quiet (fail)
  go_wp2_with fail
  go_quiet (fail)
  go_wp2_with fail
  go_ret
  exact ⟨rfl,rfl,rfl,rfl,rfl⟩
 ·have hlt':¬(p:Int)<(n:Int):=by omega
  have hz:src.getD p 0=0:=by rw [List.getD_eq_getElem?_getD,List.getElem?_eq_none (by rw [HC.len];omega)];rfl
  rw [hz]
  go_enter Tryz.func50,Tryz.ntmps50
  go_wp2_with fail
  go_quiet (fail)
  go_wp2_with fail
  go_ret
  exact ⟨rfl,rfl,rfl,rfl,rfl⟩
omit HC in
theorem want_eq (x:Nat) (l:List Nat):want x l=if l≠[]∧l.headD 0=x then .ok () 1 else .er 0 50:=by
 cases l with
 | nil=>rfl
 | cons y r=>by_cases h:y=x <;> simp [want,sat,h]
set_option maxRecDepth 100000 in
set_option maxHeartbeats 400000 in
theorem want_any (x:Nat) (w:World) (p:Nat) (hb:Below w0.heap.size w0 w) (hr:Rdr w g A n c (p:Int) o dp) (hp:p≤n):
  Calls Tryz.prog 78 #[.pointer (some ⟨g,0,none⟩),.int .u8 (x:Int)] w (Pst g A n c (fun _=>o) dp RU p (want x (src.drop p)) w):=by
 obtain ⟨c0,c1,c2,c3⟩:=hr.cells
 have hn:=HC.le
 have f1:=hr.frozen 1
 rw [want_eq,head_drop]
 have hnil:(src.drop p≠[])↔p<n:=by
  rw [←HC.len,ne_eq,List.drop_eq_nil_iff];omega
 by_cases hlt:p<n
 ·obtain ⟨ad,rfl,hab,hcp⟩:=HC.at_ hb hlt
  have hge:((p:Int)≥(n:Int))=False:=by simp;omega
  have hge':decide ((n:Int)≤(p:Int))=false:=by simp;omega
  have hlt':(p:Int)<(n:Int):=by omega
  by_cases hx:src.getD p 0=x
  ·rw [if_pos ⟨hnil.2 hlt,hx⟩]
   rw [hx] at hcp
   have HF:=Lib.hid (And.intro (hr.at_ ((p:Int)+1)) ((Kp.refl g w.heap.size w).self ⟨g,1,none⟩ rfl (.int .i64 ((p:Int)+1))))
   clear hnil hx
   go_enter Tryz.func78,Tryz.ntmps78
   go_wp2_with fail
   go_quiet (fail)
   go_wp2_with fail
   go_end0
   exact ⟨HF.out.2.sm ⟨rfl,rfl,rfl,rfl⟩,_,rfl,rfl,Sm.rdr ⟨rfl,rfl,rfl,rfl⟩ HF.out.1⟩
  ·rw [if_neg (fun h=>hx h.2)]
   have hne:((src.getD p 0:Nat):Int)≠(x:Int):=by omega
   generalize ((src.getD p 0:Nat):Int)=y at*
   clear hnil hx
   go_enter Tryz.func78,Tryz.ntmps78
   go_wp2_with fail
   go_quiet (fail)
   go_wp2_with fail
   refine (stop_any _ p (hr.drewN _)).mono ?_
   rintro e w' ⟨rfl,rfl⟩
   unfold flt
   go_wp2_with fail
   exact ⟨rfl,(Kp.refl _ _ _).drewN _,rfl⟩
 ·have hge:((p:Int)≥(n:Int))=True:=by simp;omega
  have hge':decide ((n:Int)≤(p:Int))=true:=by simp;omega
  have hge2:decide ((p:Int)≥(n:Int))=true:=by simp;omega
  rw [if_neg (fun h=>hlt (hnil.1 h.1))]
  clear hnil hlt hp hn
  go_enter Tryz.func78,Tryz.ntmps78
  go_wp2_with fail
  go_quiet (fail)
  go_wp2_with fail
  refine (stop_any _ p (hr.drewN _)).mono ?_
  rintro e w' ⟨rfl,rfl⟩
  unfold flt
  go_wp2_with fail
  exact ⟨rfl,(Kp.refl _ _ _).drewN _,rfl⟩
end
end Go.Proofs.YtjhhdnnblcbdbaaGreatDoor.jw
end
section
namespace Go.Proofs.YtjhhdnnblcbdbaaGreatDoor.jw
open Go.RowKit mem val jp
set_option linter.unusedVariables false
set_option linter.unusedSectionVars false
theorem cnt_le':∀l,cnt l≤l.length
 | []=>Nat.le_refl _
 | x :: r=>by
   have:=cnt_le' r
   simp only [cnt]
   split <;> simp <;> omega
def atOf (w:World) (g:Nat):Nat:=(intOf ((w.cell? ⟨g,1,none⟩).getD (.int .i64 0))).toNat
theorem Rdr.atOf {w:World} {g:Nat} {A:Option Addr} {n c:Nat} {p:Nat} {o dp:Int} (h:Rdr w g A n c (p:Int) o dp):jw.atOf w g=p:=by
 unfold jw.atOf
 rw [h.cells.2.1]
 simp [intOf]
theorem lt_at {n q g:Nat} {W wr:World} (h:atOf wr g=q) (h2:atOf W g=q+1) (hq:q<n):n-atOf W g<n-atOf wr g:=by omega
section
variable {F:Nf} {w0:World} {g:Nat} {A:Option Addr} {n:Nat} {src:List Nat} (HC:Cx F w0 g A n src) {c:Nat} {o dp:Int}
include HC
theorem cnt_step {q:Nat} (h:q<n):cnt (src.drop q)=if bl (src.getD q 0)=true then cnt (src.drop (q+1))+1 else 0:=by
 rw [drop_one src q (by rw [HC.len];exact h)]
 rfl
theorem cnt_end:cnt (src.drop n)=0:=by
 rw [List.drop_eq_nil_of_le (by rw [HC.len];exact Nat.le_refl _)]
 rfl
set_option maxRecDepth 100000 in
set_option maxHeartbeats 800000 in
theorem blanks_any (w:World) (p:Nat) (hb:Below w0.heap.size w0 w) (hr:Rdr w g A n c (p:Int) o dp) (hp:p≤n):
  Calls Tryz.prog 27 #[.pointer (some ⟨g,0,none⟩)] w (Pst g A n c (fun _=>o) dp RU p (blanks (src.drop p)) w):=by
 have hn:=HC.le
 have hlo:=HC.lo
 have HB:=Lib.hid hb
 have HR:=Lib.hid hr
 have HC':=Lib.hid HC
 go_enter Tryz.func27,Tryz.ntmps27
 go_wp2_with fail
 go_loopw [] (fun wr=>∃q:Nat,q≤n∧Hid (Rdr wr g A n c (q:Int) o dp)∧Hid (Kp g w.heap.size w wr)∧Hid (p+cnt (src.drop p)=q+cnt (src.drop q))) (fun wr=>n-atOf wr g)
 case atStart=>exact ⟨p,hp,HR,Lib.hid (Kp.refl _ _ _),Lib.hid rfl⟩
 case round=>
  clear HR hr hb hp
  obtain ⟨q,hq,HRq,HK,HE⟩:=hrel
  have hr:=HRq.out
  have hb:Below w0.heap.size w0 wr:=HB.out.trans ((HK.out.mono HB.out.size).below hlo)
  have HBr:=Lib.hid hb
  obtain ⟨c0,c1,c2,c3⟩:=hr.cells
  have f1:=hr.frozen 1
  by_cases hlt:q<n
  ·obtain ⟨ad,rfl,hab,hcp⟩:=HC'.out.at_ hb hlt
   have hlt':(q:Int)<(n:Int):=by omega
   have hstep:=cnt_step HC'.out hlt
   have h256:=HC'.out.lt256 q
   by_cases hbl:bl (src.getD q 0)=true
   ·rw [if_pos hbl] at hstep
    have HF:=Lib.hid (And.intro (hr.at_ ((q:Int)+1)) (HK.out.self ⟨g,1,none⟩ rfl (.int .i64 ((q:Int)+1))))
    have HE2:Hid (p+cnt (src.drop p)=(q+1)+cnt (src.drop (q+1))):=Lib.hid (by have:=HE.out;omega)
    have hat:=hr.atOf
    have hx:src.getD q 0=32∨src.getD q 0=9∨src.getD q 0=10∨src.getD q 0=13:=by
     simp only [bl,Bool.or_eq_true,beq_iff_eq] at hbl
     omega
    clear hstep hbl HE HC HB h256
    rcases hx with hx | hx | hx | hx <;> rw [hx] at hcp <;> clear hx
    all_goals
     go_wp2_with fail
     go_quiet (fail)
     go_wp2_with fail
     go_quiet (fail)
     go_wp2_with fail
     refine ⟨⟨q+1,hlt,Lib.hid (Sm.rdr ⟨rfl,rfl,rfl,rfl⟩ HF.out.1),Lib.hid (HF.out.2.sm ⟨rfl,rfl,rfl,rfl⟩),HE2⟩,?_⟩
     exact lt_at hat (Rdr.atOf (p:=q+1) (Sm.rdr (w:=wr.setCell ⟨g,1,none⟩ (.int .i64 ((q:Int)+1))) ⟨rfl,rfl,rfl,rfl⟩ HF.out.1)) hlt
   ·rw [if_neg hbl] at hstep
    have HE2:Hid (p+cnt (src.drop p)=q):=Lib.hid (by have:=HE.out;omega)
    have hx:src.getD q 0≠32∧src.getD q 0≠9∧src.getD q 0≠10∧src.getD q 0≠13:=by
     simp only [bl,Bool.or_eq_true,beq_iff_eq] at hbl
     omega
    obtain ⟨y,hy⟩:∃y:Int,((src.getD q 0:Nat):Int)=y:=⟨_,rfl⟩
    rw [hy] at hcp
    have e1:(y==32)=false:=by simp;omega
    have e2:(y==9)=false:=by simp;omega
    have e3:(y==10)=false:=by simp;omega
    have e4:(y==13)=false:=by simp;omega
    clear hstep hbl HE HC HB h256 hx hy
    go_wp2_with fail
    go_quiet (fail)
    go_wp2_with fail
    go_quiet (fail)
    go_wp2_with fail
    go_end0
    exact ⟨HK.out.sm ⟨rfl,rfl,rfl,rfl⟩,_,rfl,rfl,by rw [show p+cnt (src.drop p)=q from HE2.out];exact Sm.rdr ⟨rfl,rfl,rfl,rfl⟩ HRq.out⟩
  ·have hqn:q=n:=by omega
   have HE2:Hid (p+cnt (src.drop p)=q):=Lib.hid (by have:=HE.out;rw [hqn,cnt_end HC'.out] at this;omega)
   have hge:¬((q:Int)<(n:Int)):=by omega
   clear HE HC HB hlt hqn hq
   go_wp2_with fail
   go_quiet (fail)
   go_wp2_with fail
   go_end0
   exact ⟨HK.out.sm ⟨rfl,rfl,rfl,rfl⟩,_,rfl,rfl,by rw [show p+cnt (src.drop p)=q from HE2.out];exact Sm.rdr ⟨rfl,rfl,rfl,rfl⟩ HRq.out⟩
end
end Go.Proofs.YtjhhdnnblcbdbaaGreatDoor.jw
end
