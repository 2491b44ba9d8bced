/- fmtEFG with 'e', walked: a digit, a point, digits, e, a sign, an exponent of two digits or three. fmtEFG with 'e', walked: below one. -/
import Derived.Test.YtjhhdnnblcbdbaaGreatDoorGSg
import Derived.Test.YtjhhdnnblcbdbaaGreatDoorGDig
section
namespace Go.Proofs.YtjhhdnnblcbdbaaGreatDoor.uw
open Go.RowKit Go.Sort mem fl big us sh
set_option linter.unusedVariables false
def exA (e:Nat):List Nat:=if e<10 then [48,48+e] else if e<100 then [48+e/10,48+e % 10] else [48+e/100,48+e/10 % 10,48+e % 10]
def eTxt (L:List Nat) (x:Int):List Nat:=L.take 1++(if 1<L.length then 46 :: L.drop 1 else [])++[101]++[if x<0 then 45 else 43]++exA x.natAbs
def EfSt (w:World) (B g:Nat) (L l:List Nat) (v:Value) (wr:World):Prop:=
 wr.ownsRow B 5 1 v l.length (ns l)∧Below B w wr∧(∀j,j<L.length→wr.cell? ⟨g,j,none⟩=some (.int .u8 (L.getD j 0:Int)))∧v.ownBlock≠some g∧g<wr.heap.size∧B≤wr.heap.size
theorem EfSt.app {w wr w5:World} {B g:Nat} {L l news:List Nat} {v v':Value} {o:Obj} (h:EfSt w B g L l v wr) (hown:w5.ownsRow B 5 1 v' (l.length+news.length) (ns l++ns news))
  (hgrow:(wr.alloc o).grownBy w5 v.ownBlock) (hat:v'.ownBlock=v.ownBlock∨v'.ownBlock=some (wr.alloc o).heap.size):EfSt w B g L (l++news) v' w5:=by
 obtain ⟨h1,h2,h3,h4,h5,h6⟩:=h
 have hsz:(wr.alloc o).heap.size≤w5.heap.size:=hgrow.size
 have hsz2:(wr.alloc o).heap.size=wr.heap.size+1:=by simp
 refine ⟨?_,below_app1 h2 h1 (Nat.le_refl _) h6 hgrow,fun j hj=>?_,?_,by omega,by omega⟩
 ·rw [List.length_append,ns_app];exact hown
 ·rw [←h3 j hj]
  have hb:w5.heap[g]? =wr.heap[g]? :=(hgrow.block g (by omega) (fun e=>h4 e.symm)).trans (Below.heap_alloc wr o g h5)
  unfold World.cell?
  simp only [hb]
 ·rcases hat with e | e
  ·rw [e];exact h4
  ·rw [e];intro h;injection h with h;omega
theorem EfSt.app0 {w wr w5:World} {B g:Nat} {L l news:List Nat} {v v':Value} (h:EfSt w B g L l v wr) (hown:w5.ownsRow B 5 1 v' (l.length+news.length) (ns l++ns news))
  (hgrow:wr.grownBy w5 v.ownBlock) (hat:v'.ownBlock=v.ownBlock∨v'.ownBlock=some wr.heap.size):EfSt w B g L (l++news) v' w5:=by
 obtain ⟨h1,h2,h3,h4,h5,h6⟩:=h
 have hsz:wr.heap.size≤w5.heap.size:=hgrow.size
 refine ⟨?_,below_app h2 h1 (Nat.le_refl _) h6 hgrow,fun j hj=>?_,?_,by omega,by omega⟩
 ·rw [List.length_append,ns_app];exact hown
 ·rw [←h3 j hj]
  have hb:w5.heap[g]? =wr.heap[g]? :=hgrow.block g h5 (fun e=>h4 e.symm)
  unfold World.cell?
  simp only [hb]
 ·rcases hat with e | e
  ·rw [e];exact h4
  ·rw [e];intro h;injection h with h;omega
theorem ef_app {ops:Array Oper} {rest:List Oper} {o:Oper} {a:Act} {Q:Exit→Act→World→Prop} (hgd:o.guard=none) (s x:Operand)
  (ho:o.op= .call { callee:= .builtin .append,args:= #[s,x],argTypes:= #[22,22]})
  {w wr:World} {B g:Nat} {L l:List Nat} {v:Value} (h:EfSt w B g L l v wr) (news:List Nat) (m c:Nat) (cs:Array Value) (hcs:cs=(ns news).toArray) (hm:m=news.length) (hs:a.eval s=v)
  (hx:a.eval x= .slice (some ⟨wr.heap.size,0,none⟩) m c) (hb:l.length+news.length≤1000)
  (hk:∀v' w5,EfSt w B g L (l++news) v' w5→wpList Tryz.prog ops Q rest (a.put o.dst v') w5):wpList Tryz.prog ops Q (o :: rest) a (wr.alloc (.cells cs 5)):=by
 obtain ⟨iv,hiv,hv0,hv1,hv2⟩:=info_parts infoB
 subst hcs hm
 refine wpList_app _ hgd s x 22 ho B 5 iv (.int .u8 0) 1 1 Tryz.underlying22 hiv hv0 hv1 hv2 rfl (by omega) v l.length (ns l) hs (h.1.alloc _) (wr.heap.size+1) (some ⟨wr.heap.size,0,none⟩) news.length c (ns news) hx (by rw [ns_length,Nat.mul_one])
  (Rd.new wr (ns news) 5) (by intro e;cases e) (fun u hu=>?_) (by unfold maxLen;omega) (by omega) (by have:=h.2.2.2.2.2;simp;omega) fun v' w5 hown hgrow hat=>hk v' w5 (h.app hown hgrow hat)
 unfold ns at hu
 obtain ⟨y,_,rfl⟩:=List.mem_map.1 hu
 rfl
theorem ef_app0 {ops:Array Oper} {rest:List Oper} {o:Oper} {a:Act} {Q:Exit→Act→World→Prop} (hgd:o.guard=none) (s x:Operand)
  (ho:o.op= .call { callee:= .builtin .append,args:= #[s,x],argTypes:= #[22,22]})
  {w wr:World} {B g:Nat} {L l:List Nat} {v:Value} (h:EfSt w B g L l v wr) (m c:Nat) (hm:m+1=L.length) (hs:a.eval s=v)
  (hx:a.eval x= .slice (some ⟨g,1,none⟩) m c) (hb:l.length+m≤1000)
  (hk:∀v' w5,EfSt w B g L (l++L.drop 1) v' w5→wpList Tryz.prog ops Q rest (a.put o.dst v') w5):wpList Tryz.prog ops Q (o :: rest) a wr:=by
 obtain ⟨iv,hiv,hv0,hv1,hv2⟩:=info_parts infoB
 have hl:(L.drop 1).length=m:=by simp;omega
 refine wpList_app _ hgd s x 22 ho B 5 iv (.int .u8 0) 1 1 Tryz.underlying22 hiv hv0 hv1 hv2 rfl (by omega) v l.length (ns l) hs h.1 (g+1) (some ⟨g,1,none⟩) m c (ns (L.drop 1)) hx (by rw [ns_length,hl,Nat.mul_one])
  (fun j u hj=>?_) (by intro e;cases e) (fun u hu=>?_) (by unfold maxLen;omega) (by omega) h.2.2.2.2.2 fun v' w5 hown hgrow hat=>hk v' w5 (h.app0 (by rw [hl];exact hown) hgrow hat)
 ·refine ⟨_,rfl,by simp,?_⟩
  have hjl:j<(L.drop 1).length:=by
   have:=(List.getElem?_eq_some_iff.1 hj).1
   rwa [ns_length] at this
  rw [ns_get hjl] at hj
  rw [Lib.add_plain]
  have:=h.2.2.1 (1+j) (by omega)
  rw [this,←hj]
  rw [List.getD_eq_getElem?_getD,List.getD_eq_getElem?_getD,List.getElem?_drop]
 ·unfold ns at hu
  obtain ⟨y,_,rfl⟩:=List.mem_map.1 hu
  rfl
theorem exA1 {e:Nat} (h:e<10):exA e=[48,e+48]:=by unfold exA;rw [if_pos h,Nat.add_comm]
theorem exA2 {e:Nat} (h:¬e<10) (h2:e<100):exA e=[e/10+48,e % 10+48]:=by unfold exA;rw [if_neg h,if_pos h2,Nat.add_comm,Nat.add_comm 48 (e % 10)]
theorem exA3 {e:Nat} (h2:¬e<100):exA e=[e/100+48,e/10 % 10+48,e % 10+48]:=by unfold exA;rw [if_neg (by omega),if_neg h2,Nat.add_comm,Nat.add_comm 48 (e/10 % 10),Nat.add_comm 48 (e % 10)]
theorem txt0 (c0 E:Nat) (x:Int) (news L2:List Nat) (h:L2=[]) {sg:Nat} (hx:(if x<0 then 45 else 43)=sg) (hE:x.natAbs=E) (hn:exA E=news):eTxt (c0 :: L2) x=[]++[c0]++[101]++[sg]++news:=by
 subst h
 unfold eTxt
 rw [hx,hE,hn]
 rfl
theorem txt1 (c0 E:Nat) (x:Int) (news L2:List Nat) (h:0<L2.length) {sg:Nat} (hx:(if x<0 then 45 else 43)=sg) (hE:x.natAbs=E) (hn:exA E=news):eTxt (c0 :: L2) x=[]++[c0]++[46]++(c0 :: L2).drop 1++[101]++[sg]++news:=by
 unfold eTxt
 rw [hx,hE,hn,if_pos (by simp;omega)]
 simp
def EfPost (B:Nat) (l:List Nat) (w:World) (e:Ending) (w':World):Prop:=∃v,e= .returned v∧w'.ownsRow B 5 1 v l.length (ns l)∧Below B w w'
set_option maxRecDepth 100000 in
set_option maxHeartbeats 4000000 in
theorem ef_pos (L:List Nat) (B g E:Nat) (v0:Value) (w:World) (h:EfSt w B g L [] v0 w) (hr:0<L.length) (hr2:L.length≤20) (hL:∀c∈L,c<256) (hE2:E≤900):
  Calls Tryz.prog 164 #[v0,.bool false,.slice (some ⟨g,0,none⟩) 32 32,.int .i64 ((E:Int)+1),.int .i64 (L.length:Int),.int .i64 ((L.length:Int)-1),.int .u8 101,.bool true] w (EfPost B (eTxt L ((E:Int))) w):=by
 obtain ⟨c0,L2,rfl⟩:∃c0 L2,L=c0 :: L2:=by
  cases L with
  | nil=>simp at hr
  | cons a b=>exact ⟨a,b,rfl⟩
 have hc0:w.cell? ⟨g,0,none⟩=some (.int .u8 (c0:Int)):=h.2.2.1 0 (by simp)
 have hcb:c0<256:=hL c0 (by simp)
 have hlen:((c0 :: L2).length:Int)=(L2.length:Int)+1:=by simp
 have hlen2:(c0 :: L2).length=L2.length+1:=by simp
 obtain ⟨k,hk⟩:∃k,L2.length=k:=⟨_,rfl⟩
 rw [hlen,hk]
 rw [hlen2,hk] at hr2
 rw [hk] at hlen2
 have HK:=Lib.hid hlen2
 have hL2:L2.length≤19:=by omega
 have hk19:k≤19:=by omega
 have hdx:∃X,X=eTxt (c0 :: L2) ((E:Int)):=⟨_,rfl⟩
 obtain ⟨X,hX⟩:=hdx
 rw [←hX]
 have HX:=Lib.hid hX
 have HS:=Lib.hid h
 clear hX h hL hlen hlen2 hr hk
 go_enter Tryz.func164,Tryz.ntmps164
 by_cases hk0:k=0
 ·subst hk0
  by_cases h10:E<10
  ·have e1:decide ((E:Int)<10)=true:=decide_eq_true (by omega)
   go_wp2_with (at_builtin;first | (refine ef_app ?_ (.tmp 87) (.tmp 89) ?_ HS.out [c0] 1 1 _ ?_ ?_ ?_ ?_ ?_ ?_;rfl;rfl;rfl;rfl;rfl;rfl;(simp <;> omega);intro v1 w_v1 h_v1;have HS1:=Lib.hid h_v1;clear h_v1) | (refine ef_app ?_ (.tmp 120) (.tmp 122) ?_ HS1.out [101] 1 1 _ ?_ ?_ ?_ ?_ ?_ ?_;rfl;rfl;rfl;rfl;rfl;rfl;(simp <;> omega);intro v4 w_v4 h_v4;have HS4:=Lib.hid h_v4;clear h_v4) | (refine ef_app ?_ (.tmp 132) (.tmp 134) ?_ HS4.out [43] 1 1 _ ?_ ?_ ?_ ?_ ?_ ?_;rfl;rfl;rfl;rfl;rfl;rfl;(simp <;> omega);intro v5 w_v5 h_v5;have HS5:=Lib.hid h_v5;clear h_v5) | (refine ef_app ?_ (.tmp 155) (.tmp 159) ?_ HS5.out [48,E+48] 2 2 _ ?_ ?_ ?_ ?_ ?_ ?_;rfl;rfl;rfl;rfl;rfl;rfl;(simp <;> omega);intro v6 w_v6 h_v6;have HS6:=Lib.hid h_v6;clear h_v6))
   go_ret
   refine ⟨_,rfl,?_,HS6.out.2.1⟩
   have hL0:L2=[]:=List.eq_nil_of_length_eq_zero (by have:=HK.out;simp only [List.length_cons] at this;omega)
   have hfin:=HX.out.trans (txt0 c0 E _ _ L2 hL0 (if_neg (by omega)) (by simp) (exA1 h10))
   rw [hfin]
   exact HS6.out.1
  ·by_cases h100:E<100
   ·have e1:decide ((E:Int)<10)=false:=decide_eq_false (by omega)
    have e2:decide ((E:Int)<100)=true:=decide_eq_true (by omega)
    go_wp2_with (at_builtin;first | (refine ef_app ?_ (.tmp 87) (.tmp 89) ?_ HS.out [c0] 1 1 _ ?_ ?_ ?_ ?_ ?_ ?_;rfl;rfl;rfl;rfl;rfl;rfl;(simp <;> omega);intro v1 w_v1 h_v1;have HS1:=Lib.hid h_v1;clear h_v1) | (refine ef_app ?_ (.tmp 120) (.tmp 122) ?_ HS1.out [101] 1 1 _ ?_ ?_ ?_ ?_ ?_ ?_;rfl;rfl;rfl;rfl;rfl;rfl;(simp <;> omega);intro v4 w_v4 h_v4;have HS4:=Lib.hid h_v4;clear h_v4) | (refine ef_app ?_ (.tmp 132) (.tmp 134) ?_ HS4.out [43] 1 1 _ ?_ ?_ ?_ ?_ ?_ ?_;rfl;rfl;rfl;rfl;rfl;rfl;(simp <;> omega);intro v5 w_v5 h_v5;have HS5:=Lib.hid h_v5;clear h_v5) | (refine ef_app ?_ (.tmp 164) (.tmp 173) ?_ HS5.out [E/10+48,E % 10+48] 2 2 _ ?_ ?_ ?_ ?_ ?_ ?_;rfl;rfl;rfl;rfl;rfl;rfl;(simp <;> omega);intro v6 w_v6 h_v6;have HS6:=Lib.hid h_v6;clear h_v6))
    go_ret
    refine ⟨_,rfl,?_,HS6.out.2.1⟩
    have hL0:L2=[]:=List.eq_nil_of_length_eq_zero (by have:=HK.out;simp only [List.length_cons] at this;omega)
    have hfin:=HX.out.trans (txt0 c0 E _ _ L2 hL0 (if_neg (by omega)) (by simp) (exA2 h10 h100))
    rw [hfin]
    exact HS6.out.1
   ·have e1:decide ((E:Int)<10)=false:=decide_eq_false (by omega)
    have e2:decide ((E:Int)<100)=false:=decide_eq_false (by omega)
    go_wp2_with (at_builtin;first | (refine ef_app ?_ (.tmp 87) (.tmp 89) ?_ HS.out [c0] 1 1 _ ?_ ?_ ?_ ?_ ?_ ?_;rfl;rfl;rfl;rfl;rfl;rfl;(simp <;> omega);intro v1 w_v1 h_v1;have HS1:=Lib.hid h_v1;clear h_v1) | (refine ef_app ?_ (.tmp 120) (.tmp 122) ?_ HS1.out [101] 1 1 _ ?_ ?_ ?_ ?_ ?_ ?_;rfl;rfl;rfl;rfl;rfl;rfl;(simp <;> omega);intro v4 w_v4 h_v4;have HS4:=Lib.hid h_v4;clear h_v4) | (refine ef_app ?_ (.tmp 132) (.tmp 134) ?_ HS4.out [43] 1 1 _ ?_ ?_ ?_ ?_ ?_ ?_;rfl;rfl;rfl;rfl;rfl;rfl;(simp <;> omega);intro v5 w_v5 h_v5;have HS5:=Lib.hid h_v5;clear h_v5) | (refine ef_app ?_ (.tmp 136) (.tmp 150) ?_ HS5.out [E/100+48,E/10 % 10+48,E % 10+48] 3 3 _ ?_ ?_ ?_ ?_ ?_ ?_;rfl;rfl;rfl;rfl;rfl;rfl;(simp <;> omega);intro v6 w_v6 h_v6;have HS6:=Lib.hid h_v6;clear h_v6))
    go_ret
    refine ⟨_,rfl,?_,HS6.out.2.1⟩
    have hL0:L2=[]:=List.eq_nil_of_length_eq_zero (by have:=HK.out;simp only [List.length_cons] at this;omega)
    have hfin:=HX.out.trans (txt0 c0 E _ _ L2 hL0 (if_neg (by omega)) (by simp) (exA3 h100))
    rw [hfin]
    exact HS6.out.1
 ·have d1:decide ((k:Int)>0)=true:=decide_eq_true (by omega)
  have d2:decide ((0:Int)<k)=true:=decide_eq_true (by omega)
  have d3:min ((k:Int)+1) ((k:Int)+1)=(k:Int)+1:=Int.min_self _
  have d4:decide ((1:Int)<(k:Int)+1)=true:=decide_eq_true (by omega)
  by_cases h10:E<10
  ·have e1:decide ((E:Int)<10)=true:=decide_eq_true (by omega)
   go_wp2_with (at_builtin;first | (refine ef_app ?_ (.tmp 87) (.tmp 89) ?_ HS.out [c0] 1 1 _ ?_ ?_ ?_ ?_ ?_ ?_;rfl;rfl;rfl;rfl;rfl;rfl;(simp <;> omega);intro v1 w_v1 h_v1;have HS1:=Lib.hid h_v1;clear h_v1) | (refine ef_app ?_ (.tmp 93) (.tmp 94) ?_ HS1.out [46] 1 1 _ ?_ ?_ ?_ ?_ ?_ ?_;rfl;rfl;rfl;rfl;rfl;rfl;(simp <;> omega);intro v2 w_v2 h_v2;have HS2:=Lib.hid h_v2;clear h_v2) | (refine ef_app0 ?_ (.tmp 103) (.tmp 107) ?_ HS2.out k 31 ?_ ?_ ?_ ?_ ?_;rfl;rfl;(have:=HK.out;omega);rfl;rfl;(simp <;> omega);intro v3 w3 h3;have HS3:=Lib.hid h3;clear h3))
   go_loopw [0,114] (fun v0 v114 wr=>v0=v3∧v114= .int .i64 0∧wr=w3) (fun _ _ _=>0)
   case atStart=>exact ⟨rfl,rfl,rfl⟩
   obtain ⟨rfl,rfl,rfl⟩:=hrel
   go_wp2_with (at_builtin;first | (refine ef_app ?_ (.tmp 120) (.tmp 122) ?_ HS3.out [101] 1 1 _ ?_ ?_ ?_ ?_ ?_ ?_;rfl;rfl;rfl;rfl;rfl;rfl;(simp <;> omega);intro v4 w_v4 h_v4;have HS4:=Lib.hid h_v4;clear h_v4) | (refine ef_app ?_ (.tmp 132) (.tmp 134) ?_ HS4.out [43] 1 1 _ ?_ ?_ ?_ ?_ ?_ ?_;rfl;rfl;rfl;rfl;rfl;rfl;(simp <;> omega);intro v5 w_v5 h_v5;have HS5:=Lib.hid h_v5;clear h_v5) | (refine ef_app ?_ (.tmp 155) (.tmp 159) ?_ HS5.out [48,E+48] 2 2 _ ?_ ?_ ?_ ?_ ?_ ?_;rfl;rfl;rfl;rfl;rfl;rfl;(simp <;> omega);intro v6 w_v6 h_v6;have HS6:=Lib.hid h_v6;clear h_v6))
   go_ret
   refine ⟨_,rfl,?_,HS6.out.2.1⟩
   have hfin:=HX.out.trans (txt1 c0 E _ _ L2 (by have:=HK.out;simp only [List.length_cons] at this;omega) (if_neg (by omega)) (by simp) (exA1 h10))
   rw [hfin]
   exact HS6.out.1
  ·by_cases h100:E<100
   ·have e1:decide ((E:Int)<10)=false:=decide_eq_false (by omega)
    have e2:decide ((E:Int)<100)=true:=decide_eq_true (by omega)
    go_wp2_with (at_builtin;first | (refine ef_app ?_ (.tmp 87) (.tmp 89) ?_ HS.out [c0] 1 1 _ ?_ ?_ ?_ ?_ ?_ ?_;rfl;rfl;rfl;rfl;rfl;rfl;(simp <;> omega);intro v1 w_v1 h_v1;have HS1:=Lib.hid h_v1;clear h_v1) | (refine ef_app ?_ (.tmp 93) (.tmp 94) ?_ HS1.out [46] 1 1 _ ?_ ?_ ?_ ?_ ?_ ?_;rfl;rfl;rfl;rfl;rfl;rfl;(simp <;> omega);intro v2 w_v2 h_v2;have HS2:=Lib.hid h_v2;clear h_v2) | (refine ef_app0 ?_ (.tmp 103) (.tmp 107) ?_ HS2.out k 31 ?_ ?_ ?_ ?_ ?_;rfl;rfl;(have:=HK.out;omega);rfl;rfl;(simp <;> omega);intro v3 w3 h3;have HS3:=Lib.hid h3;clear h3))
    go_loopw [0,114] (fun v0 v114 wr=>v0=v3∧v114= .int .i64 0∧wr=w3) (fun _ _ _=>0)
    case atStart=>exact ⟨rfl,rfl,rfl⟩
    obtain ⟨rfl,rfl,rfl⟩:=hrel
    go_wp2_with (at_builtin;first | (refine ef_app ?_ (.tmp 120) (.tmp 122) ?_ HS3.out [101] 1 1 _ ?_ ?_ ?_ ?_ ?_ ?_;rfl;rfl;rfl;rfl;rfl;rfl;(simp <;> omega);intro v4 w_v4 h_v4;have HS4:=Lib.hid h_v4;clear h_v4) | (refine ef_app ?_ (.tmp 132) (.tmp 134) ?_ HS4.out [43] 1 1 _ ?_ ?_ ?_ ?_ ?_ ?_;rfl;rfl;rfl;rfl;rfl;rfl;(simp <;> omega);intro v5 w_v5 h_v5;have HS5:=Lib.hid h_v5;clear h_v5) | (refine ef_app ?_ (.tmp 164) (.tmp 173) ?_ HS5.out [E/10+48,E % 10+48] 2 2 _ ?_ ?_ ?_ ?_ ?_ ?_;rfl;rfl;rfl;rfl;rfl;rfl;(simp <;> omega);intro v6 w_v6 h_v6;have HS6:=Lib.hid h_v6;clear h_v6))
    go_ret
    refine ⟨_,rfl,?_,HS6.out.2.1⟩
    have hfin:=HX.out.trans (txt1 c0 E _ _ L2 (by have:=HK.out;simp only [List.length_cons] at this;omega) (if_neg (by omega)) (by simp) (exA2 h10 h100))
    rw [hfin]
    exact HS6.out.1
   ·have e1:decide ((E:Int)<10)=false:=decide_eq_false (by omega)
    have e2:decide ((E:Int)<100)=false:=decide_eq_false (by omega)
    go_wp2_with (at_builtin;first | (refine ef_app ?_ (.tmp 87) (.tmp 89) ?_ HS.out [c0] 1 1 _ ?_ ?_ ?_ ?_ ?_ ?_;rfl;rfl;rfl;rfl;rfl;rfl;(simp <;> omega);intro v1 w_v1 h_v1;have HS1:=Lib.hid h_v1;clear h_v1) | (refine ef_app ?_ (.tmp 93) (.tmp 94) ?_ HS1.out [46] 1 1 _ ?_ ?_ ?_ ?_ ?_ ?_;rfl;rfl;rfl;rfl;rfl;rfl;(simp <;> omega);intro v2 w_v2 h_v2;have HS2:=Lib.hid h_v2;clear h_v2) | (refine ef_app0 ?_ (.tmp 103) (.tmp 107) ?_ HS2.out k 31 ?_ ?_ ?_ ?_ ?_;rfl;rfl;(have:=HK.out;omega);rfl;rfl;(simp <;> omega);intro v3 w3 h3;have HS3:=Lib.hid h3;clear h3))
    go_loopw [0,114] (fun v0 v114 wr=>v0=v3∧v114= .int .i64 0∧wr=w3) (fun _ _ _=>0)
    case atStart=>exact ⟨rfl,rfl,rfl⟩
    obtain ⟨rfl,rfl,rfl⟩:=hrel
    go_wp2_with (at_builtin;first | (refine ef_app ?_ (.tmp 120) (.tmp 122) ?_ HS3.out [101] 1 1 _ ?_ ?_ ?_ ?_ ?_ ?_;rfl;rfl;rfl;rfl;rfl;rfl;(simp <;> omega);intro v4 w_v4 h_v4;have HS4:=Lib.hid h_v4;clear h_v4) | (refine ef_app ?_ (.tmp 132) (.tmp 134) ?_ HS4.out [43] 1 1 _ ?_ ?_ ?_ ?_ ?_ ?_;rfl;rfl;rfl;rfl;rfl;rfl;(simp <;> omega);intro v5 w_v5 h_v5;have HS5:=Lib.hid h_v5;clear h_v5) | (refine ef_app ?_ (.tmp 136) (.tmp 150) ?_ HS5.out [E/100+48,E/10 % 10+48,E % 10+48] 3 3 _ ?_ ?_ ?_ ?_ ?_ ?_;rfl;rfl;rfl;rfl;rfl;rfl;(simp <;> omega);intro v6 w_v6 h_v6;have HS6:=Lib.hid h_v6;clear h_v6))
    go_ret
    refine ⟨_,rfl,?_,HS6.out.2.1⟩
    have hfin:=HX.out.trans (txt1 c0 E _ _ L2 (by have:=HK.out;simp only [List.length_cons] at this;omega) (if_neg (by omega)) (by simp) (exA3 h100))
    rw [hfin]
    exact HS6.out.1
end Go.Proofs.YtjhhdnnblcbdbaaGreatDoor.uw
end
section
namespace Go.Proofs.YtjhhdnnblcbdbaaGreatDoor.uw
open Go.RowKit Go.Sort mem fl big us sh
set_option linter.unusedVariables false
set_option maxRecDepth 100000 in
set_option maxHeartbeats 4000000 in
theorem ef_neg (L:List Nat) (B g E:Nat) (v0:Value) (w:World) (h:EfSt w B g L [] v0 w) (hr:0<L.length) (hr2:L.length≤20) (hL:∀c∈L,c<256) (hE2:E≤900) (x:Int) (hx0:x<0) (hnx: -x=(E:Int)):
  Calls Tryz.prog 164 #[v0,.bool false,.slice (some ⟨g,0,none⟩) 32 32,.int .i64 (x+1),.int .i64 (L.length:Int),.int .i64 ((L.length:Int)-1),.int .u8 101,.bool true] w (EfPost B (eTxt L (x)) w):=by
 obtain ⟨c0,L2,rfl⟩:∃c0 L2,L=c0 :: L2:=by
  cases L with
  | nil=>simp at hr
  | cons a b=>exact ⟨a,b,rfl⟩
 have hc0:w.cell? ⟨g,0,none⟩=some (.int .u8 (c0:Int)):=h.2.2.1 0 (by simp)
 have hcb:c0<256:=hL c0 (by simp)
 have hlen:((c0 :: L2).length:Int)=(L2.length:Int)+1:=by simp
 have hlen2:(c0 :: L2).length=L2.length+1:=by simp
 obtain ⟨k,hk⟩:∃k,L2.length=k:=⟨_,rfl⟩
 rw [hlen,hk]
 rw [hlen2,hk] at hr2
 rw [hk] at hlen2
 have HK:=Lib.hid hlen2
 have hL2:L2.length≤19:=by omega
 have hk19:k≤19:=by omega
 have hdx:∃X,X=eTxt (c0 :: L2) (x):=⟨_,rfl⟩
 obtain ⟨X,hX⟩:=hdx
 rw [←hX]
 have HX:=Lib.hid hX
 have HS:=Lib.hid h
 clear hX h hL hlen hlen2 hr hk
 go_enter Tryz.func164,Tryz.ntmps164
 by_cases hk0:k=0
 ·subst hk0
  by_cases h10:E<10
  ·have e1:decide ((E:Int)<10)=true:=decide_eq_true (by omega)
   go_wp2_with (at_builtin;first | (refine ef_app ?_ (.tmp 87) (.tmp 89) ?_ HS.out [c0] 1 1 _ ?_ ?_ ?_ ?_ ?_ ?_;rfl;rfl;rfl;rfl;rfl;rfl;(simp <;> omega);intro v1 w_v1 h_v1;have HS1:=Lib.hid h_v1;clear h_v1) | (refine ef_app ?_ (.tmp 120) (.tmp 122) ?_ HS1.out [101] 1 1 _ ?_ ?_ ?_ ?_ ?_ ?_;rfl;rfl;rfl;rfl;rfl;rfl;(simp <;> omega);intro v4 w_v4 h_v4;have HS4:=Lib.hid h_v4;clear h_v4) | (refine ef_app ?_ (.tmp 132) (.tmp 134) ?_ HS4.out [45] 1 1 _ ?_ ?_ ?_ ?_ ?_ ?_;rfl;rfl;rfl;rfl;rfl;rfl;(simp <;> omega);intro v5 w_v5 h_v5;have HS5:=Lib.hid h_v5;clear h_v5) | (refine ef_app ?_ (.tmp 155) (.tmp 159) ?_ HS5.out [48,E+48] 2 2 _ ?_ ?_ ?_ ?_ ?_ ?_;rfl;rfl;rfl;rfl;rfl;rfl;(simp <;> omega);intro v6 w_v6 h_v6;have HS6:=Lib.hid h_v6;clear h_v6))
   go_ret
   refine ⟨_,rfl,?_,HS6.out.2.1⟩
   have hL0:L2=[]:=List.eq_nil_of_length_eq_zero (by have:=HK.out;simp only [List.length_cons] at this;omega)
   have hfin:=HX.out.trans (txt0 c0 E _ _ L2 hL0 (if_pos (by omega)) (by omega) (exA1 h10))
   rw [hfin]
   exact HS6.out.1
  ·by_cases h100:E<100
   ·have e1:decide ((E:Int)<10)=false:=decide_eq_false (by omega)
    have e2:decide ((E:Int)<100)=true:=decide_eq_true (by omega)
    go_wp2_with (at_builtin;first | (refine ef_app ?_ (.tmp 87) (.tmp 89) ?_ HS.out [c0] 1 1 _ ?_ ?_ ?_ ?_ ?_ ?_;rfl;rfl;rfl;rfl;rfl;rfl;(simp <;> omega);intro v1 w_v1 h_v1;have HS1:=Lib.hid h_v1;clear h_v1) | (refine ef_app ?_ (.tmp 120) (.tmp 122) ?_ HS1.out [101] 1 1 _ ?_ ?_ ?_ ?_ ?_ ?_;rfl;rfl;rfl;rfl;rfl;rfl;(simp <;> omega);intro v4 w_v4 h_v4;have HS4:=Lib.hid h_v4;clear h_v4) | (refine ef_app ?_ (.tmp 132) (.tmp 134) ?_ HS4.out [45] 1 1 _ ?_ ?_ ?_ ?_ ?_ ?_;rfl;rfl;rfl;rfl;rfl;rfl;(simp <;> omega);intro v5 w_v5 h_v5;have HS5:=Lib.hid h_v5;clear h_v5) | (refine ef_app ?_ (.tmp 164) (.tmp 173) ?_ HS5.out [E/10+48,E % 10+48] 2 2 _ ?_ ?_ ?_ ?_ ?_ ?_;rfl;rfl;rfl;rfl;rfl;rfl;(simp <;> omega);intro v6 w_v6 h_v6;have HS6:=Lib.hid h_v6;clear h_v6))
    go_ret
    refine ⟨_,rfl,?_,HS6.out.2.1⟩
    have hL0:L2=[]:=List.eq_nil_of_length_eq_zero (by have:=HK.out;simp only [List.length_cons] at this;omega)
    have hfin:=HX.out.trans (txt0 c0 E _ _ L2 hL0 (if_pos (by omega)) (by omega) (exA2 h10 h100))
    rw [hfin]
    exact HS6.out.1
   ·have e1:decide ((E:Int)<10)=false:=decide_eq_false (by omega)
    have e2:decide ((E:Int)<100)=false:=decide_eq_false (by omega)
    go_wp2_with (at_builtin;first | (refine ef_app ?_ (.tmp 87) (.tmp 89) ?_ HS.out [c0] 1 1 _ ?_ ?_ ?_ ?_ ?_ ?_;rfl;rfl;rfl;rfl;rfl;rfl;(simp <;> omega);intro v1 w_v1 h_v1;have HS1:=Lib.hid h_v1;clear h_v1) | (refine ef_app ?_ (.tmp 120) (.tmp 122) ?_ HS1.out [101] 1 1 _ ?_ ?_ ?_ ?_ ?_ ?_;rfl;rfl;rfl;rfl;rfl;rfl;(simp <;> omega);intro v4 w_v4 h_v4;have HS4:=Lib.hid h_v4;clear h_v4) | (refine ef_app ?_ (.tmp 132) (.tmp 134) ?_ HS4.out [45] 1 1 _ ?_ ?_ ?_ ?_ ?_ ?_;rfl;rfl;rfl;rfl;rfl;rfl;(simp <;> omega);intro v5 w_v5 h_v5;have HS5:=Lib.hid h_v5;clear h_v5) | (refine ef_app ?_ (.tmp 136) (.tmp 150) ?_ HS5.out [E/100+48,E/10 % 10+48,E % 10+48] 3 3 _ ?_ ?_ ?_ ?_ ?_ ?_;rfl;rfl;rfl;rfl;rfl;rfl;(simp <;> omega);intro v6 w_v6 h_v6;have HS6:=Lib.hid h_v6;clear h_v6))
    go_ret
    refine ⟨_,rfl,?_,HS6.out.2.1⟩
    have hL0:L2=[]:=List.eq_nil_of_length_eq_zero (by have:=HK.out;simp only [List.length_cons] at this;omega)
    have hfin:=HX.out.trans (txt0 c0 E _ _ L2 hL0 (if_pos (by omega)) (by omega) (exA3 h100))
    rw [hfin]
    exact HS6.out.1
 ·have d1:decide ((k:Int)>0)=true:=decide_eq_true (by omega)
  have d2:decide ((0:Int)<k)=true:=decide_eq_true (by omega)
  have d3:min ((k:Int)+1) ((k:Int)+1)=(k:Int)+1:=Int.min_self _
  have d4:decide ((1:Int)<(k:Int)+1)=true:=decide_eq_true (by omega)
  by_cases h10:E<10
  ·have e1:decide ((E:Int)<10)=true:=decide_eq_true (by omega)
   go_wp2_with (at_builtin;first | (refine ef_app ?_ (.tmp 87) (.tmp 89) ?_ HS.out [c0] 1 1 _ ?_ ?_ ?_ ?_ ?_ ?_;rfl;rfl;rfl;rfl;rfl;rfl;(simp <;> omega);intro v1 w_v1 h_v1;have HS1:=Lib.hid h_v1;clear h_v1) | (refine ef_app ?_ (.tmp 93) (.tmp 94) ?_ HS1.out [46] 1 1 _ ?_ ?_ ?_ ?_ ?_ ?_;rfl;rfl;rfl;rfl;rfl;rfl;(simp <;> omega);intro v2 w_v2 h_v2;have HS2:=Lib.hid h_v2;clear h_v2) | (refine ef_app0 ?_ (.tmp 103) (.tmp 107) ?_ HS2.out k 31 ?_ ?_ ?_ ?_ ?_;rfl;rfl;(have:=HK.out;omega);rfl;rfl;(simp <;> omega);intro v3 w3 h3;have HS3:=Lib.hid h3;clear h3))
   go_loopw [0,114] (fun v0 v114 wr=>v0=v3∧v114= .int .i64 0∧wr=w3) (fun _ _ _=>0)
   case atStart=>exact ⟨rfl,rfl,rfl⟩
   obtain ⟨rfl,rfl,rfl⟩:=hrel
   go_wp2_with (at_builtin;first | (refine ef_app ?_ (.tmp 120) (.tmp 122) ?_ HS3.out [101] 1 1 _ ?_ ?_ ?_ ?_ ?_ ?_;rfl;rfl;rfl;rfl;rfl;rfl;(simp <;> omega);intro v4 w_v4 h_v4;have HS4:=Lib.hid h_v4;clear h_v4) | (refine ef_app ?_ (.tmp 132) (.tmp 134) ?_ HS4.out [45] 1 1 _ ?_ ?_ ?_ ?_ ?_ ?_;rfl;rfl;rfl;rfl;rfl;rfl;(simp <;> omega);intro v5 w_v5 h_v5;have HS5:=Lib.hid h_v5;clear h_v5) | (refine ef_app ?_ (.tmp 155) (.tmp 159) ?_ HS5.out [48,E+48] 2 2 _ ?_ ?_ ?_ ?_ ?_ ?_;rfl;rfl;rfl;rfl;rfl;rfl;(simp <;> omega);intro v6 w_v6 h_v6;have HS6:=Lib.hid h_v6;clear h_v6))
   go_ret
   refine ⟨_,rfl,?_,HS6.out.2.1⟩
   have hfin:=HX.out.trans (txt1 c0 E _ _ L2 (by have:=HK.out;simp only [List.length_cons] at this;omega) (if_pos (by omega)) (by omega) (exA1 h10))
   rw [hfin]
   exact HS6.out.1
  ·by_cases h100:E<100
   ·have e1:decide ((E:Int)<10)=false:=decide_eq_false (by omega)
    have e2:decide ((E:Int)<100)=true:=decide_eq_true (by omega)
    go_wp2_with (at_builtin;first | (refine ef_app ?_ (.tmp 87) (.tmp 89) ?_ HS.out [c0] 1 1 _ ?_ ?_ ?_ ?_ ?_ ?_;rfl;rfl;rfl;rfl;rfl;rfl;(simp <;> omega);intro v1 w_v1 h_v1;have HS1:=Lib.hid h_v1;clear h_v1) | (refine ef_app ?_ (.tmp 93) (.tmp 94) ?_ HS1.out [46] 1 1 _ ?_ ?_ ?_ ?_ ?_ ?_;rfl;rfl;rfl;rfl;rfl;rfl;(simp <;> omega);intro v2 w_v2 h_v2;have HS2:=Lib.hid h_v2;clear h_v2) | (refine ef_app0 ?_ (.tmp 103) (.tmp 107) ?_ HS2.out k 31 ?_ ?_ ?_ ?_ ?_;rfl;rfl;(have:=HK.out;omega);rfl;rfl;(simp <;> omega);intro v3 w3 h3;have HS3:=Lib.hid h3;clear h3))
    go_loopw [0,114] (fun v0 v114 wr=>v0=v3∧v114= .int .i64 0∧wr=w3) (fun _ _ _=>0)
    case atStart=>exact ⟨rfl,rfl,rfl⟩
    obtain ⟨rfl,rfl,rfl⟩:=hrel
    go_wp2_with (at_builtin;first | (refine ef_app ?_ (.tmp 120) (.tmp 122) ?_ HS3.out [101] 1 1 _ ?_ ?_ ?_ ?_ ?_ ?_;rfl;rfl;rfl;rfl;rfl;rfl;(simp <;> omega);intro v4 w_v4 h_v4;have HS4:=Lib.hid h_v4;clear h_v4) | (refine ef_app ?_ (.tmp 132) (.tmp 134) ?_ HS4.out [45] 1 1 _ ?_ ?_ ?_ ?_ ?_ ?_;rfl;rfl;rfl;rfl;rfl;rfl;(simp <;> omega);intro v5 w_v5 h_v5;have HS5:=Lib.hid h_v5;clear h_v5) | (refine ef_app ?_ (.tmp 164) (.tmp 173) ?_ HS5.out [E/10+48,E % 10+48] 2 2 _ ?_ ?_ ?_ ?_ ?_ ?_;rfl;rfl;rfl;rfl;rfl;rfl;(simp <;> omega);intro v6 w_v6 h_v6;have HS6:=Lib.hid h_v6;clear h_v6))
    go_ret
    refine ⟨_,rfl,?_,HS6.out.2.1⟩
    have hfin:=HX.out.trans (txt1 c0 E _ _ L2 (by have:=HK.out;simp only [List.length_cons] at this;omega) (if_pos (by omega)) (by omega) (exA2 h10 h100))
    rw [hfin]
    exact HS6.out.1
   ·have e1:decide ((E:Int)<10)=false:=decide_eq_false (by omega)
    have e2:decide ((E:Int)<100)=false:=decide_eq_false (by omega)
    go_wp2_with (at_builtin;first | (refine ef_app ?_ (.tmp 87) (.tmp 89) ?_ HS.out [c0] 1 1 _ ?_ ?_ ?_ ?_ ?_ ?_;rfl;rfl;rfl;rfl;rfl;rfl;(simp <;> omega);intro v1 w_v1 h_v1;have HS1:=Lib.hid h_v1;clear h_v1) | (refine ef_app ?_ (.tmp 93) (.tmp 94) ?_ HS1.out [46] 1 1 _ ?_ ?_ ?_ ?_ ?_ ?_;rfl;rfl;rfl;rfl;rfl;rfl;(simp <;> omega);intro v2 w_v2 h_v2;have HS2:=Lib.hid h_v2;clear h_v2) | (refine ef_app0 ?_ (.tmp 103) (.tmp 107) ?_ HS2.out k 31 ?_ ?_ ?_ ?_ ?_;rfl;rfl;(have:=HK.out;omega);rfl;rfl;(simp <;> omega);intro v3 w3 h3;have HS3:=Lib.hid h3;clear h3))
    go_loopw [0,114] (fun v0 v114 wr=>v0=v3∧v114= .int .i64 0∧wr=w3) (fun _ _ _=>0)
    case atStart=>exact ⟨rfl,rfl,rfl⟩
    obtain ⟨rfl,rfl,rfl⟩:=hrel
    go_wp2_with (at_builtin;first | (refine ef_app ?_ (.tmp 120) (.tmp 122) ?_ HS3.out [101] 1 1 _ ?_ ?_ ?_ ?_ ?_ ?_;rfl;rfl;rfl;rfl;rfl;rfl;(simp <;> omega);intro v4 w_v4 h_v4;have HS4:=Lib.hid h_v4;clear h_v4) | (refine ef_app ?_ (.tmp 132) (.tmp 134) ?_ HS4.out [45] 1 1 _ ?_ ?_ ?_ ?_ ?_ ?_;rfl;rfl;rfl;rfl;rfl;rfl;(simp <;> omega);intro v5 w_v5 h_v5;have HS5:=Lib.hid h_v5;clear h_v5) | (refine ef_app ?_ (.tmp 136) (.tmp 150) ?_ HS5.out [E/100+48,E/10 % 10+48,E % 10+48] 3 3 _ ?_ ?_ ?_ ?_ ?_ ?_;rfl;rfl;rfl;rfl;rfl;rfl;(simp <;> omega);intro v6 w_v6 h_v6;have HS6:=Lib.hid h_v6;clear h_v6))
    go_ret
    refine ⟨_,rfl,?_,HS6.out.2.1⟩
    have hfin:=HX.out.trans (txt1 c0 E _ _ L2 (by have:=HK.out;simp only [List.length_cons] at this;omega) (if_pos (by omega)) (by omega) (exA3 h100))
    rw [hfin]
    exact HS6.out.1
end Go.Proofs.YtjhhdnnblcbdbaaGreatDoor.uw
end
