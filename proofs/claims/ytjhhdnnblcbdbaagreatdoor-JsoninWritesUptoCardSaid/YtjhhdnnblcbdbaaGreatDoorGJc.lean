/- The reader's words, brackets and commas. Behind a part of a list or an object: is there another? -/
import Derived.Test.YtjhhdnnblcbdbaaGreatDoorGJm
section
namespace Go.Proofs.YtjhhdnnblcbdbaaGreatDoor.jw
open Go.RowKit mem val jp
set_option linter.unusedVariables false
set_option linter.unusedSectionVars false
theorem Pst.ok {α:Type} {g:Nat} {A:Option Addr} {n c:Nat} {o:α→Int} {dp:Int} {R:α→Value→World→Prop} {p:Nat} {a:α} {k:Nat} {w:World} {e:Ending} {w':World} (h:Pst g A n c o dp R p (.ok a k) w e w'):
  ∃v,e= .returned v∧R a v w'∧Rdr w' g A n c ((p+k:Nat):Int) (o a) dp∧Kp g w.heap.size w w':=by
 obtain ⟨h1,v,h2,h3,h4⟩:=h
 exact ⟨v,h2,h3,h4,h1⟩
theorem Pst.er {α:Type} {g:Nat} {A:Option Addr} {n c:Nat} {o:α→Int} {dp:Int} {R:α→Value→World→Prop} {p:Nat} {k:Nat} {x:Int} {w:World} {e:Ending} {w':World} (h:Pst g A n c o dp R p (.er k x) w e w'):
  e=flt ((p+k:Nat):Int) x∧Kp g w.heap.size w w':=⟨h.2,h.1⟩
theorem flt_at {a b:Nat} {x:Int} (h:a=b):flt (a:Int) x=flt (b:Int) x:=by rw [h]
theorem bnd_okr {α β:Type} {f:Ps α} {g:α→Ps β} {l:List Nat} {a:α} {j:Nat} (hf:f l= .ok a j):bnd f g l=(g a (l.drop j)).sh j:=by simp [bnd,hf]
theorem bnd_err {α β:Type} {f:Ps α} {g:α→Ps β} {l:List Nat} {k:Nat} {e:Int} (hf:f l= .er k e):bnd f g l= .er k e:=by simp [bnd,hf]
def natsOf (s:ByteArray):List Nat:=s.data.toList.map UInt8.toNat
theorem natsOf_len (s:ByteArray):(natsOf s).length=s.size:=by rw [natsOf,List.length_map,Array.length_toList];rfl
theorem natsOf_get (s:ByteArray) {i:Nat} (h:i<s.size):(s[i]'h).toNat=(natsOf s).getD i 0:=by
 have h2:i<s.data.toList.length:=by rw [Array.length_toList];exact h
 have h3:i<(natsOf s).length:=by rw [natsOf_len];exact h
 rw [List.getD_eq_getElem?_getD,List.getElem?_eq_getElem h3]
 simp only [natsOf,List.getElem_map,Array.getElem_toList]
 rfl
theorem want_cases (x:Nat) (l:List Nat):(l≠[]∧l.headD 0=x∧want x l= .ok () 1)∨(¬(l≠[]∧l.headD 0=x)∧want x l= .er 0 50):=by
 rw [want_eq]
 by_cases h:l≠[]∧l.headD 0=x
 ·exact .inl ⟨h.1,h.2,by rw [if_pos h]⟩
 ·exact .inr ⟨h,by rw [if_neg h]⟩
theorem sh_sh {α:Type} (i j:Nat) (r:Rs α):(r.sh j).sh i=r.sh (i+j):=by cases r <;> simp [Rs.sh,Nat.add_assoc]
theorem sh_zero {α:Type} (r:Rs α):r.sh 0=r:=by cases r <;> simp [Rs.sh]
theorem drop_ne {src:List Nat} {p:Nat}:src.drop p≠[]↔p<src.length:=by rw [ne_eq,List.drop_eq_nil_iff];omega
section
variable {F:Nf} {w0:World} {g:Nat} {A:Option Addr} {n:Nat} {src:List Nat} (HC:Cx F w0 g A n src) {c:Nat} {o dp:Int}
include HC
theorem below_kp {w wr:World} (hb:Below w0.heap.size w0 w) (hk:Kp g w.heap.size w wr):Below w0.heap.size w0 wr:=hb.trans ((hk.mono hb.size).below HC.lo)
set_option maxRecDepth 100000 in
set_option maxHeartbeats 800000 in
theorem word_any (s:ByteArray) (hs:s.size≤1000) (w:World) (p:Nat) (hb:Below w0.heap.size w0 w) (hr:Rdr w g A n c (p:Int) o dp) (hp:p≤n):
  Calls Tryz.prog 51 #[.pointer (some ⟨g,0,none⟩),.string s] w (Pst g A n c (fun _=>o) dp RU p (word (natsOf s) (src.drop p)) w):=by
 have hn:=HC.le
 have HB:=Lib.hid hb
 have HR:=Lib.hid hr
 have HC':=Lib.hid HC
 obtain ⟨m,hm⟩:∃m,s.size=m:=⟨_,rfl⟩
 have HS:=Lib.hid hs
 have HM:=Lib.hid hm
 go_enter Tryz.func51,Tryz.ntmps51
 go_wp2_with fail
 go_loopw [7] (fun v7 wr=>∃i q:Nat,v7= .int .i64 (i:Int)∧i≤m∧q≤n∧Hid (Rdr wr g A n c (q:Int) o dp)∧Hid (Kp g w.heap.size w wr)∧Hid (q=p+i)∧Hid (word (natsOf s) (src.drop p)=(word ((natsOf s).drop i) (src.drop q)).sh i)) (fun v7 wr=>m-(intOf v7).toNat)
 case atStart=>exact ⟨0,p,rfl,Nat.zero_le _,hp,HR,Lib.hid (Kp.refl _ _ _),Lib.hid rfl,Lib.hid (by rw [sh_zero];rfl)⟩
 case round=>
  clear HR hr hb hp hs
  obtain ⟨i,q,rfl,hi,hq,HRq,HK,HQ,HE⟩:=hrel
  have hms:=HS.out
  rw [hm] at hms
  by_cases hlt:i<m
  ·have hlt':(i:Int)<(m:Int):=by omega
   have his:i<s.size:=by omega
   have hx:=natsOf_get s his
   have hst:(natsOf s).drop i=(natsOf s).getD i 0 :: (natsOf s).drop (i+1):=by
    have h2:i<(natsOf s).length:=by rw [natsOf_len];exact his
    rw [List.drop_eq_getElem_cons h2,List.getD_eq_getElem?_getD,List.getElem?_eq_getElem h2]
    rfl
   have hE:=HE.out
   rw [hst] at hE
   generalize (natsOf s).getD i 0=x at*
   have HE':=Lib.hid hE
   have HCall:=Lib.hid (want_any HC'.out x wr q (below_kp HC'.out HB.out HK.out) HRq.out hq)
   clear hst hE HE hm
   go_wp2_with fail
   refine HCall.out.mono ?_
   rintro e w2 hP
   rcases want_cases x (src.drop q) with ⟨h1,h2,h3⟩ | ⟨h1,h3⟩
   ·rw [h3] at hP
    obtain ⟨v,rfl,rfl,hr2,hk2⟩:=hP.ok
    have hql:q<n:=by rw [←HC'.out.len];exact drop_ne.1 h1
    have HF:=Lib.hid (And.intro hr2 (HK.out.next hk2 HK.out.size))
    have HE2:Hid (word (natsOf s) (src.drop p)=(word ((natsOf s).drop (i+1)) (src.drop (q+1))).sh (i+1)):=Lib.hid (by
     rw [HE'.out]
     show ((bnd (want x) fun _=>word ((natsOf s).drop (i+1))) (src.drop q)).sh i=_
     rw [bnd_okr h3,sh_sh,List.drop_drop])
    clear hr2 hk2 h1 h2 h3 hP HE' HCall hx
    go_wp2_with fail
    exact ⟨⟨i+1,q+1,by simp,by omega,by omega,Lib.hid HF.out.1,Lib.hid HF.out.2,Lib.hid (by have:=HQ.out;omega),HE2⟩,by simp [intOf];omega⟩
   ·rw [h3] at hP
    obtain ⟨rfl,hk2⟩:=hP.er
    have HF:=Lib.hid (HK.out.next hk2 HK.out.size)
    have HE2:Hid (word (natsOf s) (src.drop p)= .er i 50):=Lib.hid (by
     rw [HE'.out]
     show ((bnd (want x) fun _=>word ((natsOf s).drop (i+1))) (src.drop q)).sh i=_
     rw [bnd_err h3]
     rfl)
    clear hk2 h1 h3 hP HE' HCall hx
    unfold flt
    go_wp2_with fail
    rw [HE2.out]
    exact ⟨rfl,HF.out,flt_at (by have:=HQ.out;omega)⟩
  ·have him:i=m:=by omega
   have hge:¬((i:Int)<(m:Int)):=by omega
   have HE2:Hid (word (natsOf s) (src.drop p)= .ok () i):=Lib.hid (by
    rw [HE.out,List.drop_eq_nil_of_le (by rw [natsOf_len];omega)]
    rfl)
   clear HE hlt him hi
   go_wp2_with fail
   go_end0
   rw [HE2.out]
   exact ⟨HK.out,_,rfl,rfl,by rw [←HQ.out];exact HRq.out⟩
set_option maxRecDepth 100000 in
set_option maxHeartbeats 800000 in
theorem opened_any (d:Nat) (ho:0≤o) (hod:o+d=dp) (hd:dp≤200) (w:World) (p:Nat) (hb:Below w0.heap.size w0 w) (hr:Rdr w g A n c (p:Int) o dp) (hp:p<n):
  Calls Tryz.prog 81 #[.pointer (some ⟨g,0,none⟩)] w (Pst g A n c (fun _=>o+1) dp RU p (bnd (opn d) (fun _=>blanks) (src.drop p)) w):=by
 have hn:=HC.le
 have HB:=Lib.hid hb
 have HR:=Lib.hid hr
 have HC':=Lib.hid HC
 obtain ⟨c0,c1,c2,c3⟩:=hr.cells
 have f1:=hr.frozen 1
 have f2:=hr.frozen 2
 have hopn:opn d (src.drop p)=if d=0 then .er 0 71 else .ok () 1:=by
  rw [drop_one src p (by rw [HC.len];exact hp)]
  rfl
 by_cases h0:d=0
 ·have hge:decide (dp≤o)=true:=by simp;omega
  have hge':(o≥dp)=True:=by simp;omega
  have hge2:decide (o≥dp)=true:=by simp;omega
  rw [if_pos h0] at hopn
  rw [bnd_err hopn]
  clear hopn h0 hod ho
  go_enter Tryz.func81,Tryz.ntmps81
  go_wp2_with fail
  go_quiet (fail)
  go_wp2_with fail
  exact ⟨rfl,(Kp.refl _ _ _).drewN _,rfl⟩
 ·have hge:decide (dp≤o)=false:=by simp;omega
  have hge':(o≥dp)=False:=by simp;omega
  have hge2:decide (o≥dp)=false:=by simp;omega
  rw [if_neg h0] at hopn
  rw [bnd_okr hopn,List.drop_drop]
  have hod1: -9223372036854775808≤o+1∧o+1≤9223372036854775807:=by omega
  have hr1:∀k,Rdr ((w.drewN k).setCell ⟨g,2,none⟩ (.int .i64 (o+1))) g A n c (p:Int) (o+1) dp:=fun k=>(hr.drewN k).open_ _
  have hr2:∀k,Rdr (((w.drewN k).setCell ⟨g,2,none⟩ (.int .i64 (o+1))).setCell ⟨g,1,none⟩ (.int .i64 ((p:Int)+1))) g A n c ((p+1:Nat):Int) (o+1) dp:=fun k=>by simpa using (hr1 k).at_ ((p:Int)+1)
  have hk2:∀k,Kp g w.heap.size w (((w.drewN k).setCell ⟨g,2,none⟩ (.int .i64 (o+1))).setCell ⟨g,1,none⟩ (.int .i64 ((p:Int)+1))):=fun k=>(((Kp.refl _ _ _).drewN k).self ⟨g,2,none⟩ rfl _).self ⟨g,1,none⟩ rfl _
  have HF:=Lib.hid (And.intro hr1 (And.intro hr2 hk2))
  have hcc:∀k,((w.drewN k).setCell ⟨g,2,none⟩ (.int .i64 (o+1))).cell? ⟨g,1,none⟩=some (.int .i64 (p:Int)):=fun k=>(hr1 k).cells.2.1
  have hff:∀k,((w.drewN k).setCell ⟨g,2,none⟩ (.int .i64 (o+1))).frozen? ⟨g,1,none⟩=false:=fun k=>(hr1 k).frozen 1
  clear hopn hr1 hr2 hk2 h0
  go_enter Tryz.func81,Tryz.ntmps81
  go_wp2_with fail
  go_quiet (fail)
  go_wp2_with fail
  refine (blanks_any HC'.out (o:=o+1) (dp:=dp) (c:=c) _ (p+1) (below_kp HC'.out HB.out (HF.out.2.2 _)) (HF.out.2.1 _) (by omega)).mono ?_
  rintro e w3 hP
  obtain ⟨v,rfl,rfl,hr3,hk3⟩:=Pst.ok (a:=()) (k:=cnt (src.drop (p+1))) hP
  have HF3:=Lib.hid (And.intro hr3 ((HF.out.2.2 _).next hk3 (HF.out.2.2 _).size))
  clear hr3 hk3 hP
  go_wp2_with fail
  go_end0
  refine ⟨HF3.out.2,_,rfl,rfl,?_⟩
  have:=HF3.out.1
  rw [Nat.add_assoc] at this
  exact this
end
end Go.Proofs.YtjhhdnnblcbdbaaGreatDoor.jw
end
section
namespace Go.Proofs.YtjhhdnnblcbdbaaGreatDoor.jw
open Go.RowKit mem val jp
set_option linter.unusedVariables false
set_option linter.unusedSectionVars false
section
variable {F:Nf} {w0:World} {g:Nat} {A:Option Addr} {n:Nat} {src:List Nat} (HC:Cx F w0 g A n src) {c:Nat} {o dp:Int}
include HC
set_option maxRecDepth 100000 in
set_option maxHeartbeats 800000 in
theorem more_any (x:Nat) (hx0:x≠0) (hx:x<256) (ho:0<o) (hod:o≤200) (w:World) (p:Nat) (hb:Below w0.heap.size w0 w) (hr:Rdr w g A n c (p:Int) o dp) (hp:p≤n):
  Calls Tryz.prog 82 #[.pointer (some ⟨g,0,none⟩),.int .u8 (x:Int)] w (Pst g A n c (fun b=>if b=true then o else o-1) dp RB p (more x (src.drop p)) w):=by
 have hn:=HC.le
 have HB:=Lib.hid hb
 have HR:=Lib.hid hr
 have HC':=Lib.hid HC
 have hmore:more x (src.drop p)=((if (src.drop (p+cnt (src.drop p))).headD 0=x then (bnd one fun _=>jp.ret false) (src.drop (p+cnt (src.drop p))) else (bnd (want 44) fun _=>bnd blanks fun _=>jp.ret true) (src.drop (p+cnt (src.drop p))))).sh (cnt (src.drop p)):=by
  unfold more
  rw [bnd_okr (a:=()) (j:=cnt (src.drop p)) rfl,List.drop_drop]
 have hpc:p+cnt (src.drop p)≤n:=by
  have:=cnt_le' (src.drop p)
  rw [List.length_drop,HC.len] at this
  omega
 obtain ⟨j,hj⟩:∃j,cnt (src.drop p)=j:=⟨_,rfl⟩
 have hbl:blanks (src.drop p)= .ok () j:=by rw [←hj];rfl
 rw [hj] at hmore hpc
 have HBl:=Lib.hid (blanks_any HC w p hb hr hp)
 have HM:=Lib.hid hmore
 have HJ:=Lib.hid hbl
 clear hmore hj hbl
 go_enter Tryz.func82,Tryz.ntmps82
 go_wp2_with fail
 refine HBl.out.mono ?_
 rintro e w2 hP
 rw [HJ.out] at hP
 obtain ⟨v,rfl,rfl,hr2,hk2⟩:=hP.ok
 have HR2:=Lib.hid hr2
 have HK2:=Lib.hid hk2
 have HB2:=Lib.hid (below_kp HC'.out HB.out hk2)
 clear hP hr2 hk2 HBl
 go_wp2_with fail
 refine (next_any HC'.out w2 (p+j) HB2.out HR2.out hpc).mono ?_
 rintro e w3 ⟨rfl,hsm⟩
 have HR3:=Lib.hid (hsm.rdr HR2.out)
 have HK3:=Lib.hid (HK2.out.sm hsm)
 have HB3:=Lib.hid (hsm.below HB2.out)
 clear hsm HR2 HK2 HB2
 have h256:=HC'.out.lt256 (p+j)
 rw [head_drop] at HM
 by_cases hy:src.getD (p+j) 0=x
 ·have HM2:Hid (more x (src.drop p)= .ok false (j+1)):=Lib.hid (by
   rw [HM.out,if_pos hy]
   have hlt:p+j<src.length:=by
    rcases Nat.lt_or_ge (p+j) src.length with h | h
    ·exact h
    ·rw [List.getD_eq_getElem?_getD,List.getElem?_eq_none h] at hy
     exact absurd hy.symm hx0
   rw [drop_one src (p+j) hlt]
   rfl)
  rw [hy]
  have hod1: -9223372036854775808≤o-1∧o-1≤9223372036854775807:=by omega
  have hr4:Rdr (w3.setCell ⟨g,1,none⟩ (.int .i64 (((p+j:Nat):Int)+1))) g A n c ((p+(j+1):Nat):Int) o dp:=by
   have:=HR3.out.at_ (((p+j:Nat):Int)+1)
   rw [show (((p+j:Nat):Int)+1)=((p+(j+1):Nat):Int) by omega] at this ⊢
   exact this
  have hr5:=hr4.open_ (o-1)
  have hk5:=(HK3.out.self ⟨g,1,none⟩ rfl (.int .i64 (((p+j:Nat):Int)+1))).self ⟨g,2,none⟩ rfl (.int .i64 (o-1))
  have HF:=Lib.hid (And.intro hr5 hk5)
  obtain ⟨c0,c1,c2,c3⟩:=HR3.out.cells
  obtain ⟨d0,d1,d2,d3⟩:=hr4.cells
  have f1:=HR3.out.frozen 1
  have f2:=hr4.frozen 2
  have hpj:((p+j:Nat):Int)≤1099511627776:=by omega
  have hpj0:(0:Int)≤((p+j:Nat):Int):=by omega
  generalize ((p+j:Nat):Int)=P at*
  clear hr4 hr5 hk5 hy HM
  go_wp2_with fail
  go_ret
  rw [HM2.out]
  exact ⟨HF.out.2,_,rfl,rfl,HF.out.1⟩
 ·have HM2:Hid (more x (src.drop p)=((bnd (want 44) fun _=>bnd blanks fun _=>jp.ret true) (src.drop (p+j))).sh j):=Lib.hid (by rw [HM.out,if_neg hy])
  have hne:((src.getD (p+j) 0:Nat):Int)≠(x:Int):=by omega
  have HN:Hid (((src.getD (p+j) 0:Nat):Int)≠(x:Int)):=Lib.hid hne
  generalize ((src.getD (p+j) 0:Nat):Int)=y at*
  clear hy HM h256
  go_wp2_with fail
  refine (want_any HC'.out 44 w3 (p+j) HB3.out HR3.out hpc).mono ?_
  rintro e w4 hP
  rcases want_cases 44 (src.drop (p+j)) with ⟨h1,h2,h3⟩ | ⟨h1,h3⟩
  ·rw [h3] at hP
   obtain ⟨v,rfl,rfl,hr4,hk4⟩:=hP.ok
   have HR4:=Lib.hid hr4
   have HK4:=Lib.hid (HK3.out.next hk4 HK3.out.size)
   have HB4:=Lib.hid (below_kp HC'.out HB.out HK4.out)
   have hql:p+j<n:=by rw [←HC'.out.len];exact drop_ne.1 h1
   have HM3:Hid (more x (src.drop p)= .ok true (j+(1+cnt (src.drop (p+j+1))))):=Lib.hid (by
    rw [HM2.out,bnd_okr h3,List.drop_drop,bnd_okr (a:=()) (j:=cnt (src.drop (p+j+1))) rfl]
    rfl)
   clear hP hr4 hk4 h1 h2 h3 HM2 HR3 HK3 HB3
   go_wp2_with fail
   refine (blanks_any HC'.out w4 (p+j+1) HB4.out HR4.out (by omega)).mono ?_
   rintro e w5 hP
   obtain ⟨v,rfl,rfl,hr5,hk5⟩:=Pst.ok (a:=()) (k:=cnt (src.drop (p+j+1))) hP
   have HF:=Lib.hid (And.intro hr5 (HK4.out.next hk5 HK4.out.size))
   clear hP hr5 hk5 HR4 HK4 HB4
   go_wp2_with fail
   go_ret
   rw [HM3.out]
   refine ⟨HF.out.2,_,rfl,rfl,?_⟩
   have:=HF.out.1
   rw [show p+j+1+cnt (src.drop (p+j+1))=p+(j+(1+cnt (src.drop (p+j+1)))) by omega] at this
   exact this
  ·rw [h3] at hP
   obtain ⟨rfl,hk4⟩:=hP.er
   have HF:=Lib.hid (HK3.out.next hk4 HK3.out.size)
   have HM3:Hid (more x (src.drop p)= .er j 50):=Lib.hid (by
    rw [HM2.out,bnd_err h3]
    rfl)
   clear hP hk4 h1 h3 HM2 HR3 HK3 HB3
   unfold flt
   go_wp2_with fail
   rw [HM3.out]
   exact ⟨rfl,HF.out,rfl⟩
end
end Go.Proofs.YtjhhdnnblcbdbaaGreatDoor.jw
end
