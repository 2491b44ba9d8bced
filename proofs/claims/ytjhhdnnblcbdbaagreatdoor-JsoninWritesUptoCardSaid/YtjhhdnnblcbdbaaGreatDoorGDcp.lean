/- The library's decimal: prefixIsLessThan. The library's decimal: leftShift. -/
import Derived.Test.YtjhhdnnblcbdbaaGreatDoorGPo
import GoSem.PinnedTables
section
namespace Go.Proofs.YtjhhdnnblcbdbaaGreatDoor.dcm
open Go.RowKit mem fl big us
set_option linter.unusedVariables false
structure StrIs (s:ByteArray) (S:List Nat) (len:Nat):Prop where
 size:s.size=len
 at_:∀i (h:i<s.size),(s[i]).toNat=S.getD i 0
theorem nmb_split (L:List Nat) (i:Nat):∀j,i≤j→nmb L i*10^(j-i)≤nmb L j
 | 0,h=>by rw [show i=0 by omega];simp [nmb]
 | j+1,h=>by
   rcases Nat.lt_or_ge j i with h1 | h1
   ·rw [show i=j+1 by omega];simp
   ·have:=nmb_split L i j h1
    rw [show j+1-i=(j-i)+1 by omega,Nat.pow_succ,←Nat.mul_assoc]
    simp only [nmb]
    omega
theorem nmb_splitU (L:List Nat) (nd:Nat) (hh:∀x,x<nd→L.getD x 0≤57) (i:Nat):∀j,i≤j→j≤nd→nmb L j<(nmb L i+1)*10^(j-i)
 | 0,h,_=>by rw [show i=0 by omega];simp [nmb]
 | j+1,h,hj=>by
   rcases Nat.lt_or_ge j i with h1 | h1
   ·rw [show i=j+1 by omega];simp
   ·have:=nmb_splitU L nd hh i j h1 (by omega)
    have:=hh j (by omega)
    rw [show j+1-i=(j-i)+1 by omega,Nat.pow_succ,←Nat.mul_assoc]
    simp only [nmb]
    omega
theorem lt_of_digit {L S:List Nat} {nd len i:Nat} (hh:∀x,x<nd→L.getD x 0≤57) (hi:i<nd) (hl:i<len) (he:nmb L i=nmb S i) (h1:L.getD i 0<S.getD i 0) (h2:48≤L.getD i 0):nmb L nd*10^len<nmb S len*10^nd:=by
 have a:=nmb_splitU L nd hh (i+1) nd (by omega) (Nat.le_refl _)
 have b:=nmb_split S (i+1) len (by omega)
 have c:nmb L (i+1)+1≤nmb S (i+1):=by simp only [nmb];omega
 have d:(nmb L (i+1)+1)*10^(nd-(i+1))≤nmb S (i+1)*10^(nd-(i+1)):=Nat.mul_le_mul_right _ c
 have e:nmb L nd<nmb S (i+1)*10^(nd-(i+1)):=by omega
 have f:=(Nat.mul_lt_mul_right (show 0<10^len from Nat.pow_pos (by omega))).2 e
 have k:nmb S (i+1)*10^(nd-(i+1))*10^len=nmb S (i+1)*10^(len-(i+1))*10^nd:=by
  rw [Nat.mul_assoc,Nat.mul_assoc,←Nat.pow_add,←Nat.pow_add]
  congr 2
  omega
 rw [k] at f
 exact Nat.lt_of_lt_of_le f (Nat.mul_le_mul_right _ b)
theorem drewN_two (w:World) (a b c:Nat):((w.drewN a).drewN b).drewN c=w.drewN (a+b+c):=by unfold World.drewN;simp only [World.mk.injEq,true_and,and_true];omega
def PltPost (L S:List Nat) (nd len:Nat) (w:World) (e:Ending) (w':World):Prop:=
 ∃b,e= .returned (.bool b)∧(b=true→nmb L nd*10^len<nmb S len*10^nd)∧(b=false→nmb S len*10^nd≤nmb L nd*10^len)∧∃m,w'=w.drewN m
set_option maxRecDepth 100000 in
set_option maxHeartbeats 4000000 in
theorem plt_any (g:Nat) (L S:List Nat) (nd len cap:Nat) (dp:Int) (neg tr:Bool) (s:ByteArray) (w:World) (h:DcAt w g L nd dp neg tr) (hD:Dg L nd) (hs:StrIs s S len) (hS1:∀x,x<len→48≤S.getD x 0) (hS2:∀x,x<len→S.getD x 0≤57) (hlast:0<len→S.getD (len-1) 0≠48) (hlen:len≤1000):
  Calls Tryz.prog 207 #[.slice (some ⟨g,0,none⟩) nd cap,.string s] w (PltPost L S nd len w):=by
 have H0:=Lib.hid h
 clear h
 have hsz:=hs.size
 have hnd:=hD.le
 go_enter Tryz.func207,Tryz.ntmps207
 go_wp2_with fail
 go_loopw [5] (fun u5 wr=>∃i:Nat,u5= .int .i64 (i:Int)∧i≤len∧i≤nd∧nmb L i=nmb S i∧∃m,wr=w.drewN m) (fun u5 _=>len-(intOf u5).toNat)
 case atStart=>exact ⟨0,rfl,by omega,by omega,rfl,0,rfl⟩
 case round=>
  obtain ⟨i,rfl,hi1,hi2,he,m,rfl⟩:=hrel
  rcases Nat.lt_or_ge i len with hil | hil
  ·have t1:(i:Int)<(s.size:Int):=by omega
   rcases Nat.lt_or_ge i nd with hin | hin
   ·have t2:(i:Int)<(nd:Int):=by omega
    have d0:=H0.out.cD (i:=i) (by omega)
    have hb:i<s.size:=by omega
    have d1:=hs.at_ i hb
    have dl:=hD.lo i hin
    have dh:=hD.hi i hin
    have sl:=hS1 i hil
    have sh:=hS2 i hil
    obtain ⟨c,hc⟩:∃c,L.getD i 0=c:=⟨_,rfl⟩
    obtain ⟨z,hz⟩:∃z,S.getD i 0=z:=⟨_,rfl⟩
    rw [hc] at d0 dl dh
    rw [hz] at d1 sl sh
    by_cases hcz:c=z
    ·subst hcz
     go_wp2_with fail
     go_quiet (fail)
     go_wp2_with fail
     exact ⟨⟨i+1,by simp,hil,hin,by simp only [nmb];rw [he,hc,hz],m+nq,rfl⟩,by simp [intOf];omega⟩
    ·have hne:((c:Int) !=(z:Int))=true:=by simp;omega
     have hne2:((c:Int)≠(z:Int)):=by omega
     go_wp2_with fail
     go_quiet (fail)
     go_wp2_with fail
     go_quiet (fail)
     go_wp2_with fail
     go_ret
     refine ⟨_,rfl,fun hb1=>?_,fun hb1=>?_,_,drewN_two _ _ _ _⟩
     ·have hb2:c<z:=by
       have:=of_decide_eq_true hb1
       omega
      exact lt_of_digit hD.hi hin hil he (by rw [hc,hz];exact hb2) (by rw [hc];exact dl)
     ·have hb2:z<c:=by
       have:=of_decide_eq_false hb1
       omega
      exact Nat.le_of_lt (lt_of_digit hS2 hil hin he.symm (by rw [hc,hz];exact hb2) (by rw [hz];exact sl))
   ·have t2:¬((i:Int)<(nd:Int)):=by omega
    have t3:(nd:Int)≤(i:Int):=by omega
    have hine:i=nd:=by omega
    subst hine
    go_wp2_with fail
    go_ret
    refine ⟨true,rfl,fun _=>?_,fun hb1=>(Bool.noConfusion hb1),m,rfl⟩
    rw [he]
    have hl:=hlast (by omega)
    have hl2:=hS1 (len-1) (by omega)
    have h1:=nmb_split S i (len-1) (by omega)
    obtain ⟨q,rfl⟩:∃q,len=q+1:=⟨len-1,by omega⟩
    simp only [Nat.add_sub_cancel] at hl hl2 h1
    have h2:nmb S (q+1)=nmb S q*10+(S.getD q 0-48):=rfl
    have h3:nmb S i*10^(q+1)=nmb S i*10^(q-i)*10*10^i:=by
     rw [Nat.mul_assoc,Nat.mul_assoc,Nat.mul_comm 10,←Nat.mul_assoc (10^(q-i)),←Nat.pow_add,show q-i+i=q by omega,Nat.pow_succ]
    rw [h3]
    refine (Nat.mul_lt_mul_right (Nat.pow_pos (by omega))).2 ?_
    omega
  ·have t1:¬((i:Int)<(s.size:Int)):=by omega
   have hine:i=len:=by omega
   subst hine
   go_wp2_with fail
   go_ret
   refine ⟨false,rfl,fun hb1=>(Bool.noConfusion hb1),fun _=>?_,m,rfl⟩
   rw [←he]
   have h1:=nmb_split L i nd hi2
   have h3:nmb L i*10^nd=nmb L i*10^(nd-i)*10^i:=by
    rw [Nat.mul_assoc,←Nat.pow_add,show nd-i+i=nd by omega]
   rw [h3]
   exact Nat.mul_le_mul_right _ h1
end Go.Proofs.YtjhhdnnblcbdbaaGreatDoor.dcm
end
section
namespace Go.Proofs.YtjhhdnnblcbdbaaGreatDoor.dcm
open Go.RowKit mem fl big us
set_option linter.unusedVariables false
def cht (k:Nat):Nat×List UInt8:=Go.Pinned.cheatRows.getD k (0,[])
def chS (k:Nat):List Nat:=(cht k).2.map UInt8.toNat
def LcAt (w:World):Prop:=∃A c,w.cell? ⟨15,0,none⟩=some (.slice (some A) 61 c)∧A.spot=none∧A.block<w.heap.size∧
 ∀k,k≤60→w.cell? ⟨A.block,A.off+k*2,none⟩=some (.int .i64 ((cht k).1:Int))∧w.cell? ⟨A.block,A.off+k*2+1,none⟩=some (.string ⟨(cht k).2.toArray⟩)
def chOk (k:Nat):Bool:=decide (nmb (chS k) (chS k).length=5^k)&&(chS k).all (fun c=>decide (48≤c)&&decide (c≤57))&&decide ((chS k).getD ((chS k).length-1) 0≠48)&&decide ((chS k).getD 0 0≠48)&&decide ((cht k).1+(chS k).length=k+1)&&decide (0<(chS k).length)&&decide ((chS k).length≤100)&&decide (1≤(cht k).1)
set_option maxRecDepth 100000 in
theorem chAll:((List.range 60).all fun k=>chOk (k+1))=true:=by decide+kernel
structure ChF (k:Nat):Prop where
 num:nmb (chS k) (chS k).length=5^k
 lo:∀x,x<(chS k).length→48≤(chS k).getD x 0
 hi:∀x,x<(chS k).length→(chS k).getD x 0≤57
 last:(chS k).getD ((chS k).length-1) 0≠48
 first:(chS k).getD 0 0≠48
 dl:(cht k).1+(chS k).length=k+1
 pos:0<(chS k).length
 le:(chS k).length≤100
 one:1≤(cht k).1
theorem chF {k:Nat} (h1:1≤k) (h2:k≤60):ChF k:=by
 have h:=List.all_eq_true.1 chAll (k-1) (by simp;omega)
 rw [show k-1+1=k by omega] at h
 unfold chOk at h
 simp only [Bool.and_eq_true,decide_eq_true_eq,List.all_eq_true] at h
 obtain ⟨⟨⟨⟨⟨⟨⟨a1,a2⟩,a3⟩,a4⟩,a5⟩,a6⟩,a7⟩,a8⟩:=h
 have hmem:∀x,x<(chS k).length→(chS k).getD x 0∈chS k:=fun x hx=>by
  rw [List.getD_eq_getElem?_getD,List.getElem?_eq_getElem hx]
  exact List.getElem_mem hx
 exact ⟨a1,fun x hx=>(a2 _ (hmem x hx)).1,fun x hx=>(a2 _ (hmem x hx)).2,a3,a4,a5,a6,a7,a8⟩
theorem chStr (k:Nat):StrIs ⟨(cht k).2.toArray⟩ (chS k) (chS k).length:=by
 refine ⟨by simp [ByteArray.size,chS],fun i h=>?_⟩
 have h':i<(cht k).2.length:=by simpa [ByteArray.size] using h
 unfold chS
 rw [List.getD_eq_getElem?_getD,List.getElem?_map,List.getElem?_eq_getElem h']
 rfl
theorem v_of {N nd k len d:Nat} (h1:10^(nd-1)≤N) (h2:N<10^nd) (h0:0<nd) (hk:ChF k) (hl:(chS k).length=len) (hd:(cht k).1=d):
  (N*10^len<5^k*10^nd→10^(nd+(d-1)-1)≤N*2^k∧N*2^k<10^(nd+(d-1)))∧(5^k*10^nd≤N*10^len→10^(nd+d-1)≤N*2^k∧N*2^k<10^(nd+d)):=by
 have hdl:=hk.dl
 have hone:=hk.one
 have hp:=hk.pos
 rw [hl,hd] at hdl
 rw [hd] at hone
 rw [hl] at hp
 have hnum:=hk.num
 rw [hl] at hnum
 have hlt:5^k<10^len:=by
  rw [←hnum]
  have:Dg (chS k) len:=⟨fun i hi=>hk.lo i (by omega),fun i hi=>hk.hi i (by omega),fun _=>hk.first,by have:=hk.le;omega⟩
  exact this.lt len (Nat.le_refl _)
 have hge:10^(len-1)≤5^k:=by
  rw [←hnum]
  have:Dg (chS k) len:=⟨fun i hi=>hk.lo i (by omega),fun i hi=>hk.hi i (by omega),fun _=>hk.first,by have:=hk.le;omega⟩
  exact this.pos len hp (Nat.le_refl _)
 have h52:5^k*2^k=10^k:=by rw [←Nat.mul_pow]
 have h5p:=Nat.pow_pos (n:=k) (show 0<5 by omega)
 have h10p:0<10^len:=Nat.pow_pos (by omega)
 constructor
 ·intro h
  constructor
  ·
   refine Nat.le_of_mul_le_mul_right ?_ h5p
   have e1:N*2^k*5^k=N*10^k:=by rw [Nat.mul_assoc,Nat.mul_comm (2^k),h52]
   rw [e1]
   have e2:10^(nd+(d-1)-1)*5^k≤10^(nd+(d-1)-1)*10^len:=Nat.mul_le_mul_left _ (Nat.le_of_lt hlt)
   refine Nat.le_trans e2 ?_
   rw [←Nat.pow_add,show nd+(d-1)-1+len=(nd-1)+k by omega,Nat.pow_add]
   exact Nat.mul_le_mul_right _ h1
  ·refine Nat.lt_of_mul_lt_mul_right (a:=10^len) ?_
   have e1:=(Nat.mul_lt_mul_right (Nat.two_pow_pos k)).2 h
   have e2:5^k*10^nd*2^k=10^(nd+k):=by rw [Nat.mul_assoc,Nat.mul_comm (10^nd),←Nat.mul_assoc,h52,←Nat.pow_add,Nat.add_comm]
   have e3:10^(nd+(d-1))*10^len=10^(nd+k):=by rw [←Nat.pow_add];congr 1;omega
   rw [e2] at e1
   rw [e3,Nat.mul_assoc,Nat.mul_comm (2^k),←Nat.mul_assoc]
   exact e1
 ·intro h
  constructor
  ·refine Nat.le_of_mul_le_mul_right (c:=10^len) ?_ h10p
   have e1:=Nat.mul_le_mul_right (2^k) h
   have e2:5^k*10^nd*2^k=10^(nd+k):=by rw [Nat.mul_assoc,Nat.mul_comm (10^nd),←Nat.mul_assoc,h52,←Nat.pow_add,Nat.add_comm]
   have e3:10^(nd+d-1)*10^len=10^(nd+k):=by rw [←Nat.pow_add];congr 1;omega
   rw [e2] at e1
   rw [e3,Nat.mul_assoc,Nat.mul_comm (2^k),←Nat.mul_assoc]
   exact e1
  ·refine Nat.lt_of_mul_lt_mul_right (a:=5^k) ?_
   have e1:N*2^k*5^k=N*10^k:=by rw [Nat.mul_assoc,Nat.mul_comm (2^k),h52]
   rw [e1]
   have e2:10^(nd+d)*10^(len-1)≤10^(nd+d)*5^k:=Nat.mul_le_mul_left _ hge
   refine Nat.lt_of_lt_of_le ?_ e2
   rw [←Nat.pow_add,show nd+d+(len-1)=nd+k by omega,Nat.pow_add]
   exact (Nat.mul_lt_mul_right (Nat.pow_pos (by omega))).2 h2
structure LI (Z V:Nat) (tr:Bool) (Lw:List Nat) (t:Nat) (tr2:Bool):Prop where
 dig:∀p,V-t≤p→p<min V 800→Lw.getD p 0=Z/10^(V-1-p) % 10+48
 tr:tr2=(tr||(Z % 10^(V-max (V-t) 800) !=0))
theorem LI.start (Z V:Nat) (tr:Bool) (L:List Nat):LI Z V tr L 0 tr:=⟨fun p h1 h2=>absurd h1 (by omega),by
 rw [show V-max (V-0) 800=0 by omega]
 simp [Nat.mod_one]⟩
theorem LI.low {Z V:Nat} {tr:Bool} {Lw:List Nat} {t:Nat} {tr2:Bool} (h:LI Z V tr Lw t tr2) (ht:t<V) (hp:V-1-t<800) (hl:Lw.length=800):LI Z V tr (Lw.set (V-1-t) (Z/10^t % 10+48)) (t+1) tr2:=by
 constructor
 ·intro p h1 h2
  by_cases hpe:p=V-1-t
  ·subst hpe
   rw [getD_set_eq (by omega),show V-1-(V-1-t)=t by omega]
  ·rw [getD_set_ne (by omega)]
   exact h.dig p (by omega) h2
 ·rw [h.tr]
  congr 4
  omega
theorem LI.high {Z V:Nat} {tr:Bool} {Lw:List Nat} {t:Nat} {tr2:Bool} (h:LI Z V tr Lw t tr2) (ht:t<V) (hp:800≤V-1-t):LI Z V tr Lw (t+1) (tr2||(Z/10^t % 10 !=0)):=by
 constructor
 ·intro p h1 h2
  exact absurd h1 (by omega)
 ·rw [h.tr,Bool.or_assoc]
  congr 1
  rw [show V-max (V-t) 800=t by omega,show V-max (V-(t+1)) 800=t+1 by omega]
  have em:Z % 10^(t+1)=Z/10^t % 10*10^t+Z % 10^t:=by
   rw [Nat.pow_succ,Nat.mod_mul,Nat.mul_comm (10^t),Nat.add_comm]
  rw [em]
  have hp0:0<10^t:=Nat.pow_pos (by omega)
  generalize Z % 10^t=a
  generalize Z/10^t % 10=b
  generalize 10^t=T at*
  rcases Nat.eq_zero_or_pos b with rfl | hb
  ·simp
  ·have h1:1*T≤b*T:=Nat.mul_le_mul_right _ hb
   have h2:(b !=0)=true:=by simp;omega
   have h3:(b*T+a !=0)=true:=by
    rw [bne_iff_ne]
    omega
   rw [h2,h3,Bool.or_true]
theorem top_digits {Z V m:Nat} {Lw:List Nat} (hm:m≤V) (h:∀p,p<m→Lw.getD p 0=Z/10^(V-1-p) % 10+48) (hz:Z<10^V):nmb Lw m=Z/10^(V-m):=by
 induction m with
 | zero=>rw [Nat.sub_zero,Nat.div_eq_of_lt hz];rfl
 | succ m ih=>
   simp only [nmb]
   rw [ih (by omega) fun p hp=>h p (by omega),h m (by omega),show V-1-m=V-(m+1) by omega,Nat.add_sub_cancel,show V-m=(V-(m+1))+1 by omega,Nat.pow_succ,←Nat.div_div_eq_div_mul]
   omega
theorem plt_fun (g:Nat) (L S:List Nat) (nd len cap:Nat) (dp:Int) (neg tr:Bool) (s:ByteArray) (w:World) (h:DcAt w g L nd dp neg tr) (hD:Dg L nd) (hs:StrIs s S len) (hS1:∀x,x<len→48≤S.getD x 0) (hS2:∀x,x<len→S.getD x 0≤57) (hlast:0<len→S.getD (len-1) 0≠48) (hlen:len≤1000):
  Calls Tryz.prog 207 #[.slice (some ⟨g,0,none⟩) nd cap,.string s] w (fun e w'=>e= .returned (.bool (decide (nmb L nd*10^len<nmb S len*10^nd)))∧∃m,w'=w.drewN m):=
 (plt_any g L S nd len cap dp neg tr s w h hD hs hS1 hS2 hlast hlen).mono fun e w' ⟨b,he,h1,h2,hm⟩=>by
  refine ⟨?_,hm⟩
  cases b
  ·rw [he,decide_eq_false (by have:=h2 rfl;omega)]
  ·rw [he,decide_eq_true (h1 rfl)]
set_option maxRecDepth 100000 in
set_option maxHeartbeats 4000000 in
theorem lsh_any (g:Nat) (L:List Nat) (nd k:Nat) (dp:Int) (neg tr:Bool) (w:World) (h:DcAt w g L nd dp neg tr) (hD:Dg L nd) (h0:0<nd) (hk1:1≤k) (hk:k≤60) (hp1: -100000≤dp) (hp2:dp≤100000) (hc:LcAt w):
  Calls Tryz.prog 196 #[.pointer (some ⟨g,0,none⟩),.int .u64 (k:Int)] w (fun e w'=>∃V dl,V=nd+dl∧dl≤61∧10^(V-1)≤nmb L nd*2^k∧nmb L nd*2^k<10^V∧
   ShPost g neg tr (nmb L nd*2^k) V (dp+(dl:Int)) w e w'):=by
 have HF:=Lib.hid (chF hk1 hk)
 have H0:=Lib.hid h
 have c0:=h.cN
 have z0:=h.fz 800
 have z1:=h.fz 801
 have p0:=h.cP
 clear h
 obtain ⟨⟨gl,go,gs⟩,cl,l1,l2,l3,l4⟩:=hc
 simp only at l2 l3 l4
 subst l2
 obtain ⟨l5,l6⟩:=l4 k hk
 clear l4
 have hTb:(2:Nat)^k≤2^60:=Nat.pow_le_pow_right (by omega) hk
 have hTe:(2:Nat)^60=1152921504606846976:=by decide
 have hTp:=Nat.two_pow_pos k
 have hT:((2:Int)^k)=((2^k:Nat):Int):=by simp
 have hvof:=v_of (hD.pos nd h0 (Nat.le_refl _)) (hD.lt nd (Nat.le_refl _)) h0 HF.out rfl rfl
 have hdl:=HF.out.dl
 have hone:=HF.out.one
 have hlp:=HF.out.pos
 have hll:=HF.out.le
 have HPL:=Lib.hid (fun (W:World) (hW:DcAt W g L nd dp neg tr)=>plt_fun g L (chS k) nd _ 800 dp neg tr _ W hW hD (chStr k) HF.out.lo HF.out.hi (fun _=>HF.out.last) (by omega))
 rw [HF.out.num] at HPL
 have hsnum:=HF.out.num
 obtain ⟨T,hTd⟩:∃T,2^k=T:=⟨_,rfl⟩
 obtain ⟨len,hlen⟩:∃len,(chS k).length=len:=⟨_,rfl⟩
 obtain ⟨d,hd⟩:∃d,(cht k).1=d:=⟨_,rfl⟩
 obtain ⟨ss,hss⟩:∃ss:ByteArray,⟨(cht k).2.toArray⟩=ss:=⟨_,rfl⟩
 rw [hd] at l5 hdl hone hvof
 rw [hss] at l6 HPL
 rw [hlen] at hdl hlp hll hvof HPL
 clear hsnum
 simp only [hTd] at hTb hTp hT hvof ⊢
 have hT60:T≤1152921504606846976:=by omega
 have HV:=Lib.hid hvof
 have hk61:(k:Int)<61:=by omega
 have hnd8:=hD.le
 have hnd8i:(nd:Int)≤800:=by omega
 clear hTb hTe hvof hss hlen hd HF
 go_enter Tryz.func196,Tryz.ntmps196
 obtain ⟨b,hb⟩:∃b:Bool,decide (nmb L nd*10^len<5^k*10^nd)=b:=⟨_,rfl⟩
 rw [hb] at HPL
 have HB:=Lib.hid hb
 clear hb
 go_wp2_with fail
 go_quiet ((go_at_call 207;exact Calls.quiet_of (HPL.out _ (H0.out.as rfl))))
 go_upto_if 30 with (fail)
 go_cut [4] (fun u4 wc=>∃dl:Nat,u4= .int .i64 (dl:Int)∧dl≤61∧10^(nd+dl-1)≤nmb L nd*T∧nmb L nd*T<10^(nd+dl)∧∃m,wc=w.drewN m)
 case first=>
  cases b
  ·go_wp2_with fail
   go_meet
   case rel=>
    have:=HV.out.2 (by have:=of_decide_eq_false HB.out;omega)
    exact ⟨d,rfl,by omega,this.1,this.2,_,rfl⟩
  ·go_wp2_with fail
   go_meet
   case rel=>
    have:=HV.out.1 (of_decide_eq_true HB.out)
    exact ⟨d-1,by congr 1;omega,by omega,this.1,this.2,_,rfl⟩
 case rest=>
  obtain ⟨dl,rfl,hdl2,hV1,hV2,m,rfl⟩:=hcut
  clear l1 l3 l5 l6 hdl hone hlp hll HPL HV HB hk61
  obtain ⟨Z,hZ⟩:∃Z,nmb L nd*T=Z:=⟨_,rfl⟩
  rw [hZ] at hV1 hV2
  have HV1:=Lib.hid hV1
  have HV2:=Lib.hid hV2
  have HZ:=Lib.hid hZ
  clear hV1 hV2 hZ
  go_wp2_with fail
  go_loopw [5,6,7] (fun u5 u6 u7 wr=>∃i n:Nat,∃Lw:List Nat,∃tr2:Bool,u5= .int .i64 ((i:Int)-1)∧u6= .int .i64 ((i:Int)+(dl:Int))∧u7= .int .u64 (n:Int)∧i≤nd∧n<T∧Z/10^(nd-i)=nmb L i*T+n∧LI Z (nd+dl) tr Lw (nd-i) tr2∧(∀x,x<i→Lw.getD x 0=L.getD x 0)∧Hid (DcAt wr g Lw nd dp neg tr2)∧w.grownBy wr (some g)) (fun u5 _ _ _=>(intOf u5+1).toNat)
  case atStart=>exact ⟨nd,0,L,tr,rfl,rfl,rfl,Nat.le_refl _,hTp,by rw [Nat.sub_self,Nat.pow_zero,Nat.div_one,HZ.out];rfl,by rw [Nat.sub_self];exact LI.start _ _ _ _,fun _ _=>rfl,H0.out.as rfl,grown_dr (grown_refl w _) m⟩
  case round=>
   clear c0 p0 z0 z1
   obtain ⟨i,n,Lw,tr2,rfl,rfl,rfl,hi,hnT,hZe,hLI,hLw,HD,hg⟩:=hrel
   rcases i with _ | j
   ·obtain ⟨V,hV⟩:∃V,nd+dl=V:=⟨_,rfl⟩
    have hVi:(nd:Int)+(dl:Int)=(V:Int):=by omega
    obtain ⟨P,hP⟩:∃P,dp+(dl:Int)=P:=⟨_,rfl⟩
    rw [hV] at hLI HV1 HV2
    have HVE:=Lib.hid hV
    have hdV:dl≤V:=by omega
    rw [Nat.sub_zero] at hZe hLI
    have hZe':Z/10^nd=n:=by rw [hZe];simp [nmb]
    have hu:((0:Nat):Int)+(dl:Int)=(dl:Int):=by omega
    rw [hu]
    clear hV hZe hLw hi
    go_wp2_with fail
    go_loopw [6,7] (fun u6 u7 wx=>∃t n:Nat,∃Lw:List Nat,∃tr2:Bool,u6= .int .i64 ((V-t:Nat):Int)∧u7= .int .u64 (n:Int)∧nd≤t∧t≤V∧n<T∧Z/10^t=n∧LI Z V tr Lw t tr2∧Hid (DcAt wx g Lw nd dp neg tr2)∧w.grownBy wx (some g)) (fun _ u7 _=>(intOf u7).toNat)
    case atStart=>exact ⟨nd,n,Lw,tr2,by congr 1;have:=HVE.out;omega,rfl,Nat.le_refl _,by have:=HVE.out;omega,hnT,hZe',hLI,HD,hg⟩
    case round=>
     clear hLI HD hg hZe' hnT
     obtain ⟨t,n,Lw,tr2,rfl,rfl,ht1,ht2,hnT,hZe,hLI,HD,hg⟩:=hrel
     have c0:=HD.out.cN
     have p0:=HD.out.cP
     have z0:=HD.out.fz 800
     have z1:=HD.out.fz 801
     have d3:=HD.out.cT
     have z3:=HD.out.fz 803
     rcases Nat.eq_zero_or_pos n with rfl | hn0
     ·have htV:t=V:=by
       rcases Nat.lt_or_ge t V with h1 | h1
       ·have h2:=Nat.pow_le_pow_right (show 0<10 by omega) (show t≤V-1 by omega)
        have h3:=(Nat.le_div_iff_mul_le (show 0<10^t from Nat.pow_pos (by omega))).2 (show 1*10^t≤Z by have:=HV1.out;omega)
        omega
       ·omega
      subst htV
      have hvv:=HVE.out
      have hm80:0<min t 800:=by omega
      have hcell:∀q,q<min t 800→Lw.getD q 0=Z/10^(t-1-q) % 10+48:=fun q hq=>hLI.dig q (by omega) hq
      have hZd:Z/10^(t-1)=Z/10^(t-1) % 10:=by
       refine (Nat.mod_eq_of_lt (Nat.div_lt_of_lt_mul ?_)).symm
       rw [←Nat.pow_succ]
       show Z<10^(t-1+1)
       rw [Nat.sub_add_cancel (by omega)]
       exact HV2.out
      have hz1:=(Nat.le_div_iff_mul_le (show 0<10^(t-1) from Nat.pow_pos (by omega))).2 (show 1*10^(t-1)≤Z by have:=HV1.out;omega)
      have hne:Lw.getD 0 0≠48:=by
       have:=hcell 0 hm80
       rw [Nat.sub_zero,←hZd] at this
       omega
      have htop:=top_digits (m:=min t 800) (by omega) hcell HV2.out
      have htr:=hLI.tr
      rw [show t-max (t-t) 800=t-min t 800 by omega] at htr
      have htp:=trim_pos Lw hne (min t 800) hm80
      have htl:=trimN_le Lw (min t 800)
      have hfin:∀(W W':World) (e:Ending),w.grownBy W (some g)→TmPost g Lw (min t 800) P neg tr2 W e W'→∃V dl,V=nd+dl∧dl≤61∧10^(V-1)≤nmb L nd*T∧nmb L nd*T<10^V∧ShPost g neg tr (nmb L nd*T) V (dp+(dl:Int)) w e W':=fun W W' e hgW hPo=>by
       obtain ⟨rfl,hd2,hg2⟩:=hPo
       rw [if_neg (by omega)] at hd2
       refine ⟨t,dl,hvv.symm,hdl2,by rw [HZ.out];exact HV1.out,by rw [HZ.out];exact HV2.out,rfl,Lw,trimN Lw (min t 800),tr2,?_,⟨fun x hx=>?_,fun x hx=>?_,fun _=>hne,by omega⟩,htp,trim_last Lw _ htp,by omega,?_,?_,hgW.trans hg2⟩
       ·rw [hP];exact hd2
       ·rw [hcell x (by omega)];omega
       ·rw [hcell x (by omega)]
        have:=Nat.mod_lt (Z/10^(t-1-x)) (show 0<10 by omega)
        omega
       ·rw [trim_nmb,htop,HZ.out]
       ·rw [HZ.out];exact htr
      have HFI:=Lib.hid hfin
      clear hfin hcell hZd hz1 hne htop htr htp htl hLI hvv
      by_cases ht8:800≤t
      ·have hm8:min t 800=800:=by omega
       rw [hm8] at HFI
       have ht8i:(800:Int)≤(t:Int):=by omega
       have hs1:=((HD.out.setN t).setN 800).setP P
       have HT:=Lib.hid (trim_any g Lw 800 P neg tr2 _ hs1 (by omega))
       have hgw:=Lib.hid (grown_set (grown_set (grown_set hg 800 (.int .i64 (t:Int))) 800 (.int .i64 ((800:Nat):Int))) 801 (.int .i64 P))
       have hc8:((800:Nat):Int)=800:=rfl
       rw [hc8] at HT hgw
       clear hs1 hc8
       go_wp2_with fail
       refine HT.out.mono ?_
       intro e w2 hPo
       have hee:=hPo.1
       subst hee
       go_wp2_with fail
       refine bodyPost_end (results_none rfl _ _ _) rfl ?_
       exact HFI.out _ _ _ hgw.out hPo
      ·have hm8:min t 800=t:=by omega
       rw [hm8] at HFI
       have ht8i:¬((800:Int)≤(t:Int)):=by omega
       have hs1:=(HD.out.setN t).setP P
       have HT:=Lib.hid (trim_any g Lw t P neg tr2 _ hs1 (by omega))
       have hgw:=Lib.hid (grown_set (grown_set hg 800 (.int .i64 (t:Int))) 801 (.int .i64 P))
       clear hs1
       go_wp2_with fail
       refine HT.out.mono ?_
       intro e w2 hPo
       have hee:=hPo.1
       subst hee
       go_wp2_with fail
       refine bodyPost_end (results_none rfl _ _ _) rfl ?_
       exact HFI.out _ _ _ hgw.out hPo
     ·have htV:t<V:=by
       rcases Nat.lt_or_ge t V with h1 | h1
       ·exact h1
       ·have h2:=Nat.pow_le_pow_right (show 0<10 by omega) h1
        rw [Nat.div_eq_of_lt (by have:=HV2.out;omega)] at hZe
        omega
      obtain ⟨p,hp⟩:∃p,V-1-t=p:=⟨_,rfl⟩
      have hpi:V-t=p+1:=by omega
      have hpi2:((p+1:Nat):Int)=(p:Int)+1:=by simp
      rw [hpi,hpi2]
      obtain ⟨qn,hqn⟩:∃qn,n/10=qn:=⟨_,rfl⟩
      obtain ⟨rm,hrm⟩:∃rm,n % 10=rm:=⟨_,rfl⟩
      have hqi:(n:Int)/10=(qn:Int):=by omega
      have hri:(n:Int)-10*(qn:Int)=(rm:Int):=by omega
      have hrm9:rm≤9:=by omega
      have hqT:qn<T:=by omega
      have hZd:Z/10^t % 10=rm:=by rw [hZe];exact hrm
      have hZq:Z/10^(t+1)=qn:=by
       rw [Nat.pow_succ,←Nat.div_div_eq_div_mul,hZe]
       exact hqn
      have hn0i:(0:Int)<(n:Int):=by omega
      have hqn2:qn<n:=by omega
      have HVT:=Lib.hid (show V-(t+1)=p by omega)
      have HZQ:=Lib.hid hZq
      have HQN:=Lib.hid hqn2
      by_cases hv:p<800
      ·have hLn:=hLI.low htV (by omega) HD.out.len
       have hsd:=HD.out.setD (i:=p) (c:=rm+48) hv (by omega)
       have zv:=HD.out.fz p
       have dv:=HD.out.cD (i:=p) hv
       have hv8:(p:Int)<800:=by omega
       rw [hp,hZd] at hLn
       rw [show ((rm+48:Nat):Int)=(rm:Int)+48 by simp] at hsd
       have HL:=Lib.hid hLn
       have HS:=Lib.hid hsd
       clear hLn hsd hLI hZe hZd hqn hrm hp hpi hpi2 c0 p0 d3 hZq hqn2
       go_wp2_with fail
       refine ⟨⟨t+1,qn,Lw.set p (rm+48),tr2,by rw [HVT.out],rfl,by omega,htV,hqT,HZQ.out,HL.out,HS,grown_set hg _ _⟩,by have:=HQN.out;simp [intOf];omega⟩
      ·have hLn:=hLI.high htV (by omega)
       have hv8:¬((p:Int)<800):=by omega
       have hpu:(p:Int)≤900:=by have:=HVE.out;omega
       rw [hZd] at hLn
       have HL:=Lib.hid hLn
       clear hLn hLI hZe hZd hqn hrm hp hpi hpi2 p0 hZq hqn2
       rcases Nat.eq_zero_or_pos rm with rfl | hr0
       ·go_wp2_with fail
        refine ⟨⟨t+1,qn,Lw,tr2,by rw [HVT.out],rfl,by omega,htV,hqT,HZQ.out,by simpa using HL.out,HD,hg⟩,by have:=HQN.out;simp [intOf];omega⟩
       ·have hr0i:((rm:Int) !=0)=true:=by simp;omega
        have hr0j:(rm:Int)≠0:=by omega
        have hsT:=Lib.hid (HD.out.setT true)
        go_wp2_with fail
        refine ⟨⟨t+1,qn,Lw,true,by rw [HVT.out],rfl,by omega,htV,hqT,HZQ.out,by have:=HL.out;rwa [show (tr2||(rm !=0))=true by simp;omega] at this,hsT,grown_set hg _ _⟩,by have:=HQN.out;simp [intOf];omega⟩
   ·have d0:=HD.out.cD (i:=j) (by omega)
    rw [hLw j (by omega)] at d0
    have d3:=HD.out.cT
    have z3:=HD.out.fz 803
    have dlo:=hD.lo j (by omega)
    have dhi:=hD.hi j (by omega)
    have hj0:(0:Int)≤(j:Int):=by omega
    have hj8:(j:Int)<800:=by omega
    have hji:((j+1:Nat):Int)=(j:Int)+1:=by simp
    have hdd:nmb L (j+1)=nmb L j*10+(L.getD j 0-48):=rfl
    obtain ⟨c,hc⟩:∃c,L.getD j 0=c:=⟨_,rfl⟩
    rw [hc] at d0 dlo dhi hdd
    obtain ⟨e,rfl⟩:∃e,c=e+48:=⟨c-48,by omega⟩
    rw [Nat.add_sub_cancel] at hdd
    obtain ⟨pr,hpr⟩:∃pr,e*T=pr:=⟨_,rfl⟩
    have hpr9:pr≤9*T:=by rw [←hpr];exact Nat.mul_le_mul_right _ (by omega)
    have hpri:(e:Int)*(T:Int)=(pr:Int):=by rw [←hpr];simp
    have hpri2:((e:Int)+48-48)*(T:Int)=(pr:Int):=by rw [Int.add_sub_cancel];exact hpri
    have d0':wr.cell? ⟨g,j,none⟩=some (.int .u8 ((e:Int)+48)):=by rw [d0];simp
    rw [hji]
    have hj1:(j:Int)+1-1=(j:Int):=by omega
    rw [hj1]
    clear d0
    obtain ⟨p,hp⟩:∃p,j+dl=p:=⟨_,rfl⟩
    have hpi:(j:Int)+1+(dl:Int)=(p:Int)+1:=by omega
    rw [hpi]
    obtain ⟨qn,hqn⟩:∃qn,(n+pr)/10=qn:=⟨_,rfl⟩
    obtain ⟨rm,hrm⟩:∃rm,(n+pr) % 10=rm:=⟨_,rfl⟩
    have hqi:((n:Int)+(pr:Int))/10=(qn:Int):=by omega
    have hri:(n:Int)+(pr:Int)-10*(qn:Int)=(rm:Int):=by omega
    have hrm9:rm≤9:=by omega
    have hqT:qn<T:=by omega
    have hZn:Z/10^(nd-(j+1))=10*(nmb L j*T)+(n+pr):=by
     rw [hZe,hdd,Nat.add_mul,hpr,Nat.mul_right_comm];omega
    have hZd:Z/10^(nd-(j+1)) % 10=rm:=by rw [hZn];omega
    have hZq:Z/10^(nd-j)=nmb L j*T+qn:=by
     rw [show nd-j=(nd-(j+1))+1 by omega,Nat.pow_succ,←Nat.div_div_eq_div_mul,hZn]
     omega
    have hnj:nd-(j+1)+1=nd-j:=by omega
    have hpos:nd+dl-1-(nd-(j+1))=p:=by omega
    have HZQ:=Lib.hid hZq
    by_cases hv:p<800
    ·have hLn:=hLI.low (by omega) (by omega) HD.out.len
     have hsd:=HD.out.setD (i:=p) (c:=rm+48) hv (by omega)
     have zv:=HD.out.fz p
     have dv:=HD.out.cD (i:=p) hv
     have hv8:(p:Int)<800:=by omega
     rw [hpos,hZd,hnj] at hLn
     rw [show ((rm+48:Nat):Int)=(rm:Int)+48 by simp] at hsd
     have HL:=Lib.hid hLn
     have HS:=Lib.hid hsd
     have HP:=Lib.hid hp
     clear hLn hsd hLI hZe hZn hZd hZq hnj hpos hc hdd hpr hqn hrm hp hji
     go_wp2_with fail
     refine ⟨⟨j,qn,Lw.set p (rm+48),tr2,rfl,by have:=HP.out;congr 1;omega,by rw [hqi],by omega,hqT,HZQ.out,HL.out,fun x hx=>by have:=HP.out;rw [getD_set_ne (by omega)];exact hLw x (by omega),HS,grown_set hg _ _⟩,by simp [intOf]⟩
    ·have hLn:=hLI.high (by omega) (by omega)
     have hv8:¬((p:Int)<800):=by omega
     rw [hZd,hnj] at hLn
     have HL:=Lib.hid hLn
     have HP:=Lib.hid hp
     clear hLn hLI hZe hZn hZd hZq hnj hpos hc hdd hpr hqn hrm hp hji
     rcases Nat.eq_zero_or_pos rm with rfl | hr0
     ·go_wp2_with fail
      refine ⟨⟨j,qn,Lw,tr2,rfl,by have:=HP.out;congr 1;omega,by rw [hqi],by omega,hqT,HZQ.out,by simpa using HL.out,fun x hx=>hLw x (by omega),HD,hg⟩,by simp [intOf]⟩
     ·have hr0i:((rm:Int) !=0)=true:=by simp;omega
      have hr0j:(rm:Int)≠0:=by omega
      have hsT:=Lib.hid (HD.out.setT true)
      go_wp2_with fail
      refine ⟨⟨j,qn,Lw,true,rfl,by have:=HP.out;congr 1;omega,by rw [hqi],by omega,hqT,HZQ.out,by have:=HL.out;rwa [show (tr2||(rm !=0))=true by simp;omega] at this,fun x hx=>hLw x (by omega),hsT,grown_set hg _ _⟩,by simp [intOf]⟩
end Go.Proofs.YtjhhdnnblcbdbaaGreatDoor.dcm
end
