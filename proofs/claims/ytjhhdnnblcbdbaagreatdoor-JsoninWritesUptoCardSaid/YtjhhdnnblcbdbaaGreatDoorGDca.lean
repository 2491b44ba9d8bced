/- The library's decimal, plain: what a chain of shifts, each cut to 800 digits, keeps of the number. The library's decimal: Shift, and what it keeps of the number. The library's decimal: Shift, walked. -/
import Derived.Test.YtjhhdnnblcbdbaaGreatDoorGDcp
import Derived.Test.YtjhhdnnblcbdbaaGreatDoorGNear
section
namespace Go.Proofs.YtjhhdnnblcbdbaaGreatDoor.dcm
open Go.RowKit mem fl big us
set_option linter.unusedVariables false
theorem pow_fact (k z:Nat) (hk:800≤k) (hz:z=300):2^55*5^(k+z)<10^k:=by
 have h1:(5:Nat)^100<2^233:=by decide+kernel
 obtain ⟨u,hu⟩:∃u:Nat,u=100:=⟨_,rfl⟩
 obtain ⟨y,hy⟩:∃y:Nat,y=233:=⟨_,rfl⟩
 rw [←hu,←hy] at h1
 have hz:z=u*3:=by omega
 obtain ⟨F,hF⟩:∃F,(5:Nat)^u=F:=⟨_,rfl⟩
 have h2:F^3≤(2^y)^3:=Nat.pow_le_pow_left (by rw [←hF];exact Nat.le_of_lt h1) 3
 rw [←Nat.pow_mul] at h2
 have e1:(10:Nat)^k=2^k*5^k:=by rw [←Nat.mul_pow]
 have e2:(5:Nat)^(k+z)=F^3*5^k:=by rw [Nat.pow_add,Nat.mul_comm,hz,Nat.pow_mul,hF]
 rw [e1,e2,←Nat.mul_assoc]
 refine (Nat.mul_lt_mul_right (Nat.pow_pos (by omega))).2 ?_
 refine Nat.lt_of_le_of_lt (Nat.mul_le_mul_left _ h2) ?_
 rw [←Nat.pow_add]
 exact Nat.pow_lt_pow_right (by omega) (by omega)
theorem few_digits {c S U q k z:Nat} (hz:z=300) (hk:800≤k) (hU:U≤S) (hq:q≤k+z) (hc:c<2^55) (h:10^(k-1+U)*2^q≤c*10^S):U+q≤S:=by
 rcases Nat.lt_or_ge S (U+q) with h1 | h1
 ·exfalso
  have h2:10^(k-1+U)*2^q*10^q≤c*10^S*10^q:=Nat.mul_le_mul_right _ h
  have e1:10^(k-1+U)*2^q*10^q=10^(k-1+U+q)*2^q:=by rw [Nat.mul_right_comm,←Nat.pow_add]
  have h3:10^(k+S)*2^q≤10^(k-1+U+q)*2^q:=Nat.mul_le_mul_right _ (Nat.pow_le_pow_right (by omega) (by omega))
  have e2:c*10^S*10^q=c*5^q*10^S*2^q:=by
   rw [show (10:Nat)^q=5^q*2^q by rw [←Nat.mul_pow]]
   ac_rfl
  rw [e1,e2] at h2
  have h4:=Nat.le_of_mul_le_mul_right (Nat.le_trans h3 h2) (Nat.two_pow_pos q)
  rw [Nat.pow_add] at h4
  have h5:=Nat.le_of_mul_le_mul_right h4 (Nat.pow_pos (show 0<10 by omega))
  have h6:5^q≤5^(k+z):=Nat.pow_le_pow_right (by omega) hq
  have h7:c*5^q≤2^55*5^(k+z):=Nat.mul_le_mul (Nat.le_of_lt hc) h6
  have h8:=pow_fact k z hk hz
  generalize 10^k=T at*
  generalize 2^55*5^(k+z)=T2 at*
  generalize c*5^q=T3 at*
  omega
 ·exact h1
theorem flo {Q V j E S A M c k z:Nat} (hz:z=300) (hk:800≤k) (hV:V=k+j) (h1:10^(V-1)≤Q) (hU:j+E≤S) (hM:M≤k+z+A) (hc:c<2^55) (h:c*2^A*10^S≤Q*10^E*2^M):
  c*2^A*10^S≤Q/10^j*10^(j+E)*2^M:=by
 subst hV
 rcases Nat.lt_or_ge (Q/10^j*10^(j+E)*2^M) (c*2^A*10^S) with hlt | hge
 ·exfalso
  have hj:0<10^j:=Nat.pow_pos (by omega)
  have hq1:10^(k-1)≤Q/10^j:=by
   refine (Nat.le_div_iff_mul_le hj).2 ?_
   rw [←Nat.pow_add]
   exact Nat.le_trans (Nat.pow_le_pow_right (by omega) (by omega)) h1
  obtain ⟨q,hq⟩:∃q,Q/10^j=q:=⟨_,rfl⟩
  have hup:Q<(q+1)*10^j:=by
   have:=Nat.lt_mul_div_succ Q hj
   rw [hq,Nat.mul_comm] at this
   exact this
  rw [hq] at hlt hq1
  have hup2:Q*10^E*2^M<(q+1)*(10^(j+E)*2^M):=by
   have:=(Nat.mul_lt_mul_right (show 0<10^E*2^M from Nat.mul_pos (Nat.pow_pos (by omega)) (Nat.two_pow_pos M))).2 hup
   have e:(q+1)*10^j*(10^E*2^M)=(q+1)*(10^(j+E)*2^M):=by rw [Nat.pow_add];ac_rfl
   rw [e,←Nat.mul_assoc] at this
   exact this
  have hdvd:∃z,c*2^A*10^S=z*(10^(j+E)*2^M):=by
   rcases Nat.lt_or_ge A M with hAM | hAM
   ·obtain ⟨p,rfl⟩:∃p,M=A+p:=⟨M-A,by omega⟩
    have h3:10^(k-1+(j+E))*2^p≤c*10^S:=by
     have h4:10^(k-1)*10^(j+E)*2^(A+p)≤c*2^A*10^S:=
      Nat.le_trans (Nat.mul_le_mul_right _ (Nat.mul_le_mul_right _ hq1)) (Nat.le_of_lt hlt)
     refine Nat.le_of_mul_le_mul_right (c:=2^A) ?_ (Nat.two_pow_pos A)
     rw [Nat.pow_add 10 (k-1)]
     rw [Nat.pow_add 2 A] at h4
     have e1:10^(k-1)*10^(j+E)*(2^A*2^p)=10^(k-1)*10^(j+E)*2^p*2^A:=by
      generalize 10^(k-1)=z
      ac_rfl
     have e2:c*2^A*10^S=c*10^S*2^A:=by ac_rfl
     rw [e1,e2] at h4
     exact h4
    have h5:=few_digits hz hk hU (by omega) hc h3
    refine ⟨c*5^S/5^(j+E)*2^(S-(j+E)-p),?_⟩
    have e5:5^S=5^(S-(j+E))*5^(j+E):=by rw [←Nat.pow_add];congr 1;omega
    have e6:c*5^S/5^(j+E)=c*5^(S-(j+E)):=by
     rw [e5,←Nat.mul_assoc,Nat.mul_div_cancel _ (Nat.pow_pos (by omega))]
    rw [e6,show (10:Nat)^S=2^S*5^S by rw [←Nat.mul_pow],e5,show (10:Nat)^(j+E)=2^(j+E)*5^(j+E) by rw [←Nat.mul_pow]]
    have e7:2^A*2^S=2^(S-(j+E)-p)*2^(j+E)*2^(A+p):=by
     rw [←Nat.pow_add,←Nat.pow_add,←Nat.pow_add];congr 1;omega
    have e8:c*2^A*(2^S*(5^(S-(j+E))*5^(j+E)))=c*(2^A*2^S)*(5^(S-(j+E))*5^(j+E)):=by ac_rfl
    rw [e8,e7]
    ac_rfl
   ·refine ⟨c*2^(A-M)*10^(S-(j+E)),?_⟩
    have e1:2^A=2^(A-M)*2^M:=by rw [←Nat.pow_add];congr 1;omega
    have e2:10^S=10^(S-(j+E))*10^(j+E):=by rw [←Nat.pow_add];congr 1;omega
    rw [e1,e2]
    ac_rfl
  obtain ⟨z,hz⟩:=hdvd
  have hD:0<10^(j+E)*2^M:=Nat.mul_pos (Nat.pow_pos (by omega)) (Nat.two_pow_pos M)
  rw [hz,Nat.mul_assoc] at hlt
  rw [hz] at h
  have a1:=Nat.lt_of_mul_lt_mul_right hlt
  have a2:=Nat.lt_of_mul_lt_mul_right (Nat.lt_of_le_of_lt h hup2)
  omega
 ·exact hge
def vl (S:Nat) (L:List Nat) (nd:Nat) (dp:Int):Nat:=nmb L nd*10^((S:Int)+dp-nd).toNat
structure Ap (X B S:Nat) (L:List Nat) (nd:Nat) (dp:Int) (tr:Bool) (a b:Nat):Prop where
 nat:(nd:Int)≤(S:Int)+dp
 le:vl S L nd dp*2^b≤X*2^a
 ex:tr=false→vl S L nd dp*2^b=X*2^a
 gt:tr=true→vl S L nd dp*2^b<X*2^a
 cl:∀c p,c<2^55→c*2^p*10^S≤X*2^B→c*2^(p+a)*10^S≤vl S L nd dp*2^(B+b)
theorem Ap.cut {X B S a b Q V E nd':Nat} {L':List Nat} {dpv:Int} {tr0 tr':Bool}
  (hE:(E:Int)+V=(S:Int)+dpv) (hdp:dpv≤800) (hB:B+b≤1100+a) (hQ:10^(V-1)≤Q)
  (hn:nd'≤min V 800) (hnum:nmb L' nd'*10^(min V 800-nd')=Q/10^(V-min V 800)) (htr:tr'=(tr0||(Q % 10^(V-min V 800) !=0)))
  (hle:Q*10^E*2^b≤X*2^a) (hex:tr0=false→Q*10^E*2^b=X*2^a) (hgt:tr0=true→Q*10^E*2^b<X*2^a)
  (hcl:∀c p,c<2^55→c*2^p*10^S≤X*2^B→c*2^(p+a)*10^S≤Q*10^E*2^(B+b)):
  Ap X B S L' nd' dpv tr' a b∧vl S L' nd' dpv=Q/10^(V-min V 800)*10^(V-min V 800+E):=by
 have hnat:(nd':Int)≤(S:Int)+dpv:=by omega
 obtain ⟨j,hj⟩:∃j,V-min V 800=j:=⟨_,rfl⟩
 obtain ⟨m,hm⟩:∃m,min V 800=m:=⟨_,rfl⟩
 rw [hj] at hnum htr
 rw [hm] at hnum hn
 have hvl:vl S L' nd' dpv=Q/10^j*10^(j+E):=by
  unfold vl
  rw [←hnum,Nat.mul_assoc,←Nat.pow_add]
  congr 2
  omega
 refine ⟨?_,by rw [hj];exact hvl⟩
 have hjp:0<10^j:=Nat.pow_pos (by omega)
 have hdm:=Nat.div_add_mod Q (10^j)
 have hvle:Q/10^j*10^(j+E)≤Q*10^E:=by
  rw [Nat.pow_add,←Nat.mul_assoc]
  exact Nat.mul_le_mul_right _ (Nat.div_mul_le_self _ _)
 have hpE:0<10^E:=Nat.pow_pos (by omega)
 have hpb:0<2^b:=Nat.two_pow_pos b
 constructor
 ·exact hnat
 ·rw [hvl]
  exact Nat.le_trans (Nat.mul_le_mul_right _ hvle) hle
 ·intro ht
  rw [ht] at htr
  have ht2:tr0=false∧Q % 10^j=0:=by
   cases tr0
   ·exact ⟨rfl,by simpa using htr⟩
   ·simp at htr
  rw [hvl,←hex ht2.1]
  congr 1
  rw [Nat.pow_add,←Nat.mul_assoc]
  congr 1
  rw [ht2.2,Nat.mul_comm] at hdm
  omega
 ·intro ht
  rw [hvl]
  cases h0:tr0
  ·rw [h0,ht] at htr
   have hr:Q % 10^j≠0:=by simpa using htr
   rw [←hex h0]
   refine (Nat.mul_lt_mul_right hpb).2 ?_
   rw [Nat.pow_add,←Nat.mul_assoc]
   refine (Nat.mul_lt_mul_right hpE).2 ?_
   rw [Nat.mul_comm]
   omega
  ·exact Nat.lt_of_le_of_lt (Nat.mul_le_mul_right _ hvle) (hgt h0)
 ·intro c p hc h
  have h2:=hcl c p hc h
  rw [hvl]
  rcases Nat.eq_zero_or_pos j with hj0 | hj0
  ·rw [hj0,Nat.pow_zero,Nat.div_one,Nat.zero_add]
   exact h2
  ·exact flo (k:=800) (z:=300) (V:=V) (by omega) (by omega) (by omega) hQ (by omega) (by omega) hc h2
end Go.Proofs.YtjhhdnnblcbdbaaGreatDoor.dcm
end
section
namespace Go.Proofs.YtjhhdnnblcbdbaaGreatDoor.dcm
open Go.RowKit mem fl big us
set_option linter.unusedVariables false
structure Dst (W:World) (g:Nat) (neg:Bool) (X B S:Nat) (L:List Nat) (nd:Nat) (dp:Int) (tr:Bool) (a b:Nat):Prop where
 at_:DcAt W g L nd dp neg tr
 dg:Dg L nd
 pos:0<nd
 ap:Ap X B S L nd dp tr a b
theorem pow_lt_of {e k:Nat} (h:10^e<2^k):e<k:=by
 rcases Nat.lt_or_ge e k with h1 | h1
 ·exact h1
 ·have h2:2^k≤2^e:=Nat.pow_le_pow_right (by omega) h1
  have h3:2^e≤10^e:=Nat.pow_le_pow_left (by omega) e
  omega
theorem lsh_ap (g:Nat) (L:List Nat) (nd k X B S a b:Nat) (dp:Int) (neg tr:Bool) (w:World) (h:Dst w g neg X B S L nd dp tr a b) (hk1:1≤k) (hk:k≤60) (hp1: -2000≤dp) (hp2:dp≤700) (hc:LcAt w) (hB:B+b≤1100+(a+k)):
  Calls Tryz.prog 196 #[.pointer (some ⟨g,0,none⟩),.int .u64 (k:Int)] w (fun e w'=>e= .returned (.tuple #[])∧∃L' nd' dp' tr',Dst w' g neg X B S L' nd' dp' tr' (a+k) b∧L'.getD (nd'-1) 0≠48∧dp≤dp'∧dp'≤dp+k∧vl S L nd dp<vl S L' nd' dp'∧vl S L' nd' dp'≤vl S L nd dp*2^k∧w.grownBy w' (some g)):=by
 refine (lsh_any g L nd k dp neg tr w h.at_ h.dg h.pos hk1 hk (by omega) (by omega) hc).mono ?_
 rintro e w' ⟨V,dl,hV,hdl,hQ1,hQ2,he,L',nd',tr',hat,hdg,hnd0,hlast,hndv,hnum,htr,hg⟩
 have hA:=h.ap
 have hnat:=hA.nat
 have hpos:=h.pos
 have hle8:=h.dg.le
 have hdlk:dl≤k:=by
  rcases Nat.eq_zero_or_pos dl with h0 | h0
  ·omega
  ·have h1:=h.dg.lt nd (Nat.le_refl _)
   have h2:nmb L nd*2^k<10^nd*2^k:=(Nat.mul_lt_mul_right (Nat.two_pow_pos k)).2 h1
   have h3:10^(V-1)=10^nd*10^(dl-1):=by rw [←Nat.pow_add];congr 1;omega
   rw [h3] at hQ1
   have h4:=Nat.lt_of_mul_lt_mul_left (Nat.lt_of_le_of_lt hQ1 h2)
   have:=pow_lt_of h4
   omega
 obtain ⟨E,hE⟩:∃E:Nat,(E:Int)=(S:Int)+dp-nd:=⟨((S:Int)+dp-nd).toNat,by omega⟩
 have hEn:((S:Int)+dp-nd).toNat=E:=by omega
 have hY:nmb L nd*2^k*10^E=vl S L nd dp*2^k:=by unfold vl;rw [hEn,Nat.mul_right_comm]
 have hc2:=Ap.cut (X:=X) (B:=B) (S:=S) (a:=a+k) (b:=b) (Q:=nmb L nd*2^k) (V:=V) (E:=E) (nd':=nd') (L':=L') (dpv:=dp+(dl:Int)) (tr0:=tr) (tr':=tr')
  (by omega) (by omega) hB hQ1 (by have:=hdg.le;omega) hnum htr
  (by rw [hY,Nat.pow_add,Nat.mul_right_comm,←Nat.mul_assoc];exact Nat.mul_le_mul_right _ hA.le)
  (by intro ht;rw [hY,Nat.pow_add,Nat.mul_right_comm,←Nat.mul_assoc,hA.ex ht])
  (by intro ht;rw [hY,Nat.pow_add,Nat.mul_right_comm,←Nat.mul_assoc];exact (Nat.mul_lt_mul_right (Nat.two_pow_pos k)).2 (hA.gt ht))
  (by
   intro c p hc3 h3
   have h4:=Nat.mul_le_mul_right (2^k) (hA.cl c p hc3 h3)
   rw [hY,show p+(a+k)=(p+a)+k by omega,Nat.pow_add 2 (p+a)]
   have e1:c*(2^(p+a)*2^k)*10^S=c*2^(p+a)*10^S*2^k:=by ac_rfl
   rw [e1,Nat.mul_right_comm (vl S L nd dp)]
   exact h4)
 obtain ⟨hAp,hvl⟩:=hc2
 have hvp:0<vl S L nd dp:=by
  unfold vl
  refine Nat.mul_pos ?_ (Nat.pow_pos (by omega))
  have:=h.dg.pos nd h.pos (Nat.le_refl _)
  exact Nat.lt_of_lt_of_le (Nat.pow_pos (by omega)) this
 have hQp:0<10^(V-1):=Nat.pow_pos (by omega)
 have hgrow:vl S L nd dp<vl S L' nd' (dp+(dl:Int))∧vl S L' nd' (dp+(dl:Int))≤vl S L nd dp*2^k:=by
  rw [hvl]
  obtain ⟨j,hj⟩:∃j,V-min V 800=j:=⟨_,rfl⟩
  rw [hj]
  have hjp:0<10^j:=Nat.pow_pos (by omega)
  have hjV:10^j≤nmb L nd*2^k:=Nat.le_trans (Nat.pow_le_pow_right (by omega) (by omega)) hQ1
  have hk2:2≤2^k:=by
   have:=Nat.pow_le_pow_right (show 0<2 by omega) hk1
   omega
  have hdm:=Nat.div_add_mod (nmb L nd*2^k) (10^j)
  have hml:=Nat.mod_lt (nmb L nd*2^k) hjp
  have hq1:10^j≤10^j*(nmb L nd*2^k/10^j):=Nat.le_mul_of_pos_right _ ((Nat.le_div_iff_mul_le hjp).2 (by omega))
  have hEp:0<10^E:=Nat.pow_pos (by omega)
  rw [Nat.pow_add 10 j E,←Nat.mul_assoc,Nat.mul_comm _ (10^j),←hY]
  constructor
  ·unfold vl
   rw [hEn]
   refine (Nat.mul_lt_mul_right hEp).2 ?_
   rcases Nat.eq_zero_or_pos j with hj0 | hj0
   ·rw [hj0,Nat.pow_zero,Nat.div_one,Nat.one_mul]
    have:=h.dg.pos nd h.pos (Nat.le_refl _)
    have h1:0<nmb L nd:=Nat.lt_of_lt_of_le (Nat.pow_pos (by omega)) this
    have h2:=Nat.mul_le_mul_left (nmb L nd) hk2
    omega
   ·have h10:10^j*10≤nmb L nd*2^k:=by
     rw [←Nat.pow_succ]
     exact Nat.le_trans (Nat.pow_le_pow_right (by omega) (by omega)) hQ1
    have h2:=Nat.mul_le_mul_left (nmb L nd) hk2
    have h1:0<nmb L nd:=Nat.lt_of_lt_of_le (Nat.pow_pos (by omega)) (h.dg.pos nd h.pos (Nat.le_refl _))
    omega
  ·exact Nat.mul_le_mul_right _ (Nat.mul_div_le _ _)
 exact ⟨he,L',nd',dp+(dl:Int),tr',⟨hat,hdg,hnd0,hAp⟩,hlast,by omega,by omega,hgrow.1,hgrow.2,hg⟩
theorem rsh_ap (g:Nat) (L:List Nat) (nd k X B S a b:Nat) (dp:Int) (neg tr:Bool) (w:World) (h:Dst w g neg X B S L nd dp tr a b) (hk1:1≤k) (hk:k≤60) (hp1: -2000≤dp) (hp2:dp≤700) (hS:4000≤S) (hB:B+(b+k)≤1100+a):
  Calls Tryz.prog 197 #[.pointer (some ⟨g,0,none⟩),.int .u64 (k:Int)] w (fun e w'=>e= .returned (.tuple #[])∧∃L' nd' dp' tr',Dst w' g neg X B S L' nd' dp' tr' a (b+k)∧L'.getD (nd'-1) 0≠48∧dp-k≤dp'∧dp'≤dp∧vl S L' nd' dp'*2^k≤vl S L nd dp∧w.grownBy w' (some g)):=by
 refine (rsh_any g L nd k dp neg tr w h.at_ h.dg h.pos hk1 hk (by omega) (by omega)).mono ?_
 rintro e w' ⟨r,V,Q,hr1,hr2,hnv,hnv2,hpre,hV0,hQ1,hQ2,he,L',nd',tr',hat,hdg,hnd0,hlast,hndv,hnum,htr,hg⟩
 have hA:=h.ap
 have hnat:=hA.nat
 have hpos:=h.pos
 have hle8:=h.dg.le
 have hT1:1<2^k:=by
  have:=Nat.pow_le_pow_right (show 0<2 by omega) hk1
  omega
 have hr0:0<r:=by
  rcases Nat.eq_zero_or_pos r with h0 | h0
  ·subst h0
   rw [pre_le (Nat.zero_le _)] at hr1
   simp [nmb] at hr1
  ·exact h0
 have hrk:r≤k+1:=by
  rcases Nat.lt_or_ge r 2 with h0 | h0
  ·omega
  ·have h1:=hr2 (r-1) (by omega)
   have h2:10^(r-1-1)≤pre L nd (r-1):=by
    rcases Nat.lt_or_ge nd (r-1) with h3 | h3
    ·rw [pre_ge (by omega)]
     have h4:=h.dg.pos nd hpos (Nat.le_refl _)
     rw [show r-1-1=(nd-1)+(r-1-nd) by omega,Nat.pow_add]
     exact Nat.mul_le_mul_right _ h4
    ·rw [pre_le h3]
     exact h.dg.pos (r-1) (by omega) h3
   have:=pow_lt_of (Nat.lt_of_le_of_lt h2 h1)
   omega
 obtain ⟨E,hE⟩:∃E:Nat,(E:Int)=(S:Int)+(dp-(r:Int)+1)-V:=⟨((S:Int)+(dp-(r:Int)+1)-V).toNat,by omega⟩
 have hY:Q*10^E*2^k=vl S L nd dp:=by
  unfold vl
  obtain ⟨E2,hE2⟩:∃E2:Nat,((S:Int)+dp-nd).toNat=E2:=⟨_,rfl⟩
  rw [hE2]
  rw [pre_ge hnv] at hpre
  have e1:E2=(V+r-nd)+(E-1):=by omega
  have e2:E=(E-1)+1:=by omega
  rw [e1,Nat.pow_add,←Nat.mul_assoc,hpre,e2,Nat.pow_succ,Nat.add_sub_cancel]
  ac_rfl
 have hc2:=Ap.cut (X:=X) (B:=B) (S:=S) (a:=a) (b:=b+k) (Q:=Q) (V:=V) (E:=E) (nd':=nd') (L':=L') (dpv:=dp-(r:Int)+1) (tr0:=tr) (tr':=tr')
  (by omega) (by omega) hB hQ1 (by have:=hdg.le;omega) hnum htr
  (by rw [Nat.add_comm b k,Nat.pow_add,←Nat.mul_assoc,hY];exact hA.le)
  (by intro ht;rw [Nat.add_comm b k,Nat.pow_add,←Nat.mul_assoc,hY];exact hA.ex ht)
  (by intro ht;rw [Nat.add_comm b k,Nat.pow_add,←Nat.mul_assoc,hY];exact hA.gt ht)
  (by
   intro c p hc3 h3
   rw [show B+(b+k)=k+(B+b) by omega,Nat.pow_add 2 k,←Nat.mul_assoc,hY]
   exact hA.cl c p hc3 h3)
 obtain ⟨hAp,hvl⟩:=hc2
 refine ⟨he,L',nd',dp-(r:Int)+1,tr',⟨hat,hdg,hnd0,hAp⟩,hlast,by omega,by omega,?_,hg⟩
 rw [hvl,←hY]
 refine Nat.mul_le_mul_right _ ?_
 rw [Nat.pow_add,←Nat.mul_assoc]
 exact Nat.mul_le_mul_right _ (Nat.div_mul_le_self _ _)
end Go.Proofs.YtjhhdnnblcbdbaaGreatDoor.dcm
end
section
namespace Go.Proofs.YtjhhdnnblcbdbaaGreatDoor.dcm
open Go.RowKit mem fl big us
set_option linter.unusedVariables false
def LPost (g:Nat) (neg:Bool) (X B S:Nat) (L:List Nat) (nd:Nat) (dp:Int) (a b k:Nat) (w:World) (e:Ending) (w':World):Prop:=
 e= .returned (.tuple #[])∧∃L' nd' dp' tr',Dst w' g neg X B S L' nd' dp' tr' (a+k) b∧L'.getD (nd'-1) 0≠48∧dp≤dp'∧dp'≤dp+k∧vl S L nd dp<vl S L' nd' dp'∧vl S L' nd' dp'≤vl S L nd dp*2^k∧w.grownBy w' (some g)
def RPost (g:Nat) (neg:Bool) (X B S:Nat) (L:List Nat) (nd:Nat) (dp:Int) (a b k:Nat) (w:World) (e:Ending) (w':World):Prop:=
 e= .returned (.tuple #[])∧∃L' nd' dp' tr',Dst w' g neg X B S L' nd' dp' tr' a (b+k)∧L'.getD (nd'-1) 0≠48∧dp-k≤dp'∧dp'≤dp∧vl S L' nd' dp'*2^k≤vl S L nd dp∧w.grownBy w' (some g)
set_option maxRecDepth 100000 in
set_option maxHeartbeats 4000000 in
theorem shl_any (g:Nat) (L:List Nat) (nd k X B S a b:Nat) (dp:Int) (neg tr:Bool) (w:World) (h:Dst w g neg X B S L nd dp tr a b) (hk1:1≤k) (hk:k≤60) (hp1: -2000≤dp) (hp2:dp≤700) (hc:LcAt w) (hB:B+b≤1100+(a+k)):
  Calls Tryz.prog 169 #[.pointer (some ⟨g,0,none⟩),.int .i64 (k:Int)] w (LPost g neg X B S L nd dp a b k w):=by
 have HL:=Lib.hid (lsh_ap g L nd k X B S a b dp neg tr w h hk1 hk hp1 hp2 hc hB)
 have c0:=h.at_.cN
 have hpos:=h.pos
 have hz:((nd:Int)==0)=false:=beq_false_of_ne (by omega)
 have h1:(0:Int)<(k:Int):=by omega
 have h2:¬((60:Int)<(k:Int)):=by omega
 clear h hc
 go_enter Tryz.func169,Tryz.ntmps169
 go_wp2_with fail
 go_loopw [1] (fun u1 wr=>u1= .int .i64 (k:Int)∧wr=w) (fun _ _=>0)
 case atStart=>exact ⟨rfl,rfl⟩
 case round=>
  obtain ⟨rfl,rfl⟩:=hrel
  go_wp2_with fail
  refine HL.out.mono ?_
  rintro e w2 ⟨rfl,hP⟩
  go_wp2_with fail
  refine bodyPost_end (results_none rfl _ _ _) rfl ?_
  exact ⟨rfl,hP⟩
set_option maxRecDepth 100000 in
set_option maxHeartbeats 4000000 in
theorem shr_any (g:Nat) (L:List Nat) (nd k X B S a b:Nat) (dp:Int) (neg tr:Bool) (w:World) (h:Dst w g neg X B S L nd dp tr a b) (hk1:1≤k) (hk:k≤300) (hp1: -1700≤dp) (hp2:dp≤700) (hS:4000≤S) (hB:B+(b+k)≤1100+a):
  Calls Tryz.prog 169 #[.pointer (some ⟨g,0,none⟩),.int .i64 (-(k:Int))] w (RPost g neg X B S L nd dp a b k w):=by
 have H:=Lib.hid h
 have c0:=h.at_.cN
 have hpos:=h.pos
 have hz:((nd:Int)==0)=false:=beq_false_of_ne (by omega)
 have h1:¬((0:Int)< -(k:Int)):=by omega
 have h2: -(k:Int)<0:=by omega
 clear h
 go_enter Tryz.func169,Tryz.ntmps169
 go_wp2_with fail
 go_loopw [1] (fun u1 wr=>∃k2 b2 nd2:Nat,∃L2:List Nat,∃dp2:Int,∃tr2:Bool,u1= .int .i64 (-(k2:Int))∧1≤k2∧b2+k2=b+k∧Hid (Dst wr g neg X B S L2 nd2 dp2 tr2 a b2)∧dp-(b2-b:Int)≤dp2∧dp2≤dp∧b≤b2∧vl S L2 nd2 dp2*2^(b2-b)≤vl S L nd dp∧w.grownBy wr (some g)) (fun u1 _=>(-(intOf u1)).toNat)
 case atStart=>exact ⟨k,b,nd,L,dp,tr,rfl,hk1,rfl,H,by omega,by omega,Nat.le_refl _,by rw [Nat.sub_self,Nat.pow_zero,Nat.mul_one];exact Nat.le_refl _,grown_refl w _⟩
 case round=>
  obtain ⟨k2,b2,nd2,L2,dp2,tr2,rfl,hk2,hbk,HD,hd1,hd2,hbb,hvl,hg⟩:=hrel
  clear H c0 hz h1 h2
  rcases Nat.lt_or_ge 60 k2 with hlt | hge
  ·have h3: -(k2:Int)< -60:=by omega
   have HR:=Lib.hid (rsh_ap g L2 nd2 60 X B S a b2 dp2 neg tr2 wr HD.out (by omega) (by omega) (by omega) (by omega) hS (by omega))
   go_wp2_with fail
   refine HR.out.mono ?_
   rintro e w2 ⟨rfl,L3,nd3,dp3,tr3,hD3,hl3,hp3,hp4,hv3,hg3⟩
   go_wp2_with fail
   refine ⟨⟨k2-60,b2+60,nd3,L3,dp3,tr3,by congr 1;omega,by omega,by omega,Lib.hid hD3,by omega,by omega,by omega,?_,hg.trans hg3⟩,by simp [intOf];omega⟩
   rw [show b2+60-b=60+(b2-b) by omega,Nat.pow_add,←Nat.mul_assoc]
   exact Nat.le_trans (Nat.mul_le_mul_right _ hv3) hvl
  ·have h3:¬(-(k2:Int)< -60):=by omega
   have h4: -(-(k2:Int))=(k2:Int):=by omega
   have HR:=Lib.hid (rsh_ap g L2 nd2 k2 X B S a b2 dp2 neg tr2 wr HD.out (by omega) (by omega) (by omega) (by omega) hS (by omega))
   go_wp2_with fail
   refine HR.out.mono ?_
   rintro e w2 ⟨rfl,L3,nd3,dp3,tr3,hD3,hl3,hp3,hp4,hv3,hg3⟩
   go_wp2_with fail
   refine bodyPost_end (results_none rfl _ _ _) rfl ?_
   rw [hbk] at hD3
   refine ⟨rfl,L3,nd3,dp3,tr3,hD3,hl3,by omega,by omega,?_,hg.trans hg3⟩
   rw [show k=k2+(b2-b) by omega,Nat.pow_add,←Nat.mul_assoc]
   exact Nat.le_trans (Nat.mul_le_mul_right _ hv3) hvl
end Go.Proofs.YtjhhdnnblcbdbaaGreatDoor.dcm
end
