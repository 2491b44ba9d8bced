/- The shortest decimal of a float, told without a program: the points of a grid of tens that read as it. What shortFloat computes is the shortest decimal (plain). What shortFloat computes is the shortest decimal (plain): the tables' rows and the scaled bounds. -/
import Derived.Test.YtjhhdnnblcbdbaaGreatDoorGPow
section
namespace Go.Proofs.YtjhhdnnblcbdbaaGreatDoor.sh
open fl us
set_option linter.unusedVariables false
def In (a q:Nat) (x:Int):Prop:=Near (q*10^x.toNat*2^1074) (10^(-x).toNat) a
def pow2 (n:Nat):Nat:=2^n
def pow10 (n:Nat):Nat:=10^n
theorem pow2_eq (n:Nat):pow2 n=2^n:=rfl
theorem pow10_eq (n:Nat):pow10 n=10^n:=rfl
def E:Nat:=pow2 1074
def F:Nat:=pow10 400
theorem E_p:E=pow2 1074:=rfl
theorem F_p:F=pow10 400:=rfl
theorem E_eq:E=2^1074:=E_p.trans (pow2_eq 1074)
theorem F_eq:F=10^400:=F_p.trans (pow10_eq 400)
theorem E_pos:0<E:=by
 rewrite [E_p,pow2_eq]
 exact Nat.two_pow_pos 1074
theorem tenpos (n:Nat):0<10^n:=Nat.pow_pos (show 0<10 by decide)
theorem F_pos:0<F:=by
 rewrite [F_p,pow10_eq]
 exact tenpos 400
theorem fp (a n:Nat) (h:a≤n):10^a*10^(n-a)=10^n:=by
 rw [←Nat.pow_add]
 congr 1
 omega
def G (x:Int):Nat:=10^(x+400).toNat*E
theorem pw (q a b c d P:Nat) (h:a+c=b+d) (hd:d=0):q*10^a*P*10^c=q*(10^b*P):=by
 subst hd
 have e:10^b=10^a*10^c:=by rw [←Nat.pow_add];congr 1;omega
 rw [e]
 ac_rfl
theorem In_iff (a q:Nat) (x:Int) (hx: -400≤x):In a q x↔Near (q*G x) F a:=by
 have e1:q*10^x.toNat*E*10^(400-(-x).toNat)=q*(10^(x+400).toNat*E):=pw q _ _ _ 0 _ (by omega) rfl
 have e2:10^(-x).toNat*10^(400-(-x).toNat)=F:=by
  rewrite [F_p,pow10_eq]
  exact fp _ 400 (by omega)
 unfold In G
 rewrite [←pow2_eq 1074,←E_p]
 constructor
 ·intro h
  have:=h.scale (10^(400-(-x).toNat)) (Nat.pow_pos (by decide))
  rw [e1,e2] at this
  exact this
 ·intro h
  rw [←e1,←e2] at h
  exact h.unscale (Nat.pow_pos (by decide))
theorem gpos (n P:Nat) (hP:0<P):0<10^n*P:=Nat.mul_pos (Nat.pow_pos (show 0<10 by decide)) hP
theorem gup (n m k P:Nat) (h:n=k+m):10^n*P=10^k*(10^m*P):=by
 subst h
 rw [←Nat.mul_assoc,←Nat.pow_add]
theorem G_pos (x:Int):0<G x:=gpos _ E E_pos
theorem G_up (x:Int) (hx: -400≤x) (k:Nat):G (x+k)=10^k*G x:=by
 unfold G
 exact gup _ _ k E (by omega)
theorem G_succ (x:Int) (hx: -400≤x):G (x+1)=10*G x:=by
 have:=G_up x hx 1
 rw [Nat.pow_one] at this
 exact this
theorem near_fin {a B X:Nat} (h0:0<a) (h1:a<9218868437227405312):Near X B a↔B*(V (a-1)+V a)+a % 2≤2*X∧2*X+a % 2≤B*(V a+V (a+1)):=by
 unfold Near
 constructor
 ·rintro ⟨_,h2,h3⟩
  omega
 ·rintro ⟨h2,h3⟩
  refine ⟨by omega,?_,?_⟩ <;> omega
def dn (a:Nat):Nat:=F*(V a-V (a-1))
def upw (a:Nat):Nat:=F*(V (a+1)-V a)
def ce (a:Nat):Nat:=F*V a
theorem lo_eq (B p q:Nat) (h:p≤q):B*(p+q)+B*(q-p)=2*(B*q):=by
 rw [←Nat.mul_add,show p+q+(q-p)=2*q by omega,Nat.mul_left_comm]
theorem hi_eq (B p q:Nat) (h:q≤p):B*(q+p)=2*(B*q)+B*(p-q):=by
 rw [Nat.mul_left_comm,←Nat.mul_add]
 congr 1
 omega
theorem in_fin {a q:Nat} {x:Int} (hx: -400≤x) (h0:0<a) (h1:a<9218868437227405312):
  In a q x↔2*ce a+a % 2≤2*(q*G x)+dn a∧2*(q*G x)+a % 2≤2*ce a+upw a:=by
 rw [In_iff a q x hx,near_fin h0 h1]
 have m1:V (a-1)≤V a:=V_le (by omega)
 have m2:V a≤V (a+1):=V_le (by omega)
 have e1:=lo_eq F _ _ m1
 have e2:=hi_eq F _ _ m2
 unfold ce dn upw
 generalize F*(V (a-1)+V a)=L at*
 generalize F*(V a+V (a+1))=H at*
 generalize F*(V a-V (a-1))=d at*
 generalize F*(V (a+1)-V a)=u at*
 generalize F*V a=c at*
 omega
theorem V_step (a:Nat) (h0:0<a):V (a+1)-V a=V a-V (a-1)∨V (a+1)-V a=2*(V a-V (a-1)):=by
 rcases form a with h | ⟨j,K,rfl,h1,h2⟩
 ·rw [V_small (by omega),V_small (by omega),V_small (by omega)];omega
 ·rw [V_at j K h1 (by omega),Nat.add_assoc,V_at j (K+1) (by omega) (by omega)]
  by_cases hK:4503599627370496<K
  ·rw [show j*4503599627370496+K-1=j*4503599627370496+(K-1) by omega,V_at j (K-1) (by omega) (by omega)]
   left
   rw [←Nat.sub_mul,←Nat.sub_mul]
   congr 1
   omega
  ·have hK2:K=4503599627370496:=by omega
   subst hK2
   cases j with
   | zero=>left;rw [V_small (by omega)]
   | succ j=>
     right
     rw [show (j+1)*4503599627370496+4503599627370496-1=j*4503599627370496+9007199254740991 by omega,V_at j _ (by omega) (by omega)]
     rw [Nat.pow_succ]
     generalize 2^j=P
     omega
theorem step2 (a:Nat) (h0:0<a):upw a=dn a∨upw a=2*dn a:=by
 unfold upw dn
 rcases V_step a h0 with h | h
 ·left;rw [h]
 ·right;rw [h,Nat.mul_left_comm]
theorem step_le (a:Nat) (h0:0<a):dn a≤ce a∧0<dn a:=by
 unfold dn ce
 refine ⟨Nat.mul_le_mul_left _ (Nat.sub_le _ _),Nat.mul_pos F_pos ?_⟩
 have:=V_mono (show a-1<a by omega)
 omega
theorem in_mid {a q q1 q2:Nat} {x:Int} (hx: -400≤x) (h0:0<a) (h1:a<9218868437227405312) (i1:In a q1 x) (i2:In a q2 x) (l1:q1≤q) (l2:q≤q2):In a q x:=by
 rw [in_fin hx h0 h1] at*
 have m1:=Nat.mul_le_mul_right (G x) l1
 have m2:=Nat.mul_le_mul_right (G x) l2
 omega
theorem in_ten {a q:Nat} {x:Int} (k:Nat) (hx: -400≤x) (h:In a q (x+k)):In a (q*10^k) x:=by
 rw [In_iff _ _ _ (by omega),G_up x hx k] at h
 rw [In_iff _ _ _ hx,Nat.mul_assoc]
 exact h
theorem in_ten1 {a q:Nat} {x:Int} (hx: -400≤x):In a q (x+1)↔In a (10*q) x:=by
 rw [In_iff _ _ _ (by omega),G_succ x hx,In_iff _ _ _ hx,Nat.mul_left_comm,Nat.mul_assoc]
theorem near_in {a q1 q2 K:Nat} {x:Int} (hx: -400≤x) (h0:0<a) (h1:a<9218868437227405312) (i1:In a q1 x) (i2:In a q2 x) (hl:q1<q2) (hK:Half (ce a) (G x) K):In a K x:=by
 by_cases hin:q1≤K∧K≤q2
 ·exact in_mid hx h0 h1 i1 i2 hin.1 hin.2
 have hs:=step2 a h0
 have hg:=G_pos x
 rw [in_fin hx h0 h1] at*
 obtain ⟨k1,k2⟩:=hK
 rw [show (2*K+1)*G x=2*(K*G x)+G x by rw [Nat.add_mul,Nat.one_mul,Nat.mul_assoc]] at k2
 rw [Nat.mul_assoc 2 K] at k1
 have e1:2*(q1*G x)+2*G x≤2*(q2*G x):=by
  have:=Nat.mul_le_mul_right (G x) (show q1+1≤q2 from hl)
  rw [Nat.add_mul,Nat.one_mul] at this
  omega
 by_cases hl1:K<q1
 ·have e2:K*G x+G x≤q1*G x:=by
   have:=Nat.mul_le_mul_right (G x) (show K+1≤q1 from hl1)
   rw [Nat.add_mul,Nat.one_mul] at this
   exact this
  omega
 ·have e2:q2*G x+G x≤K*G x:=by
   have:=Nat.mul_le_mul_right (G x) (show q2+1≤K by omega)
   rw [Nat.add_mul,Nat.one_mul] at this
   exact this
  omega
def Cand (a q:Nat) (x:Int):Prop:= -400≤x∧In a q x∧(Half (ce a) (G x) q∨∀q',In a q' x→q'=q)∧∀q',In a q' (x+1)→10*q'=q
theorem Cand.strip {a q:Nat} {x:Int} (h:Cand a (10*q) x):Cand a q (x+1):=by
 obtain ⟨hx,h1,h2,h3⟩:=h
 refine ⟨by omega,(in_ten1 hx).2 h1,.inr fun q' hq=>by have:=h3 q' hq;omega,fun q' hq=>?_⟩
 have:=h3 (10*q') ((in_ten1 (by omega)).1 hq)
 omega
theorem Cand.stripk {a q:Nat}:∀(k:Nat) {x:Int},Cand a (q*10^k) x→Cand a q (x+k)
 | 0,x,h=>by simpa using h
 | k+1,x,h=>by
   have e:q*10^(k+1)=10*(q*10^k):=by rw [Nat.pow_succ];ac_rfl
   rw [e] at h
   have:=Cand.stripk k h.strip
   rw [show x+((k+1:Nat):Int)=x+1+k by omega]
   exact this
theorem Cand.lt_absurd {a q r:Nat} {x y:Int} (h:Cand a q x) (h2:Cand a r y) (hq:q % 10≠0) (hl:x<y):False:=by
 obtain ⟨hx,_,_,h3⟩:=h
 obtain ⟨_,i2,_⟩:=h2
 obtain ⟨k,hk⟩:∃k:Nat,y=x+1+k:=⟨(y-x-1).toNat,by omega⟩
 rw [hk] at i2
 have:=h3 _ (in_ten k (by omega) i2)
 omega
end Go.Proofs.YtjhhdnnblcbdbaaGreatDoor.sh
end
section
namespace Go.Proofs.YtjhhdnnblcbdbaaGreatDoor.sh
open fl us
set_option linter.unusedVariables false
theorem in_one {a q q':Nat} {x:Int} (hx: -400≤x) (h0:0<a) (h1:a<9218868437227405312) (ht:dn a+upw a<20*G x) (i1:In a q (x+1)) (i2:In a q' (x+1)):q'=q:=by
 rw [in_fin (by omega) h0 h1] at i1 i2
 rw [G_succ x hx] at i1 i2
 have key:∀p r:Nat,p<r→p*(10*G x)+10*G x≤r*(10*G x):=fun p r h=>by
  have:=Nat.mul_le_mul_right (10*G x) (show p+1≤r from h)
  rw [Nat.add_mul,Nat.one_mul] at this
  exact this
 by_cases hl:q<q'
 ·have:=key _ _ hl;omega
 ·by_cases hl2:q'<q
  ·have:=key _ _ hl2;omega
  ·omega
theorem in_some {a:Nat} {x:Int} (hx: -400≤x) (h0:0<a) (h1:a<9218868437227405312) (he:2*G x<dn a+upw a∨∃k,ce a=k*G x):∃q,In a q x:=by
 have hs:=step_le a h0
 have hu:=step2 a h0
 rcases he with he | ⟨k,hk⟩
 ·obtain ⟨g,hg⟩:∃g,g=G x:=⟨_,rfl⟩
  have hg0:=G_pos x
  rw [←hg] at he hg0
  obtain ⟨N,hN⟩:∃N,N=2*ce a+a % 2-dn a:=⟨_,rfl⟩
  refine ⟨(N+(2*g-1))/(2*g),?_⟩
  rw [in_fin hx h0 h1,←hg]
  have h2:=Nat.div_add_mod (N+(2*g-1)) (2*g)
  have h3:=Nat.mod_lt (N+(2*g-1)) (show 0<2*g by omega)
  generalize (N+(2*g-1))/(2*g)=q at*
  rw [Nat.mul_assoc,Nat.mul_comm g q] at h2
  omega
 ·refine ⟨k,?_⟩
  rw [in_fin hx h0 h1,←hk]
  omega
theorem in_pos {a q:Nat} {x:Int} (hx: -400≤x) (h0:0<a) (h1:a<9218868437227405312) (h:In a q x):0<q:=by
 rcases Nat.eq_zero_or_pos q with rfl | hq
 ·have hs:=step_le a h0
  rw [in_fin hx h0 h1,Nat.zero_mul] at h
  omega
 ·exact hq
def shD (dmin dmax mid:Nat):Nat:=if dmin≤dmax/10*10 then dmax/10 else if dmin<dmax then mid else dmin
def shX (dmin dmax:Nat) (x:Int):Int:=if dmin≤dmax/10*10 then x+1 else x
theorem short_law {a dmin dmax mid:Nat} {x:Int} (hx: -400≤x) (h0:0<a) (h1:a<9218868437227405312) (hmin:∀q,dmin≤q↔2*ce a+a % 2≤2*(q*G x)+dn a) (hmax:∀q,q≤dmax↔2*(q*G x)+a % 2≤2*ce a+upw a)
  (hmid:Half (ce a) (G x) mid) (he:2*G x<dn a+upw a∨∃k,ce a=k*G x) (ht:dn a+upw a<20*G x):
  Cand a (shD dmin dmax mid) (shX dmin dmax x)∧0<shD dmin dmax mid:=by
 have hin:∀q,In a q x↔dmin≤q∧q≤dmax:=fun q=>by rw [in_fin hx h0 h1,hmin,hmax]
 have hC:Cand a (shD dmin dmax mid) (shX dmin dmax x):=by
  unfold shD shX
  by_cases hc:dmin≤dmax/10*10
  ·rw [if_pos hc,if_pos hc]
   have i1:In a (dmax/10) (x+1):=(in_ten1 hx).2 ((hin _).2 (by omega))
   refine ⟨by omega,i1,.inr fun q' hq=>in_one hx h0 h1 ht i1 hq,fun q' hq=>?_⟩
   exact in_one hx h0 h1 ht i1 ((in_ten1 (by omega)).1 hq)
  ·rw [if_neg hc,if_neg hc]
   have hno:∀q',¬In a q' (x+1):=fun q' hq=>by
    have:=(hin _).1 ((in_ten1 hx).1 hq)
    omega
   by_cases hl:dmin<dmax
   ·rw [if_pos hl]
    exact ⟨hx,near_in hx h0 h1 ((hin dmin).2 (by omega)) ((hin dmax).2 (by omega)) hl hmid,.inl hmid,fun q' hq=>(hno q' hq).elim⟩
   ·rw [if_neg hl]
    obtain ⟨q,hq⟩:=in_some hx h0 h1 he
    have:=(hin q).1 hq
    have e:dmin=q:=by omega
    subst e
    exact ⟨hx,hq,.inr fun q' hq'=>by have:=(hin q').1 hq';omega,fun q' hq=>(hno q' hq).elim⟩
 exact ⟨hC,in_pos hC.1 h0 h1 hC.2.1⟩
theorem unr_lt_iff (Y D v:Nat) (hD:0<D) (hv:v % 2=0):unr Y D<v↔Y<v*D:=by
 rw [←Nat.div_lt_iff_lt_mul hD]
 unfold unr odd1
 split <;> omega
theorem unr_le_iff (Y D v:Nat) (hD:0<D) (hv:v % 2=0):unr Y D≤v↔Y≤v*D:=by
 by_cases h1:Y<v*D
 ·have:=(unr_lt_iff Y D v hD hv).2 h1
  omega
 ·by_cases h2:Y=v*D
  ·rw [h2,unr_exact D v hD]
   omega
  ·have h3:¬unr Y D<v:=fun h=>h1 ((unr_lt_iff Y D v hD hv).1 h)
   have h4:unr Y D≠v:=fun h=>by
    unfold unr odd1 at h
    by_cases hz:Y % D=0
    ·rw [if_pos hz] at h
     have:=Nat.div_add_mod Y D
     rw [hz,h,Nat.mul_comm] at this
     omega
    ·rw [if_neg hz] at h
     omega
   omega
theorem ceil_unr (Y D o q:Nat) (hD:0<D) (ho:o≤1):(unr Y D+o+3)/4≤q↔Y+o≤q*(4*D):=by
 have e:q*(4*D)=4*q*D:=by ac_rfl
 have h1:=unr_lt_iff Y D (4*q) hD (by omega)
 have h2:=unr_le_iff Y D (4*q) hD (by omega)
 rw [e]
 generalize 4*q*D=Z at*
 omega
theorem floor_unr (Y D o q:Nat) (hD:0<D) (ho:o≤1) (hu:o≤unr Y D):q≤(unr Y D-o)/4↔q*(4*D)+o≤Y:=by
 have e:q*(4*D)=4*q*D:=by ac_rfl
 have h1:=unr_lt_iff Y D (4*q) hD (by omega)
 have h2:=unr_le_iff Y D (4*q) hD (by omega)
 rw [e]
 generalize 4*q*D=Z at*
 omega
theorem cross (Y W T g q:Nat) (hW:0<W) (hg:0<g) (h:Y*g=W*T):(Y≤q*W↔T≤q*g)∧(q*W≤Y↔q*g≤T):=by
 have e:q*W*g=W*(q*g):=by ac_rfl
 have l:∀u v:Nat,u≤v↔u*g≤v*g:=fun u v=>(Nat.mul_le_mul_right_iff hg).symm
 constructor
 ·rw [l Y (q*W),h,e,Nat.mul_le_mul_left_iff hW]
 ·rw [l (q*W) Y,h,e,Nat.mul_le_mul_left_iff hW]
theorem cross_o (Y W T g q o:Nat) (hW:0<W) (hg:0<g) (ho:o≤1) (h:Y*g=W*T):(Y+o≤q*W↔T+o≤q*g)∧(q*W+o≤Y↔q*g+o≤T):=by
 obtain ⟨h1,h2⟩:=cross Y W T g q hW hg h
 omega
theorem Half.scale {n D K:Nat} (h:Half n D K) (c:Nat) (hc:0<c):Half (n*c) (D*c) K:=by
 obtain ⟨h1,h2⟩:=h
 have l:∀a b:Nat,a<b→a*c<b*c:=fun a b h=>(Nat.mul_lt_mul_right hc).2 h
 have e1:2*K*(D*c)=2*K*D*c:=by ac_rfl
 have e2:2*(n*c)=2*n*c:=by ac_rfl
 have e3:(2*K+1)*(D*c)=(2*K+1)*D*c:=by ac_rfl
 have e4:2*(n*c)+D*c=(2*n+D)*c:=by rw [e2,Nat.add_mul]
 unfold Half
 rw [e4,e1,e2,e3]
 refine ⟨?_,?_⟩
 ·rcases h1 with h | ⟨h,h'⟩
  ·exact .inl (l _ _ h)
  ·exact .inr ⟨by rw [h],h'⟩
 ·rcases h2 with h | ⟨h,h'⟩
  ·exact .inl (l _ _ h)
  ·exact .inr ⟨by rw [h],h'⟩
theorem Half.unscale {n D K c:Nat} (h:Half (n*c) (D*c) K) (hc:0<c):Half n D K:=by
 obtain ⟨h1,h2⟩:=h
 have l:∀a b:Nat,a*c<b*c→a<b:=fun a b h=>(Nat.mul_lt_mul_right hc).1 h
 have l2:∀a b:Nat,a*c=b*c→a=b:=fun a b h=>Nat.eq_of_mul_eq_mul_right hc h
 have e1:2*K*(D*c)=2*K*D*c:=by ac_rfl
 have e2:2*(n*c)=2*n*c:=by ac_rfl
 have e3:(2*K+1)*(D*c)=(2*K+1)*D*c:=by ac_rfl
 have e4:2*(n*c)+D*c=(2*n+D)*c:=by rw [e2,Nat.add_mul]
 rw [e4,e1] at h1
 rw [e2,e3] at h2
 refine ⟨?_,?_⟩
 ·rcases h1 with h | ⟨h,h'⟩
  ·exact .inl (l _ _ h)
  ·exact .inr ⟨l2 _ _ h,h'⟩
 ·rcases h2 with h | ⟨h,h'⟩
  ·exact .inl (l _ _ h)
  ·exact .inr ⟨l2 _ _ h,h'⟩
structure Sh (a j K z:Nat):Prop where
 ha:a=j*4503599627370496+K
 hK0:0<K
 hK:K<9007199254740992
 hj:j=0∨4503599627370496≤K
 hj2:j<2046
 hm1:9223372036854775808≤K*2^z
 hm2:K*2^z<18446744073709551616
 hz1:11≤z
 hz2:z<64
theorem Sh.V {a j K z:Nat} (h:Sh a j K z):V a=K*2^j:=by
 rw [h.ha]
 have hK:=h.hK
 rcases h.hj with h0 | h0
 ·subst h0
  rw [V_small (by omega),Nat.zero_mul,Nat.pow_zero]
  omega
 ·rw [V_at j K h0 (by omega)]
theorem Sh.up {a j K z:Nat} (h:Sh a j K z):fl.V (a+1)-fl.V a=2^j:=by
 rw [h.V,h.ha]
 have hK:=h.hK
 have e:(K+1)*2^j-K*2^j=2^j:=by rw [Nat.add_mul,Nat.one_mul];exact Nat.add_sub_cancel_left _ _
 rcases h.hj with h0 | h0
 ·subst h0
  rw [V_small (by omega),Nat.pow_zero]
  omega
 ·rw [Nat.add_assoc,V_at j (K+1) (by omega) (by omega),e]
def Skw (j K:Nat):Prop:=K=4503599627370496∧0<j
theorem Sh.down {a j K z:Nat} (h:Sh a j K z) (hs:¬Skw j K):fl.V a-fl.V (a-1)=2^j:=by
 rw [h.V,h.ha]
 have hK:=h.hK
 have hK0:=h.hK0
 unfold Skw at hs
 have e:K*2^j-(K-1)*2^j=2^j:=by rw [←Nat.sub_mul,show K-(K-1)=1 by omega,Nat.one_mul]
 rcases h.hj with h0 | h0
 ·subst h0
  rw [V_small (by omega),Nat.pow_zero]
  omega
 ·rcases Nat.eq_zero_or_pos j with h1 | h1
  ·subst h1
   rw [V_small (by omega),Nat.pow_zero]
   omega
  ·rw [show j*4503599627370496+K-1=j*4503599627370496+(K-1) by omega,V_at j (K-1) (by omega) (by omega),e]
theorem Sh.downS {a j K z:Nat} (h:Sh a j K z) (hs:Skw j K):2*(fl.V a-fl.V (a-1))=2^j:=by
 rw [h.V,h.ha]
 obtain ⟨rfl,h1⟩:=hs
 obtain ⟨i,rfl⟩:∃i,j=i+1:=⟨j-1,by omega⟩
 rw [show (i+1)*4503599627370496+4503599627370496-1=i*4503599627370496+9007199254740991 by omega,V_at i _ (by omega) (by omega),Nat.pow_succ]
 omega
end Go.Proofs.YtjhhdnnblcbdbaaGreatDoor.sh
end
section
namespace Go.Proofs.YtjhhdnnblcbdbaaGreatDoor.sh
open fl us
set_option linter.unusedVariables false
def gP (j:Nat):Int:=((j:Int)-1074)*78913/262144
def gS (j:Nat):Int:=(((j:Int)-1074)*631305-261663)/2097152
def lpX (P:Int):Int:=(-P)*108853/32768
def tabJ:Bool:=(List.range 2046).all fun j=>decide (-324≤gP j)&&decide (gP j≤308)&&decide (0≤lpX (gP j)+j-1074)&&decide (lpX (gP j)+j-1074≤3)
 &&(decide (G (gP j)<F*2^j)||j==1074)&&decide (F*2^j<10*G (gP j))
def tabS:Bool:=(List.range 2046).all fun j=>j==0||(decide (-324≤gS j)&&decide (gS j≤308)&&decide (0≤lpX (gS j)+j-1074)&&decide (lpX (gS j)+j-1074≤3)
 &&decide (4*G (gS j)<3*(F*2^j))&&decide (3*(F*2^j)<40*G (gS j)))
theorem tabJ_ok:tabJ=true:=by decide+kernel
theorem tabS_ok:tabS=true:=by decide+kernel
def uscB (x i S:Nat):Bool:=usc x (tabH i) (tabL i) (2^S)==unr (x*tabA i) (2^S*340282366920938463463374607431768211456*tabB i)
def tabU:Bool:=(List.range 64).all fun z=>decide (z<11)||uscB (9223372036854775808-2^(z-1)) 672 ((z:Int)+1074-lpX (-324)-3).toNat
def tabV:Bool:=(List.range 2046).all fun j=>j==0||uscB (9223372036854775808-512) (348-gS j).toNat (11-((j:Int)-1074)-lpX (gS j)-3).toNat
theorem tabU_ok:tabU=true:=by decide+kernel
theorem tabV_ok:tabV=true:=by decide+kernel
theorem tabJ_at (j:Nat) (h:j<2046): -324≤gP j∧gP j≤308∧0≤lpX (gP j)+j-1074∧lpX (gP j)+j-1074≤3∧(G (gP j)<F*2^j∨j=1074)∧F*2^j<10*G (gP j):=by
 have h1:=List.all_eq_true.1 tabJ_ok j (List.mem_range.2 h)
 simp only [Bool.and_eq_true,Bool.or_eq_true,decide_eq_true_eq,beq_iff_eq] at h1
 exact ⟨h1.1.1.1.1.1,h1.1.1.1.1.2,h1.1.1.1.2,h1.1.1.2,h1.1.2,h1.2⟩
theorem tabS_at (j:Nat) (h:j<2046) (h0:0<j): -324≤gS j∧gS j≤308∧0≤lpX (gS j)+j-1074∧lpX (gS j)+j-1074≤3∧4*G (gS j)<3*(F*2^j)∧3*(F*2^j)<40*G (gS j):=by
 have h1:=List.all_eq_true.1 tabS_ok j (List.mem_range.2 h)
 simp only [Bool.and_eq_true,Bool.or_eq_true,decide_eq_true_eq,beq_iff_eq] at h1
 rcases h1 with h1 | h1
 ·omega
 ·exact ⟨h1.1.1.1.1.1,h1.1.1.1.1.2,h1.1.1.1.2,h1.1.1.2,h1.1.2,h1.2⟩
theorem tabU_at (z:Nat) (h1:11≤z) (h2:z<64):uscB (9223372036854775808-2^(z-1)) 672 ((z:Int)+1074-lpX (-324)-3).toNat=true:=by
 have h:=List.all_eq_true.1 tabU_ok z (List.mem_range.2 h2)
 simp only [Bool.or_eq_true,decide_eq_true_eq] at h
 rcases h with h | h
 ·omega
 ·exact h
theorem tabV_at (j:Nat) (h1:0<j) (h2:j<2046):uscB (9223372036854775808-512) (348-gS j).toNat (11-((j:Int)-1074)-lpX (gS j)-3).toNat=true:=by
 have h:=List.all_eq_true.1 tabV_ok j (List.mem_range.2 h2)
 simp only [Bool.or_eq_true,beq_iff_eq] at h
 rcases h with h | h
 ·omega
 ·exact h
theorem G_zero:G 0=F*E:=by
 unfold G
 have h:((0:Int)+400).toNat=400:=rfl
 rewrite [h,←pow10_eq 400,←F_p]
 exact Eq.refl (F*E)
structure Ca (a j K z:Nat) (P:Int) (i S mn mx:Nat):Prop where
 sh:Sh a j K z
 cs:(Skw j K∧P=gS j∧mn=K*2^z-512∧z=11)∨(¬Skw j K∧P=gP j∧mn=K*2^z-2^(z-1))
 mx:mx=K*2^z+2^(z-1)
 hi:(i:Int)=348-P
 hS:(S:Int)=z-((j:Int)-1074)-lpX P-3
theorem Ca.bd {a j K z i S mn mx:Nat} {P:Int} (h:Ca a j K z P i S mn mx): -324≤P∧P≤308∧5≤S∧S<64∧i<696:=by
 have hj:=h.sh.hj2
 have h1:=h.sh.hz1
 have h2:=h.sh.hz2
 have h3:=h.hi
 have h4:=h.hS
 rcases h.cs with ⟨hk,hP,_,_⟩ | ⟨hk,hP,_⟩
 ·have:=tabS_at j hj hk.2
  rw [←hP] at this
  omega
 ·have:=tabJ_at j hj
  rw [←hP] at this
  omega
theorem Ca.grid {a j K z i S mn mx:Nat} {P:Int} (h:Ca a j K z P i S mn mx):(2*G P<dn a+upw a∨∃k,ce a=k*G P)∧dn a+upw a<20*G P:=by
 have hj:=h.sh.hj2
 have hu:upw a=F*2^j:=by unfold upw;rw [h.sh.up]
 rcases h.cs with ⟨hk,hP,_,_⟩ | ⟨hk,hP,_⟩
 ·have:=tabS_at j hj hk.2
  rw [←hP] at this
  have hd:2*dn a=F*2^j:=by unfold dn;rw [Nat.mul_left_comm,h.sh.downS hk]
  omega
 ·have:=tabJ_at j hj
  rw [←hP] at this
  have hd:dn a=F*2^j:=by unfold dn;rw [h.sh.down hk]
  obtain ⟨_,_,_,_,h1,h2⟩:=this
  refine ⟨?_,by omega⟩
  rcases h1 with h1 | h1
  ·left;omega
  ·right
   refine ⟨K,?_⟩
   have hP0:P=0:=by rw [hP,h1];decide
   have hE:E=pow2 j:=by rewrite [E_p,h1];exact Eq.refl (pow2 1074)
   have hG:G P=F*2^j:=by rewrite [hP0,G_zero,hE,pow2_eq];exact Eq.refl _
   unfold ce
   rw [hG,h.sh.V,Nat.mul_left_comm]
theorem alg4 (a1 b1 c1 d1 t1 n z s q t2 j:Nat) (h1:a1+b1=c1+d1) (h2:t1+n+z=2+s+q+t2+j):
  10^a1*2^t1*(10^b1*2^n*2^z)=4*(2^s*2^q*(10^c1*2^t2))*(10^d1*2^j):=by
 have e1:10^a1*10^b1=10^c1*10^d1:=by rw [←Nat.pow_add,←Nat.pow_add,h1]
 have e2:2^t1*2^n*2^z=2^2*2^s*2^q*2^t2*2^j:=by rw [←Nat.pow_add,←Nat.pow_add,←Nat.pow_add,←Nat.pow_add,←Nat.pow_add,←Nat.pow_add,h2]
 have e3:(4:Nat)=2^2:=by decide
 rw [e3]
 calc _=(10^a1*10^b1)*(2^t1*2^n*2^z):=by ac_rfl
  _=_:=by rw [e1,e2];ac_rfl
theorem Q_eq:(340282366920938463463374607431768211456:Nat)=2^128:=by decide
theorem lp_eq (i:Nat) (P:Int) (h:(i:Int)=348-P):lpN i=lpX P:=by
 unfold lpN lpX
 rw [show (i:Int)-348= -P by omega]
theorem alg5 (i S z j:Nat) (P:Int) (n1 n4 q Q:Nat) (E F:Nat) (hE:E=2^n1) (hF:F=10^n4) (hQ:Q=2^q) (h3:(i:Int)=348-P) (h4:(S:Int)+q+2+j=z+n1-lpN i+127) (hP: -324≤P) (hP2:P≤308) (hn:n4=400) (hz:11≤z):
  tabA i*(10^(P+400).toNat*E*2^z)=4*(2^S*Q*tabB i)*(F*2^j):=by
 subst hE hF hQ
 unfold tabA tabB
 exact alg4 _ _ _ _ _ _ _ _ _ _ _ (by omega) (by omega)
theorem Ca.prop {a j K z i S mn mx:Nat} {P:Int} (h:Ca a j K z P i S mn mx) (x:Nat):
  x*tabA i*(G P*2^z)=4*(2^S*340282366920938463463374607431768211456*tabB i)*(x*(F*2^j)):=by
 have hb:=h.bd
 have h3:=h.hi
 have h4:=h.hS
 have h5:=lp_eq i P h3
 have h6:=h.sh.hz1
 have:=alg5 i S z j P 1074 400 128 _ E F E_eq F_eq Q_eq h3 (by omega) (by omega) (by omega) rfl h6
 unfold G
 rw [Nat.mul_assoc,this]
 ac_rfl
theorem usc_m (i x S:Nat) (hi:i<696) (h1:9223372036854775808≤x) (h2:x<18446744073709551616) (h3:x % 512=0) (hS:5≤S):
  usc x (tabH i) (tabL i) (2^S)=unr (x*tabA i) (2^S*340282366920938463463374607431768211456*tabB i):=by
 have hb:=bounds i hi
 have h4:x=x/512*512:=by omega
 have hh:0<x*tabH i/18446744073709551616:=by
  have:=Nat.mul_le_mul h1 hb.2.2.1
  omega
 rw [h4] at hh ⊢
 exact usc_format i (x/512) S hi (by omega) (by omega) hS hh
theorem p2mod (z:Nat) (h1:11≤z) (h2:z<64):2^(z-1) % 1024=0∧1024≤2^(z-1)∧2^z=2*2^(z-1):=by
 obtain ⟨k,rfl⟩:∃k,z=k+11:=⟨z-11,by omega⟩
 have e:2^(k+11-1)=2^k*1024:=by rw [show k+11-1=k+10 by omega,Nat.pow_add]
 have e2:2^(k+11)=2^k*2048:=by rw [Nat.pow_add]
 have:=Nat.two_pow_pos k
 rw [e,e2]
 omega
theorem Sh.bits {a j K z:Nat} (h:Sh a j K z):2^(z-1) % 1024=0∧1024≤2^(z-1)∧2^z=2*2^(z-1)∧K*2^z=2*(K*2^(z-1))∧K*2^(z-1) % 1024=0∧2^(z-1)≤K*2^(z-1)∧K*2^z+2*2^(z-1)≤18446744073709551616:=by
 obtain ⟨p1,p2,p3⟩:=p2mod z h.hz1 h.hz2
 have e:K*2^z=2*(K*2^(z-1)):=by rw [p3];ac_rfl
 have e2:K*2^(z-1) % 1024=0:=by rw [Nat.mul_mod,p1,Nat.mul_zero]
 have e3:2^(z-1)≤K*2^(z-1):=Nat.le_mul_of_pos_left _ h.hK0
 refine ⟨p1,p2,p3,e,e2,e3,?_⟩
 have h2:=h.hm2
 have hz:=h.hz2
 have e4:(18446744073709551616:Nat)=2^(64-z)*2^z:=by
  rw [←Nat.pow_add,show 64-z+z=64 by omega]
 rw [e4] at h2 ⊢
 have h5:=Nat.lt_of_mul_lt_mul_right h2
 have:=Nat.mul_le_mul_right (2^z) (show K+1≤2^(64-z) from h5)
 rw [Nat.add_mul,Nat.one_mul] at this
 omega
theorem Ca.usc {a j K z i S mn mx:Nat} {P:Int} (h:Ca a j K z P i S mn mx):
  us.usc mn (tabH i) (tabL i) (2^S)=unr (mn*tabA i) (2^S*340282366920938463463374607431768211456*tabB i)∧
  us.usc mx (tabH i) (tabL i) (2^S)=unr (mx*tabA i) (2^S*340282366920938463463374607431768211456*tabB i)∧
  us.usc (K*2^z) (tabH i) (tabL i) (2^S)=unr (K*2^z*tabA i) (2^S*340282366920938463463374607431768211456*tabB i)∧
  0<mn∧mn<18446744073709551616∧mx<18446744073709551616∧4611686018427387904≤mn:=by
 obtain ⟨p1,p2,p3,p4,p5,p6,p7⟩:=h.sh.bits
 have hb:=h.bd
 have m1:=h.sh.hm1
 have m2:=h.sh.hm2
 have hmx:=h.mx
 refine ⟨?_,usc_m i mx S hb.2.2.2.2 (by omega) (by omega) (by omega) hb.2.2.1,usc_m i _ S hb.2.2.2.2 m1 m2 (by omega) hb.2.2.1,?_⟩
 ·by_cases hl:9223372036854775808≤mn
  ·rcases h.cs with ⟨hk,hP,hmn,_⟩ | ⟨hk,hP,hmn⟩
   ·exact usc_m i mn S hb.2.2.2.2 hl (by omega) (by omega) hb.2.2.1
   ·exact usc_m i mn S hb.2.2.2.2 hl (by omega) (by omega) hb.2.2.1
  ·have h3:=h.hi
   have h4:=h.hS
   rcases h.cs with ⟨hk,hP,hmn,hz⟩ | ⟨hk,hP,hmn⟩
   ·have hv:=tabV_at j hk.2 h.sh.hj2
    have e1:(348-gS j).toNat=i:=by omega
    have e2:(11-((j:Int)-1074)-lpX (gS j)-3).toNat=S:=by rw [←hP];omega
    have e3:9223372036854775808-512=mn:=by rw [hmn,hk.1,hz]
    rw [e1,e2,e3] at hv
    exact beq_iff_eq.1 hv
   ·have hv:=tabU_at z h.sh.hz1 h.sh.hz2
    have hz2:=h.sh.hz2
    have hz1:=h.sh.hz1
    have e0:(9223372036854775808:Nat)=2^(63-z)*2^z:=by rw [←Nat.pow_add,show 63-z+z=63 by omega]
    have hK:K=2^(63-z):=by
     have l1:K*2^z<(2^(63-z)+1)*2^z:=by rw [Nat.add_mul,Nat.one_mul,←e0];omega
     have l2:2^(63-z)*2^z≤K*2^z:=by rw [←e0];exact m1
     have:=Nat.lt_of_mul_lt_mul_right l1
     have:=Nat.le_of_mul_le_mul_right l2 (Nat.two_pow_pos z)
     omega
    have hj0:j=0:=by
     rcases h.sh.hj with hj | hj
     ·exact hj
     ·by_cases hz:z=11
      ·rw [hz] at hK
       have:K=4503599627370496:=hK
       unfold Skw at hk
       omega
      ·have:(2:Nat)^(63-z)≤2^51:=Nat.pow_le_pow_right (by decide) (by omega)
       have h51:(2:Nat)^51=2251799813685248:=by decide
       omega
    have hP0:P= -324:=by rw [hP,hj0];decide
    rw [hP0] at h3 h4
    rw [hj0] at h4
    have e1:i=672:=by omega
    have e2:((z:Int)+1074-lpX (-324)-3).toNat=S:=by omega
    have e3:9223372036854775808-2^(z-1)=mn:=by rw [hmn,hK,←e0]
    rw [e1]
    rw [e2,e3] at hv
    exact beq_iff_eq.1 hv
 ·rcases h.cs with ⟨hk,hP,hmn,hz⟩ | ⟨hk,hP,hmn⟩
  ·omega
  ·omega
theorem lem_lo (T c d q g Z o:Nat) (hZ:0<Z) (ho:o≤1) (h:2*T+d*Z=2*(c*Z)):T+o≤q*(g*Z)↔2*c+o≤2*(q*g)+d:=by
 have l1:2*c≤2*(q*g)+d↔2*c*Z≤(2*(q*g)+d)*Z:=(Nat.mul_le_mul_right_iff hZ).symm
 have l2:2*c<2*(q*g)+d↔2*c*Z<(2*(q*g)+d)*Z:=(Nat.mul_lt_mul_right hZ).symm
 rw [Nat.add_mul,Nat.mul_assoc 2 c,Nat.mul_assoc 2 (q*g),Nat.mul_assoc q g] at l1 l2
 omega
theorem lem_hi (T c d q g Z o:Nat) (hZ:0<Z) (ho:o≤1) (h:2*T=2*(c*Z)+d*Z):q*(g*Z)+o≤T↔2*(q*g)+o≤2*c+d:=by
 have l1:2*(q*g)≤2*c+d↔2*(q*g)*Z≤(2*c+d)*Z:=(Nat.mul_le_mul_right_iff hZ).symm
 have l2:2*(q*g)<2*c+d↔2*(q*g)*Z<(2*c+d)*Z:=(Nat.mul_lt_mul_right hZ).symm
 rw [Nat.add_mul,Nat.mul_assoc 2 c,Nat.mul_assoc 2 (q*g),Nat.mul_assoc q g] at l1 l2
 omega
theorem lem_mid (Y W c g Z K:Nat) (hW:0<W) (hZ:0<Z) (hg:0<g*Z) (h:Half Y W K) (e:Y*(g*Z)=W*(c*Z)):Half c g K:=by
 have h1:=Half.scale h (g*Z) hg
 rw [e,Nat.mul_comm W (c*Z),Nat.mul_comm W (g*Z)] at h1
 exact Half.unscale (Half.unscale h1 hW) hZ
theorem sub_lo (m h f Z d:Nat) (hm:h≤m) (e:2*h*f=d*Z):2*((m-h)*f)+d*Z=2*(m*f):=by
 rw [←e,Nat.sub_mul,Nat.mul_assoc]
 have:=Nat.mul_le_mul_right f hm
 omega
theorem sk_num (d:Nat):2*512*(2*d)=d*2048:=by omega
theorem add_hi (m h f Z d:Nat) (e:2*h*f=d*Z):2*((m+h)*f)=2*(m*f)+d*Z:=by
 rw [←e,Nat.add_mul,Nat.mul_assoc]
 omega
theorem Ca.short {a j K z i S mn mx:Nat} {P:Int} (h:Ca a j K z P i S mn mx) (h0:0<a) (h1:a<9218868437227405312) (u v t:Nat)
  (hu:us.usc mn (tabH i) (tabL i) (2^S)=u) (hv:us.usc mx (tabH i) (tabL i) (2^S)=v) (ht:us.usc (K*2^z) (tabH i) (tabL i) (2^S)=t):
  Cand a (shD ((u+a % 2+3)/4) ((v-a % 2)/4) (rnd t)) (shX ((u+a % 2+3)/4) ((v-a % 2)/4) P)∧0<shD ((u+a % 2+3)/4) ((v-a % 2)/4) (rnd t)∧u<1152921504606846976∧v<1152921504606846976∧t<1152921504606846976∧1≤v:=by
 obtain ⟨u1,u2,u3,n0,n1,n2,n3⟩:=h.usc
 obtain ⟨p1,p2,p3,p4,p5,p6,p7⟩:=h.sh.bits
 have hb:=h.bd
 have hg:=h.grid
 have hbd:=bounds i hb.2.2.2.2
 obtain ⟨D,hD⟩:∃D,2^S*340282366920938463463374607431768211456*tabB i=D:=⟨_,rfl⟩
 rw [hu,hD] at u1
 rw [hv,hD] at u2
 rw [ht,hD] at u3
 have hB0:=tabB_pos i
 have hS32:32≤2^S:=Nat.pow_le_pow_right (n:=2) (by decide) hb.2.2.1
 have hD0:0<D:=by rw [←hD];exact Nat.mul_pos (Nat.mul_pos (Nat.two_pow_pos _) (by decide)) hB0
 have hDb:10889035741470030830827987437816582766592*tabB i≤D:=by
  rw [←hD]
  exact Nat.mul_le_mul_right _ (Nat.mul_le_mul_right 340282366920938463463374607431768211456 hS32)
 have hA:tabA i<340282366920938463463374607431768211456*tabB i:=Nat.lt_of_lt_of_le hbd.2.1 (Nat.mul_le_mul_right _ (by decide))
 have big:∀x,x<18446744073709551616→unr (x*tabA i) D<1152921504606846976:=fun x hx=>by
  refine (unr_lt_iff _ _ _ hD0 (by decide)).2 ?_
  have m1:=Nat.mul_lt_mul_of_lt_of_le hx (Nat.le_of_lt hA) (by have:=tabA_pos i;omega)
  have m2:=Nat.mul_le_mul_left 1152921504606846976 hDb
  omega
 have hZ:=Nat.two_pow_pos z
 have hgz:0<G P*2^z:=Nat.mul_pos (G_pos P) hZ
 have hW:0<4*D:=by omega
 have pr:=h.prop
 rw [hD] at pr
 have ho:a % 2≤1:=by omega
 have hmx:=h.mx
 have hv1:1≤v:=by
  have h3:¬unr (mx*tabA i) D≤0:=fun h4=>by
   have:=(unr_le_iff _ _ _ hD0 (by decide)).1 h4
   have:=Nat.mul_pos (show 0<mx by omega) (tabA_pos i)
   omega
  omega
 have hce:ce a*2^z=K*2^z*(F*2^j):=by
  unfold ce
  rw [h.sh.V]
  ac_rfl
 have hup:upw a=F*2^j:=by unfold upw;rw [h.sh.up]
 have hlo:2*(mn*(F*2^j))+dn a*2^z=2*(ce a*2^z):=by
  rw [hce]
  rcases h.cs with ⟨hk,hP,hmn,hz⟩ | ⟨hk,hP,hmn⟩
  ·have hd:2*dn a=F*2^j:=by unfold dn;rw [Nat.mul_left_comm,h.sh.downS hk]
   rw [hmn]
   refine sub_lo _ _ _ _ _ (by omega) ?_
   rw [hz,←hd]
   have e11:(2:Nat)^11=2048:=by decide
   rw [e11]
   exact sk_num (dn a)
  ·have hd:dn a=F*2^j:=by unfold dn;rw [h.sh.down hk]
   rw [hmn]
   refine sub_lo _ _ _ _ _ (by omega) ?_
   rw [hd,p3]
   ac_rfl
 have hhi:2*(mx*(F*2^j))=2*(ce a*2^z)+upw a*2^z:=by
  rw [hce,hmx]
  refine add_hi _ _ _ _ _ ?_
  rw [hup,p3]
  ac_rfl
 have L:=short_law (a:=a) (dmin:=(u+a % 2+3)/4) (dmax:=(v-a % 2)/4) (mid:=rnd t) (x:=P) (by omega) h0 h1
  (fun q=>by
   rw [u1,ceil_unr _ D _ q hD0 ho,(cross_o _ (4*D) _ _ q _ hW hgz ho (pr mn)).1]
   exact lem_lo _ _ _ q _ _ _ hZ ho hlo)
  (fun q=>by
   rw [u2,floor_unr _ D _ q hD0 ho (by rw [←u2];omega),(cross_o _ (4*D) _ _ q _ hW hgz ho (pr mx)).2]
   exact lem_hi _ _ _ q _ _ _ hZ ho hhi)
  (by
   rw [u3]
   refine lem_mid _ (4*D) _ _ _ _ hW hZ hgz (half_unr _ D hD0) ?_
   rw [pr,hce])
  hg.1 hg.2
 exact ⟨L.1,L.2,by rw [u1];exact big _ n1,by rw [u2];exact big _ n2,by rw [u3];exact big _ h.sh.hm2,hv1⟩
end Go.Proofs.YtjhhdnnblcbdbaaGreatDoor.sh
end
