/- PLAIN LEAN: the floats' magnitudes as whole numbers (in units of the least one), and what it is to be the float nearest to a fraction. The reference's whole numbers: ten, dec, against, Split. The reference's floats by whole numbers: against, Split, bits. -/
import Ieee.Word
import Derived.Test.YtjhhdnnblcbdbaaGreatDoorGMem
import Derived.Deep.Cut
import Derived.Laws.BitsAllLaws
section
set_option linter.unusedVariables false
namespace Go.Proofs.YtjhhdnnblcbdbaaGreatDoor.fl
def V (r:Nat):Nat:=if r<4503599627370496 then r else (4503599627370496+r % 4503599627370496)*2^(r/4503599627370496-1)
theorem pow_pos' (k:Nat):0<2^k:=Nat.two_pow_pos k
theorem p10le (a b c:Nat) (h:a+b≤c):10^a*10^b≤10^c:=by rw [←Nat.pow_add];exact Nat.pow_le_pow_right (by decide) h
theorem mlt (a b P:Nat) (h:a<b) (hP:0<P):a*P<b*P:=(Nat.mul_lt_mul_right hP).2 h
theorem p10mul (a b c d:Nat) (h:a+b≤c+d):10^a*10^b≤10^c*10^d:=by rw [←Nat.pow_add,←Nat.pow_add];exact Nat.pow_le_pow_right (by decide) h
theorem great_le (B D F P T:Nat) (h1:F≤T) (h2:B*T≤D):B*(F*P)≤D*P:=by
 rw [←Nat.mul_assoc]
 exact Nat.mul_le_mul_right _ (Nat.le_trans (Nat.mul_le_mul_left _ h1) h2)
theorem V_small {r:Nat} (h:r≤9007199254740992):V r=r:=by
 unfold V
 by_cases h1:r<4503599627370496
 ·rw [if_pos h1]
 ·rw [if_neg h1]
  by_cases h2:r=9007199254740992
  ·subst h2;rfl
  ·have e:r/4503599627370496=1:=by omega
   rw [e]
   omega
theorem V_at (j K:Nat) (h1:4503599627370496≤K) (h2:K≤9007199254740992):V (j*4503599627370496+K)=K*2^j:=by
 unfold V
 rw [if_neg (by omega)]
 by_cases h3:K=9007199254740992
 ·subst h3
  have e1:(j*4503599627370496+9007199254740992) % 4503599627370496=0:=by omega
  have e2:(j*4503599627370496+9007199254740992)/4503599627370496-1=j+1:=by omega
  rw [e1,e2,Nat.pow_succ]
  omega
 ·have e1:4503599627370496+(j*4503599627370496+K) % 4503599627370496=K:=by omega
  have e2:(j*4503599627370496+K)/4503599627370496-1=j:=by omega
  rw [e1,e2]
theorem form (r:Nat):r<4503599627370496∨∃j K,r=j*4503599627370496+K∧4503599627370496≤K∧K<9007199254740992:=by
 by_cases h:r<4503599627370496
 ·exact .inl h
 ·exact .inr ⟨r/4503599627370496-1,4503599627370496+r % 4503599627370496,by omega,by omega,by omega⟩
theorem V_succ (r:Nat):V r<V (r+1):=by
 rcases form r with h | ⟨j,K,rfl,h1,h2⟩
 ·rw [V_small (by omega),V_small (by omega)];omega
 ·rw [V_at j K h1 (by omega),Nat.add_assoc,V_at j (K+1) (by omega) (by omega)]
  exact (Nat.mul_lt_mul_right (pow_pos' j)).2 (by omega)
theorem V_mono {r s:Nat} (h:r<s):V r<V s:=by
 induction s with
 | zero=>omega
 | succ s ih=>
   by_cases e:r=s
   ·subst e;exact V_succ r
   ·exact Nat.lt_trans (ih (by omega)) (V_succ s)
theorem V_le {r s:Nat} (h:r≤s):V r≤V s:=by
 by_cases e:r=s
 ·subst e;exact Nat.le_refl _
 ·exact Nat.le_of_lt (V_mono (by omega))
theorem V_inj {r s:Nat} (h:V r=V s):r=s:=by
 by_cases h1:r<s
 ·have:=V_mono h1;omega
 ·by_cases h2:s<r
  ·have:=V_mono h2;omega
  ·omega
def Near0 (X B r:Nat):Prop:=
 (r=0∨B*(V (r-1)+V r)<2*X∨(B*(V (r-1)+V r)=2*X∧r % 2=0))∧
 (2*X<B*(V r+V (r+1))∨(2*X=B*(V r+V (r+1))∧r % 2=0))
def Near (X B r:Nat):Prop:=
 r≤9218868437227405312∧
 (r=0∨B*(V (r-1)+V r)<2*X∨(B*(V (r-1)+V r)=2*X∧r % 2=0))∧
 (r=9218868437227405312∨2*X<B*(V r+V (r+1))∨(2*X=B*(V r+V (r+1))∧r % 2=0))
theorem Near0.near {X B r:Nat} (h:Near0 X B r) (hB:0<B):Near X B (min r 9218868437227405312):=by
 obtain ⟨h1,h2⟩:=h
 by_cases hr:r≤9218868437227405312
 ·rw [Nat.min_eq_left hr]
  exact ⟨hr,h1,.inr h2⟩
 ·rw [Nat.min_eq_right (by omega)]
  refine ⟨Nat.le_refl _,.inr (.inl ?_),.inl rfl⟩
  have a1:V (9218868437227405312-1)<V (r-1):=V_mono (by omega)
  have a2:V 9218868437227405312<V r:=V_mono (by omega)
  have a3:B*(V (9218868437227405312-1)+V 9218868437227405312)<B*(V (r-1)+V r):=(Nat.mul_lt_mul_left hB).2 (by omega)
  rcases h1 with h1 | h1 | ⟨h1,_⟩ <;> omega
theorem Near.lt_absurd {X B r s:Nat} (hr:Near X B r) (hs:Near X B s) (hB:0<B) (h:r<s):False:=by
 obtain ⟨_,_,r3⟩:=hr
 obtain ⟨s1,s2,_⟩:=hs
 have a1:V r≤V (s-1):=V_le (by omega)
 have a2:V (r+1)≤V s:=V_le (by omega)
 have a3:B*(V r+V (r+1))≤B*(V (s-1)+V s):=Nat.mul_le_mul_left B (by omega)
 by_cases e:s=r+1
 ·rcases r3 with r3 | r3 | ⟨r3,r4⟩ <;> rcases s2 with s2 | s2 | ⟨s2,s4⟩ <;> omega
 ·have a4:V r<V (s-1):=V_mono (by omega)
  have a5:B*(V r+V (r+1))<B*(V (s-1)+V s):=(Nat.mul_lt_mul_left hB).2 (by omega)
  rcases r3 with r3 | r3 | ⟨r3,r4⟩ <;> rcases s2 with s2 | s2 | ⟨s2,s4⟩ <;> omega
theorem Near.unique {X B r s:Nat} (hr:Near X B r) (hs:Near X B s) (hB:0<B):r=s:=by
 by_cases h:r<s
 ·exact (hr.lt_absurd hs hB h).elim
 ·by_cases h2:s<r
  ·exact (hs.lt_absurd hr hB h2).elim
  ·omega
theorem Near.scale {X B r:Nat} (h:Near X B r) (c:Nat) (hc:0<c):Near (X*c) (B*c) r:=by
 obtain ⟨h1,h2,h3⟩:=h
 have e:∀Y,B*c*Y=B*Y*c:=fun Y=>by rw [Nat.mul_right_comm]
 have l:∀a b:Nat,a<b→a*c<b*c:=fun a b h=>(Nat.mul_lt_mul_right hc).2 h
 refine ⟨h1,?_,?_⟩
 ·rw [e,←Nat.mul_assoc]
  rcases h2 with h2 | h2 | ⟨h2,h4⟩
  ·exact .inl h2
  ·exact .inr (.inl (l _ _ h2))
  ·exact .inr (.inr ⟨by rw [h2],h4⟩)
 ·rw [e,←Nat.mul_assoc]
  rcases h3 with h3 | h3 | ⟨h3,h4⟩
  ·exact .inl h3
  ·exact .inr (.inl (l _ _ h3))
  ·exact .inr (.inr ⟨by rw [h3],h4⟩)
theorem Near.unscale {X B r c:Nat} (h:Near (X*c) (B*c) r) (hc:0<c):Near X B r:=by
 obtain ⟨h1,h2,h3⟩:=h
 have e:∀Y,B*c*Y=B*Y*c:=fun Y=>by rw [Nat.mul_right_comm]
 have l:∀a b:Nat,a*c<b*c→a<b:=fun a b h=>(Nat.mul_lt_mul_right hc).1 h
 have q:∀a b:Nat,a*c=b*c→a=b:=fun a b h=>Nat.eq_of_mul_eq_mul_right hc h
 refine ⟨h1,?_,?_⟩
 ·rw [e,←Nat.mul_assoc] at h2
  rcases h2 with h2 | h2 | ⟨h2,h4⟩
  ·exact .inl h2
  ·exact .inr (.inl (l _ _ h2))
  ·exact .inr (.inr ⟨q _ _ h2,h4⟩)
 ·rw [e,←Nat.mul_assoc] at h3
  rcases h3 with h3 | h3 | ⟨h3,h4⟩
  ·exact .inl h3
  ·exact .inr (.inl (l _ _ h3))
  ·exact .inr (.inr ⟨q _ _ h3,h4⟩)
def Half (n D K:Nat):Prop:=(2*K*D<2*n+D∨(2*K*D=2*n+D∧K % 2=0))∧(2*n<(2*K+1)*D∨(2*n=(2*K+1)*D∧K % 2=0))
theorem half_lin (G q s n p K:Nat) (hp:q*G=p) (hd:p+s=n) (hm:s<G) (hK:K=q+(decide (G<2*s)||(G==2*s&&q % 2==1)).toNat):Half n G K:=by
 have e1:2*q*G=2*p:=by rw [Nat.mul_assoc,hp]
 have e2:(2*q+1)*G=2*p+G:=by rw [Nat.add_mul,e1,Nat.one_mul]
 have e3:2*(q+1)*G=2*p+2*G:=by rw [Nat.mul_add,Nat.add_mul,e1]
 have e4:(2*(q+1)+1)*G=2*p+3*G:=by rw [Nat.add_mul,e3];omega
 unfold Half
 by_cases h1:G<2*s
 ·have:(decide (G<2*s)||(G==2*s&&q % 2==1))=true:=by simp [h1]
  rw [this] at hK
  simp only [Bool.toNat_true] at hK
  subst hK
  rw [e3,e4]
  clear e1 e2 e3 e4 this hp
  omega
 ·by_cases h2:G=2*s
  ·by_cases h3:q % 2=1
   ·have:(decide (G<2*s)||(G==2*s&&q % 2==1))=true:=by simp [h2,h3]
    rw [this] at hK
    simp only [Bool.toNat_true] at hK
    subst hK
    rw [e3,e4]
    clear e1 e2 e3 e4 this hp
    omega
   ·have:(decide (G<2*s)||(G==2*s&&q % 2==1))=false:=by simp [h1,h3]
    rw [this] at hK
    simp only [Bool.toNat_false,Nat.add_zero] at hK
    subst hK
    rw [e1,e2]
    clear e1 e2 e3 e4 this hp
    omega
  ·have:(decide (G<2*s)||(G==2*s&&q % 2==1))=false:=by simp [h1,h2]
   rw [this] at hK
   simp only [Bool.toNat_false,Nat.add_zero] at hK
   subst hK
   rw [e1,e2]
   clear e1 e2 e3 e4 this hp
   omega
theorem half_cut (n G:Nat) (hG:0<G):Half n G (n/G+(decide (G<2*(n % G))||(G==2*(n % G)&&(n/G) % 2==1)).toNat):=
 half_lin G (n/G) (n % G) n _ _ rfl (by rw [Nat.mul_comm];exact Nat.div_add_mod n G) (Nat.mod_lt n hG) rfl
theorem cut_half (n d:Nat) (neg:Bool):Half n (2^d) (Ieee.Toward.even.cut neg n d):=by
 unfold Ieee.Toward.cut
 simp only [Nat.shiftLeft_eq,Nat.one_mul]
 by_cases h:d≤n.log2+2
 ·rw [Nat.min_eq_left h]
  exact half_cut n _ (pow_pos' d)
 ·rw [Nat.min_eq_right (by omega)]
  have hl:n<2^(n.log2+1):=Nat.lt_log2_self
  have hz:2^(n.log2+2)=2*2^(n.log2+1):=by rw [show n.log2+2=n.log2+1+1 from rfl,Nat.pow_succ];omega
  have hd:2^(n.log2+2)≤2^d:=Nat.pow_le_pow_right (by omega) (by omega)
  have e1:n/2^(n.log2+2)=0:=Nat.div_eq_of_lt (by omega)
  have e2:n % 2^(n.log2+2)=n:=Nat.mod_eq_of_lt (by omega)
  rw [e1,e2]
  have:(decide (2^(n.log2+2)<2*n)||(2^(n.log2+2)==2*n&&0 % 2==1))=false:=by
   have:¬2^(n.log2+2)<2*n:=by omega
   simp [this]
  rw [this]
  unfold Half
  simp only [Bool.toNat_false]
  omega
theorem near0_of_half {n D K j:Nat} (hD:0<D) (hK:Half n D K) (hlo:4503599627370496*D≤n∨j=0) (hhi:n<9007199254740992*D):Near0 (n*2^j) D (j*4503599627370496+K):=by
 obtain ⟨k1,k2⟩:=hK
 have hp:=pow_pos' j
 have hK2:K≤9007199254740992:=by
  by_cases h:K≤9007199254740992
  ·exact h
  ·exfalso
   have:9007199254740993*D≤K*D:=Nat.mul_le_mul_right D (by omega)
   have e:2*K*D=2*(K*D):=Nat.mul_assoc ..
   rw [e] at k1
   omega
 have lt:∀a b:Nat,a<b→a*2^j<b*2^j:=fun a b h=>(Nat.mul_lt_mul_right hp).2 h
 have eX:2*(n*2^j)=2*n*2^j:=(Nat.mul_assoc ..).symm
 have eD:∀a b:Nat,D*(a*2^j+b*2^j)=(a+b)*D*2^j:=fun a b=>by rw [←Nat.add_mul,←Nat.mul_assoc,Nat.mul_comm D]
 have ev:(j*4503599627370496+K) % 2=K % 2:=by omega
 have eVK:V (j*4503599627370496+K)=K*2^j:=by
  by_cases h:4503599627370496≤K
  ·exact V_at j K h hK2
  ·have hj:j=0:=by
    rcases hlo with hlo | hlo
    ·exfalso
     have h2:2*K+1≤2*4503599627370496-1:=by omega
     have h3:(2*K+1)*D≤(2*4503599627370496-1)*D:=Nat.mul_le_mul_right D h2
     omega
    ·exact hlo
   subst hj
   rw [Nat.zero_mul,Nat.zero_add,V_small (by omega)]
   omega
 refine ⟨?_,?_⟩
 ·by_cases h0:j*4503599627370496+K=0
  ·exact .inl h0
  refine .inr ?_
  rw [ev,eVK,eX]
  by_cases hb:4503599627370496<K∨j=0
  ·have eP:V (j*4503599627370496+K-1)=(K-1)*2^j:=by
    have e1:j*4503599627370496+K-1=j*4503599627370496+(K-1):=by omega
    rw [e1]
    by_cases h:4503599627370496≤K-1
    ·exact V_at j (K-1) h (by omega)
    ·have hj:j=0:=by omega
     subst hj
     rw [Nat.zero_mul,Nat.zero_add,V_small (by omega)]
     omega
   rw [eP,eD]
   have hKp:1≤K:=by omega
   have e2:(K-1+K)*D+D=2*K*D:=by
    have:K-1+K+1=2*K:=by omega
    rw [←this,Nat.add_mul (K-1+K) 1,Nat.one_mul]
   rcases k1 with k1 | ⟨k1,k3⟩
   ·exact .inl (lt _ _ (by omega))
   ·refine .inr ⟨?_,k3⟩
    rw [show (K-1+K)*D=2*n by omega]
  ·have hKe:K=4503599627370496:=by
    rcases hlo with hlo | hlo
    ·by_cases h:4503599627370496≤K
     ·omega
     ·exfalso
      have h2:2*K+1≤2*4503599627370496-1:=by omega
      have h3:(2*K+1)*D≤(2*4503599627370496-1)*D:=Nat.mul_le_mul_right D h2
      omega
    ·omega
   subst hKe
   refine .inl ?_
   have hlt:=V_mono (r:=j*4503599627370496+4503599627370496-1) (s:=j*4503599627370496+4503599627370496) (by omega)
   rw [eVK] at hlt
   rcases hlo with hlo | hlo
   ·have h3:D*(V (j*4503599627370496+4503599627370496-1)+4503599627370496*2^j)<D*(4503599627370496*2^j+4503599627370496*2^j):=(Nat.mul_lt_mul_left hD).2 (by omega)
    rw [eD] at h3
    have h4:(4503599627370496+4503599627370496)*D*2^j≤2*n*2^j:=Nat.mul_le_mul_right _ (by omega)
    omega
   ·omega
 ·rw [ev,eVK,eX]
  by_cases hm:K=9007199254740992
  ·subst hm
   refine .inl ?_
   have hlt:=V_mono (r:=j*4503599627370496+9007199254740992) (s:=j*4503599627370496+9007199254740992+1) (by omega)
   rw [eVK] at hlt
   have h3:D*(9007199254740992*2^j+9007199254740992*2^j)<D*(9007199254740992*2^j+V (j*4503599627370496+9007199254740992+1)):=(Nat.mul_lt_mul_left hD).2 (by omega)
   rw [eD] at h3
   have h4:2*n*2^j<(9007199254740992+9007199254740992)*D*2^j:=lt _ _ (by omega)
   omega
  ·have eP:V (j*4503599627370496+K+1)=(K+1)*2^j:=by
    rw [Nat.add_assoc]
    by_cases h:4503599627370496≤K+1
    ·exact V_at j (K+1) h (by omega)
    ·have hj:j=0:=by
      rcases hlo with hlo | hlo
      ·exfalso
       have h2:2*K+1≤2*4503599627370496-1:=by omega
       have h3:(2*K+1)*D≤(2*4503599627370496-1)*D:=Nat.mul_le_mul_right D h2
       omega
      ·exact hlo
     subst hj
     rw [Nat.zero_mul,Nat.zero_add,V_small (by omega)]
     omega
   rw [eP,eD]
   have e2:K+(K+1)=2*K+1:=by omega
   rw [e2]
   rcases k2 with k2 | ⟨k2,k3⟩
   ·exact .inl (lt _ _ k2)
   ·exact .inr ⟨by rw [k2],k3⟩
theorem nearest_near (neg:Bool) (mag:Nat) (place:Int) (hm:mag≠0):
  ∃r,Ieee.double.nearest neg mag place=Ieee.double.word neg r∧Near (mag*2^(place+1074).toNat) (2^(-(place+1074)).toNat) r:=by
 unfold Ieee.Format.nearest
 rw [if_neg hm]
 have hlp:Ieee.double.leastPlace= -1074:=by decide
 have hfb:Ieee.double.fractionBits=52:=rfl
 have hbi:Ieee.double.binade=4503599627370496:=by decide
 have hin:Ieee.double.infRung=9218868437227405312:=by decide
 simp only [hlp,hfb,hbi,hin,Nat.shiftLeft_eq]
 obtain ⟨L,hL⟩:∃L,mag.log2=L:=⟨_,rfl⟩
 have l1:2^L≤mag:=by rw [←hL];exact Nat.log2_self_le hm
 have l2:mag<2^(L+1):=by rw [←hL];exact Nat.lt_log2_self
 rw [hL]
 obtain ⟨last,hlast⟩:∃l:Int,max (place+(L:Int)-(52:Nat)) (-1074)=l:=⟨_,rfl⟩
 rw [hlast]
 refine ⟨_,rfl,?_⟩
 have hj:0≤last+1074:=by omega
 obtain ⟨j,hj2⟩:∃j:Nat,last+1074=(j:Int):=⟨(last+1074).toNat,by omega⟩
 have e1:(last- -1074).toNat=j:=by omega
 rw [e1]
 obtain ⟨a,ha⟩:∃a,(place-last).toNat=a:=⟨_,rfl⟩
 obtain ⟨b,hb⟩:∃b,(last-place).toNat=b:=⟨_,rfl⟩
 rw [ha,hb]
 have hh:=cut_half (mag*2^a) b neg
 have hup:mag*2^a<9007199254740992*2^b:=by
  have h1:mag*2^a<2^(L+1)*2^a:=(Nat.mul_lt_mul_right (pow_pos' a)).2 l2
  have h2:2^(L+1)*2^a≤2^53*2^b:=by
   rw [←Nat.pow_add,←Nat.pow_add]
   exact Nat.pow_le_pow_right (by omega) (by omega)
  have h3:(2:Nat)^53=9007199254740992:=by decide
  rw [h3] at h2
  omega
 have hlo:4503599627370496*2^b≤mag*2^a∨j=0:=by
  by_cases h0:j=0
  ·exact .inr h0
  ·refine .inl ?_
   have h1:2^L*2^a≤mag*2^a:=Nat.mul_le_mul_right _ l1
   have h2:2^52*2^b≤2^L*2^a:=by
    rw [←Nat.pow_add,←Nat.pow_add]
    exact Nat.pow_le_pow_right (by omega) (by omega)
   have h3:(2:Nat)^52=4503599627370496:=by decide
   rw [h3] at h2
   omega
 have hn:=(near0_of_half (pow_pos' b) hh hlo hup).near (pow_pos' b)
 obtain ⟨x,hx⟩:∃x,(place+1074).toNat=x:=⟨_,rfl⟩
 obtain ⟨y,hy⟩:∃y,(-(place+1074)).toNat=y:=⟨_,rfl⟩
 rw [hx,hy]
 have h1:=hn.scale (2^y) (pow_pos' y)
 refine Near.unscale (c:=2^b) ?_ (pow_pos' b)
 have e2:mag*2^x*2^b=mag*2^a*2^j*2^y:=by
  rw [Nat.mul_assoc,Nat.mul_assoc,Nat.mul_assoc,←Nat.pow_add,←Nat.pow_add,←Nat.pow_add]
  congr 2
  omega
 rw [e2,Nat.mul_comm (2^y) (2^b)]
 exact h1
end Go.Proofs.YtjhhdnnblcbdbaaGreatDoor.fl
end
section
namespace Go.Proofs.YtjhhdnnblcbdbaaGreatDoor.big
open Go.RowKit mem fl
set_option linter.unusedVariables false
def DecPost (T B:Nat) (w:World) (e:Ending) (w':World):Prop:=∃v0 v1,e= .returned (.agg #[v0,v1])∧Bn w' w'.heap.size v0 T∧Bn w' w'.heap.size v1 B∧Below w.heap.size w w'
def DcSt (w:World) (G:Nat) (A3:Option Addr) (n3 c3:Nat) (A:Option Addr) (n c:Nat) (N M:Nat) (wr:World):Prop:=
 wr.heap[G]? =some (.cells #[.slice A n c,.slice A3 n3 c3] 213)∧wr.heap[w.heap.size]? =some (.cells #[.slice none 0 0,.slice none 0 0] 213)∧
 Bn wr wr.heap.size (.slice A n c) N∧Bn wr wr.heap.size (.slice A3 n3 c3) M∧Below w.heap.size w wr∧w.heap.size<G∧G<wr.heap.size
theorem two_slices {w:World} {p:Addr} {g n1 c1 n2 c2:Nat} {A1 A2:Option Addr} {t:TypeId} {z:Int} (hcell:w.cell? p=some (.int .u32 z)) (he:p.block=g) (hb:w.heap[g]? =some (.cells #[.slice A1 n1 c1,.slice A2 n2 c2] t)):False:=by
 obtain ⟨b,o,s⟩:=p
 have hb':w.heap[b]? =_:=(congrArg (fun k=>w.heap[k]?) he).trans hb
 unfold World.cell? at hcell
 simp only [hb'] at hcell
 cases s with
 | some q=>simp at hcell
 | none=>
   match o,hcell with
   | 0,hcell=>simp at hcell
   | 1,hcell=>simp at hcell
   | o+2,hcell=>simp at hcell
theorem Bn.setCell {w:World} {B N g i n1 c1 n2 c2:Nat} {v u:Value} {A1 A2:Option Addr} {t:TypeId} (h:Bn w B v N) (hb:w.heap[g]? =some (.cells #[.slice A1 n1 c1,.slice A2 n2 c2] t)):Bn (w.setCell ⟨g,i,none⟩ u) B v N:=by
 obtain ⟨A,c,rfl,hr,hc⟩:=h
 refine ⟨A,c,rfl,?_,hc⟩
 intro j y hj
 obtain ⟨ad,rfl,hB,hcell⟩:=hr j y hj
 refine ⟨ad,rfl,hB,?_⟩
 have hne:(ad.add j).block≠g:=by
  intro he
  have hy:∃z:Nat,y= .int .u32 (z:Int):=by
   unfold us at hj
   rw [List.getElem?_map] at hj
   cases hq:(wd N)[j]? with
   | none=>rw [hq] at hj;cases hj
   | some z=>rw [hq] at hj;exact ⟨z,by simpa using hj.symm⟩
  obtain ⟨z,rfl⟩:=hy
  exact two_slices hcell he hb
 rw [←hcell]
 exact World.cell?_of_block (Below.heap_setCell _ _ _ _ hne)
theorem DcSt.call {w wr w2:World} {G n3 c3 n c N M:Nat} {A3 A:Option Addr} (h:DcSt w G A3 n3 c3 A n c N M wr) (hb:Below wr.heap.size wr w2):DcSt w G A3 n3 c3 A n c N M w2:=by
 obtain ⟨h1,h2,h3,h4,h5,h6,h7⟩:=h
 have hs:=hb.size
 exact ⟨(hb.block _ h7).trans h1,(hb.block _ (by omega)).trans h2,(h3.below hb).more hs,(h4.below hb).more hs,h5.trans (hb.mono (by omega)),h6,by omega⟩
theorem DcSt.store {w wr:World} {G n3 c3 n c N M n' c' N':Nat} {A3 A A':Option Addr} (h:DcSt w G A3 n3 c3 A n c N M wr) (hb:Bn wr wr.heap.size (.slice A' n' c') N'):DcSt w G A3 n3 c3 A' n' c' N' M (wr.setCell ⟨G,0,none⟩ (.slice A' n' c')):=by
 obtain ⟨h1,h2,h3,h4,h5,h6,h7⟩:=h
 refine ⟨?_,(Below.heap_setCell _ _ _ _ (by simp;omega)).trans h2,?_,?_,h5.setCell (by simp;omega) _,h6,by simpa using h7⟩
 ·have:=blk_set h1 0 (.slice A' n' c')
  simpa using this
 ·have:=Bn.setCell (i:=0) (u:= .slice A' n' c') hb h1
  simpa using this
 ·have:=Bn.setCell (i:=0) (u:= .slice A' n' c') h4 h1
  simpa using this
theorem DcSt.fin {w wr:World} {G n3 c3 n c N M:Nat} {A3 A:Option Addr} (h:DcSt w G A3 n3 c3 A n c N M wr):
  DecPost N M w (.returned (.agg #[.slice A n c,.slice A3 n3 c3])) ((wr.setCell ⟨w.heap.size,0,none⟩ (.slice A n c)).setCell ⟨w.heap.size,1,none⟩ (.slice A3 n3 c3)):=by
 obtain ⟨h1,h2,h3,h4,h5,h6,h7⟩:=h
 have h8:(wr.setCell ⟨w.heap.size,0,none⟩ (.slice A n c)).heap[w.heap.size]? =some (.cells #[.slice A n c,.slice none 0 0] 213):=by
  have:=blk_set h2 0 (.slice A n c)
  simpa using this
 refine ⟨_,_,rfl,?_,?_,(h5.setCell (by simp) _).setCell (by simp) _⟩
 ·have:=Bn.setCell (i:=1) (u:= .slice A3 n3 c3) (Bn.setCell (i:=0) (u:= .slice A n c) h3 h2) h8
  simpa using this
 ·have:=Bn.setCell (i:=1) (u:= .slice A3 n3 c3) (Bn.setCell (i:=0) (u:= .slice A n c) h4 h2) h8
  simpa using this
end Go.Proofs.YtjhhdnnblcbdbaaGreatDoor.big
end
section
namespace Go.Proofs.YtjhhdnnblcbdbaaGreatDoor.big
open Go.RowKit mem fl
set_option linter.unusedVariables false
theorem Bn.alloc {w:World} {N:Nat} {v:Value} (h:Bn w w.heap.size v N) (o:Obj):Bn (w.alloc o) (w.alloc o).heap.size v N:=(h.below ((Below.refl _ _).alloc (Nat.le_refl _) o)).more (by simp)
def spM (b:Nat):Nat:=if b/4503599627370496 % 2048=0 then b % 4503599627370496 else b % 4503599627370496+4503599627370496
def spE (b:Nat):Int:=if b/4503599627370496 % 2048=0 then-1074 else (b/4503599627370496 % 2048:Nat)-1075
def SpPost (b:Nat) (w:World) (e:Ending) (w':World):Prop:=e= .returned (.tuple #[.int .u64 (spM b:Int),.int .i64 (spE b)])∧w=w'
theorem and_low (b k:Nat) (hb:b<18446744073709551616) (hk:k≤63):bits .and .u64 (b:Int) ((2^k-1:Nat):Int)=((b % 2^k:Nat):Int):=by
 have h1:2^k≤2^63:=Nat.pow_le_pow_right (by decide) hk
 rw [u64_and_nat b (2^k-1) hb (by have:(2:Nat)^63=9223372036854775808:=by decide
                                  omega),Nat.and_two_pow_sub_one_eq_mod]
theorem or_join' (x y k:Nat) (hx:x<18446744073709551616) (hy:y<18446744073709551616) (h1:x % 2^k=0) (h2:y<2^k):bits .or .u64 (y:Int) (x:Int)=((y+x:Nat):Int):=by
 rw [u64_or_nat y x hy hx,Nat.or_comm,nat_join k x y h1 h2,Nat.add_comm]
theorem V_sp {r:Nat} (h:r<9218868437227405312):V r=spM r*2^(spE r+1074).toNat:=by
 unfold V spM spE
 have e1:r/4503599627370496 % 2048=r/4503599627370496:=by omega
 rw [e1]
 by_cases h1:r<4503599627370496
 ·have e2:r/4503599627370496=0:=by omega
  rw [if_pos h1,if_pos e2,if_pos e2]
  have e3:r % 4503599627370496=r:=by omega
  rw [e3]
  simp
 ·have e2:¬r/4503599627370496=0:=by omega
  rw [if_neg h1,if_neg e2,if_neg e2,Nat.add_comm]
  congr 2
  omega
theorem spM_lt (r:Nat):spM r<9007199254740992:=by
 unfold spM
 split <;> omega
theorem spE_bd {r:Nat} (h:r<9218868437227405312): -1074≤spE r∧spE r≤971:=by
 unfold spE
 have:r/4503599627370496 % 2048≤2046:=by omega
 split <;> omega
def BiSt (X B lo hi:Nat):Prop:=lo≤hi∧hi≤9218868437227405311∧B*V lo≤X∧(hi=9218868437227405311∨X<B*V (hi+1))
def BtSt (w:World) (v0 v1:Value) (T B lo hi:Nat) (wr:World):Prop:=
 BiSt (T*2^1074) B lo hi∧Below w.heap.size w wr∧Bn wr wr.heap.size v0 T∧Bn wr wr.heap.size v1 B∧wr.cell? ⟨w.heap.size,0,none⟩=some v0∧wr.cell? ⟨w.heap.size,1,none⟩=some v1∧w.heap.size<wr.heap.size
theorem BtSt.call {w wr w2:World} {v0 v1:Value} {T B lo hi:Nat} (h:BtSt w v0 v1 T B lo hi wr) (hb:Below wr.heap.size wr w2):BtSt w v0 v1 T B lo hi w2:=by
 obtain ⟨h1,h2,h3,h4,h5,h6,h7⟩:=h
 have hs:=hb.size
 exact ⟨h1,h2.trans (hb.mono (by omega)),(h3.below hb).more hs,(h4.below hb).more hs,(hb.cell (p:=⟨w.heap.size,0,none⟩) h7).trans h5,(hb.cell (p:=⟨w.heap.size,1,none⟩) h7).trans h6,by omega⟩
theorem BtSt.go {w wr:World} {v0 v1:Value} {T B lo hi lo' hi':Nat} (h:BtSt w v0 v1 T B lo hi wr) (h1:BiSt (T*2^1074) B lo' hi'):BtSt w v0 v1 T B lo' hi' wr:=⟨h1,h.2⟩
end Go.Proofs.YtjhhdnnblcbdbaaGreatDoor.big
end
