/- The table of powers of ten: its rows by formula; bounds. PLAIN LEAN: a decimal of at most 19 digits scaled and rounded is the nearest float. -/
import Derived.Test.YtjhhdnnblcbdbaaGreatDoorYUs
import GoSem.PinnedTables
import Derived.Test.YtjhhdnnblcbdbaaGreatDoorGNear
section
set_option linter.unusedVariables false
namespace Go.Proofs.YtjhhdnnblcbdbaaGreatDoor.us
theorem rows_eq:Go.Pinned.pow10Rows=(List.range 696).map fun i=>(tabH i,tabL i):=by decide+kernel
def boundsB:Bool:=(List.range 696).all fun i=>decide (170141183460469231731687303715884105728*tabB i≤tabA i)&&decide (tabA i<340282365653287863235145205935065006080*tabB i)&&decide (9223372036854775808≤tabH i)&&decide (tabH i<18446744073709551616)&&decide (tabL i<18446744073709551616)
theorem boundsB_ok:boundsB=true:=by decide+kernel
theorem bounds (i:Nat) (h:i<696):170141183460469231731687303715884105728*tabB i≤tabA i∧tabA i<340282365653287863235145205935065006080*tabB i∧9223372036854775808≤tabH i∧tabH i<18446744073709551616∧tabL i<18446744073709551616:=by
 have h1:=List.all_eq_true.1 boundsB_ok i (List.mem_range.2 h)
 simp only [Bool.and_eq_true,decide_eq_true_eq] at h1
 exact ⟨h1.1.1.1.1,h1.1.1.1.2,h1.1.1.2,h1.1.2,h1.2⟩
end Go.Proofs.YtjhhdnnblcbdbaaGreatDoor.us
end
section
set_option linter.unusedVariables false
namespace Go.Proofs.YtjhhdnnblcbdbaaGreatDoor.us
open fl
def rnd (u:Nat):Nat:=(u+1+u/4 % 2)/4
theorem half_unr (Y D:Nat) (hD:0<D):Half Y (4*D) (rnd (unr Y D)):=by
 have hd:=Nat.div_add_mod Y D
 have hm:=Nat.mod_lt Y hD
 obtain ⟨F,hF⟩:∃F,Y/D=F:=⟨_,rfl⟩
 obtain ⟨r,hr⟩:∃r,Y % D=r:=⟨_,rfl⟩
 have hu:unr Y D=if r=0 then F else odd1 F:=by unfold unr;rw [hF,hr]
 rw [hF,hr] at hd
 rw [hr] at hm
 rw [hu]
 obtain ⟨K,hK⟩:∃K,rnd (if r=0 then F else odd1 F)=K:=⟨_,rfl⟩
 rw [hK]
 have hF4:F=4*(F/4)+F % 4:=by omega
 have hc:=Nat.mod_lt F (show 0<4 by omega)
 obtain ⟨G,hG⟩:∃G,F/4=G:=⟨_,rfl⟩
 obtain ⟨c,hcc⟩:∃c,F % 4=c:=⟨_,rfl⟩
 rw [hG,hcc] at hF4
 rw [hcc] at hc
 have hDF:D*F=4*(G*D)+c*D:=by rw [hF4,Nat.mul_add,Nat.mul_comm D c,←Nat.mul_assoc,Nat.mul_comm D 4,Nat.mul_assoc,Nat.mul_comm D G]
 have hk1:2*K*(4*D)=8*(K*D):=by rw [Nat.mul_assoc,←Nat.mul_assoc K 4 D,Nat.mul_comm K 4,Nat.mul_assoc,←Nat.mul_assoc]
 have hk2:(2*K+1)*(4*D)=8*(K*D)+4*D:=by rw [Nat.add_mul,hk1,Nat.one_mul]
 have hKv:(K=G∧(c<2∨(c=2∧r=0∧G % 2=0)))∨(K=G+1∧(c=3∨(c=2∧(r≠0∨G % 2=1)))):=by
  rw [←hK]
  unfold rnd odd1
  split <;> omega
 unfold Half
 rw [hk1,hk2]
 rcases hKv with ⟨rfl,h⟩ | ⟨rfl,h⟩
 ·rcases h with h | ⟨h,h2,h3⟩
  ·have:c=0∨c=1:=by omega
   rcases this with rfl | rfl
   ·rw [Nat.zero_mul] at hDF;refine ⟨.inl (by omega),.inl (by omega)⟩
   ·rw [Nat.one_mul] at hDF;refine ⟨.inl (by omega),.inl (by omega)⟩
  ·subst h
   refine ⟨.inl (by omega),.inr ⟨by omega,h3⟩⟩
 ·have e:(G+1)*D=G*D+D:=by rw [Nat.add_mul,Nat.one_mul]
  rw [e]
  rcases h with rfl | ⟨rfl,h⟩
  ·refine ⟨.inl (by omega),.inl (by omega)⟩
  ·rcases h with h | h
   ·refine ⟨.inl (by omega),.inl (by omega)⟩
   ·by_cases h0:r=0
    ·refine ⟨.inr ⟨by omega,by omega⟩,.inl (by omega)⟩
    ·refine ⟨.inl (by omega),.inl (by omega)⟩
theorem unr_shift (Y D:Nat) (hD:0<D):(if unr Y D % 2=0 then unr Y D/2 else odd1 (unr Y D/2))=unr Y (D*2):=by
 have hd:=Nat.div_add_mod Y D
 have hm:=Nat.mod_lt Y hD
 have h2:Y/(D*2)=Y/D/2:=(Nat.div_div_eq_div_mul Y D 2).symm
 have h3:Y % (D*2)=0↔(Y % D=0∧Y/D % 2=0):=by
  constructor
  ·intro h
   obtain ⟨c,hc⟩:=Nat.dvd_of_mod_eq_zero h
   have e:Y=D*(2*c):=by rw [hc,Nat.mul_assoc]
   rw [e]
   exact ⟨Nat.mul_mod_right _ _,by rw [Nat.mul_div_cancel_left _ hD];omega⟩
  ·rintro ⟨h4,h5⟩
   obtain ⟨c,hc⟩:=Nat.dvd_of_mod_eq_zero h5
   rw [h4,hc,Nat.add_zero,←Nat.mul_assoc] at hd
   rw [←hd]
   exact Nat.mul_mod_right _ _
 unfold unr
 rw [h2]
 by_cases h4:Y % D=0
 ·rw [if_pos h4]
  by_cases h5:Y/D % 2=0
  ·rw [if_pos h5,if_pos (h3.2 ⟨h4,h5⟩)]
  ·rw [if_neg h5,if_neg (fun h=>h5 (h3.1 h).2)]
 ·rw [if_neg h4,if_neg (fun h=>h4 (h3.1 h).1)]
  unfold odd1
  rw [if_neg (by omega)]
  omega
theorem near0_shift {X B r:Nat} (h:Near (X*2) (B*2) r):Near X B r:=h.unscale (by omega)
def pfR (j u:Nat):Nat:=if 36028797018963966≤u then (j+1)*4503599627370496+rnd (if u % 2=0 then u/2 else odd1 (u/2)) else j*4503599627370496+rnd u
theorem pf_near (Y Dd j:Nat) (hD:0<Dd) (hlo:4503599627370496*(4*Dd)≤Y∨(j=0∧Y<9007199254740992*(4*Dd))) (hhi:Y<18014398509481984*(4*Dd)):
  Near (Y*2^j) (4*Dd) (min (pfR j (unr Y Dd)) 9218868437227405312):=by
 have hh:=half_unr Y Dd hD
 have hd:=Nat.div_add_mod Y Dd
 have hm:=Nat.mod_lt Y hD
 by_cases hbig:9007199254740992*(4*Dd)≤Y
 ·
  have hF:36028797018963968≤Y/Dd:=(Nat.le_div_iff_mul_le hD).2 (by omega)
  have hu:36028797018963966≤unr Y Dd:=by unfold unr odd1;split <;> omega
  unfold pfR
  rw [if_pos hu,unr_shift Y Dd hD]
  have hh2:=half_unr Y (Dd*2) (by omega)
  have h1:=(near0_of_half (n:=Y) (D:=4*(Dd*2)) (j:=j+1) (by omega) hh2 (.inl (by omega)) (by omega)).near (by omega)
  refine near0_shift ?_
  rw [Nat.pow_succ,←Nat.mul_assoc,←Nat.mul_assoc] at h1
  exact h1
 ·have h1:=(near0_of_half (n:=Y) (D:=4*Dd) (j:=j) (by omega) hh (by omega) (by omega)).near (by omega)
  unfold pfR
  by_cases hu:36028797018963966≤unr Y Dd
  ·
   rw [if_pos hu]
   have hF1:Y/Dd<36028797018963968:=(Nat.div_lt_iff_lt_mul hD).2 (by omega)
   obtain ⟨F,hF⟩:∃F,Y/Dd=F:=⟨_,rfl⟩
   have hu2:unr Y Dd=F∨unr Y Dd=odd1 F:=by unfold unr;rw [hF];split <;> simp
   obtain ⟨u,hue⟩:∃u,unr Y Dd=u:=⟨_,rfl⟩
   rw [hue] at hu hu2 h1 ⊢
   rw [hF] at hF1
   unfold odd1 at hu2
   have hK:rnd u=9007199254740992:=by unfold rnd;omega
   have hK2:rnd (if u % 2=0 then u/2 else odd1 (u/2))=4503599627370496:=by unfold rnd odd1;split <;> omega
   rw [hK2]
   rw [hK] at h1
   rw [show (j+1)*4503599627370496+4503599627370496=j*4503599627370496+9007199254740992 by omega]
   exact h1
  ·rw [if_neg hu]
   exact h1
end Go.Proofs.YtjhhdnnblcbdbaaGreatDoor.us
end
