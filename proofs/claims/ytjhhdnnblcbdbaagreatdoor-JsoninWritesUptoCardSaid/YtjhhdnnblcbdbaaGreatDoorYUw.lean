/- The toolchain's scaling, walked: log2Pow10, unmin, round, bool2, uscale. -/
import Derived.Test.YtjhhdnnblcbdbaaGreatDoorYUs
import Derived.Test.YtjhhdnnblcbdbaaGreatDoorShelf
import Derived.Test.YtjhhdnnblcbdbaaGreatDoorGNear
import Derived.Deep.RegionWith
import Derived.Outline
namespace Go.Proofs.YtjhhdnnblcbdbaaGreatDoor.uw
open Go.RowKit mem fl big us
set_option linter.unusedVariables false
theorem lg_any (x:Int) (w:World) (h1: -1100000≤x) (h2:x≤1100000):Calls Tryz.prog 180 #[.int .i64 x] w fun e w'=>e= .returned (.int .i64 (x*108853/32768))∧w=w':=by
 go_enter Tryz.func180,Tryz.ntmps180
 go_wp2_with fail
 go_ret
 exact ⟨rfl,rfl⟩
theorem unmin_any (w:World):Calls Tryz.prog 183 #[.int .u64 9007199254740992] w fun e w'=>e= .returned (.int .u64 36028797018963966)∧w=w':=by
 go_enter Tryz.func183,Tryz.ntmps183
 go_wp2_with fail
 go_ret
 exact ⟨rfl,rfl⟩
def rnd (u:Nat):Nat:=(u+1+u/4 % 2)/4
theorem round_any (u:Nat) (w:World) (h:u<4611686018427387904):Calls Tryz.prog 185 #[.int .u64 (u:Int)] w fun e w'=>e= .returned (.int .u64 (rnd u:Int))∧w=w':=by
 have hb:bits .and .u64 ((u:Int)/4) 1=((u:Int)/4 % 2):=by
  have:=and_low (u/4) 1 (by omega) (by decide)
  simpa using this
 have hr:((rnd u:Nat):Int)=((u:Int)+1+(u:Int)/4 % 2)/4:=by unfold rnd;simp
 have HR:=Lib.hid hr
 clear hr
 go_enter Tryz.func185,Tryz.ntmps185
 go_wp2_with fail
 go_ret
 exact ⟨by rw [HR.out];rfl,rfl⟩
theorem b2u_any (b:Bool) (w:World):Calls Tryz.prog 156 #[.bool b] w fun e w'=>e= .returned (.int .u64 (if b then 1 else 0))∧w=w':=by
 cases b
 all_goals
  go_enter Tryz.func156,Tryz.ntmps156
  go_wp2_with fail
  go_ret
  exact ⟨rfl,rfl⟩
theorem b2u_t (w:World):Calls Tryz.prog 156 #[.bool true] w fun e w'=>e= .returned (.int .u64 1)∧w'=w:=(b2u_any true w).mono fun _ _ h=>⟨h.1,h.2.symm⟩
theorem b2u_f (w:World):Calls Tryz.prog 156 #[.bool false] w fun e w'=>e= .returned (.int .u64 0)∧w'=w:=(b2u_any false w).mono fun _ _ h=>⟨h.1,h.2.symm⟩
theorem mul_hi_le (x y:Nat) (hx:x<18446744073709551616) (hy:y<18446744073709551616):x*y/18446744073709551616≤18446744073709551614:=by
 have h:x*y≤18446744073709551615*18446744073709551615:=Nat.mul_le_mul (by omega) (by omega)
 omega
theorem wrap_lo (mid m2:Nat) (h1:mid<m2) (h2:m2≤18446744073709551614):∃D:Nat,IntKind.u64.wrap ((mid:Int)-(m2:Int))=(D:Int)∧1<D:=⟨18446744073709551616+mid-m2,by rw [IntKind.wrap_u64];omega,by omega⟩
theorem wrap_hi (mid m2:Nat) (h1:¬mid<m2) (h2:mid<18446744073709551616):IntKind.u64.wrap ((mid:Int)-(m2:Int))=((mid-m2:Nat):Int):=by rw [IntKind.wrap_u64];omega
theorem wrap_pos (n:Int) (h0:0≤n) (h1:n<2^63):IntKind.i64.wrap n=n:=by
 have h63:(2:Int)^63=9223372036854775808:=by decide
 rw [h63] at h1
 rw [IntKind.wrap_i64]
 omega
theorem and63 (s:Nat) (hs:s<64):bits .and .i64 (s:Int) 63=(s:Int):=by
 have h63:(s:Int)<2^63:=by
  have h63:(2:Int)^63=9223372036854775808:=by decide
  rw [h63]
  omega
 have h:=bits_mask .i64 63 (by decide) wrap_pos 6 (by decide) (s:Int) (by omega) h63
 have e:(2:Int)^6-1=63:=by decide
 have e2:(2:Int)^6=64:=by decide
 rw [e,e2] at h
 rw [h]
 omega
theorem nat_or_one_even (q:Nat) (h:q % 2=0):1||| q=q/2*2+1:=by
 have:=nat_join 1 q 1 (by simpa using h) (by decide)
 rw [Nat.or_comm,this]
 omega
theorem nat_or_one_odd (q:Nat) (h:q % 2=1):q||| 1=q/2*2+1:=by
 have h1:q=(q-1)||| 1:=by
  have:=nat_join 1 (q-1) 1 (by simp;omega) (by decide)
  rw [this]
  omega
 conv=>lhs;rw [h1]
 rw [Nat.or_assoc,Nat.or_self,←h1]
 omega
theorem or_one (q:Nat) (h:q<18446744073709551616):bits .or .u64 (q:Int) 1=((odd1 q:Nat):Int):=by
 have h1:=u64_or_nat q 1 h (by omega)
 have e:q||| 1=odd1 q:=by
  unfold odd1
  rcases Nat.mod_two_eq_zero_or_one q with h0 | h0
  ·rw [Nat.or_comm,nat_or_one_even q h0]
  ·rw [nat_or_one_odd q h0]
 rw [e] at h1
 exact h1
def UsPost (x ph pl s:Nat) (w:World) (e:Ending) (w':World):Prop:=e= .returned (.int .u64 ((usc x ph pl (2^s):Nat):Int))∧∃n,w'=w.drewN n
set_option maxRecDepth 100000 in
set_option maxHeartbeats 2000000 in
theorem uscale_any (x ph pl s g:Nat) (w:World) (hx:x<18446744073709551616) (hph:ph<18446744073709551616) (hpl:pl<18446744073709551616) (hs:s<64)
  (h0:w.cell? ⟨g,0,none⟩=some (.int .u64 (ph:Int))) (h1:w.cell? ⟨g,1,none⟩=some (.int .u64 (pl:Int))) (h2:w.cell? ⟨g,2,none⟩=some (.int .i64 (s:Int))) (hhi:0<x*ph/18446744073709551616):
  Calls Tryz.prog 182 #[.int .u64 (x:Int),.pointer (some ⟨g,0,none⟩)] w (UsPost x ph pl s w):=by
 have HM1:=Lib.hid (fun w=>shelf.bits_Mul64 x ph hx hph w)
 have HM2:=Lib.hid (fun w=>shelf.bits_Mul64 x pl hx hpl w)
 have hand:=and63 s hs
 have hpb:x*ph/18446744073709551616<18446744073709551616:=by
  have:x*ph<18446744073709551616*18446744073709551616:=Nat.mul_lt_mul_of_lt_of_lt hx hph
  exact Nat.div_lt_of_lt_mul this
 have hqb:=mul_hi_le x pl hx hpl
 have hmb:x*ph % 18446744073709551616<18446744073709551616:=Nat.mod_lt _ (by omega)
 unfold UsPost usc
 have hTp:=Nat.two_pow_pos s
 have hT:((2:Int)^s)=((2^s:Nat):Int):=by simp
 generalize x*ph/18446744073709551616=hi at*
 generalize x*ph % 18446744073709551616=mid at*
 generalize x*pl/18446744073709551616=m2 at*
 generalize 2^s=T at*
 have hdm:=Nat.div_add_mod hi T
 have hml:=Nat.mod_lt hi hTp
 have hqle:=Nat.div_le_self hi T
 obtain ⟨q,hq⟩:∃q,hi/T=q:=⟨_,rfl⟩
 obtain ⟨r,hr⟩:∃r,hi % T=r:=⟨_,rfl⟩
 rw [hq,hr] at hdm
 rw [hr] at hml
 rw [hq] at hqle
 have hqi:(hi:Int)/(T:Int)=(q:Int):=by rw [←hq];simp
 obtain ⟨p,hp⟩:∃p,q*T=p:=⟨_,rfl⟩
 have hpi:(q:Int)*(T:Int)=(p:Int):=by rw [←hp];simp
 have hph2:p+r=hi:=by rw [←hp,Nat.mul_comm];exact hdm
 have hor:=or_one q (by omega)
 have hor0:bits .or .u64 (q:Int) 0=(q:Int):=by
  have:=u64_or_nat q 0 (by omega) (by omega)
  rw [Nat.or_zero] at this
  exact this
 rw [hr,hq]
 by_cases hr0:r≠0
 ·rw [if_pos hr0]
  have d1:((p:Int) !=(hi:Int))=true:=by simp;omega
  have hqb2:(q:Int)≤18446744073709551615:=by omega
  have hpb2:(p:Int)≤18446744073709551615:=by omega
  clear hr0 hph2 hdm hml hqle hp hq hr hqb hmb HM2
  go_enter Tryz.func182,Tryz.ntmps182
  go_wp2_with fail
  refine (HM1.out w).mono ?_
  rintro e w' ⟨rfl,rfl⟩
  go_wp2_with fail
  go_ret
  exact ⟨rfl,0,rfl⟩
 ·rw [if_neg hr0]
  have hphi:p=hi:=by omega
  subst hphi
  have d1:((p:Int) !=(p:Int))=false:=by simp
  clear hr0 hph2 hdm hml hqle hp hq hr
  by_cases hb1:mid<m2
  ·rw [if_pos hb1]
   obtain ⟨p1,hp1⟩:∃p1,p-1=p1:=⟨_,rfl⟩
   obtain ⟨q1,hq1⟩:∃q1,p1/T=q1:=⟨_,rfl⟩
   have hq1i:(p1:Int)/(T:Int)=(q1:Int):=by rw [←hq1];simp
   have hq1b:q1<18446744073709551616:=by
    have:=Nat.div_le_self p1 T
    omega
   have hor1:=or_one q1 hq1b
   have hpi:(p:Int)-1=(p1:Int):=by omega
   obtain ⟨D,hw,hD⟩:=wrap_lo mid m2 hb1 hqb
   have d2:decide (1<(D:Int))=true:=decide_eq_true (by omega)
   have d3:decide (mid<m2)=true:=decide_eq_true hb1
   have d4:decide ((mid:Int)<(m2:Int))=true:=decide_eq_true (by omega)
   have hwp:IntKind.u64.wrap (p1:Int)=(p1:Int):=by rw [IntKind.wrap_u64];omega
   rw [hp1,hq1]
   clear hb1 hD hor hp1 hq1 hqb hmb
   go_enter Tryz.func182,Tryz.ntmps182
   go_wp2_with fail
   refine (HM1.out w).mono ?_
   rintro e w' ⟨rfl,rfl⟩
   go_wp2_with fail
   refine (HM2.out _).mono ?_
   rintro e w'2 ⟨rfl,rfl⟩
   go_wp2_with fail
   refine (b2u_t _).mono ?_
   rintro e w'3 ⟨rfl,rfl⟩
   go_wp2_with fail
   go_quiet ((go_at_call 156;exact Calls.quiet_of_same (b2u_t _)))
   go_wp2_with fail
   go_ret
   exact ⟨rfl,_,rfl⟩
  ·rw [if_neg hb1]
   have hw:=wrap_hi mid m2 hb1 hmb
   obtain ⟨D,hD⟩:∃D,mid-m2=D:=⟨_,rfl⟩
   rw [hD] at hw ⊢
   have d3:decide (mid<m2)=false:=decide_eq_false hb1
   have d4:decide ((mid:Int)<(m2:Int))=false:=decide_eq_false (by omega)
   by_cases hb2:1<D
   ·rw [if_pos hb2]
    have d2:decide (1<(D:Int))=true:=decide_eq_true (by omega)
    clear hb1 hb2 hD hqb hmb
    go_enter Tryz.func182,Tryz.ntmps182
    go_wp2_with fail
    refine (HM1.out w).mono ?_
    rintro e w' ⟨rfl,rfl⟩
    go_wp2_with fail
    refine (HM2.out _).mono ?_
    rintro e w'2 ⟨rfl,rfl⟩
    go_wp2_with fail
    refine (b2u_f _).mono ?_
    rintro e w'3 ⟨rfl,rfl⟩
    go_wp2_with fail
    go_quiet ((go_at_call 156;exact Calls.quiet_of_same (b2u_t _)))
    go_wp2_with fail
    go_ret
    exact ⟨rfl,_,rfl⟩
   ·rw [if_neg hb2]
    have d2:decide (1<(D:Int))=false:=decide_eq_false (by omega)
    clear hb1 hb2 hD hqb hmb hor
    go_enter Tryz.func182,Tryz.ntmps182
    go_wp2_with fail
    refine (HM1.out w).mono ?_
    rintro e w' ⟨rfl,rfl⟩
    go_wp2_with fail
    refine (HM2.out _).mono ?_
    rintro e w'2 ⟨rfl,rfl⟩
    go_wp2_with fail
    refine (b2u_f _).mono ?_
    rintro e w'3 ⟨rfl,rfl⟩
    go_wp2_with fail
    go_quiet ((go_at_call 156;exact Calls.quiet_of_same (b2u_f _)))
    go_wp2_with fail
    go_ret
    exact ⟨rfl,_,rfl⟩
end Go.Proofs.YtjhhdnnblcbdbaaGreatDoor.uw
