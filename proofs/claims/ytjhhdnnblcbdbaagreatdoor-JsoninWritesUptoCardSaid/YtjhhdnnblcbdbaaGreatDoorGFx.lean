/- PLAIN LEAN: the exact floats of atof64exact. atof64exact, walked. atof64exact at every mantissa and exponent: where it answers, the nearest float. -/
import Derived.Test.YtjhhdnnblcbdbaaGreatDoorGRb
import Derived.Test.YtjhhdnnblcbdbaaGreatDoorGPw
import Derived.Laws.FloatArith
section
namespace Go.Proofs.YtjhhdnnblcbdbaaGreatDoor.big
open Go.RowKit mem fl
set_option linter.unusedVariables false
def p10:List Nat:=[4607182418800017408,4621819117588971520,4636737291354636288,4652007308841189376,4666723172467343360,4681608360884174848,4696837146684686336,4711630319722168320,4726483295884279808,4741671816366391296,4756540486875873280,4771362005757984768,4786511204640096256,4801453603149578240,4816244402031689728,4831355200913801216,4846369599423283200,4861130398305394688,4876203697187506176,4891288408196988160,4906019910204099648,4921056587992461136,4936209963552724370]
def p10B:Bool:=(List.range 23).all fun k=>decide (0<p10.getD k 0)&&decide (p10.getD k 0<9218868437227405312)&&decide (spM (p10.getD k 0)*2^(spE (p10.getD k 0)+1074).toNat=10^k*2^1074)&&decide (spE (p10.getD k 0)≤400)
theorem p10B_ok:p10B=true:=by decide+kernel
theorem p10_at (k:Nat) (h:k≤22):0<p10.getD k 0∧p10.getD k 0<9218868437227405312∧V (p10.getD k 0)=10^k*2^1074∧spE (p10.getD k 0)≤400:=by
 have h1:=List.all_eq_true.1 p10B_ok k (List.mem_range.2 (by omega))
 rw [Bool.and_eq_true,Bool.and_eq_true,Bool.and_eq_true] at h1
 have a:=of_decide_eq_true h1.1.1.1
 have b:=of_decide_eq_true h1.1.1.2
 have c:=of_decide_eq_true h1.1.2
 exact ⟨a,b,(V_sp b).trans c,of_decide_eq_true h1.2⟩
theorem whole_rung (m:Nat) (h0:0<m) (h:m≤9007199254740992):∃r,V r=m*2^1074∧0<r∧r<9218868437227405312:=by
 have a1:=Nat.log2_self_le (show m≠0 by omega)
 have a2:m<2^(m.log2+1):=Nat.lt_log2_self
 obtain ⟨L,hL⟩:∃L,m.log2=L:=⟨_,rfl⟩
 rw [hL] at a1 a2
 have h53:(2:Nat)^53=9007199254740992:=by decide
 have h52:(2:Nat)^52=4503599627370496:=by decide
 by_cases h1:m=9007199254740992
 ·subst h1
  refine ⟨1074*4503599627370496+9007199254740992,V_at 1074 9007199254740992 (by omega) (by omega),by omega,by omega⟩
 ·have hL2:L≤52:=by
   rcases Nat.lt_or_ge L 53 with g | g
   ·omega
   ·have:=Nat.pow_le_pow_right (show 0<2 by decide) g
    rw [h53] at this
    omega
  have k1:=Nat.mul_le_mul_right (2^(52-L)) a1
  have k2:=Nat.mul_lt_mul_of_pos_right a2 (Nat.two_pow_pos (52-L))
  rw [←Nat.pow_add,show L+(52-L)=52 by omega,h52] at k1
  rw [←Nat.pow_add,show L+1+(52-L)=53 by omega,h53] at k2
  refine ⟨(1022+L)*4503599627370496+m*2^(52-L),?_,by omega,by omega⟩
  rw [V_at _ _ k1 (by omega),Nat.mul_assoc,←Nat.pow_add]
  have key:∀n:Nat,n=1074→m*2^(52-L+(1022+L))=m*2^n:=fun n hn=>by
   rw [show 52-L+(1022+L)=n by omega]
  exact key 1074 rfl
theorem whole_exact (m r:Nat) (h0:0<m) (h:m≤9007199254740992) (hN:Near (m*2^1074) 1 r):V r=m*2^1074∧0<r∧r<9218868437227405312:=by
 obtain ⟨r0,e1,e2,e3⟩:=whole_rung m h0 h
 have:=Near.unique hN (near_exact e1 (by omega)) (by decide)
 subst this
 exact ⟨e1,e2,e3⟩
theorem exact_mul (f m k P:Nat) (hf:V f=m*P) (hP:P=2^1074) (hf0:0<f) (hf1:f<9218868437227405312) (hk:k≤22):
  ∃r,Ieee.double.mul f (p10.getD k 0)=some r∧Near (m*10^k*P) 1 r:=by
 obtain ⟨a,b,c,_⟩:=p10_at k hk
 obtain ⟨r,h1,h2⟩:=mul_near f _ hf0 a hf1 b
 refine ⟨r,h1,?_⟩
 rw [←hP] at c h2
 have hp:0<P:=Nat.lt_of_lt_of_eq (Nat.two_pow_pos 1074) hP.symm
 rw [hf,c] at h2
 have e:m*P*(10^k*P)=m*10^k*P*P:=by ac_rfl
 rw [e] at h2
 refine Near.unscale (c:=P) ?_ hp
 rw [Nat.one_mul]
 exact h2
theorem exact_div (f m k P:Nat) (hf:V f=m*P) (hP:P=2^1074) (hf0:0<f) (hf1:f<9218868437227405312) (hk:k≤22) (hx: -400≤spE f):
  ∃r,Ieee.double.div f (p10.getD k 0)=some r∧Near (m*P) (10^k) r:=by
 obtain ⟨a,b,c,d⟩:=p10_at k hk
 obtain ⟨r,h1,h2⟩:=div_near f _ hf0 a hf1 b hx d
 refine ⟨r,h1,?_⟩
 rw [←hP] at c h2
 have hp:0<P:=Nat.lt_of_lt_of_eq (Nat.two_pow_pos 1074) hP.symm
 rw [hf,c] at h2
 exact h2.unscale hp
end Go.Proofs.YtjhhdnnblcbdbaaGreatDoor.big
end
section
namespace Go.Proofs.YtjhhdnnblcbdbaaGreatDoor.uw
open Go.RowKit mem fl big us
set_option linter.unusedVariables false
def InfoAt (w:World):Prop:=w.cell? ⟨8,0,none⟩=some (.int .u64 52)
def P10At (w:World):Prop:=∃A c,w.cell? ⟨13,0,none⟩=some (.slice (some A) 23 c)∧A.spot=none∧A.block<w.heap.size∧∀k,k≤22→w.cell? ⟨A.block,A.off+k,none⟩=some (.float .f64 (p10.getD k 0))
set_option maxRecDepth 100000 in
theorem ax_zero (m f:Nat) (w:World) (hm:m<4503599627370496) (hi:InfoAt w) (hf:floatOfInt FloatKind.f64 (m:Int)=f):
  Calls Tryz.prog 158 #[.int .u64 (m:Int),.int .i64 0,.bool false] w fun e w'=>e= .returned (.tuple #[.float .f64 f,.bool true])∧w=w':=by
 unfold InfoAt at hi
 go_enter Tryz.func158,Tryz.ntmps158
 go_wp2_with fail
 go_ret2
 exact ⟨rfl,rfl⟩
theorem of_int (m:Nat):∃f,floatOfInt FloatKind.f64 (m:Int)=f∧Near (m*2^1074) 1 f:=by
 obtain ⟨r,h1,h2⟩:=encode_whole false m
 refine ⟨r,?_,h2⟩
 have e:r+sgn false=r:=rfl
 rw [e] at h1
 rw [←h1]
 unfold floatOfInt FloatKind.nearest FloatKind.encode
 have e2:decide ((m:Int)<0)=false:=decide_eq_false (by omega)
 rw [e2]
 rfl
set_option maxRecDepth 100000 in
theorem ax_pos (m f k r:Nat) (w:World) (hm:m<4503599627370496) (hi:InfoAt w) (h13:P10At w) (hk0:0<k) (hk:k≤22) (hf:floatOfInt FloatKind.f64 (m:Int)=f) (hr:Ieee.double.mul f (p10.getD k 0)=some r)
  (ho1:(FloatKind.f64.format.order f 4831355200913801216==some .gt)=false) (ho2:(FloatKind.f64.format.order f 14054727237768577024==some .lt)=false):
  Calls Tryz.prog 158 #[.int .u64 (m:Int),.int .i64 (k:Int),.bool false] w fun e w'=>e= .returned (.tuple #[.float .f64 r,.bool true])∧w=w':=by
 unfold InfoAt at hi
 obtain ⟨⟨gb,go,gs⟩,c,h1,h2,h3,h4⟩:=h13
 subst h2
 have h4k:=h4 k hk
 obtain ⟨pk,hpk⟩:∃pk,p10.getD k 0=pk:=⟨_,rfl⟩
 rw [hpk] at h4k hr
 have hrun:=run_float_arith (P:=Tryz.prog) w .mul 25 .f64 f pk r hr
 have HRUN:=Lib.hid hrun
 clear hpk hrun
 have d1:decide ((k:Int)>0)=true:=decide_eq_true (by omega)
 have d2:decide ((k:Int)≤37)=true:=decide_eq_true (by omega)
 have d3:decide ((k:Int)>22)=false:=decide_eq_false (by omega)
 have d4:decide ((22:Int)<k)=false:=decide_eq_false (by omega)
 have d5:decide ((0:Int)<k)=true:=decide_eq_true (by omega)
 have d6:((k:Int)==0)=false:=beq_false_of_ne (by omega)
 clear h4 hr
 go_enter Tryz.func158,Tryz.ntmps158
 go_wp2_with fail
 rw [HRUN.out]
 go_wp2_with fail
 go_ret2
 exact ⟨rfl,rfl⟩
set_option maxRecDepth 100000 in
theorem ax_neg (m f k r:Nat) (w:World) (hm:m<4503599627370496) (hi:InfoAt w) (h13:P10At w) (hk0:0<k) (hk:k≤22) (hf:floatOfInt FloatKind.f64 (m:Int)=f) (hr:Ieee.double.div f (p10.getD k 0)=some r):
  Calls Tryz.prog 158 #[.int .u64 (m:Int),.int .i64 (-(k:Int)),.bool false] w fun e w'=>e= .returned (.tuple #[.float .f64 r,.bool true])∧w=w':=by
 unfold InfoAt at hi
 obtain ⟨⟨gb,go,gs⟩,c,h1,h2,h3,h4⟩:=h13
 subst h2
 have h4k:=h4 k hk
 obtain ⟨pk,hpk⟩:∃pk,p10.getD k 0=pk:=⟨_,rfl⟩
 rw [hpk] at h4k hr
 have hrun:=run_float_arith (P:=Tryz.prog) w .quo 25 .f64 f pk r hr
 have HRUN:=Lib.hid hrun
 clear hpk hrun
 obtain ⟨e,he⟩:∃e:Int,-(k:Int)=e:=⟨_,rfl⟩
 have hne: -e=(k:Int):=by omega
 have d1:decide (e>0)=false:=decide_eq_false (by omega)
 have d5:decide ((0:Int)<e)=false:=decide_eq_false (by omega)
 have d2:decide (e<0)=true:=decide_eq_true (by omega)
 have d3:decide (e≥ -22)=true:=decide_eq_true (by omega)
 have d4:decide (-22≤e)=true:=decide_eq_true (by omega)
 have d6:(e==0)=false:=beq_false_of_ne (by omega)
 have hb1: -22≤e:=by omega
 have hb2:e<0:=by omega
 rw [he]
 clear he
 clear h4 hr
 go_enter Tryz.func158,Tryz.ntmps158
 go_wp2_with fail
 rw [HRUN.out]
 go_wp2_with fail
 go_ret2
 exact ⟨rfl,rfl⟩
set_option maxRecDepth 100000 in
theorem ax_big (m:Nat) (e:Int) (w:World) (hm:4503599627370496≤m) (hm2:m<18446744073709551616) (hi:InfoAt w):
  Calls Tryz.prog 158 #[.int .u64 (m:Int),.int .i64 e,.bool false] w fun r w'=>r= .returned (.tuple #[.float .f64 0,.bool false])∧w=w':=by
 unfold InfoAt at hi
 have d:((m:Int)/4503599627370496 !=0)=true:=bne_iff_ne.2 (by omega)
 go_enter Tryz.func158,Tryz.ntmps158
 go_wp2_with fail
 go_ret2
 exact ⟨rfl,rfl⟩
set_option maxRecDepth 100000 in
theorem ax_out (m f:Nat) (e:Int) (w:World) (hm:m<4503599627370496) (hi:InfoAt w) (he:37<e∨e< -22) (hf:floatOfInt FloatKind.f64 (m:Int)=f):
  Calls Tryz.prog 158 #[.int .u64 (m:Int),.int .i64 e,.bool false] w fun r w'=>r= .returned (.tuple #[.float .f64 f,.bool false])∧w=w':=by
 unfold InfoAt at hi
 have d6:(e==0)=false:=beq_false_of_ne (by omega)
 go_enter Tryz.func158,Tryz.ntmps158
 go_wp2_with fail
 all_goals first | (exfalso;omega) | (go_ret2;exact ⟨rfl,rfl⟩)
set_option maxRecDepth 100000 in
theorem ax_up (m f k g r:Nat) (w:World) (hm:m<4503599627370496) (hi:InfoAt w) (h13:P10At w) (hk0:22<k) (hk:k≤37) (hf:floatOfInt FloatKind.f64 (m:Int)=f) (hg:Ieee.double.mul f (p10.getD (k-22) 0)=some g) (hr:Ieee.double.mul g (p10.getD 22 0)=some r)
  (ho1:(FloatKind.f64.format.order g 4831355200913801216==some .gt)=false) (ho2:(FloatKind.f64.format.order g 14054727237768577024==some .lt)=false):
  Calls Tryz.prog 158 #[.int .u64 (m:Int),.int .i64 (k:Int),.bool false] w fun e w'=>e= .returned (.tuple #[.float .f64 r,.bool true])∧w=w':=by
 unfold InfoAt at hi
 obtain ⟨⟨gb,go,gs⟩,c,h1,h2,h3,h4⟩:=h13
 subst h2
 have h4k:=h4 (k-22) (by omega)
 have h4z:=h4 22 (by omega)
 obtain ⟨kk,hkk⟩:∃kk,k-22=kk:=⟨_,rfl⟩
 rw [hkk] at h4k hg
 have hki:(k:Int)-22=(kk:Int):=by omega
 obtain ⟨pk,hpk⟩:∃pk,p10.getD kk 0=pk:=⟨_,rfl⟩
 obtain ⟨pz,hpz⟩:∃pz,p10.getD 22 0=pz:=⟨_,rfl⟩
 rw [hpk] at h4k hg
 rw [hpz] at h4z hr
 have HG:=Lib.hid (run_float_arith (P:=Tryz.prog) w .mul 25 .f64 f pk g hg)
 have HRUN:=Lib.hid (run_float_arith (P:=Tryz.prog) w .mul 25 .f64 g pz r hr)
 clear hpk hpz
 have d1:decide ((k:Int)>0)=true:=decide_eq_true (by omega)
 have d2:decide ((k:Int)≤37)=true:=decide_eq_true (by omega)
 have d3:decide ((k:Int)>22)=true:=decide_eq_true (by omega)
 have d4:decide ((22:Int)<k)=true:=decide_eq_true (by omega)
 have d5:decide ((0:Int)<k)=true:=decide_eq_true (by omega)
 have d6:((k:Int)==0)=false:=beq_false_of_ne (by omega)
 clear h4 hr hg
 go_enter Tryz.func158,Tryz.ntmps158
 go_wp2_with fail
 rw [HG.out]
 go_wp2_with fail
 rw [HRUN.out]
 go_wp2_with fail
 go_ret2
 exact ⟨rfl,rfl⟩
end Go.Proofs.YtjhhdnnblcbdbaaGreatDoor.uw
end
section
namespace Go.Proofs.YtjhhdnnblcbdbaaGreatDoor.uw
open Go.RowKit mem fl big us
set_option linter.unusedVariables false
set_option maxRecDepth 100000 in
theorem ax_pos_no (m f k:Nat) (w:World) (hm:m<4503599627370496) (hi:InfoAt w) (hk0:0<k) (hk:k≤22) (hf:floatOfInt FloatKind.f64 (m:Int)=f)
  (ho1:(FloatKind.f64.format.order f 4831355200913801216==some .gt)=true):
  Calls Tryz.prog 158 #[.int .u64 (m:Int),.int .i64 (k:Int),.bool false] w fun e w'=>e= .returned (.tuple #[.float .f64 f,.bool false])∧w=w':=by
 unfold InfoAt at hi
 have d1:decide ((k:Int)>0)=true:=decide_eq_true (by omega)
 have d2:decide ((k:Int)≤37)=true:=decide_eq_true (by omega)
 have d3:decide ((k:Int)>22)=false:=decide_eq_false (by omega)
 have d4:decide ((22:Int)<k)=false:=decide_eq_false (by omega)
 have d5:decide ((0:Int)<k)=true:=decide_eq_true (by omega)
 have d6:((k:Int)==0)=false:=beq_false_of_ne (by omega)
 go_enter Tryz.func158,Tryz.ntmps158
 go_wp2_with fail
 go_ret2
 exact ⟨rfl,rfl⟩
set_option maxRecDepth 100000 in
theorem ax_up_no (m f k g:Nat) (w:World) (hm:m<4503599627370496) (hi:InfoAt w) (h13:P10At w) (hk0:22<k) (hk:k≤37) (hf:floatOfInt FloatKind.f64 (m:Int)=f) (hg:Ieee.double.mul f (p10.getD (k-22) 0)=some g)
  (ho1:(FloatKind.f64.format.order g 4831355200913801216==some .gt)=true):
  Calls Tryz.prog 158 #[.int .u64 (m:Int),.int .i64 (k:Int),.bool false] w fun e w'=>e= .returned (.tuple #[.float .f64 g,.bool false])∧w=w':=by
 unfold InfoAt at hi
 obtain ⟨⟨gb,go,gs⟩,c,h1,h2,h3,h4⟩:=h13
 subst h2
 have h4k:=h4 (k-22) (by omega)
 obtain ⟨kk,hkk⟩:∃kk,k-22=kk:=⟨_,rfl⟩
 rw [hkk] at h4k hg
 have hki:(k:Int)-22=(kk:Int):=by omega
 obtain ⟨pk,hpk⟩:∃pk,p10.getD kk 0=pk:=⟨_,rfl⟩
 rw [hpk] at h4k hg
 have HG:=Lib.hid (run_float_arith (P:=Tryz.prog) w .mul 25 .f64 f pk g hg)
 clear hpk
 have d1:decide ((k:Int)>0)=true:=decide_eq_true (by omega)
 have d2:decide ((k:Int)≤37)=true:=decide_eq_true (by omega)
 have d3:decide ((k:Int)>22)=true:=decide_eq_true (by omega)
 have d4:decide ((22:Int)<k)=true:=decide_eq_true (by omega)
 have d5:decide ((0:Int)<k)=true:=decide_eq_true (by omega)
 have d6:((k:Int)==0)=false:=beq_false_of_ne (by omega)
 clear h4 hg
 go_enter Tryz.func158,Tryz.ntmps158
 go_wp2_with fail
 rw [HG.out]
 go_wp2_with fail
 go_ret2
 exact ⟨rfl,rfl⟩
def Dec (P m:Nat) (e:Int) (r:Nat):Prop:=Near (m*10^e.toNat*P) (10^(-e).toNat) r
def AxPost (P m:Nat) (e:Int) (w:World) (r:Ending) (w':World):Prop:=∃(f:Nat) (ok:Bool),r= .returned (.tuple #[.float .f64 f,.bool ok])∧w=w'∧(ok=true→Dec P m e f)
theorem order15 (f:Nat) (hf:f<9218868437227405312):(FloatKind.f64.format.order f 4831355200913801216==some .gt)=decide (4831355200913801216<f)∧(FloatKind.f64.format.order f 14054727237768577024==some .lt)=false:=by
 have h1:=order_num false false f 4831355200913801216 hf (by decide)
 have h2:=order_num false true f 4831355200913801216 hf (by decide)
 rw [show f+sgn false=f from rfl] at h1 h2
 constructor
 ·rw [show FloatKind.f64.format.order f 4831355200913801216=some (compare (sV false f) (sV false 4831355200913801216)) from h1]
  unfold sV
  rw [if_neg (by simp),if_neg (by simp)]
  by_cases h:4831355200913801216<f
  ·have hv:=V_mono h
   rw [decide_eq_true h]
   generalize V f=a at*
   generalize V 4831355200913801216=b at*
   rw [show compare (a:Int) (b:Int)= .gt by rw [Int.compare_eq_gt];omega]
   rfl
  ·have hv:=V_le (show f≤4831355200913801216 by omega)
   rw [decide_eq_false h]
   generalize V f=a at*
   generalize V 4831355200913801216=b at*
   rcases Nat.lt_or_ge a b with hh | hh
   ·rw [show compare (a:Int) (b:Int)= .lt by rw [Int.compare_eq_lt];omega]
    rfl
   ·rw [show compare (a:Int) (b:Int)= .eq by rw [Int.compare_eq_eq];omega]
    rfl
 ·rw [show FloatKind.f64.format.order f 14054727237768577024=some (compare (sV false f) (sV true 4831355200913801216)) from h2]
  unfold sV
  rw [if_neg (by simp),if_pos rfl]
  have hv:=V_mono (show 0<4831355200913801216 by decide)
  generalize V f=a at*
  generalize V 4831355200913801216=b at*
  rw [show compare (a:Int) (-(b:Int))= .gt by rw [Int.compare_eq_gt];omega]
  rfl
theorem spE_whole (f m:Nat) (P:Nat) (hP:P=2^1074) (hm:0<m) (hV:V f=m*P) (hf:f<9218868437227405312): -400≤spE f:=by
 obtain ⟨_,_,h3,_⟩:=p10_at 0 (by decide)
 have h0:p10.getD 0 0=4607182418800017408:=rfl
 rw [h0,←hP] at h3
 have hge:4607182418800017408≤f:=by
  rcases Nat.lt_or_ge f 4607182418800017408 with h | h
  ·exfalso
   have:=V_mono h
   rw [hV,h3] at this
   have h1:10^0*P≤m*P:=Nat.mul_le_mul_right P (show 10^0≤m from (by rw [Nat.pow_zero];exact hm))
   omega
  ·exact h
 unfold spE
 have e1:f/4503599627370496 % 2048=f/4503599627370496:=by omega
 rw [e1]
 split <;> omega
theorem near_big (P n g:Nat) (hP:P=2^1074) (hn:9007199254740992<n) (hN:Near (n*P) 1 g) (hg:g≤4831355200913801216):False:=by
 obtain ⟨_,_,h3,_⟩:=p10_at 15 (by decide)
 obtain ⟨_,_,h4,_⟩:=p10_at 16 (by decide)
 rw [show p10.getD 15 0=4831355200913801216 from rfl,←hP] at h3
 rw [show p10.getD 16 0=4846369599423283200 from rfl,←hP] at h4
 have h16:(10:Nat)^16=10000000000000000:=by decide
 have h15:(10:Nat)^15=1000000000000000:=by decide
 rw [h15] at h3
 rw [h16] at h4
 have hp:0<P:=Nat.lt_of_lt_of_eq (Nat.two_pow_pos 1074) hP.symm
 have v1:=V_le hg
 have v2:=V_le (show g+1≤4846369599423283200 by omega)
 rw [h3] at v1
 rw [h4] at v2
 obtain ⟨_,_,h5⟩:=hN
 have hb:9007199254740992*P<n*P:=Nat.mul_lt_mul_of_pos_right hn hp
 rcases h5 with h5 | h5 | ⟨h5,_⟩
 ·omega
 ·generalize V g=a at*
  generalize V (g+1)=b at*
  generalize n*P=c at*
  omega
 ·generalize V g=a at*
  generalize V (g+1)=b at*
  generalize n*P=c at*
  omega
theorem ax_any (P m:Nat) (hP:P=2^1074) (e:Int) (w:World) (hm0:0<m) (hm:m<18446744073709551616) (hi:InfoAt w) (h13:P10At w):
  Calls Tryz.prog 158 #[.int .u64 (m:Int),.int .i64 e,.bool false] w (AxPost P m e w):=by
 by_cases hbig:4503599627370496≤m
 ·exact (ax_big m e w hbig hm hi).mono fun r w' h=>⟨0,false,h.1,h.2,fun h=>by cases h⟩
 have hlt:m<4503599627370496:=by omega
 obtain ⟨f,hf,hn0⟩:=of_int m
 have hx:=whole_exact m f hm0 (by omega) hn0
 have hn:Near (m*P) 1 f:=by rw [hP];exact hn0
 have hV:V f=m*P:=by rw [hP];exact hx.1
 clear hn0
 by_cases h0:e=0
 ·subst h0
  refine (ax_zero m f w hlt hi hf).mono fun r w' h=>⟨f,true,h.1,h.2,fun _=>?_⟩
  unfold Dec
  rw [show (10:Nat)^(0:Int).toNat=1 from rfl,show (10:Nat)^(-(0:Int)).toNat=1 from rfl,Nat.mul_one]
  exact hn
 by_cases hout:37<e∨e< -22
 ·exact (ax_out m f e w hlt hi hout hf).mono fun r w' h=>⟨f,false,h.1,h.2,fun h=>by cases h⟩
 by_cases hneg:e<0
 ·obtain ⟨k,hk⟩:∃k:Nat,e= -(k:Int):=⟨(-e).toNat,by omega⟩
  subst hk
  obtain ⟨r,h1,h2⟩:=exact_div f m k P hV hP hx.2.1 hx.2.2 (by omega) (spE_whole f m P hP hm0 hV hx.2.2)
  refine (ax_neg m f k r w hlt hi h13 (by omega) (by omega) hf h1).mono fun r' w' h=>⟨r,true,h.1,h.2,fun _=>?_⟩
  unfold Dec
  rw [show (-(k:Int)).toNat=0 by omega,show (- -(k:Int)).toNat=k by omega,Nat.pow_zero,Nat.mul_one]
  exact h2
 obtain ⟨k,hk⟩:∃k:Nat,e=(k:Int):=⟨e.toNat,by omega⟩
 subst hk
 have hDec:∀r,Near (m*10^k*P) 1 r→Dec P m (k:Int) r:=fun r h=>by
  unfold Dec
  rw [show ((k:Int)).toNat=k by omega,show (-(k:Int)).toNat=0 by omega,Nat.pow_zero]
  exact h
 by_cases h22:k≤22
 ·obtain ⟨r,h1,h2⟩:=exact_mul f m k P hV hP hx.2.1 hx.2.2 h22
  obtain ⟨o1,o2⟩:=order15 f hx.2.2
  by_cases hg:4831355200913801216<f
  ·rw [decide_eq_true hg] at o1
   exact (ax_pos_no m f k w hlt hi (by omega) h22 hf o1).mono fun r' w' h=>⟨f,false,h.1,h.2,fun h=>by cases h⟩
  ·rw [decide_eq_false hg] at o1
   exact (ax_pos m f k r w hlt hi h13 (by omega) h22 hf h1 o1 o2).mono fun r' w' h=>⟨r,true,h.1,h.2,fun _=>hDec r h2⟩
 obtain ⟨g,g1,g2⟩:=exact_mul f m (k-22) P hV hP hx.2.1 hx.2.2 (by omega)
 by_cases hsm:m*10^(k-22)≤9007199254740992
 ·have hm2:0<m*10^(k-22):=Nat.mul_pos hm0 (Nat.pow_pos (by decide))
  have hgx:=whole_exact (m*10^(k-22)) g hm2 hsm (by rw [←hP];exact g2)
  obtain ⟨o1,o2⟩:=order15 g hgx.2.2
  by_cases hg:4831355200913801216<g
  ·rw [decide_eq_true hg] at o1
   exact (ax_up_no m f k g w hlt hi h13 (by omega) (by omega) hf g1 o1).mono fun r' w' h=>⟨g,false,h.1,h.2,fun h=>by cases h⟩
  ·rw [decide_eq_false hg] at o1
   have hVg:V g=m*10^(k-22)*P:=by rw [hP];exact hgx.1
   obtain ⟨r,r1,r2⟩:=exact_mul g (m*10^(k-22)) 22 P hVg hP hgx.2.1 hgx.2.2 (Nat.le_refl _)
   refine (ax_up m f k g r w hlt hi h13 (by omega) (by omega) hf g1 r1 o1 o2).mono fun r' w' h=>⟨r,true,h.1,h.2,fun _=>hDec r ?_⟩
   rw [Nat.mul_assoc m,←Nat.pow_add,show k-22+22=k by omega] at r2
   exact r2
 ·have hgr:4831355200913801216<g:=by
   rcases Nat.lt_or_ge 4831355200913801216 g with h | h
   ·exact h
   ·exfalso
    exact near_big P (m*10^(k-22)) g hP (by omega) g2 h
  have hg2:g≤9218868437227405312:=g2.1
  by_cases hinf:g=9218868437227405312
  ·have o1:(FloatKind.f64.format.order g 4831355200913801216==some .gt)=true:=by
    subst hinf
    have:=order_inf_num false false 4831355200913801216 (by decide)
    rw [show FloatKind.f64.format.order 9218868437227405312 4831355200913801216=some .gt from this]
    rfl
   exact (ax_up_no m f k g w hlt hi h13 (by omega) (by omega) hf g1 o1).mono fun r' w' h=>⟨g,false,h.1,h.2,fun h=>by cases h⟩
  ·obtain ⟨o1,o2⟩:=order15 g (by omega)
   rw [decide_eq_true hgr] at o1
   exact (ax_up_no m f k g w hlt hi h13 (by omega) (by omega) hf g1 o1).mono fun r' w' h=>⟨g,false,h.1,h.2,fun h=>by cases h⟩
end Go.Proofs.YtjhhdnnblcbdbaaGreatDoor.uw
end
