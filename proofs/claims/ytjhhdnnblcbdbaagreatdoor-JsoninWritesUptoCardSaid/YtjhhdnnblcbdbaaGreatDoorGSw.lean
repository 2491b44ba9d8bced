/- shortFloat, walked: the small functions. shortFloat, walked. -/
import Derived.Test.YtjhhdnnblcbdbaaGreatDoorGPw
import Derived.Test.YtjhhdnnblcbdbaaGreatDoorGShp
section
namespace Go.Proofs.YtjhhdnnblcbdbaaGreatDoor.uw
open Go.RowKit mem fl big us
set_option linter.unusedVariables false
theorem l10_any (x:Int) (w:World) (h1: -1100000≤x) (h2:x≤1100000):Calls Tryz.prog 123 #[.int .i64 x] w fun e w'=>e= .returned (.int .i64 (x*78913/262144))∧w=w':=by
 go_enter Tryz.func123,Tryz.ntmps123
 go_wp2_with fail
 go_ret
 exact ⟨rfl,rfl⟩
theorem skew_any (x:Int) (w:World) (h1: -1100000≤x) (h2:x≤1100000):Calls Tryz.prog 190 #[.int .i64 x] w fun e w'=>e= .returned (.int .i64 ((x*631305-261663)/2097152))∧w=w':=by
 go_enter Tryz.func190,Tryz.ntmps190
 go_wp2_with fail
 go_ret
 exact ⟨rfl,rfl⟩
theorem nudge_up (u o:Nat) (w:World) (hu:u<4611686018427387904) (ho:o≤1):Calls Tryz.prog 191 #[.int .u64 (u:Int),.int .i64 (o:Int)] w fun e w'=>e= .returned (.int .u64 ((u+o:Nat):Int))∧w=w':=by
 have hw:IntKind.u64.wrap (o:Int)=(o:Int):=by rw [IntKind.wrap_u64];omega
 have hr:((u+o:Nat):Int)=(u:Int)+o:=by omega
 rw [hr]
 go_enter Tryz.func191,Tryz.ntmps191
 go_wp2_with fail
 go_ret
 exact ⟨rfl,rfl⟩
theorem nudge_dn (u o:Nat) (w:World) (hu:u<4611686018427387904) (ho:o≤1) (h1:o≤u):Calls Tryz.prog 191 #[.int .u64 (u:Int),.int .i64 (-(o:Int))] w fun e w'=>e= .returned (.int .u64 ((u-o:Nat):Int))∧w=w':=by
 have hr:((u-o:Nat):Int)=IntKind.u64.wrap ((u:Int)+IntKind.u64.wrap (-(o:Int))):=by rw [IntKind.wrap_u64,IntKind.wrap_u64];omega
 obtain ⟨o2,ho2⟩:∃o2,IntKind.u64.wrap (-(o:Int))=o2:=⟨_,rfl⟩
 rw [hr,ho2]
 have HO:=Lib.hid ho
 obtain ⟨mo,hmo⟩:∃mo,-(o:Int)=mo:=⟨_,rfl⟩
 rw [hmo] at ho2 ⊢
 clear hr hmo ho h1
 go_enter Tryz.func191,Tryz.ntmps191
 go_wp2_with fail
 go_ret
 exact ⟨rfl,rfl⟩
theorem ceil_any (u:Nat) (w:World) (hu:u<4611686018427387905):Calls Tryz.prog 192 #[.int .u64 (u:Int)] w fun e w'=>e= .returned (.int .u64 (((u+3)/4:Nat):Int))∧w=w':=by
 have hr:(((u+3)/4:Nat):Int)=((u:Int)+3)/4:=by omega
 rw [hr]
 go_enter Tryz.func192,Tryz.ntmps192
 go_wp2_with fail
 go_ret
 exact ⟨rfl,rfl⟩
theorem floor_any (u:Nat) (w:World) (hu:u<4611686018427387905):Calls Tryz.prog 193 #[.int .u64 (u:Int)] w fun e w'=>e= .returned (.int .u64 ((u/4:Nat):Int))∧w=w':=by
 have hr:((u/4:Nat):Int)=(u:Int)/4:=by omega
 rw [hr]
 go_enter Tryz.func193,Tryz.ntmps193
 go_wp2_with fail
 go_ret
 exact ⟨rfl,rfl⟩
end Go.Proofs.YtjhhdnnblcbdbaaGreatDoor.uw
end
section
namespace Go.Proofs.YtjhhdnnblcbdbaaGreatDoor.uw
open Go.RowKit mem fl big us sh
set_option linter.unusedVariables false
def SfPost (d:Nat) (y:Int) (w:World) (e:Ending) (w':World):Prop:=e= .returned (.tuple #[.int .u64 (d:Int),.int .i64 y])∧Below w.heap.size w w'
theorem and_one_i (n:Nat) (h:n<9223372036854775808):bits .and .i64 (n:Int) 1=((n % 2:Nat):Int):=by
 have h63:(n:Int)<2^63:=by
  have h63:(2:Int)^63=9223372036854775808:=by decide
  rw [h63]
  omega
 have h:=bits_mask .i64 63 (by decide) wrap_pos 1 (by decide) (n:Int) (by omega) h63
 have e:(2:Int)^1-1=1:=by decide
 have e2:(2:Int)^1=2:=by decide
 rw [e,e2] at h
 rw [h]
 omega
set_option maxRecDepth 100000 in
set_option maxHeartbeats 4000000 in
theorem sf_skew (j i S m mn mx o:Nat) (P lp:Int) (w:World) (hj:j<2046) (hi:(i:Int)=348-P) (hi2:i<696) (hlp:lpX P=lp) (hlpb: -2000≤lp∧lp≤2000) (hPb: -324≤P∧P≤308)
  (hS2:S<64) (h7:PowAt w) (hsz:14<w.heap.size) (ho:o≤1) (bm1:9223372036854775808≤m) (bm2:m<18446744073709551616) (bn1:4611686018427387904≤mn) (bn2:mn<18446744073709551616) (bx1:9223372036854775808≤mx) (bx2:mx<18446744073709551616)
  (u v t:Nat) (hu:usc mn (tabH i) (tabL i) (2^S)=u) (hv:usc mx (tabH i) (tabL i) (2^S)=v) (ht:usc m (tabH i) (tabL i) (2^S)=t) (bu:u<1152921504606846976) (bv:v<1152921504606846976) (bt:t<1152921504606846976) (hv1:1≤v)
  (hj0:0<j) (hP:gS j=P) (hS:(S:Int)=11-((j:Int)-1074)-lp-3) (hm:m=9223372036854775808) (hmn:(m:Int)-512=mn) (hmx:(m:Int)+1024=mx) (ho2:bits .and .i64 ((m:Int)/2048) 1=(o:Int)):
  Calls Tryz.prog 171 #[.int .u64 (m:Int),.int .i64 ((j:Int)-1085)] w (SfPost (shD ((u+o+3)/4) ((v-o)/4) (us.rnd t)) (shX ((u+o+3)/4) ((v-o)/4) P) w):=by
 obtain ⟨u2,hu2⟩:∃u2,u+o=u2:=⟨_,rfl⟩
 obtain ⟨v2,hv2⟩:∃v2,v-o=v2:=⟨_,rfl⟩
 rw [hu2,hv2]
 obtain ⟨dm,hdm⟩:∃dm,(u2+3)/4=dm:=⟨_,rfl⟩
 obtain ⟨dx,hdx⟩:∃dx,v2/4=dx:=⟨_,rfl⟩
 rw [hdm,hdx]
 have hdmb:dm<1152921504606846976:=by omega
 have hdxb:dx<1152921504606846976:=by omega
 obtain ⟨d0,hd0⟩:∃d0,shD dm dx (us.rnd t)=d0:=⟨_,rfl⟩
 obtain ⟨y0,hy0⟩:∃y0,shX dm dx P=y0:=⟨_,rfl⟩
 rw [hd0,hy0]
 have HD0:=Lib.hid hd0
 have HY0:=Lib.hid hy0
 clear hd0 hy0
 have HG:=Lib.hid (fun w=>lg_any (-P) w (by omega) (by omega))
 have hle:(-P)*108853/32768=lp:=hlp
 have h7w:=Lib.hid h7
 obtain ⟨_,_,hT1,hTH,hTL⟩:=bounds i hi2
 have hpos:∀x,4611686018427387904≤x→0<x*tabH i/18446744073709551616:=fun x hx=>by
  have:=Nat.mul_le_mul hx hT1
  omega
 have hpn:=hpos mn bn1
 have hpx:=hpos mx (by omega)
 have hpm:=hpos m (by omega)
 clear hpos h7 hlp
 have HK:=Lib.hid (fun w=>skew_any ((j:Int)-1074) w (by omega) (by omega))
 have hge:(((j:Int)-1074)*631305-261663)/2097152=P:=hP
 have q0:((m:Int)==9223372036854775808)=true:=by rw [hm];decide
 have HM:=Lib.hid hm
 clear hP hm
 go_enter Tryz.func171,Tryz.ntmps171
 go_wp2_with fail
 rw [show (j:Int)-1085+11=(j:Int)-1074 by omega]
 refine (HK.out _).mono ?_
 rintro e1 w2 ⟨rfl,rfl⟩
 rw [hge]
 go_wp2_with fail
 have hba:Below w.heap.size w (w.alloc (.cells #[.int .u64 0,.int .u64 0,.int .i64 0] 260)):=bits_shape _ _
 have hza:(w.alloc (.cells #[.int .u64 0,.int .u64 0,.int .i64 0] 260)).heap.size=w.heap.size+1:=by simp
 have hca:(w.alloc (.cells #[.int .u64 0,.int .u64 0,.int .i64 0] 260)).heap[w.heap.size]? =some (.cells #[.int .u64 0,.int .u64 0,.int .i64 0] 260 (0,0)):=heap_alloc_new w _
 generalize (w.alloc (.cells #[.int .u64 0,.int .u64 0,.int .i64 0] 260))=wa at*
 have h7a:=h7w.out.below hba hsz
 refine (HG.out _).mono ?_
 rintro e1 w2 ⟨rfl,rfl⟩
 rw [hle]
 go_wp2_with fail
 refine (prescale_any w.heap.size i ((j:Int)-1085) (-P) lp wa (by omega) (by omega) hi2 h7a (by omega) (by omega) (by omega) (by omega) (by omega) ?_ ?_ ?_ ?_ ?_ ?_).mono ?_
 case refine_7=>
  rintro e1 w2 ⟨rfl,rfl⟩
  rw [show-((j:Int)-1085+lp+3)=(S:Int) by omega]
  have hcb:=preW_cells w.heap.size i S wa _ hca
  have hbb:=preW_below w.heap.size i S wa w.heap.size (Nat.le_refl _)
  generalize preW w.heap.size i S wa=wb at*
  have hwb:=hba.trans hbb
  have c0:wb.cell? ⟨w.heap.size,0,none⟩=some (.int .u64 (tabH i:Int)):=by simp [World.cell?,hcb]
  have c1:wb.cell? ⟨w.heap.size,1,none⟩=some (.int .u64 (tabL i:Int)):=by simp [World.cell?,hcb]
  have c2:wb.cell? ⟨w.heap.size,2,none⟩=some (.int .i64 (S:Int)):=by simp [World.cell?,hcb]
  have c0k:∀k,(wb.drewN k).cell? ⟨w.heap.size,0,none⟩=some (.int .u64 (tabH i:Int)):=fun k=>(World.cell?_drewN _ _ _).trans c0
  have c1k:∀k,(wb.drewN k).cell? ⟨w.heap.size,1,none⟩=some (.int .u64 (tabL i:Int)):=fun k=>(World.cell?_drewN _ _ _).trans c1
  have c2k:∀k,(wb.drewN k).cell? ⟨w.heap.size,2,none⟩=some (.int .i64 (S:Int)):=fun k=>(World.cell?_drewN _ _ _).trans c2
  have HU1:=Lib.hid (uscale_any mn (tabH i) (tabL i) S w.heap.size wb bn2 hTH hTL hS2 c0 c1 c2 hpn)
  have HU2:=Lib.hid (fun k=>uscale_any mx (tabH i) (tabL i) S w.heap.size (wb.drewN k) bx2 hTH hTL hS2 (c0k k) (c1k k) (c2k k) hpx)
  have HU3:=Lib.hid (fun k=>uscale_any m (tabH i) (tabL i) S w.heap.size (wb.drewN k) bm2 hTH hTL hS2 (c0k k) (c1k k) (c2k k) hpm)
  have HBB:=Lib.hid hwb
  clear hcb h7a hbb hba c0 c1 c2 c0k c1k c2k hwb
  go_wp2_with fail
  refine HU1.out.mono ?_
  rintro e1 w3 ⟨rfl,n1,rfl⟩
  rw [hu]
  go_wp2_with fail
  refine (nudge_up u o _ (by omega) (by omega)).mono ?_
  rintro e1 w4 ⟨rfl,rfl⟩
  rw [hu2]
  go_wp2_with fail
  refine (ceil_any u2 _ (by omega)).mono ?_
  rintro e1 w4 ⟨rfl,rfl⟩
  rw [hdm]
  go_wp2_with fail
  refine (HU2.out _).mono ?_
  rintro e1 w3 ⟨rfl,n2,rfl⟩
  rw [hv,World.drewN_drewN]
  go_wp2_with fail
  refine (nudge_dn v o _ (by omega) (by omega) (by omega)).mono ?_
  rintro e1 w4 ⟨rfl,rfl⟩
  rw [hv2]
  go_wp2_with fail
  refine (floor_any v2 _ (by omega)).mono ?_
  rintro e1 w4 ⟨rfl,rfl⟩
  rw [hdx]
  have HB9:∀k,Below w.heap.size w (wb.drewN k):=fun k=>below_drewN HBB.out k
  by_cases hc:dm≤dx/10*10
  ·have q1:decide ((dx:Int)/10*10≥(dm:Int))=true:=decide_eq_true (by omega)
   have q2:decide ((dm:Int)≤(dx:Int)/10*10)=true:=decide_eq_true (by omega)
   have hr1:d0=dx/10:=by rw [←HD0.out];unfold shD;exact if_pos hc
   have hr2:y0=P+1:=by rw [←HY0.out];unfold shX;exact if_pos hc
   have HR:=Lib.hid (And.intro hr1 hr2)
   clear hdm hdx hc hr1 hr2
   go_wp2_with fail
   go_ret2
   refine ⟨?_,HB9 _⟩
   rw [HR.out.1,HR.out.2,show (P+1:Int)= -(-P-1) by omega]
   rfl
  ·have q1:decide ((dx:Int)/10*10≥(dm:Int))=false:=decide_eq_false (by omega)
   have q2:decide ((dm:Int)≤(dx:Int)/10*10)=false:=decide_eq_false (by omega)
   have hr2:y0=P:=by rw [←HY0.out];unfold shX;exact if_neg hc
   have HR2:=Lib.hid hr2
   clear hr2
   by_cases hd:dm<dx
   ·have q3:decide ((dm:Int)<(dx:Int))=true:=decide_eq_true (by omega)
    have hr1:d0=us.rnd t:=by rw [←HD0.out];unfold shD;rw [if_neg hc,if_pos hd]
    have HR:=Lib.hid hr1
    clear hr1 hdm hdx
    go_wp2_with fail
    refine (HU3.out _).mono ?_
    rintro e1 w3 ⟨rfl,n3,rfl⟩
    rw [ht,World.drewN_drewN]
    go_wp2_with fail
    refine (round_any t _ (by omega)).mono ?_
    rintro e1 w4 ⟨rfl,rfl⟩
    go_wp2_with fail
    go_ret2
    refine ⟨?_,HB9 _⟩
    rw [HR.out,HR2.out]
    rfl
   ·have q3:decide ((dm:Int)<(dx:Int))=false:=decide_eq_false (by omega)
    have hr1:d0=dm:=by rw [←HD0.out];unfold shD;rw [if_neg hc,if_neg hd]
    have HR:=Lib.hid hr1
    clear hr1 hdm hdx
    go_wp2_with fail
    go_ret2
    refine ⟨?_,HB9 _⟩
    rw [HR.out,HR2.out]
    rfl
 all_goals simp [World.cell?,World.frozen?,hca]
set_option maxRecDepth 100000 in
set_option maxHeartbeats 4000000 in
theorem sf_norm (j i S m mn mx o:Nat) (P lp:Int) (w:World) (hj:j<2046) (hi:(i:Int)=348-P) (hi2:i<696) (hlp:lpX P=lp) (hlpb: -2000≤lp∧lp≤2000) (hPb: -324≤P∧P≤308)
  (hS2:S<64) (h7:PowAt w) (hsz:14<w.heap.size) (ho:o≤1) (bm1:9223372036854775808≤m) (bm2:m<18446744073709551616) (bn1:4611686018427387904≤mn) (bn2:mn<18446744073709551616) (bx1:9223372036854775808≤mx) (bx2:mx<18446744073709551616)
  (u v t:Nat) (hu:usc mn (tabH i) (tabL i) (2^S)=u) (hv:usc mx (tabH i) (tabL i) (2^S)=v) (ht:usc m (tabH i) (tabL i) (2^S)=t) (bu:u<1152921504606846976) (bv:v<1152921504606846976) (bt:t<1152921504606846976) (hv1:1≤v)
  (hne:m≠9223372036854775808) (hP:gP j=P) (hS:(S:Int)=11-((j:Int)-1074)-lp-3) (hmn:(m:Int)-1024=mn) (hmx:(m:Int)+1024=mx) (ho2:bits .and .i64 ((m:Int)/2048) 1=(o:Int)):
  Calls Tryz.prog 171 #[.int .u64 (m:Int),.int .i64 ((j:Int)-1085)] w (SfPost (shD ((u+o+3)/4) ((v-o)/4) (us.rnd t)) (shX ((u+o+3)/4) ((v-o)/4) P) w):=by
 obtain ⟨u2,hu2⟩:∃u2,u+o=u2:=⟨_,rfl⟩
 obtain ⟨v2,hv2⟩:∃v2,v-o=v2:=⟨_,rfl⟩
 rw [hu2,hv2]
 obtain ⟨dm,hdm⟩:∃dm,(u2+3)/4=dm:=⟨_,rfl⟩
 obtain ⟨dx,hdx⟩:∃dx,v2/4=dx:=⟨_,rfl⟩
 rw [hdm,hdx]
 have hdmb:dm<1152921504606846976:=by omega
 have hdxb:dx<1152921504606846976:=by omega
 obtain ⟨d0,hd0⟩:∃d0,shD dm dx (us.rnd t)=d0:=⟨_,rfl⟩
 obtain ⟨y0,hy0⟩:∃y0,shX dm dx P=y0:=⟨_,rfl⟩
 rw [hd0,hy0]
 have HD0:=Lib.hid hd0
 have HY0:=Lib.hid hy0
 clear hd0 hy0
 have HG:=Lib.hid (fun w=>lg_any (-P) w (by omega) (by omega))
 have hle:(-P)*108853/32768=lp:=hlp
 have h7w:=Lib.hid h7
 obtain ⟨_,_,hT1,hTH,hTL⟩:=bounds i hi2
 have hpos:∀x,4611686018427387904≤x→0<x*tabH i/18446744073709551616:=fun x hx=>by
  have:=Nat.mul_le_mul hx hT1
  omega
 have hpn:=hpos mn bn1
 have hpx:=hpos mx (by omega)
 have hpm:=hpos m (by omega)
 clear hpos h7 hlp
 have HK:=Lib.hid (fun w=>l10_any ((j:Int)-1074) w (by omega) (by omega))
 have hge:((j:Int)-1074)*78913/262144=P:=hP
 have q0:((m:Int)==9223372036854775808)=false:=beq_false_of_ne (by omega)
 clear hP hne
 go_enter Tryz.func171,Tryz.ntmps171
 go_wp2_with fail
 rw [show (j:Int)-1085+11=(j:Int)-1074 by omega]
 refine (HK.out _).mono ?_
 rintro e1 w2 ⟨rfl,rfl⟩
 rw [hge]
 go_wp2_with fail
 have hba:Below w.heap.size w (w.alloc (.cells #[.int .u64 0,.int .u64 0,.int .i64 0] 260)):=bits_shape _ _
 have hza:(w.alloc (.cells #[.int .u64 0,.int .u64 0,.int .i64 0] 260)).heap.size=w.heap.size+1:=by simp
 have hca:(w.alloc (.cells #[.int .u64 0,.int .u64 0,.int .i64 0] 260)).heap[w.heap.size]? =some (.cells #[.int .u64 0,.int .u64 0,.int .i64 0] 260 (0,0)):=heap_alloc_new w _
 generalize (w.alloc (.cells #[.int .u64 0,.int .u64 0,.int .i64 0] 260))=wa at*
 have h7a:=h7w.out.below hba hsz
 refine (HG.out _).mono ?_
 rintro e1 w2 ⟨rfl,rfl⟩
 rw [hle]
 go_wp2_with fail
 refine (prescale_any w.heap.size i ((j:Int)-1085) (-P) lp wa (by omega) (by omega) hi2 h7a (by omega) (by omega) (by omega) (by omega) (by omega) ?_ ?_ ?_ ?_ ?_ ?_).mono ?_
 case refine_7=>
  rintro e1 w2 ⟨rfl,rfl⟩
  rw [show-((j:Int)-1085+lp+3)=(S:Int) by omega]
  have hcb:=preW_cells w.heap.size i S wa _ hca
  have hbb:=preW_below w.heap.size i S wa w.heap.size (Nat.le_refl _)
  generalize preW w.heap.size i S wa=wb at*
  have hwb:=hba.trans hbb
  have c0:wb.cell? ⟨w.heap.size,0,none⟩=some (.int .u64 (tabH i:Int)):=by simp [World.cell?,hcb]
  have c1:wb.cell? ⟨w.heap.size,1,none⟩=some (.int .u64 (tabL i:Int)):=by simp [World.cell?,hcb]
  have c2:wb.cell? ⟨w.heap.size,2,none⟩=some (.int .i64 (S:Int)):=by simp [World.cell?,hcb]
  have c0k:∀k,(wb.drewN k).cell? ⟨w.heap.size,0,none⟩=some (.int .u64 (tabH i:Int)):=fun k=>(World.cell?_drewN _ _ _).trans c0
  have c1k:∀k,(wb.drewN k).cell? ⟨w.heap.size,1,none⟩=some (.int .u64 (tabL i:Int)):=fun k=>(World.cell?_drewN _ _ _).trans c1
  have c2k:∀k,(wb.drewN k).cell? ⟨w.heap.size,2,none⟩=some (.int .i64 (S:Int)):=fun k=>(World.cell?_drewN _ _ _).trans c2
  have HU1:=Lib.hid (uscale_any mn (tabH i) (tabL i) S w.heap.size wb bn2 hTH hTL hS2 c0 c1 c2 hpn)
  have HU2:=Lib.hid (fun k=>uscale_any mx (tabH i) (tabL i) S w.heap.size (wb.drewN k) bx2 hTH hTL hS2 (c0k k) (c1k k) (c2k k) hpx)
  have HU3:=Lib.hid (fun k=>uscale_any m (tabH i) (tabL i) S w.heap.size (wb.drewN k) bm2 hTH hTL hS2 (c0k k) (c1k k) (c2k k) hpm)
  have HBB:=Lib.hid hwb
  clear hcb h7a hbb hba c0 c1 c2 c0k c1k c2k hwb
  go_wp2_with fail
  refine HU1.out.mono ?_
  rintro e1 w3 ⟨rfl,n1,rfl⟩
  rw [hu]
  go_wp2_with fail
  refine (nudge_up u o _ (by omega) (by omega)).mono ?_
  rintro e1 w4 ⟨rfl,rfl⟩
  rw [hu2]
  go_wp2_with fail
  refine (ceil_any u2 _ (by omega)).mono ?_
  rintro e1 w4 ⟨rfl,rfl⟩
  rw [hdm]
  go_wp2_with fail
  refine (HU2.out _).mono ?_
  rintro e1 w3 ⟨rfl,n2,rfl⟩
  rw [hv,World.drewN_drewN]
  go_wp2_with fail
  refine (nudge_dn v o _ (by omega) (by omega) (by omega)).mono ?_
  rintro e1 w4 ⟨rfl,rfl⟩
  rw [hv2]
  go_wp2_with fail
  refine (floor_any v2 _ (by omega)).mono ?_
  rintro e1 w4 ⟨rfl,rfl⟩
  rw [hdx]
  have HB9:∀k,Below w.heap.size w (wb.drewN k):=fun k=>below_drewN HBB.out k
  by_cases hc:dm≤dx/10*10
  ·have q1:decide ((dx:Int)/10*10≥(dm:Int))=true:=decide_eq_true (by omega)
   have q2:decide ((dm:Int)≤(dx:Int)/10*10)=true:=decide_eq_true (by omega)
   have hr1:d0=dx/10:=by rw [←HD0.out];unfold shD;exact if_pos hc
   have hr2:y0=P+1:=by rw [←HY0.out];unfold shX;exact if_pos hc
   have HR:=Lib.hid (And.intro hr1 hr2)
   clear hdm hdx hc hr1 hr2
   go_wp2_with fail
   go_ret2
   refine ⟨?_,HB9 _⟩
   rw [HR.out.1,HR.out.2,show (P+1:Int)= -(-P-1) by omega]
   rfl
  ·have q1:decide ((dx:Int)/10*10≥(dm:Int))=false:=decide_eq_false (by omega)
   have q2:decide ((dm:Int)≤(dx:Int)/10*10)=false:=decide_eq_false (by omega)
   have hr2:y0=P:=by rw [←HY0.out];unfold shX;exact if_neg hc
   have HR2:=Lib.hid hr2
   clear hr2
   by_cases hd:dm<dx
   ·have q3:decide ((dm:Int)<(dx:Int))=true:=decide_eq_true (by omega)
    have hr1:d0=us.rnd t:=by rw [←HD0.out];unfold shD;rw [if_neg hc,if_pos hd]
    have HR:=Lib.hid hr1
    clear hr1 hdm hdx
    go_wp2_with fail
    refine (HU3.out _).mono ?_
    rintro e1 w3 ⟨rfl,n3,rfl⟩
    rw [ht,World.drewN_drewN]
    go_wp2_with fail
    refine (round_any t _ (by omega)).mono ?_
    rintro e1 w4 ⟨rfl,rfl⟩
    go_wp2_with fail
    go_ret2
    refine ⟨?_,HB9 _⟩
    rw [HR.out,HR2.out]
    rfl
   ·have q3:decide ((dm:Int)<(dx:Int))=false:=decide_eq_false (by omega)
    have hr1:d0=dm:=by rw [←HD0.out];unfold shD;rw [if_neg hc,if_neg hd]
    have HR:=Lib.hid hr1
    clear hr1 hdm hdx
    go_wp2_with fail
    go_ret2
    refine ⟨?_,HB9 _⟩
    rw [HR.out,HR2.out]
    rfl
 all_goals simp [World.cell?,World.frozen?,hca]
set_option maxRecDepth 100000 in
set_option maxHeartbeats 4000000 in
theorem sf_least (j i S m mn mx o:Nat) (P lp:Int) (w:World) (hj:j<2046) (hi:(i:Int)=348-P) (hi2:i<696) (hlp:lpX P=lp) (hlpb: -2000≤lp∧lp≤2000) (hPb: -324≤P∧P≤308)
  (hS2:S<64) (h7:PowAt w) (hsz:14<w.heap.size) (ho:o≤1) (bm1:9223372036854775808≤m) (bm2:m<18446744073709551616) (bn1:4611686018427387904≤mn) (bn2:mn<18446744073709551616) (bx1:9223372036854775808≤mx) (bx2:mx<18446744073709551616)
  (u v t:Nat) (hu:usc mn (tabH i) (tabL i) (2^S)=u) (hv:usc mx (tabH i) (tabL i) (2^S)=v) (ht:usc m (tabH i) (tabL i) (2^S)=t) (bu:u<1152921504606846976) (bv:v<1152921504606846976) (bt:t<1152921504606846976) (hv1:1≤v)
  (hj0:j=0) (hm:m=9223372036854775808) (hP:gP j=P) (hS:(S:Int)=11-((j:Int)-1074)-lp-3) (hmn:(m:Int)-1024=mn) (hmx:(m:Int)+1024=mx) (ho2:bits .and .i64 ((m:Int)/2048) 1=(o:Int)):
  Calls Tryz.prog 171 #[.int .u64 (m:Int),.int .i64 ((j:Int)-1085)] w (SfPost (shD ((u+o+3)/4) ((v-o)/4) (us.rnd t)) (shX ((u+o+3)/4) ((v-o)/4) P) w):=by
 obtain ⟨u2,hu2⟩:∃u2,u+o=u2:=⟨_,rfl⟩
 obtain ⟨v2,hv2⟩:∃v2,v-o=v2:=⟨_,rfl⟩
 rw [hu2,hv2]
 obtain ⟨dm,hdm⟩:∃dm,(u2+3)/4=dm:=⟨_,rfl⟩
 obtain ⟨dx,hdx⟩:∃dx,v2/4=dx:=⟨_,rfl⟩
 rw [hdm,hdx]
 have hdmb:dm<1152921504606846976:=by omega
 have hdxb:dx<1152921504606846976:=by omega
 obtain ⟨d0,hd0⟩:∃d0,shD dm dx (us.rnd t)=d0:=⟨_,rfl⟩
 obtain ⟨y0,hy0⟩:∃y0,shX dm dx P=y0:=⟨_,rfl⟩
 rw [hd0,hy0]
 have HD0:=Lib.hid hd0
 have HY0:=Lib.hid hy0
 clear hd0 hy0
 have HG:=Lib.hid (fun w=>lg_any (-P) w (by omega) (by omega))
 have hle:(-P)*108853/32768=lp:=hlp
 have h7w:=Lib.hid h7
 obtain ⟨_,_,hT1,hTH,hTL⟩:=bounds i hi2
 have hpos:∀x,4611686018427387904≤x→0<x*tabH i/18446744073709551616:=fun x hx=>by
  have:=Nat.mul_le_mul hx hT1
  omega
 have hpn:=hpos mn bn1
 have hpx:=hpos mx (by omega)
 have hpm:=hpos m (by omega)
 clear hpos h7 hlp
 have HK:=Lib.hid (fun w=>l10_any ((j:Int)-1074) w (by omega) (by omega))
 have hge:((j:Int)-1074)*78913/262144=P:=hP
 have q0:((m:Int)==9223372036854775808)=true:=by rw [hm];decide
 have q1:decide ((j:Int)-1085> -1085)=false:=decide_eq_false (by omega)
 have q2:decide (-1085<(j:Int)-1085)=false:=decide_eq_false (by omega)
 have HM:=Lib.hid hm
 have HJ:=Lib.hid hj0
 have hj00:(j:Int)≤0:=by omega
 clear hP hm hj0
 go_enter Tryz.func171,Tryz.ntmps171
 go_wp2_with fail
 rw [show (j:Int)-1085+11=(j:Int)-1074 by omega]
 refine (HK.out _).mono ?_
 rintro e1 w2 ⟨rfl,rfl⟩
 rw [hge]
 go_wp2_with fail
 have hba:Below w.heap.size w (w.alloc (.cells #[.int .u64 0,.int .u64 0,.int .i64 0] 260)):=bits_shape _ _
 have hza:(w.alloc (.cells #[.int .u64 0,.int .u64 0,.int .i64 0] 260)).heap.size=w.heap.size+1:=by simp
 have hca:(w.alloc (.cells #[.int .u64 0,.int .u64 0,.int .i64 0] 260)).heap[w.heap.size]? =some (.cells #[.int .u64 0,.int .u64 0,.int .i64 0] 260 (0,0)):=heap_alloc_new w _
 generalize (w.alloc (.cells #[.int .u64 0,.int .u64 0,.int .i64 0] 260))=wa at*
 have h7a:=h7w.out.below hba hsz
 refine (HG.out _).mono ?_
 rintro e1 w2 ⟨rfl,rfl⟩
 rw [hle]
 go_wp2_with fail
 refine (prescale_any w.heap.size i ((j:Int)-1085) (-P) lp wa (by omega) (by omega) hi2 h7a (by omega) (by omega) (by omega) (by omega) (by omega) ?_ ?_ ?_ ?_ ?_ ?_).mono ?_
 case refine_7=>
  rintro e1 w2 ⟨rfl,rfl⟩
  rw [show-((j:Int)-1085+lp+3)=(S:Int) by omega]
  have hcb:=preW_cells w.heap.size i S wa _ hca
  have hbb:=preW_below w.heap.size i S wa w.heap.size (Nat.le_refl _)
  generalize preW w.heap.size i S wa=wb at*
  have hwb:=hba.trans hbb
  have c0:wb.cell? ⟨w.heap.size,0,none⟩=some (.int .u64 (tabH i:Int)):=by simp [World.cell?,hcb]
  have c1:wb.cell? ⟨w.heap.size,1,none⟩=some (.int .u64 (tabL i:Int)):=by simp [World.cell?,hcb]
  have c2:wb.cell? ⟨w.heap.size,2,none⟩=some (.int .i64 (S:Int)):=by simp [World.cell?,hcb]
  have c0k:∀k,(wb.drewN k).cell? ⟨w.heap.size,0,none⟩=some (.int .u64 (tabH i:Int)):=fun k=>(World.cell?_drewN _ _ _).trans c0
  have c1k:∀k,(wb.drewN k).cell? ⟨w.heap.size,1,none⟩=some (.int .u64 (tabL i:Int)):=fun k=>(World.cell?_drewN _ _ _).trans c1
  have c2k:∀k,(wb.drewN k).cell? ⟨w.heap.size,2,none⟩=some (.int .i64 (S:Int)):=fun k=>(World.cell?_drewN _ _ _).trans c2
  have HU1:=Lib.hid (uscale_any mn (tabH i) (tabL i) S w.heap.size wb bn2 hTH hTL hS2 c0 c1 c2 hpn)
  have HU2:=Lib.hid (fun k=>uscale_any mx (tabH i) (tabL i) S w.heap.size (wb.drewN k) bx2 hTH hTL hS2 (c0k k) (c1k k) (c2k k) hpx)
  have HU3:=Lib.hid (fun k=>uscale_any m (tabH i) (tabL i) S w.heap.size (wb.drewN k) bm2 hTH hTL hS2 (c0k k) (c1k k) (c2k k) hpm)
  have HBB:=Lib.hid hwb
  clear hcb h7a hbb hba c0 c1 c2 c0k c1k c2k hwb
  go_wp2_with fail
  refine HU1.out.mono ?_
  rintro e1 w3 ⟨rfl,n1,rfl⟩
  rw [hu]
  go_wp2_with fail
  refine (nudge_up u o _ (by omega) (by omega)).mono ?_
  rintro e1 w4 ⟨rfl,rfl⟩
  rw [hu2]
  go_wp2_with fail
  refine (ceil_any u2 _ (by omega)).mono ?_
  rintro e1 w4 ⟨rfl,rfl⟩
  rw [hdm]
  go_wp2_with fail
  refine (HU2.out _).mono ?_
  rintro e1 w3 ⟨rfl,n2,rfl⟩
  rw [hv,World.drewN_drewN]
  go_wp2_with fail
  refine (nudge_dn v o _ (by omega) (by omega) (by omega)).mono ?_
  rintro e1 w4 ⟨rfl,rfl⟩
  rw [hv2]
  go_wp2_with fail
  refine (floor_any v2 _ (by omega)).mono ?_
  rintro e1 w4 ⟨rfl,rfl⟩
  rw [hdx]
  have HB9:∀k,Below w.heap.size w (wb.drewN k):=fun k=>below_drewN HBB.out k
  by_cases hc:dm≤dx/10*10
  ·have q1:decide ((dx:Int)/10*10≥(dm:Int))=true:=decide_eq_true (by omega)
   have q2:decide ((dm:Int)≤(dx:Int)/10*10)=true:=decide_eq_true (by omega)
   have hr1:d0=dx/10:=by rw [←HD0.out];unfold shD;exact if_pos hc
   have hr2:y0=P+1:=by rw [←HY0.out];unfold shX;exact if_pos hc
   have HR:=Lib.hid (And.intro hr1 hr2)
   clear hdm hdx hc hr1 hr2
   go_wp2_with fail
   go_ret2
   refine ⟨?_,HB9 _⟩
   rw [HR.out.1,HR.out.2,show (P+1:Int)= -(-P-1) by omega]
   rfl
  ·have q1:decide ((dx:Int)/10*10≥(dm:Int))=false:=decide_eq_false (by omega)
   have q2:decide ((dm:Int)≤(dx:Int)/10*10)=false:=decide_eq_false (by omega)
   have hr2:y0=P:=by rw [←HY0.out];unfold shX;exact if_neg hc
   have HR2:=Lib.hid hr2
   clear hr2
   by_cases hd:dm<dx
   ·have q3:decide ((dm:Int)<(dx:Int))=true:=decide_eq_true (by omega)
    have hr1:d0=us.rnd t:=by rw [←HD0.out];unfold shD;rw [if_neg hc,if_pos hd]
    have HR:=Lib.hid hr1
    clear hr1 hdm hdx
    go_wp2_with fail
    refine (HU3.out _).mono ?_
    rintro e1 w3 ⟨rfl,n3,rfl⟩
    rw [ht,World.drewN_drewN]
    go_wp2_with fail
    refine (round_any t _ (by omega)).mono ?_
    rintro e1 w4 ⟨rfl,rfl⟩
    go_wp2_with fail
    go_ret2
    refine ⟨?_,HB9 _⟩
    rw [HR.out,HR2.out]
    rfl
   ·have q3:decide ((dm:Int)<(dx:Int))=false:=decide_eq_false (by omega)
    have hr1:d0=dm:=by rw [←HD0.out];unfold shD;rw [if_neg hc,if_neg hd]
    have HR:=Lib.hid hr1
    clear hr1 hdm hdx
    go_wp2_with fail
    go_ret2
    refine ⟨?_,HB9 _⟩
    rw [HR.out,HR2.out]
    rfl
 all_goals simp [World.cell?,World.frozen?,hca]
end Go.Proofs.YtjhhdnnblcbdbaaGreatDoor.uw
end
