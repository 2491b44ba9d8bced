/- shortFloat, walked: below the least normal float. shortFloat answers the shortest decimal. setDigits, walked: the digits of a number laid into a buffer, the noughts at their end not counted. -/
import Derived.Test.YtjhhdnnblcbdbaaGreatDoorGSw
section
namespace Go.Proofs.YtjhhdnnblcbdbaaGreatDoor.uw
open Go.RowKit mem fl big us sh
set_option linter.unusedVariables false
set_option maxRecDepth 100000 in
set_option maxHeartbeats 4000000 in
theorem sf_den (j y z Y k i S m mn mx o:Nat) (P lp:Int) (w:World) (hj:j<2046) (hi:(i:Int)=348-P) (hi2:i<696) (hlp:lpX P=lp) (hlpb: -2000≤lp∧lp≤2000) (hPb: -324≤P∧P≤308)
  (hS2:S<64) (h7:PowAt w) (hsz:14<w.heap.size) (ho:o≤1) (bm1:9223372036854775808≤m) (bm2:m<18446744073709551616) (bn1:4611686018427387904≤mn) (bn2:mn<18446744073709551616) (bx1:9223372036854775808≤mx) (bx2:mx<18446744073709551616)
  (u v t:Nat) (hu:usc mn (tabH i) (tabL i) (2^S)=u) (hv:usc mx (tabH i) (tabL i) (2^S)=v) (ht:usc m (tabH i) (tabL i) (2^S)=t) (bu:u<1152921504606846976) (bv:v<1152921504606846976) (bt:t<1152921504606846976) (hv1:1≤v)
  (hne:m≠9223372036854775808) (hz1:z=y+1) (hz2:11<z) (hz3:z<64) (hP:gP 0=P) (hS:(S:Int)=z+1074-lp-3) (hY:(2:Int)^y=(Y:Int)) (bY:Y≤4611686018427387904) (hmn:(m:Int)-Y=mn) (hmx:(m:Int)+Y=mx) (hk:(m:Int)/2^z=(k:Int)) (bk:k<9007199254740992) (ho2:bits .and .i64 (k:Int) 1=(o:Int)):
  Calls Tryz.prog 171 #[.int .u64 (m:Int),.int .i64 (-1074-(z:Int))] w (SfPost (shD ((u+o+3)/4) ((v-o)/4) (us.rnd t)) (shX ((u+o+3)/4) ((v-o)/4) P) w):=by
 obtain ⟨u2,hu2⟩:∃u2,u+o=u2:=⟨_,rfl⟩
 obtain ⟨v2,hv2⟩:∃v2,v-o=v2:=⟨_,rfl⟩
 rw [hu2,hv2]
 obtain ⟨dm,hdm⟩:∃dm,(u2+3)/4=dm:=⟨_,rfl⟩
 obtain ⟨dx,hdx⟩:∃dx,v2/4=dx:=⟨_,rfl⟩
 rw [hdm,hdx]
 have hdmb:dm<1152921504606846976:=by omega
 have hdxb:dx<1152921504606846976:=by omega
 obtain ⟨d0,hd0⟩:∃d0,shD dm dx (us.rnd t)=d0:=⟨_,rfl⟩
 obtain ⟨y0,hy0⟩:∃y0,shX dm dx P=y0:=⟨_,rfl⟩
 rw [hd0,hy0]
 have HD0:=Lib.hid hd0
 have HY0:=Lib.hid hy0
 clear hd0 hy0
 have HG:=Lib.hid (fun w=>lg_any (-P) w (by omega) (by omega))
 have hle:(-P)*108853/32768=lp:=hlp
 have h7w:=Lib.hid h7
 obtain ⟨_,_,hT1,hTH,hTL⟩:=bounds i hi2
 have hpos:∀x,4611686018427387904≤x→0<x*tabH i/18446744073709551616:=fun x hx=>by
  have:=Nat.mul_le_mul hx hT1
  omega
 have hpn:=hpos mn bn1
 have hpx:=hpos mx (by omega)
 have hpm:=hpos m (by omega)
 clear hpos h7 hlp
 have HK:=Lib.hid (fun w=>l10_any (-1074) w (by omega) (by omega))
 have HGE:Hid ((-1074:Int)*78913/262144=P):=Lib.hid hP
 have hez: -1074-(z:Int)+z= -1074:=by omega
 have hzz:(11:Int)+(-1085-(-1074-(z:Int)))=z:=by omega
 have hzy:(z:Int)-1=y:=by omega
 have HZ:=Lib.hid hz1
 clear hz1
 have q0:((m:Int)==9223372036854775808)=false:=beq_false_of_ne (by omega)
 clear hP hne
 go_enter Tryz.func171,Tryz.ntmps171
 go_wp2_with fail
 refine (HK.out _).mono ?_
 rintro e1 w2 ⟨rfl,rfl⟩
 rw [HGE.out]
 go_wp2_with fail
 have hba:Below w.heap.size w (w.alloc (.cells #[.int .u64 0,.int .u64 0,.int .i64 0] 260)):=bits_shape _ _
 have hza:(w.alloc (.cells #[.int .u64 0,.int .u64 0,.int .i64 0] 260)).heap.size=w.heap.size+1:=by simp
 have hca:(w.alloc (.cells #[.int .u64 0,.int .u64 0,.int .i64 0] 260)).heap[w.heap.size]? =some (.cells #[.int .u64 0,.int .u64 0,.int .i64 0] 260 (0,0)):=heap_alloc_new w _
 generalize (w.alloc (.cells #[.int .u64 0,.int .u64 0,.int .i64 0] 260))=wa at*
 have h7a:=h7w.out.below hba hsz
 refine (HG.out _).mono ?_
 rintro e1 w2 ⟨rfl,rfl⟩
 rw [hle]
 go_wp2_with fail
 refine (prescale_any w.heap.size i (-1074-(z:Int)) (-P) lp wa (by omega) (by omega) hi2 h7a (by omega) (by omega) (by omega) (by omega) (by omega) ?_ ?_ ?_ ?_ ?_ ?_).mono ?_
 case refine_7=>
  rintro e1 w2 ⟨rfl,rfl⟩
  rw [show-(-1074-(z:Int)+lp+3)=(S:Int) by omega]
  have hcb:=preW_cells w.heap.size i S wa _ hca
  have hbb:=preW_below w.heap.size i S wa w.heap.size (Nat.le_refl _)
  generalize preW w.heap.size i S wa=wb at*
  have hwb:=hba.trans hbb
  have c0:wb.cell? ⟨w.heap.size,0,none⟩=some (.int .u64 (tabH i:Int)):=by simp [World.cell?,hcb]
  have c1:wb.cell? ⟨w.heap.size,1,none⟩=some (.int .u64 (tabL i:Int)):=by simp [World.cell?,hcb]
  have c2:wb.cell? ⟨w.heap.size,2,none⟩=some (.int .i64 (S:Int)):=by simp [World.cell?,hcb]
  have c0k:∀k,(wb.drewN k).cell? ⟨w.heap.size,0,none⟩=some (.int .u64 (tabH i:Int)):=fun k=>(World.cell?_drewN _ _ _).trans c0
  have c1k:∀k,(wb.drewN k).cell? ⟨w.heap.size,1,none⟩=some (.int .u64 (tabL i:Int)):=fun k=>(World.cell?_drewN _ _ _).trans c1
  have c2k:∀k,(wb.drewN k).cell? ⟨w.heap.size,2,none⟩=some (.int .i64 (S:Int)):=fun k=>(World.cell?_drewN _ _ _).trans c2
  have HU1:=Lib.hid (uscale_any mn (tabH i) (tabL i) S w.heap.size wb bn2 hTH hTL hS2 c0 c1 c2 hpn)
  have HU2:=Lib.hid (fun k=>uscale_any mx (tabH i) (tabL i) S w.heap.size (wb.drewN k) bx2 hTH hTL hS2 (c0k k) (c1k k) (c2k k) hpx)
  have HU3:=Lib.hid (fun k=>uscale_any m (tabH i) (tabL i) S w.heap.size (wb.drewN k) bm2 hTH hTL hS2 (c0k k) (c1k k) (c2k k) hpm)
  have HBB:=Lib.hid hwb
  clear hcb h7a hbb hba c0 c1 c2 c0k c1k c2k hwb
  go_wp2_with fail
  refine HU1.out.mono ?_
  rintro e1 w3 ⟨rfl,n1,rfl⟩
  rw [hu]
  go_wp2_with fail
  refine (nudge_up u o _ (by omega) (by omega)).mono ?_
  rintro e1 w4 ⟨rfl,rfl⟩
  rw [hu2]
  go_wp2_with fail
  refine (ceil_any u2 _ (by omega)).mono ?_
  rintro e1 w4 ⟨rfl,rfl⟩
  rw [hdm]
  go_wp2_with fail
  refine (HU2.out _).mono ?_
  rintro e1 w3 ⟨rfl,n2,rfl⟩
  rw [hv,World.drewN_drewN]
  go_wp2_with fail
  refine (nudge_dn v o _ (by omega) (by omega) (by omega)).mono ?_
  rintro e1 w4 ⟨rfl,rfl⟩
  rw [hv2]
  go_wp2_with fail
  refine (floor_any v2 _ (by omega)).mono ?_
  rintro e1 w4 ⟨rfl,rfl⟩
  rw [hdx]
  have HB9:∀k,Below w.heap.size w (wb.drewN k):=fun k=>below_drewN HBB.out k
  by_cases hc:dm≤dx/10*10
  ·have q1:decide ((dx:Int)/10*10≥(dm:Int))=true:=decide_eq_true (by omega)
   have q2:decide ((dm:Int)≤(dx:Int)/10*10)=true:=decide_eq_true (by omega)
   have hr1:d0=dx/10:=by rw [←HD0.out];unfold shD;exact if_pos hc
   have hr2:y0=P+1:=by rw [←HY0.out];unfold shX;exact if_pos hc
   have HR:=Lib.hid (And.intro hr1 hr2)
   clear hdm hdx hc hr1 hr2
   go_wp2_with fail
   go_ret2
   refine ⟨?_,HB9 _⟩
   rw [HR.out.1,HR.out.2,show (P+1:Int)= -(-P-1) by omega]
   rfl
  ·have q1:decide ((dx:Int)/10*10≥(dm:Int))=false:=decide_eq_false (by omega)
   have q2:decide ((dm:Int)≤(dx:Int)/10*10)=false:=decide_eq_false (by omega)
   have hr2:y0=P:=by rw [←HY0.out];unfold shX;exact if_neg hc
   have HR2:=Lib.hid hr2
   clear hr2
   by_cases hd:dm<dx
   ·have q3:decide ((dm:Int)<(dx:Int))=true:=decide_eq_true (by omega)
    have hr1:d0=us.rnd t:=by rw [←HD0.out];unfold shD;rw [if_neg hc,if_pos hd]
    have HR:=Lib.hid hr1
    clear hr1 hdm hdx
    go_wp2_with fail
    refine (HU3.out _).mono ?_
    rintro e1 w3 ⟨rfl,n3,rfl⟩
    rw [ht,World.drewN_drewN]
    go_wp2_with fail
    refine (round_any t _ (by omega)).mono ?_
    rintro e1 w4 ⟨rfl,rfl⟩
    go_wp2_with fail
    go_ret2
    refine ⟨?_,HB9 _⟩
    rw [HR.out,HR2.out]
    rfl
   ·have q3:decide ((dm:Int)<(dx:Int))=false:=decide_eq_false (by omega)
    have hr1:d0=dm:=by rw [←HD0.out];unfold shD;rw [if_neg hc,if_neg hd]
    have HR:=Lib.hid hr1
    clear hr1 hdm hdx
    go_wp2_with fail
    go_ret2
    refine ⟨?_,HB9 _⟩
    rw [HR.out,HR2.out]
    rfl
 all_goals simp [World.cell?,World.frozen?,hca]
set_option maxRecDepth 100000 in
set_option maxHeartbeats 4000000 in
theorem sf_den2 (j y z Y k i S m mn mx o:Nat) (P lp:Int) (w:World) (hj:j<2046) (hi:(i:Int)=348-P) (hi2:i<696) (hlp:lpX P=lp) (hlpb: -2000≤lp∧lp≤2000) (hPb: -324≤P∧P≤308)
  (hS2:S<64) (h7:PowAt w) (hsz:14<w.heap.size) (ho:o≤1) (bm1:9223372036854775808≤m) (bm2:m<18446744073709551616) (bn1:4611686018427387904≤mn) (bn2:mn<18446744073709551616) (bx1:9223372036854775808≤mx) (bx2:mx<18446744073709551616)
  (u v t:Nat) (hu:usc mn (tabH i) (tabL i) (2^S)=u) (hv:usc mx (tabH i) (tabL i) (2^S)=v) (ht:usc m (tabH i) (tabL i) (2^S)=t) (bu:u<1152921504606846976) (bv:v<1152921504606846976) (bt:t<1152921504606846976) (hv1:1≤v)
  (hm:m=9223372036854775808) (hz1:z=y+1) (hz2:11<z) (hz3:z<64) (hP:gP 0=P) (hS:(S:Int)=z+1074-lp-3) (hY:(2:Int)^y=(Y:Int)) (bY:Y≤4611686018427387904) (hmn:(m:Int)-Y=mn) (hmx:(m:Int)+Y=mx) (hk:(m:Int)/2^z=(k:Int)) (bk:k<9007199254740992) (ho2:bits .and .i64 (k:Int) 1=(o:Int)):
  Calls Tryz.prog 171 #[.int .u64 (m:Int),.int .i64 (-1074-(z:Int))] w (SfPost (shD ((u+o+3)/4) ((v-o)/4) (us.rnd t)) (shX ((u+o+3)/4) ((v-o)/4) P) w):=by
 obtain ⟨u2,hu2⟩:∃u2,u+o=u2:=⟨_,rfl⟩
 obtain ⟨v2,hv2⟩:∃v2,v-o=v2:=⟨_,rfl⟩
 rw [hu2,hv2]
 obtain ⟨dm,hdm⟩:∃dm,(u2+3)/4=dm:=⟨_,rfl⟩
 obtain ⟨dx,hdx⟩:∃dx,v2/4=dx:=⟨_,rfl⟩
 rw [hdm,hdx]
 have hdmb:dm<1152921504606846976:=by omega
 have hdxb:dx<1152921504606846976:=by omega
 obtain ⟨d0,hd0⟩:∃d0,shD dm dx (us.rnd t)=d0:=⟨_,rfl⟩
 obtain ⟨y0,hy0⟩:∃y0,shX dm dx P=y0:=⟨_,rfl⟩
 rw [hd0,hy0]
 have HD0:=Lib.hid hd0
 have HY0:=Lib.hid hy0
 clear hd0 hy0
 have HG:=Lib.hid (fun w=>lg_any (-P) w (by omega) (by omega))
 have hle:(-P)*108853/32768=lp:=hlp
 have h7w:=Lib.hid h7
 obtain ⟨_,_,hT1,hTH,hTL⟩:=bounds i hi2
 have hpos:∀x,4611686018427387904≤x→0<x*tabH i/18446744073709551616:=fun x hx=>by
  have:=Nat.mul_le_mul hx hT1
  omega
 have hpn:=hpos mn bn1
 have hpx:=hpos mx (by omega)
 have hpm:=hpos m (by omega)
 clear hpos h7 hlp
 have HK:=Lib.hid (fun w=>l10_any (-1074) w (by omega) (by omega))
 have HGE:Hid ((-1074:Int)*78913/262144=P):=Lib.hid hP
 have hez: -1074-(z:Int)+z= -1074:=by omega
 have hzz:(11:Int)+(-1085-(-1074-(z:Int)))=z:=by omega
 have hzy:(z:Int)-1=y:=by omega
 have HZ:=Lib.hid hz1
 clear hz1
 have q0:((m:Int)==9223372036854775808)=true:=by rw [hm];decide
 have q1:decide (-1074-(z:Int)> -1085)=false:=decide_eq_false (by omega)
 have q2:decide (-1085< -1074-(z:Int))=false:=decide_eq_false (by omega)
 have HM:=Lib.hid hm
 clear hP hm
 go_enter Tryz.func171,Tryz.ntmps171
 go_wp2_with fail
 refine (HK.out _).mono ?_
 rintro e1 w2 ⟨rfl,rfl⟩
 rw [HGE.out]
 go_wp2_with fail
 have hba:Below w.heap.size w (w.alloc (.cells #[.int .u64 0,.int .u64 0,.int .i64 0] 260)):=bits_shape _ _
 have hza:(w.alloc (.cells #[.int .u64 0,.int .u64 0,.int .i64 0] 260)).heap.size=w.heap.size+1:=by simp
 have hca:(w.alloc (.cells #[.int .u64 0,.int .u64 0,.int .i64 0] 260)).heap[w.heap.size]? =some (.cells #[.int .u64 0,.int .u64 0,.int .i64 0] 260 (0,0)):=heap_alloc_new w _
 generalize (w.alloc (.cells #[.int .u64 0,.int .u64 0,.int .i64 0] 260))=wa at*
 have h7a:=h7w.out.below hba hsz
 refine (HG.out _).mono ?_
 rintro e1 w2 ⟨rfl,rfl⟩
 rw [hle]
 go_wp2_with fail
 refine (prescale_any w.heap.size i (-1074-(z:Int)) (-P) lp wa (by omega) (by omega) hi2 h7a (by omega) (by omega) (by omega) (by omega) (by omega) ?_ ?_ ?_ ?_ ?_ ?_).mono ?_
 case refine_7=>
  rintro e1 w2 ⟨rfl,rfl⟩
  rw [show-(-1074-(z:Int)+lp+3)=(S:Int) by omega]
  have hcb:=preW_cells w.heap.size i S wa _ hca
  have hbb:=preW_below w.heap.size i S wa w.heap.size (Nat.le_refl _)
  generalize preW w.heap.size i S wa=wb at*
  have hwb:=hba.trans hbb
  have c0:wb.cell? ⟨w.heap.size,0,none⟩=some (.int .u64 (tabH i:Int)):=by simp [World.cell?,hcb]
  have c1:wb.cell? ⟨w.heap.size,1,none⟩=some (.int .u64 (tabL i:Int)):=by simp [World.cell?,hcb]
  have c2:wb.cell? ⟨w.heap.size,2,none⟩=some (.int .i64 (S:Int)):=by simp [World.cell?,hcb]
  have c0k:∀k,(wb.drewN k).cell? ⟨w.heap.size,0,none⟩=some (.int .u64 (tabH i:Int)):=fun k=>(World.cell?_drewN _ _ _).trans c0
  have c1k:∀k,(wb.drewN k).cell? ⟨w.heap.size,1,none⟩=some (.int .u64 (tabL i:Int)):=fun k=>(World.cell?_drewN _ _ _).trans c1
  have c2k:∀k,(wb.drewN k).cell? ⟨w.heap.size,2,none⟩=some (.int .i64 (S:Int)):=fun k=>(World.cell?_drewN _ _ _).trans c2
  have HU1:=Lib.hid (uscale_any mn (tabH i) (tabL i) S w.heap.size wb bn2 hTH hTL hS2 c0 c1 c2 hpn)
  have HU2:=Lib.hid (fun k=>uscale_any mx (tabH i) (tabL i) S w.heap.size (wb.drewN k) bx2 hTH hTL hS2 (c0k k) (c1k k) (c2k k) hpx)
  have HU3:=Lib.hid (fun k=>uscale_any m (tabH i) (tabL i) S w.heap.size (wb.drewN k) bm2 hTH hTL hS2 (c0k k) (c1k k) (c2k k) hpm)
  have HBB:=Lib.hid hwb
  clear hcb h7a hbb hba c0 c1 c2 c0k c1k c2k hwb
  go_wp2_with fail
  refine HU1.out.mono ?_
  rintro e1 w3 ⟨rfl,n1,rfl⟩
  rw [hu]
  go_wp2_with fail
  refine (nudge_up u o _ (by omega) (by omega)).mono ?_
  rintro e1 w4 ⟨rfl,rfl⟩
  rw [hu2]
  go_wp2_with fail
  refine (ceil_any u2 _ (by omega)).mono ?_
  rintro e1 w4 ⟨rfl,rfl⟩
  rw [hdm]
  go_wp2_with fail
  refine (HU2.out _).mono ?_
  rintro e1 w3 ⟨rfl,n2,rfl⟩
  rw [hv,World.drewN_drewN]
  go_wp2_with fail
  refine (nudge_dn v o _ (by omega) (by omega) (by omega)).mono ?_
  rintro e1 w4 ⟨rfl,rfl⟩
  rw [hv2]
  go_wp2_with fail
  refine (floor_any v2 _ (by omega)).mono ?_
  rintro e1 w4 ⟨rfl,rfl⟩
  rw [hdx]
  have HB9:∀k,Below w.heap.size w (wb.drewN k):=fun k=>below_drewN HBB.out k
  by_cases hc:dm≤dx/10*10
  ·have q1:decide ((dx:Int)/10*10≥(dm:Int))=true:=decide_eq_true (by omega)
   have q2:decide ((dm:Int)≤(dx:Int)/10*10)=true:=decide_eq_true (by omega)
   have hr1:d0=dx/10:=by rw [←HD0.out];unfold shD;exact if_pos hc
   have hr2:y0=P+1:=by rw [←HY0.out];unfold shX;exact if_pos hc
   have HR:=Lib.hid (And.intro hr1 hr2)
   clear hdm hdx hc hr1 hr2
   go_wp2_with fail
   go_ret2
   refine ⟨?_,HB9 _⟩
   rw [HR.out.1,HR.out.2,show (P+1:Int)= -(-P-1) by omega]
   rfl
  ·have q1:decide ((dx:Int)/10*10≥(dm:Int))=false:=decide_eq_false (by omega)
   have q2:decide ((dm:Int)≤(dx:Int)/10*10)=false:=decide_eq_false (by omega)
   have hr2:y0=P:=by rw [←HY0.out];unfold shX;exact if_neg hc
   have HR2:=Lib.hid hr2
   clear hr2
   by_cases hd:dm<dx
   ·have q3:decide ((dm:Int)<(dx:Int))=true:=decide_eq_true (by omega)
    have hr1:d0=us.rnd t:=by rw [←HD0.out];unfold shD;rw [if_neg hc,if_pos hd]
    have HR:=Lib.hid hr1
    clear hr1 hdm hdx
    go_wp2_with fail
    refine (HU3.out _).mono ?_
    rintro e1 w3 ⟨rfl,n3,rfl⟩
    rw [ht,World.drewN_drewN]
    go_wp2_with fail
    refine (round_any t _ (by omega)).mono ?_
    rintro e1 w4 ⟨rfl,rfl⟩
    go_wp2_with fail
    go_ret2
    refine ⟨?_,HB9 _⟩
    rw [HR.out,HR2.out]
    rfl
   ·have q3:decide ((dm:Int)<(dx:Int))=false:=decide_eq_false (by omega)
    have hr1:d0=dm:=by rw [←HD0.out];unfold shD;rw [if_neg hc,if_neg hd]
    have HR:=Lib.hid hr1
    clear hr1 hdm hdx
    go_wp2_with fail
    go_ret2
    refine ⟨?_,HB9 _⟩
    rw [HR.out,HR2.out]
    rfl
 all_goals simp [World.cell?,World.frozen?,hca]
end Go.Proofs.YtjhhdnnblcbdbaaGreatDoor.uw
end
section
namespace Go.Proofs.YtjhhdnnblcbdbaaGreatDoor.uw
open Go.RowKit mem fl big us sh
set_option linter.unusedVariables false
theorem shape (a:Nat) (h0:0<a) (h1:a<9218868437227405312):∃j K z,Sh a j K z∧Lib.bitLen K=64-(z:Int):=by
 obtain ⟨j,K,ha,hK0,hK,hj,hj2⟩:∃j K,a=j*4503599627370496+K∧0<K∧K<9007199254740992∧(j=0∨4503599627370496≤K)∧j<2046:=by
  rcases form a with h | ⟨j,K,rfl,h2,h3⟩
  ·exact ⟨0,a,by omega,h0,by omega,.inl rfl,by omega⟩
  ·exact ⟨j,K,rfl,by omega,h3,.inr h2,by omega⟩
 obtain ⟨c,hc,hb,hx1,hx2⟩:=bl_spec K hK0 (by omega)
 refine ⟨j,K,c,⟨ha,hK0,hK,hj,hj2,hx1,hx2,?_,hc⟩,hb⟩
 by_cases h:11≤c
 ·exact h
 ·have:K*2^c≤9007199254740991*2^10:=Nat.mul_le_mul (by omega) (Nat.pow_le_pow_right (by decide) (by omega))
  have h10:(2:Nat)^10=1024:=by decide
  omega
def ShPost (a:Nat) (w:World) (e:Ending) (w':World):Prop:=∃(d:Nat) (y:Int),e= .returned (.tuple #[.int .u64 (d:Int),.int .i64 y])∧Cand a d y∧0<d∧d<1152921504606846976∧ -400≤y∧y≤400∧Below w.heap.size w w'
theorem sfpost {a d:Nat} {y:Int} {w:World} (hc:Cand a d y) (h0:0<d) (h1:d<1152921504606846976) (h2: -400≤y) (h3:y≤400) {f:FuncId} {args:Array Value} (h:Calls Tryz.prog f args w (SfPost d y w)):Calls Tryz.prog f args w (ShPost a w):=
 h.mono fun e w' he=>⟨d,y,he.1,hc,h0,h1,h2,h3,he.2⟩
theorem short_any (a j K z:Nat) (w:World) (h0:0<a) (h1:a<9218868437227405312) (h:Sh a j K z) (h7:PowAt w) (hsz:14<w.heap.size):
  Calls Tryz.prog 171 #[.int .u64 ((K*2^z:Nat):Int),.int .i64 ((j:Int)-1074-z)] w (ShPost a w):=by
 obtain ⟨p1,p2,p3,p4,p5,p6,p7⟩:=h.bits
 have hz1:=h.hz1
 have hz2:=h.hz2
 have hm1:=h.hm1
 have hm2:=h.hm2
 have hj2:=h.hj2
 have hKlt:=h.hK
 have hK0:=h.hK0
 have hao:a % 2=K % 2:=by have:=h.ha;omega
 have hdiv:((K*2^z:Nat):Int)/2^z=(K:Int):=by
  rw [show ((2:Int)^z)=((2^z:Nat):Int) by simp,←Int.natCast_ediv,Nat.mul_div_cancel _ (Nat.two_pow_pos z)]
 have hodd:bits .and .i64 (K:Int) 1=((a % 2:Nat):Int):=by rw [hao];exact and_one_i K (by omega)
 have ho:a % 2≤1:=by omega
 have fin:∀(P:Int) (mn mx:Nat),(Skw j K∧P=gS j∧mn=K*2^z-512∧z=11)∨(¬Skw j K∧P=gP j∧mn=K*2^z-2^(z-1))→mx=K*2^z+2^(z-1)→
   ∃(i S u v t:Nat),(i:Int)=348-P∧i<696∧(-2000≤lpX P∧lpX P≤2000)∧(-324≤P∧P≤308)∧(S:Int)=z-((j:Int)-1074)-lpX P-3∧S<64∧
    mn<18446744073709551616∧mx<18446744073709551616∧4611686018427387904≤mn∧9223372036854775808≤mx∧
    usc mn (tabH i) (tabL i) (2^S)=u∧usc mx (tabH i) (tabL i) (2^S)=v∧usc (K*2^z) (tabH i) (tabL i) (2^S)=t∧u<1152921504606846976∧v<1152921504606846976∧t<1152921504606846976∧1≤v∧
    Cand a (shD ((u+a % 2+3)/4) ((v-a % 2)/4) (us.rnd t)) (shX ((u+a % 2+3)/4) ((v-a % 2)/4) P)∧0<shD ((u+a % 2+3)/4) ((v-a % 2)/4) (us.rnd t):=by
  intro P mn mx hcs hmx
  have hPb: -324≤P∧P≤308∧0≤lpX P+j-1074∧lpX P+j-1074≤3:=by
   rcases hcs with ⟨hk,hP,_⟩ | ⟨hk,hP,_⟩
   ·have:=tabS_at j hj2 hk.2
    rw [←hP] at this
    exact ⟨this.1,this.2.1,this.2.2.1,this.2.2.2.1⟩
   ·have:=tabJ_at j hj2
    rw [←hP] at this
    exact ⟨this.1,this.2.1,this.2.2.1,this.2.2.2.1⟩
  have hC:Ca a j K z P (348-P).toNat ((z:Int)-((j:Int)-1074)-lpX P-3).toNat mn mx:=⟨h,hcs,hmx,by omega,by omega⟩
  obtain ⟨b1,b2,b3,b4,b5⟩:=hC.bd
  obtain ⟨_,_,_,n0,n1,n2,n3⟩:=hC.usc
  obtain ⟨c1,c2,c3,c4,c5,c6⟩:=hC.short h0 h1 _ _ _ rfl rfl rfl
  exact ⟨(348-P).toNat,((z:Int)-((j:Int)-1074)-lpX P-3).toNat,_,_,_,by omega,b5,by omega,⟨hPb.1,hPb.2.1⟩,by omega,b4,n1,n2,n3,by omega,rfl,rfl,rfl,c3,c4,c5,c6,c1,c2⟩
 have shb:∀(P:Int) (u v t o:Nat),o≤1→ -324≤P∧P≤308→u<1152921504606846976→v<1152921504606846976→t<1152921504606846976→shD ((u+o+3)/4) ((v-o)/4) (us.rnd t)<1152921504606846976∧ -400≤shX ((u+o+3)/4) ((v-o)/4) P∧shX ((u+o+3)/4) ((v-o)/4) P≤400:=by
  intro P u v t o ho hP hu hv ht
  unfold shD shX us.rnd
  split
  ·omega
  ·split <;> omega
 by_cases hk:Skw j K
 ·obtain ⟨hK,hj0⟩:=hk
  have hz:z=11:=by
   by_cases hz:12≤z
   ·have:4503599627370496*2^12≤K*2^z:=Nat.mul_le_mul (by omega) (Nat.pow_le_pow_right (by decide) hz)
    have h12:(2:Nat)^12=4096:=by decide
    omega
   ·omega
  obtain ⟨i,S,u,v,t,f1,f2,f3,f4,f5,f6,f7,f8,f9,f10,f11,f12,f13,f14,f15,f16,f17,f18,f19⟩:=fin (gS j) (K*2^z-512) (K*2^z+2^(z-1)) (.inl ⟨⟨hK,hj0⟩,rfl,rfl,hz⟩) rfl
  obtain ⟨s1,s2,s3⟩:=shb (gS j) u v t (a % 2) ho f4 f14 f15 f16
  have hm:K*2^z=9223372036854775808:=by rw [hK,hz]
  have h10:2^(z-1)=1024:=by rw [hz]
  have e11:(2:Int)^z=2048:=by rw [hz];decide
  rw [show (j:Int)-1074-z=(j:Int)-1085 by omega]
  exact sfpost f18 f19 s1 s2 s3 (sf_skew j i S (K*2^z) _ _ (a % 2) (gS j) (lpX (gS j)) w hj2 f1 f2 rfl f3 f4 f6 h7 hsz ho hm1 hm2 f9 f7 f10 f8 u v t f11 f12 f13 f14 f15 f16 f17 hj0 rfl (by omega) hm (by omega) (by omega) (by rw [←e11,hdiv];exact hodd))
 ·obtain ⟨i,S,u,v,t,f1,f2,f3,f4,f5,f6,f7,f8,f9,f10,f11,f12,f13,f14,f15,f16,f17,f18,f19⟩:=fin (gP j) (K*2^z-2^(z-1)) (K*2^z+2^(z-1)) (.inr ⟨hk,rfl,rfl⟩) rfl
  obtain ⟨s1,s2,s3⟩:=shb (gP j) u v t (a % 2) ho f4 f14 f15 f16
  by_cases hz:z=11
  ·have h10:2^(z-1)=1024:=by rw [hz]
   have e11:(2:Int)^z=2048:=by rw [hz];decide
   rw [show (j:Int)-1074-z=(j:Int)-1085 by omega]
   by_cases hm:K*2^z=9223372036854775808
   ·have hK:K=4503599627370496:=by
     rw [hz] at hm
     omega
    have hj0:j=0:=by
     unfold Skw at hk
     omega
    exact sfpost f18 f19 s1 s2 s3 (sf_least j i S (K*2^z) _ _ (a % 2) (gP j) (lpX (gP j)) w hj2 f1 f2 rfl f3 f4 f6 h7 hsz ho hm1 hm2 f9 f7 f10 f8 u v t f11 f12 f13 f14 f15 f16 f17 hj0 hm rfl (by omega) (by omega) (by omega) (by rw [←e11,hdiv];exact hodd))
   ·exact sfpost f18 f19 s1 s2 s3 (sf_norm j i S (K*2^z) _ _ (a % 2) (gP j) (lpX (gP j)) w hj2 f1 f2 rfl f3 f4 f6 h7 hsz ho hm1 hm2 f9 f7 f10 f8 u v t f11 f12 f13 f14 f15 f16 f17 hm rfl (by omega) (by omega) (by omega) (by rw [←e11,hdiv];exact hodd))
  ·have hj0:j=0:=by
    rcases h.hj with hj | hj
    ·exact hj
    ·have:4503599627370496*2^12≤K*2^z:=Nat.mul_le_mul hj (Nat.pow_le_pow_right (by decide) (by omega))
     have h12:(2:Nat)^12=4096:=by decide
     omega
   subst hj0
   have hY:2^(z-1)≤2^62:=Nat.pow_le_pow_right (by decide) (by omega)
   have h62:(2:Nat)^62=4611686018427387904:=by decide
   have hpi:((2:Int)^(z-1))=((2^(z-1):Nat):Int):=by simp
   rw [show ((0:Nat):Int)-1074-z= -1074-(z:Int) by omega]
   by_cases hm:K*2^z=9223372036854775808
   ·exact sfpost f18 f19 s1 s2 s3 (sf_den2 0 (z-1) z (2^(z-1)) K i S (K*2^z) _ _ (a % 2) (gP 0) (lpX (gP 0)) w (by omega) f1 f2 rfl f3 f4 f6 h7 hsz ho hm1 hm2 f9 f7 f10 f8 u v t f11 f12 f13 f14 f15 f16 f17 hm (by omega) (by omega) (by omega) rfl (by omega) hpi (by omega) (by omega) (by omega) hdiv hKlt hodd)
   ·exact sfpost f18 f19 s1 s2 s3 (sf_den 0 (z-1) z (2^(z-1)) K i S (K*2^z) _ _ (a % 2) (gP 0) (lpX (gP 0)) w (by omega) f1 f2 rfl f3 f4 f6 h7 hsz ho hm1 hm2 f9 f7 f10 f8 u v t f11 f12 f13 f14 f15 f16 f17 hm (by omega) (by omega) (by omega) rfl (by omega) hpi (by omega) (by omega) (by omega) hdiv hKlt hodd)
end Go.Proofs.YtjhhdnnblcbdbaaGreatDoor.uw
end
section
namespace Go.Proofs.YtjhhdnnblcbdbaaGreatDoor.uw
open Go.RowKit Go.Sort mem fl big us sh
set_option linter.unusedVariables false
def encB (b:UInt8):Value:= .int .u8 (b.toNat:Int)
def SdPost (g d nd:Nat) (p:Int) (w:World) (e:Ending) (w':World):Prop:=
 ∃(r n v':Nat) (dk:Array UInt8),e= .returned (.tuple #[.int .i64 ((nd:Int)+p),.int .i64 (r:Int)])∧w'=(putRow encB w g 0 dk).drewN n∧Lib.FmtInv nd d 0 v' dk∧r≤nd∧(r=0∨dk[r-1]!≠48)∧∀t,r≤t→t<nd→dk[t]! =48
set_option maxRecDepth 100000 in
set_option maxHeartbeats 2000000 in
theorem setDigits_any (g d nd:Nat) (p:Int) (w:World) (dk0:Array UInt8) (hH:Holds encB w g 0 dk0) (hz:dk0.size=nd) (hnd:nd≤20) (hd:d<10^nd) (hd2:d<18446744073709551616) (hp1: -1000≤p) (hp2:p≤1000):
  Calls Tryz.prog 166 #[.slice (some ⟨g,0,none⟩) 32 32,.int .u64 (d:Int),.int .i64 p,.int .i64 (nd:Int)] w (SdPost g d nd p w):=by
 have HF:=Lib.hid (fun cap=>shelf.internal_strconv_formatBase10 g 0 cap d dk0 w hH (by rw [hz];exact hd) hd2 (by omega))
 rw [hz] at HF
 have hle:decide ((nd:Int)≤32)=true:=decide_eq_true (by omega)
 go_enter Tryz.func166,Tryz.ntmps166
 go_wp2_with fail
 refine (HF.out _).mono ?_
 rintro e w2 ⟨rfl,n,v',dk,rfl,hF⟩
 have hcell:∀k,k<nd→((putRow encB w g 0 dk).drewN n).cell? ⟨g,k,none⟩=some (.int .u8 ((dk[k]!).toNat:Int)):=fun k hk=>by
  have h1:=cell?_putRow encB w g 0 dk0 dk hH (by rw [hF.size,hz]) k (by rw [hF.size];exact hk)
  rw [Nat.zero_add] at h1
  exact h1
 obtain ⟨w2,hw2⟩:∃w2,(putRow encB w g 0 dk).drewN n=w2:=⟨_,rfl⟩
 rw [hw2] at hcell
 have hw3:(putRow (fun b=>Value.int IntKind.u8 (b.toNat:Int)) w g 0 dk).drewN n=w2:=hw2
 rw [hw3]
 have HW:=Lib.hid hw2
 have HC:=Lib.hid hcell
 have HFI:=Lib.hid hF
 clear hw2 hw3 hcell hF hH HF hz
 go_wp2_with fail
 go_loopw [3] (fun v3 wr=>∃r:Nat,r≤nd∧v3= .int .i64 (r:Int)∧wr=w2∧Hid (∀t,r≤t→t<nd→dk[t]! =48)) (fun v3 _=>(intOf v3).toNat)
 case atStart=>exact ⟨nd,Nat.le_refl _,rfl,rfl,Lib.hid fun t h1 h2=>by omega⟩
 case round=>
  obtain ⟨r,hr,rfl,rfl,hst⟩:=hrel
  by_cases h0:0<r
  ·obtain ⟨c,hc⟩:∃c,(dk[r-1]!).toNat=c:=⟨_,rfl⟩
   have hcl:=HC.out (r-1) (by omega)
   rw [hc] at hcl
   obtain ⟨k,hk⟩:∃k,r=k+1:=⟨r-1,by omega⟩
   subst hk
   rw [Nat.add_sub_cancel] at hcl
   have hki:((k+1:Nat):Int)-1=(k:Int):=by omega
   have HCc:=Lib.hid hc
   clear hc
   by_cases h48:c=48
   ·subst h48
    go_wp2_with fail
    refine ⟨⟨k,by omega,rfl,trivial,Lib.hid fun t h1 h2=>?_⟩,by simp [intOf]⟩
    by_cases ht:t=k
    ·subst ht
     have:=HCc.out
     rw [Nat.add_sub_cancel] at this
     exact UInt8.toNat_inj.1 this
    ·exact hst.out t (by omega) h2
   ·have q:((c:Int)==48)=false:=beq_false_of_ne (by omega)
    go_wp2_with fail
    go_ret2
    refine ⟨k+1,n,v',dk,rfl,HW.out.symm,HFI.out,hr,.inr ?_,hst.out⟩
    intro h
    rw [h] at HCc
    exact h48 HCc.out.symm
  ·have hr0:r=0:=by omega
   subst hr0
   go_wp2_with fail
   go_ret2
   exact ⟨0,n,v',dk,rfl,HW.out.symm,HFI.out,hr,.inl rfl,hst.out⟩
end Go.Proofs.YtjhhdnnblcbdbaaGreatDoor.uw
end
