/- What stands behind a backslash. Printed by gen_ji.py. A text. -/
import Derived.Test.YtjhhdnnblcbdbaaGreatDoorGJf
import Derived.Test.YtjhhdnnblcbdbaaGreatDoorGVal
import Derived.Lib.ConvBytes
import Derived.OwnWalk
import Derived.OpenShut
import Derived.Lib.OthersKept
section
namespace Go.Proofs.YtjhhdnnblcbdbaaGreatDoor.jw
open Go.RowKit mem val jp
set_option linter.unusedVariables false
set_option linter.unusedSectionVars false
theorem bt_size (l:List Nat):(bt l).size=l.length:=by unfold bt;rw [strOf_size,List.length_map]
theorem bt_data (l:List Nat):(bt l).data.toList=l.map UInt8.ofNat:=by
 unfold bt strOf
 simp [Function.comp_def]
theorem nats_bt {l:List Nat} (h:∀x∈l,x<256):natsOf (bt l)=l:=by
 unfold natsOf
 rw [bt_data,List.map_map]
 conv=>rhs;rw [←List.map_id l]
 refine List.map_congr_left fun x hx=>?_
 have:=h x hx
 simp only [Function.comp,id,UInt8.toNat_ofNat']
 omega
theorem RS_bytes {l:List Nat} (h:∀x∈l,x<256) (W:World) (c:Nat):RS l (.slice (some ⟨W.heap.size,0,none⟩) (bt l).size c) (Lib.bytesWorld W 5 (bt l)):=by
 refine ⟨_,c,by rw [bt_size],fun j u hu=>?_,fun h=>by cases h⟩
 rw [us_get] at hu
 have hj:j<l.length:=by
  rcases Nat.lt_or_ge j l.length with h | h
  ·exact h
  ·rw [List.getElem?_eq_none h] at hu;cases hu
 rw [List.getElem?_eq_getElem hj] at hu
 simp only [Option.map_some,Option.some.injEq] at hu
 subst hu
 refine ⟨_,rfl,by rw [Lib.bytesWorld_size];exact Nat.lt_succ_self _,?_⟩
 rw [add_zero_off,Lib.bytesWorld_cell _ _ _ _ (by rw [bt_size];exact hj)]
 have h1:=nats_bt h
 have h2:((bt l).data.toList.getD j 0).toNat=l[j]:=by
  have h3:=congrArg (fun m=>m[j]?) h1
  simp only [natsOf,List.getElem?_map,List.getElem?_eq_getElem hj] at h3
  rw [List.getD_eq_getElem?_getD]
  cases h4:(bt l).data.toList[j]? with
  | none=>rw [h4] at h3;cases h3
  | some z=>rw [h4] at h3;simpa using h3
 rw [h2]
theorem below_bytesW (W:World) (s:ByteArray):Below W.heap.size W (Lib.bytesWorld W 5 s):=
 ⟨by simp [Lib.bytesWorld,World.freeze,World.alloc,World.drew,-World.alloc_eq,-World.drew_eq],by simp [Lib.bytesWorld,World.freeze,World.alloc,World.drew,-World.alloc_eq,-World.drew_eq],by simp [Lib.bytesWorld,World.freeze,World.alloc,World.drew,-World.alloc_eq,-World.drew_eq],by rw [Lib.bytesWorld_size];omega,fun k hk=>Lib.bytesWorld_at_old W _ s k hk⟩
theorem Rdr.to {w:World} {g:Nat} {A:Option Addr} {n c a b:Nat} {o dp:Int} (h:Rdr w g A n c (a:Int) o dp) (e:a=b):Rdr w g A n c (b:Int) o dp:=by rw [←e];exact h
theorem bel_dr {B:Nat} {a w:World} (h:Below B a w) (k:Nat):Below B a (w.drewN k):=⟨h.os,h.tape,h.output,h.size,h.block⟩
theorem conv_strJ (s:ByteArray) (w:World):(convert 9 22 (.string s)).run Tryz.prog w= .ok (.slice (some ⟨w.heap.size,0,none⟩) s.size (grownCap w s.size 0 5)) (Lib.bytesWorld w 5 s):=Lib.run_convert_string_bytes w 9 22 5 s Tryz.underlying9 Tryz.underlying22 Tryz.underlying5
theorem join_lt (a m:Int): -2147483648≤join a m∧join a m≤2147483647:=by
 unfold join
 split <;> omega
def nmL:List Nat:=[34,92,47,98,102,110,114,116]
def mnL:List Nat:=[34,92,47,8,12,10,13,9]
theorem mean_at:∀i,i<8→mean (nmL.getD i 0)=some (mnL.getD i 0):=by decide
theorem mean_none {y:Nat} (h:∀j,j<8→nmL.getD j 0≠y):mean y=none:=by
 have h0:=h 0 (by omega)
 have h1:=h 1 (by omega)
 have h2:=h 2 (by omega)
 have h3:=h 3 (by omega)
 have h4:=h 4 (by omega)
 have h5:=h 5 (by omega)
 have h6:=h 6 (by omega)
 have h7:=h 7 (by omega)
 simp only [nmL,List.getD_cons_zero,List.getD_cons_succ] at h0 h1 h2 h3 h4 h5 h6 h7
 unfold mean
 repeat (first | rw [if_neg (by omega)])
theorem escP_some {l:List Nat} {b:Nat} (h:mean (l.headD 0)=some b) (hl:l≠[]):escP l= .ok [b] 1:=by
 unfold escP
 rw [h]
 cases l with
 | nil=>exact absurd rfl hl
 | cons x r=>rfl
theorem escP_none {l:List Nat} (h:mean (l.headD 0)=none):escP l=escU l:=by
 unfold escP
 rw [h]
theorem mnL_lt:∀i,i<8→mnL.getD i 0<256:=by decide
section
variable {F:Nf} {w0:World} {g:Nat} {A:Option Addr} {n:Nat} {src:List Nat} (HC:Cx F w0 g A n src) {c:Nat} {o dp:Int}
include HC
set_option maxRecDepth 100000 in
set_option maxHeartbeats 1600000 in
theorem escape_any (w:World) (p:Nat) (hb:Below w0.heap.size w0 w) (hr:Rdr w g A n c (p:Int) o dp) (hp:p≤n):
  Calls Tryz.prog 79 #[.pointer (some ⟨g,0,none⟩)] w (Pst g A n c (fun _=>o) dp RS p (escP (src.drop p)) w):=by
 have hn:=HC.le
 have HB:=Lib.hid hb
 have HC':=Lib.hid HC
 have HNx:=Lib.hid (next_any HC w p hb hr hp)
 obtain ⟨y,hy⟩:∃y:Nat,src.getD p 0=y:=⟨_,rfl⟩
 have hyd:(src.drop p).headD 0=y:=by rw [head_drop,hy]
 have hylt:y≠0→p<n:=fun h0=>by
  rcases Nat.lt_or_ge p n with h | h
  ·exact h
  ·rw [List.getD_eq_getElem?_getD,List.getElem?_eq_none (by rw [HC.len];exact h)] at hy
   exact absurd hy.symm h0
 have HY:=Lib.hid (And.intro hyd hylt)
 have HR:=Lib.hid hr
 rw [hy] at HNx
 clear hb hr hy hyd hylt
 go_enter Tryz.func79,Tryz.ntmps79
 go_wp2_with fail
 refine HNx.out.mono ?_
 rintro e w1 ⟨rfl,hsm⟩
 have HR1:=Lib.hid (hsm.rdr HR.out)
 have HK1:=Lib.hid ((Kp.refl g w.heap.size w).sm hsm)
 have HB1:=Lib.hid (hsm.below HB.out)
 clear HNx hsm HR
 go_wp2_with fail
 go_loopw [15] (fun v15 wr=>∃i:Nat,v15= .int .i64 (i:Int)∧i≤8∧Hid (∀j,j<i→nmL.getD j 0≠y)∧Hid (Rdr wr g A n c (p:Int) o dp)∧Hid (Kp g w.heap.size w wr)∧Hid (Below w0.heap.size w0 wr)) (fun v15 wr=>8-(intOf v15).toNat)
 case atStart=>exact ⟨0,rfl,by omega,Lib.hid (fun j hj=>by omega),HR1,HK1,HB1⟩
 case round=>
  clear HR1 HK1 HB1
  obtain ⟨i,rfl,hi,HN,HRr,HKr,HBr⟩:=hrel
  obtain ⟨c0,c1,c2,c3⟩:=HRr.out.cells
  have f1:=HRr.out.frozen 1
  by_cases h8:i=8
  ·have HMn:Hid (escP (src.drop p)=escU (src.drop p)):=Lib.hid (escP_none (by rw [HY.out.1];exact mean_none (fun j hj=>HN.out j (by omega))))
   subst h8
   clear HN HY hi
   clear c0 c1 c2 c3 f1
   go_wp2_with fail
   refine (want_any HC'.out 117 wr p HBr.out HRr.out hp).mono ?_
   rintro e w2 hP
   rcases want_cases 117 (src.drop p) with ⟨h1,h2,h3⟩ | ⟨h1,h3⟩
   rotate_left
   ·rw [h3] at hP
    obtain ⟨rfl,hk2⟩:=hP.er
    have HF:=Lib.hid (HKr.out.next hk2 HKr.out.size)
    have HE2:Hid (escP (src.drop p)= .er 0 50):=Lib.hid (by rw [HMn.out,escU,bnd_err h3])
    clear hP hk2 h1 h3 HMn HRr HKr HBr
    unfold flt
    go_wp2_with fail
    rw [HE2.out]
    exact ⟨rfl,HF.out,rfl⟩
   rw [h3] at hP
   obtain ⟨v,rfl,rfl,hr2,hk2⟩:=hP.ok
   have hpn:p<n:=by rw [←HC'.out.len];exact drop_ne.1 h1
   have HR2:=Lib.hid hr2
   have HK2:=Lib.hid (HKr.out.next hk2 HKr.out.size)
   have HB2:=Lib.hid (below_kp HC'.out HB.out HK2.out)
   have HE2:=Lib.hid (show escP (src.drop p)=((bnd (digs mayH) fun n=>if 55296≤n∧n≤56319 then bnd (want 92) fun _=>bnd (want 117) fun _=>bnd (digs mayL) fun m=>jp.ret (enc (join n m)) else jp.ret (enc n)) (src.drop (p+1))).sh 1 by rw [HMn.out,escU,bnd_okr h3,List.drop_drop])
   clear hP hr2 hk2 h1 h2 h3 HMn HRr HKr HBr
   go_wp2_with fail
   refine (digitsH HC'.out w2 (p+1) HB2.out HR2.out (by omega)).mono ?_
   rintro e w3 hP
   cases hD:digs mayH (src.drop (p+1)) with
   | er k e0=>
     rw [hD] at hP
     obtain ⟨rfl,hk3⟩:=hP.er
     have HF:=Lib.hid (HK2.out.next hk3 HK2.out.size)
     have HE3:Hid (escP (src.drop p)= .er (1+k) e0):=Lib.hid (by rw [HE2.out,bnd_err hD];rfl)
     clear hP hk3 hD HE2 HR2 HK2 HB2
     unfold flt
     go_wp2_with fail
     rw [HE3.out]
     refine ⟨rfl,HF.out,?_⟩
     show flt _ _=flt _ _
     refine flt_at ?_;simp only [Nat.add_assoc]
   | ok a k=>
     rw [hD] at hP
     obtain ⟨v,rfl,⟨rfl,ha0,ha1⟩,hr3,hk3⟩:=hP.ok
     have HR3:=Lib.hid hr3
     have HK3:=Lib.hid (HK2.out.next hk3 HK2.out.size)
     have HB3:=Lib.hid (below_kp HC'.out HB.out HK3.out)
     have HE3:=Lib.hid (show escP (src.drop p)=((if 55296≤a∧a≤56319 then bnd (want 92) fun _=>bnd (want 117) fun _=>bnd (digs mayL) fun m=>jp.ret (enc (join a m)) else jp.ret (enc a)) (src.drop (p+1+k))).sh (1+k) by rw [HE2.out,bnd_okr hD,sh_sh,List.drop_drop])
     have hkn:p+1+k≤n:=by
      have:=(Loc.digs mayH).okl _ _ _ hD
      rw [List.length_drop,HC'.out.len] at this
      omega
     clear hP hr3 hk3 hD HE2 HR2 HK2 HB2
     by_cases hs1:55296≤a
     ·by_cases hs2:a≤56319
      ·have HE4:=Lib.hid (show escP (src.drop p)=((bnd (want 92) fun _=>bnd (want 117) fun _=>bnd (digs mayL) fun m=>jp.ret (enc (join a m))) (src.drop (p+1+k))).sh (1+k) by rw [HE3.out,if_pos ⟨hs1,hs2⟩])
       clear HE3
       go_wp2_with fail
       refine (want_any HC'.out 92 w3 (p+1+k) HB3.out HR3.out hkn).mono ?_
       rintro e w4 hP
       rcases want_cases 92 (src.drop (p+1+k)) with ⟨h1,h2,h3⟩ | ⟨h1,h3⟩
       rotate_left
       ·rw [h3] at hP
        obtain ⟨rfl,hk4⟩:=hP.er
        have HF:=Lib.hid (HK3.out.next hk4 HK3.out.size)
        have HE5:Hid (escP (src.drop p)= .er (1+k) 50):=Lib.hid (by rw [HE4.out,bnd_err h3];rfl)
        clear hP hk4 h1 h3 HE4 HR3 HK3 HB3
        unfold flt
        go_wp2_with fail
        rw [HE5.out]
        refine ⟨rfl,HF.out,?_⟩
        show flt _ _=flt _ _
        refine flt_at ?_;simp only [Nat.add_assoc]
       rw [h3] at hP
       obtain ⟨v,rfl,rfl,hr4,hk4⟩:=hP.ok
       have hpn4:p+1+k<n:=by rw [←HC'.out.len];exact drop_ne.1 h1
       have HR4:=Lib.hid hr4
       have HK4:=Lib.hid (HK3.out.next hk4 HK3.out.size)
       have HB4:=Lib.hid (below_kp HC'.out HB.out HK4.out)
       have HE5:=Lib.hid (show escP (src.drop p)=((bnd (want 117) fun _=>bnd (digs mayL) fun m=>jp.ret (enc (join a m))) (src.drop (p+1+k+1))).sh (1+k+1) by rw [HE4.out,bnd_okr h3,sh_sh,List.drop_drop])
       clear hP hr4 hk4 h1 h2 h3 HE4 HR3 HK3 HB3
       go_wp2_with fail
       refine (want_any HC'.out 117 w4 (p+1+k+1) HB4.out HR4.out (by omega)).mono ?_
       rintro e w5 hP
       rcases want_cases 117 (src.drop (p+1+k+1)) with ⟨h1,h2,h3⟩ | ⟨h1,h3⟩
       rotate_left
       ·rw [h3] at hP
        obtain ⟨rfl,hk5⟩:=hP.er
        have HF:=Lib.hid (HK4.out.next hk5 HK4.out.size)
        have HE6:Hid (escP (src.drop p)= .er (1+k+1) 50):=Lib.hid (by rw [HE5.out,bnd_err h3];rfl)
        clear hP hk5 h1 h3 HE5 HR4 HK4 HB4
        unfold flt
        go_wp2_with fail
        rw [HE6.out]
        refine ⟨rfl,HF.out,?_⟩
        show flt _ _=flt _ _
        refine flt_at ?_;simp only [Nat.add_assoc]
       rw [h3] at hP
       obtain ⟨v,rfl,rfl,hr5,hk5⟩:=hP.ok
       have hpn5:p+1+k+1<n:=by rw [←HC'.out.len];exact drop_ne.1 h1
       have HR5:=Lib.hid hr5
       have HK5:=Lib.hid (HK4.out.next hk5 HK4.out.size)
       have HB5:=Lib.hid (below_kp HC'.out HB.out HK5.out)
       have HE6:=Lib.hid (show escP (src.drop p)=((bnd (digs mayL) fun m=>jp.ret (enc (join a m))) (src.drop (p+1+k+1+1))).sh (1+k+1+1) by rw [HE5.out,bnd_okr h3,sh_sh,List.drop_drop])
       clear hP hr5 hk5 h1 h2 h3 HE5 HR4 HK4 HB4
       go_wp2_with fail
       refine (digitsL HC'.out w5 (p+1+k+1+1) HB5.out HR5.out (by omega)).mono ?_
       rintro e w6 hP
       cases hD:digs mayL (src.drop (p+1+k+1+1)) with
       | er k2 e0=>
         rw [hD] at hP
         obtain ⟨rfl,hk6⟩:=hP.er
         have HF:=Lib.hid (HK5.out.next hk6 HK5.out.size)
         have HE7:Hid (escP (src.drop p)= .er (1+k+1+1+k2) e0):=Lib.hid (by rw [HE6.out,bnd_err hD];rfl)
         clear hP hk6 hD HE6 HR5 HK5 HB5
         unfold flt
         go_wp2_with fail
         rw [HE7.out]
         refine ⟨rfl,HF.out,?_⟩
         show flt _ _=flt _ _
         refine flt_at ?_;simp only [Nat.add_assoc]
       | ok m k2=>
         rw [hD] at hP
         obtain ⟨v,rfl,⟨rfl,hm0,hm1⟩,hr6,hk6⟩:=hP.ok
         have HR6:=Lib.hid hr6
         have HK6:=Lib.hid (HK5.out.next hk6 HK5.out.size)
         have HE7:=Lib.hid (show escP (src.drop p)= .ok (enc (join a m)) (1+k+1+1+k2) by rw [HE6.out,bnd_okr hD,sh_sh];rfl)
         clear hP hr6 hk6 hD HE6 HR5 HK5 HB5
         go_wp2_with fail
         refine (join_any a m hs1 hs2 hm0 hm1 w6).mono ?_
         rintro e w7 ⟨bj,rfl,rfl⟩
         have hj:=join_lt a m
         obtain ⟨N,hN⟩:∃N,join a m=N:=⟨_,rfl⟩
         rw [hN] at hj HE7
         rw [hN]
         go_wp2_with fail
         have hcE:=heap_alloc_new w7 (.cells #[.int .i32 N] 21)
         have hcell:=blk_cell hcE (i:=0) (by simp)
         simp only [List.getElem_toArray,List.getElem_cons_zero] at hcell
         refine (encode_any N hj.1 hj.2 w7.heap.size 1 _ hcell).mono ?_
         rintro e w8 ⟨⟨be,rfl⟩,hb8⟩
         have hb9:Below w7.heap.size w7 w8:=((Below.refl _ _).alloc (Nat.le_refl _) _).trans (hb8.mono (by simp))
         have hcv:=conv_strJ (bt (enc N)) w8
         have hbb:=below_bytesW w8 (bt (enc N))
         have HF:=Lib.hid (And.intro (RS_bytes (enc_lt N) w8 (grownCap w8 (bt (enc N)).size 0 5)) (And.intro ((hb9.trans (hbb.mono hb9.size)).block g HR6.out.lt) (HK6.out.next (Kp.of (hb9.trans (hbb.mono hb9.size))) HK6.out.size)))
         clear hcE hcell hb8 hb9 hbb
         go_wp2_with fail
         go_ret
         rw [HE7.out]
         exact ⟨HF.out.2.2,_,rfl,HF.out.1,Rdr.to (HR6.out.keep HF.out.2.1) (by simp only [Nat.add_assoc])⟩
      ·have HE4:=Lib.hid (show escP (src.drop p)= .ok (enc a) (1+k) by rw [HE3.out,if_neg (fun h=>hs2 h.2)];rfl)
       have hj: -2147483648≤a∧a≤2147483647:=by omega
       obtain ⟨N,hN⟩:∃N,a=N:=⟨_,rfl⟩
       subst hN
       clear HE3
       go_wp2_with fail
       have hcE:=heap_alloc_new w3 (.cells #[.int .i32 a] 21)
       have hcell:=blk_cell hcE (i:=0) (by simp)
       simp only [List.getElem_toArray,List.getElem_cons_zero] at hcell
       refine (encode_any a hj.1 hj.2 w3.heap.size 1 _ hcell).mono ?_
       rintro e w8 ⟨⟨be,rfl⟩,hb8⟩
       have hb9:Below w3.heap.size w3 w8:=((Below.refl _ _).alloc (Nat.le_refl _) _).trans (hb8.mono (by simp))
       have hcv:=conv_strJ (bt (enc a)) w8
       have hbb:=below_bytesW w8 (bt (enc a))
       have HF:=Lib.hid (And.intro (RS_bytes (enc_lt a) w8 (grownCap w8 (bt (enc a)).size 0 5)) (And.intro ((hb9.trans (hbb.mono hb9.size)).block g HR3.out.lt) (HK3.out.next (Kp.of (hb9.trans (hbb.mono hb9.size))) HK3.out.size)))
       clear hcE hcell hb8 hb9 hbb
       go_wp2_with fail
       go_ret
       rw [HE4.out]
       exact ⟨HF.out.2.2,_,rfl,HF.out.1,Rdr.to (HR3.out.keep HF.out.2.1) (by simp only [Nat.add_assoc])⟩
     ·have HE4:=Lib.hid (show escP (src.drop p)= .ok (enc a) (1+k) by rw [HE3.out,if_neg (fun h=>hs1 h.1)];rfl)
      have hj: -2147483648≤a∧a≤2147483647:=by omega
      obtain ⟨N,hN⟩:∃N,a=N:=⟨_,rfl⟩
      subst hN
      clear HE3
      go_wp2_with fail
      have hcE:=heap_alloc_new w3 (.cells #[.int .i32 a] 21)
      have hcell:=blk_cell hcE (i:=0) (by simp)
      simp only [List.getElem_toArray,List.getElem_cons_zero] at hcell
      refine (encode_any a hj.1 hj.2 w3.heap.size 1 _ hcell).mono ?_
      rintro e w8 ⟨⟨be,rfl⟩,hb8⟩
      have hb9:Below w3.heap.size w3 w8:=((Below.refl _ _).alloc (Nat.le_refl _) _).trans (hb8.mono (by simp))
      have hcv:=conv_strJ (bt (enc a)) w8
      have hbb:=below_bytesW w8 (bt (enc a))
      have HF:=Lib.hid (And.intro (RS_bytes (enc_lt a) w8 (grownCap w8 (bt (enc a)).size 0 5)) (And.intro ((hb9.trans (hbb.mono hb9.size)).block g HR3.out.lt) (HK3.out.next (Kp.of (hb9.trans (hbb.mono hb9.size))) HK3.out.size)))
      clear hcE hcell hb8 hb9 hbb
      go_wp2_with fail
      go_ret
      rw [HE4.out]
      exact ⟨HF.out.2.2,_,rfl,HF.out.1,Rdr.to (HR3.out.keep HF.out.2.1) (by simp only [Nat.add_assoc])⟩
  ·have hi8:i<8:=by omega
   have hs1:i<(⟨#[34,92,47,98,102,110,114,116]⟩:ByteArray).size:=hi8
   have hs2:i<(⟨#[34,92,47,8,12,10,13,9]⟩:ByteArray).size:=hi8
   have hx1:((⟨#[34,92,47,98,102,110,114,116]⟩:ByteArray)[i]'hs1).toNat=nmL.getD i 0:=natsOf_get _ hs1
   have hx2:((⟨#[34,92,47,8,12,10,13,9]⟩:ByteArray)[i]'hs2).toNat=mnL.getD i 0:=natsOf_get _ hs2
   have hm:=mean_at i hi8
   have hi8':(i:Int)<8:=by omega
   have hz256:=mnL_lt i hi8
   obtain ⟨x,hx⟩:∃x,nmL.getD i 0=x:=⟨_,rfl⟩
   obtain ⟨z,hz⟩:∃z,mnL.getD i 0=z:=⟨_,rfl⟩
   rw [hx] at hx1 hm
   rw [hz] at hx2 hm hz256
   have HX:=Lib.hid hx
   clear hx hz
   by_cases hyi:x=y
   ·have hy0:y≠0:=by
     intro h0
     rw [hyi,h0] at hm
     simp [mean] at hm
    have hpn:p<n:=HY.out.2 hy0
    have hlt':(p:Int)<(n:Int):=by omega
    have HE2:Hid (escP (src.drop p)= .ok [z] 1):=Lib.hid (escP_some (by rw [HY.out.1,←hyi];exact hm) (drop_ne.2 (by rw [HC'.out.len];exact hpn)))
    have heq:((x:Int)==(y:Int))=true:=by simp;omega
    have HF:=Lib.hid (And.intro (HRr.out.at_ ((p:Int)+1)) (HKr.out.self ⟨g,1,none⟩ rfl (.int .i64 ((p:Int)+1))))
    clear HN hi h8 hi8 hyi hm HX hy0
    go_wp2_with fail
    go_quiet (fail)
    go_wp2_with fail
    go_ret
    rw [HE2.out]
    have hk:=HF.out.2.sm (w':=(wr.drewN nq).setCell ⟨g,1,none⟩ (.int .i64 ((p:Int)+1))) ⟨rfl,rfl,rfl,rfl⟩
    have hr:=Sm.rdr (w':=(wr.drewN nq).setCell ⟨g,1,none⟩ (.int .i64 ((p:Int)+1))) ⟨rfl,rfl,rfl,rfl⟩ HF.out.1
    have hsz:((wr.drewN nq).setCell ⟨g,1,none⟩ (.int .i64 ((p:Int)+1))).heap.size=wr.heap.size:=by simp [World.setCell]
    have hrd:=Rd.new ((wr.drewN nq).setCell ⟨g,1,none⟩ (.int .i64 ((p:Int)+1))) [.int .u8 (z:Int)] 5
    refine ⟨hk.alloc hk.size _,_,rfl,⟨_,1,rfl,?_,fun h=>by cases h⟩,hr.alloc _⟩
    rw [hsz] at hrd
    exact hrd.more (by simp [hsz])
   ·have heq:((x:Int)==(y:Int))=false:=by simp;omega
    have HN2:Hid (∀j,j<i+1→nmL.getD j 0≠y):=Lib.hid (fun j hj=>by
     rcases Nat.lt_or_ge j i with h | h
     ·exact HN.out j h
     ·obtain rfl:j=i:=by omega
      rw [HX.out]
      exact hyi)
    have hi1:i+1≤8:=hi8
    clear HN hi h8 hi8 hyi hm HX
    go_wp2_with fail
    go_quiet (fail)
    go_wp2_with fail
    exact ⟨⟨i+1,by simp,hi1,HN2,Lib.hid (HRr.out.drewN _),Lib.hid (HKr.out.drewN _),Lib.hid (bel_dr HBr.out _)⟩,by simp [intOf];omega⟩
end
end Go.Proofs.YtjhhdnnblcbdbaaGreatDoor.jw
end
section
namespace Go.Proofs.YtjhhdnnblcbdbaaGreatDoor.jw
open Go.RowKit mem val jp
set_option linter.unusedVariables false
set_option linter.unusedSectionVars false
theorem infoBy:(Tryz.prog.info? 5).map (fun i=>(i.zero,i.size,i.bytes))=some (some (.int .u8 0),1,1):=by kernel_rfl
theorem info_get {P:Program} {t:TypeId} {z:Option Value} {s b:Nat} (h:(P.info? t).map (fun i=>(i.zero,i.size,i.bytes))=some (z,s,b)):∃i,P.info? t=some i∧i.zero=z∧i.size=s∧i.bytes=b:=by
 cases hi:P.info? t with
 | none=>rw [hi] at h;simp at h
 | some i=>
   rw [hi] at h
   simp at h
   exact ⟨i,rfl,h.1,h.2.1,h.2.2⟩
theorem us_len (l:List Nat):(us l).length=l.length:=by simp [us]
theorem us_app (a b:List Nat):us (a++b)=us a++us b:=by simp [us]
theorem us_one (l:List Nat):∀u∈us l,u.oneCell'=true:=by
 intro u hu
 simp only [us,List.map_map,List.mem_map] at hu
 obtain ⟨x,_,rfl⟩:=hu
 rfl
theorem encZ_len4 (n:Int):(Lib.encodeRuneZ n).length≤4:=(Lib.encodeRuneZ_length n).2
theorem enc_len (n:Int):(enc n).length≤4:=by
 unfold enc
 split
 ·rw [List.length_map];exact encZ_len4 n
 ·simp
theorem row_kp {g:Nat} {w w':World} {B:Nat} {e:TypeId} {s n:Nat} {v:Value} {xs:List Value} (h:w.ownsRow B e s v n xs) (hk:Kp g w.heap.size w w') (hg:g<B):w'.ownsRow B e s v n xs:=by
 refine ⟨h.1,?_⟩
 rcases h.2 with h0 | ⟨b,cap,cur,hv,hb,hcell,hr⟩
 ·exact .inl h0
 ·have hl:=h.lt b (by rw [hv];rfl)
  exact .inr ⟨b,cap,cur,hv,hb,(hk.block b hl.2 (by omega)).trans hcell,hr⟩
theorem Rdr.toI {w:World} {g:Nat} {A:Option Addr} {n c b:Nat} {a o dp:Int} (h:Rdr w g A n c a o dp) (e:a=(b:Int)):Rdr w g A n c (b:Int) o dp:=by rw [←e];exact h
theorem group_ok {l:List Nat} {a:List Nat} {k:Nat} (h:group l= .ok a k):∀x∈a,x∈l:=by
 cases l with
 | nil=>cases h
 | cons y r=>
   cases hc:cls y with
   | none=>rw [show group (y :: r)= .er 0 50 from by unfold group;rw [bnd_err (k:=0) (e:=50) (by simp only [sat,hc];rfl)]] at h;cases h
   | some t=>
     obtain ⟨m,lo,hi⟩:=t
     have:=group_of (src:=y :: r) (p:=0) (m:=m) (lo:=lo) (hi:=hi) (by simp) hc
     rw [List.drop_zero] at this
     rw [this] at h
     split at h
     ·simp only [Rs.ok.injEq] at h
      intro x hx
      rw [←h.1] at hx
      exact List.mem_of_mem_take hx
     ·cases h
theorem mean_lt {y b:Nat} (h:mean y=some b):b<256:=by
 unfold mean at h
 repeat (first | (split at h;·simp only [Option.some.injEq] at h;omega) | cases h)
theorem escP_all {l a:List Nat} {k:Nat} (h:escP l= .ok a k):(∀x∈a,x<256)∧a.length≤4∧0<k:=by
 unfold escP at h
 cases hm:mean (l.headD 0) with
 | some b=>
   rw [hm] at h
   replace h:bnd one (fun _=>jp.ret [b]) l= .ok a k:=h
   have hk:0<k:=Nat.pos_of_ne_zero fun e=>Eats.bnd Eats.one l a (by rw [e] at h;exact h)
   rcases bnd_cases one (fun _=>jp.ret [b]) l with ⟨k,e,_,h2⟩ | ⟨u,j,b',i,_,h2,h3⟩ | ⟨u,j,i,e,_,h2,h3⟩
   ·rw [h2] at h;cases h
   ·rw [h3] at h
    simp only [jp.ret,Rs.ok.injEq] at h h2
    rw [←h.1,←h2.1]
    refine ⟨fun x hx=>?_,by simp,hk⟩
    simp only [List.mem_singleton] at hx
    rw [hx]
    exact mean_lt hm
   ·rw [h3] at h;cases h
 | none=>
   rw [hm] at h
   have h':escU l= .ok a k:=h
   have hk:0<k:=Nat.pos_of_ne_zero fun e=>Eats.escU l a (by rw [e] at h';exact h')
   unfold escU at h'
   rcases bnd_cases (want 117) _ l with ⟨k1,e,_,h2⟩ | ⟨u,j,b',i,_,h2,h3⟩ | ⟨u,j,i,e,_,h2,h3⟩
   ·rw [h2] at h';cases h'
   ·rw [h3] at h'
    simp only [Rs.ok.injEq] at h'
    rw [←h'.1]
    rcases bnd_cases (digs mayH) _ (l.drop j) with ⟨k1,e,_,h4⟩ | ⟨n,j2,b2,i2,_,h4,h5⟩ | ⟨n,j2,i2,e,_,h4,h5⟩
    ·rw [h4] at h2;cases h2
    ·rw [h5] at h2
     simp only [Rs.ok.injEq] at h2
     rw [←h2.1]
     split at h4
     ·rcases bnd_cases (want 92) _ ((l.drop j).drop j2) with ⟨k1,e,_,h6⟩ | ⟨n1,j3,b3,i3,_,h6,h7⟩ | ⟨n1,j3,i3,e,_,h6,h7⟩
      ·rw [h6] at h4;cases h4
      ·rw [h7] at h4
       simp only [Rs.ok.injEq] at h4
       rw [←h4.1]
       rcases bnd_cases (want 117) _ (((l.drop j).drop j2).drop j3) with ⟨k1,e,_,h8⟩ | ⟨n2,j4,b4,i4,_,h8,h9⟩ | ⟨n2,j4,i4,e,_,h8,h9⟩
       ·rw [h8] at h6;cases h6
       ·rw [h9] at h6
        simp only [Rs.ok.injEq] at h6
        rw [←h6.1]
        rcases bnd_cases (digs mayL) _ ((((l.drop j).drop j2).drop j3).drop j4) with ⟨k1,e,_,ha⟩ | ⟨n3,j5,b5,i5,_,ha,hb⟩ | ⟨n3,j5,i5,e,_,ha,hb⟩
        ·rw [ha] at h8;cases h8
        ·rw [hb] at h8
         simp only [jp.ret,Rs.ok.injEq] at h8 ha
         rw [←h8.1,←ha.1]
         exact ⟨enc_lt _,enc_len _,hk⟩
        ·rw [hb] at h8;cases h8
       ·rw [h9] at h6;cases h6
      ·rw [h7] at h4;cases h4
     ·simp only [jp.ret,Rs.ok.injEq] at h4
      rw [←h4.1]
      exact ⟨enc_lt _,enc_len _,hk⟩
    ·rw [h5] at h2;cases h2
   ·rw [h3] at h';cases h'
theorem escP_len {l a:List Nat} {k:Nat} (h:escP l= .ok a k):a.length≤4*k:=by
 have:=escP_all h
 omega
theorem escP_lt {l a:List Nat} {k:Nat} (h:escP l= .ok a k):∀x∈a,x<256:=(escP_all h).1
theorem group_len {l:List Nat} {a:List Nat} {k:Nat} (h:group l= .ok a k):a.length≤4*k:=by
 cases l with
 | nil=>cases h
 | cons y r=>
   cases hc:cls y with
   | none=>rw [show group (y :: r)= .er 0 50 from by unfold group;rw [bnd_err (k:=0) (e:=50) (by simp only [sat,hc];rfl)]] at h;cases h
   | some t=>
     obtain ⟨m,lo,hi⟩:=t
     have:=group_of (src:=y :: r) (p:=0) (m:=m) (lo:=lo) (hi:=hi) (by simp) hc
     rw [List.drop_zero] at this
     rw [this] at h
     split at h
     ·simp only [Rs.ok.injEq] at h
      rw [←h.1,List.length_take]
      omega
     ·cases h
section
variable {F:Nf} {w0:World} {g:Nat} {A:Option Addr} {n:Nat} {src:List Nat} (HC:Cx F w0 g A n src) {c:Nat} {o dp:Int}
include HC
set_option maxRecDepth 100000 in
set_option maxHeartbeats 1600000 in
theorem text_any (hnc:n≤c) (M:Nat) (w:World) (p:Nat) (hM:n-p<M) (hb:Below w0.heap.size w0 w) (hr:Rdr w g A n c (p:Int) o dp) (hp:p≤n):
  Calls Tryz.prog 52 #[.pointer (some ⟨g,0,none⟩)] w (Pst g A n c (fun _=>o) dp (fun l v _=>v= .string (bt l)∧∀x∈l,x<256) p (text M (src.drop p)) w):=by
 have hn:=HC.le
 have hgw:g<w.heap.size:=hr.lt
 have HB:=Lib.hid hb
 have HC':=Lib.hid HC
 have HW:=Lib.hid (want_any HC 34 w p hb hr hp)
 go_enter Tryz.func52,Tryz.ntmps52
 go_wp2_with fail
 go_step3
 go_wp2_with fail
 refine HW.out.mono ?_
 rintro e w1 hP
 rcases want_cases 34 (src.drop p) with ⟨h1,h2,h3⟩ | ⟨h1,h3⟩
 rotate_left
 ·rw [h3] at hP
  obtain ⟨rfl,hk2⟩:=hP.er
  have HE2:Hid (text M (src.drop p)= .er 0 50):=Lib.hid (by unfold text;rw [bnd_err h3])
  clear h1 h3 HW
  unfold flt
  go_wp2_with fail
  rw [HE2.out]
  exact ⟨rfl,hk2,rfl⟩
 rw [h3] at hP
 obtain ⟨v,rfl,rfl,hr1,hk1⟩:=hP.ok
 have hpn:p<n:=by rw [←HC'.out.len];exact drop_ne.1 h1
 have HR1:=Lib.hid hr1
 have HK1:=Lib.hid hk1
 have HE1:=Lib.hid (show text M (src.drop p)=(pieces M [] (src.drop (p+1))).sh 1 by unfold text;rw [bnd_okr h3,List.drop_drop])
 clear hP hr1 hk1 h1 h2 h3 HW hr hb
 obtain ⟨iv,hiv,hv0,hv1,hv2⟩:=info_get infoBy
 go_wp2_with fail
 go_step3
 go_wp2_with fail
 go_loopw [3] (fun v3 wr=>∃(q m:Nat) (acc:List Nat) (vv:Value),vv=v3∧Hid (wr.ownsRow w.heap.size 5 1 vv acc.length (us acc))∧q≤n∧p<q∧Hid (n-q<m)∧Hid (acc.length≤4*(q-p))∧Hid (∀x∈acc,x<256)∧Hid (Rdr wr g A n c (q:Int) o dp)∧Hid (Kp g w.heap.size w wr)∧
  Hid (text M (src.drop p)=(pieces m acc (src.drop q)).sh (q-p))) (fun v3 wr=>n-atOf wr g)
 case atStart=>exact ⟨p+1,M,[],_,rfl,Lib.hid (World.ownsRow_nil _ _ _ _),hpn,by omega,Lib.hid (by omega),Lib.hid (by simp),Lib.hid (fun x hx=>by cases hx),HR1,HK1,Lib.hid (by rw [HE1.out,show p+1-p=1 by omega])⟩
 case round=>
  clear HR1 HK1 HE1
  obtain ⟨q,m,acc,vv,rfl,HO,hq,hpq,HM,HL,HA,HRr,HKr,HEr⟩:=hrel
  have HBr:=Lib.hid (below_kp HC'.out HB.out HKr.out)
  obtain ⟨m',rfl⟩:∃m',m=m'+1:=⟨m-1,by have:=HM.out;omega⟩
  have hat:=HRr.out.atOf
  have HNx:=Lib.hid (next_any HC'.out wr q HBr.out HRr.out hq)
  obtain ⟨y,hy⟩:∃y:Nat,src.getD q 0=y:=⟨_,rfl⟩
  have h256:=HC'.out.lt256 q
  have hE:=HEr.out
  simp only [pieces,head_drop] at hE
  rw [hy] at HNx hE h256
  have hyn:q=n→y=0:=fun h=>by
   rw [←hy,List.getD_eq_getElem?_getD,List.getElem?_eq_none (by rw [HC'.out.len];omega)]
   rfl
  obtain ⟨c0,c1,c2,c3⟩:=HRr.out.cells
  clear hy HEr
  by_cases h32:y<32
  ·have HE2:Hid (text M (src.drop p)= .er (q-p) 50):=Lib.hid (by rw [hE,if_pos h32];rfl)
   clear hE HO HL HA HM
   go_wp2_with fail
   refine HNx.out.mono ?_
   rintro e w2 ⟨rfl,hsm⟩
   have HR2:=Lib.hid (hsm.rdr HRr.out)
   have HK2:=Lib.hid (HKr.out.sm hsm)
   obtain ⟨d0,d1,d2,d3⟩:=HR2.out.cells
   have b32:(y:Int)<32:=by omega
   clear c0 c1 c2 c3 hsm HRr HKr HNx
   by_cases hqn:q=n
   ·have hge:decide ((n:Int)≤(q:Int))=true:=by simp;omega
    have hge2:((q:Int)≥(n:Int))=True:=by simp;omega
    clear hqn hyn
    go_wp2_with fail
    go_quiet (fail)
    go_wp2_with fail
    refine (stop_any _ q (HR2.out.drewN _)).mono ?_
    rintro e w' ⟨rfl,rfl⟩
    unfold flt
    go_wp2_with fail
    (try rw [Exit.noGoto_panic])
    refine ⟨rfl,?_⟩
    rw [HE2.out]
    refine ⟨HK2.out.drewN _,?_⟩
    have e:q=p+(q-p):=by omega
    exact flt_at e
   ·have hge:decide ((n:Int)≤(q:Int))=false:=by simp;omega
    have hge2:((q:Int)≥(n:Int))=False:=by simp;omega
    clear hqn hyn
    go_wp2_with fail
    go_quiet (fail)
    go_wp2_with fail
    refine (stop_any _ q (HR2.out.drewN _)).mono ?_
    rintro e w' ⟨rfl,rfl⟩
    unfold flt
    go_wp2_with fail
    (try rw [Exit.noGoto_panic])
    refine ⟨rfl,?_⟩
    rw [HE2.out]
    refine ⟨HK2.out.drewN _,?_⟩
    have e:q=p+(q-p):=by omega
    exact flt_at e
  ·have hqn:q<n:=by omega
   have hge:decide ((n:Int)≤(q:Int))=false:=by simp;omega
   have hge2:((q:Int)≥(n:Int))=False:=by simp;omega
   have b32:¬(y:Int)<32:=by omega
   rw [if_neg h32] at hE
   clear hyn
   by_cases h34:y=34
   ·have HE2:Hid (text M (src.drop p)= .ok acc (q-p+1)):=Lib.hid (by
     rw [hE,if_pos h34,drop_one src q (by rw [HC'.out.len];exact hqn)]
     rfl)
    have b34:((y:Int)==34)=true:=by simp;omega
    clear hE h34 h32
    go_wp2_with fail
    refine HNx.out.mono ?_
    rintro e w2 ⟨rfl,hsm⟩
    have HR2:=Lib.hid (hsm.rdr HRr.out)
    have HK2:=Lib.hid (HKr.out.sm hsm)
    have HO2:=Lib.hid (row_kp HO.out (hsm.kp g _) hgw)
    obtain ⟨d0,d1,d2,d3⟩:=HR2.out.cells
    have f1:=HR2.out.frozen 1
    clear c0 c1 c2 c3 hsm HRr HKr HNx HO
    go_wp2_with fail
    go_quiet (fail)
    have HF:=Lib.hid (And.intro ((HR2.out.drewN nq).at_ ((q:Int)+1)) ((HK2.out.drewN nq).self ⟨g,1,none⟩ rfl (.int .i64 ((q:Int)+1))))
    have hO3:((w2.drewN nq).setCell ⟨g,1,none⟩ (.int .i64 ((q:Int)+1))).ownsRow w.heap.size 5 1 vv acc.length (us acc):=row_kp HO2.out (((Kp.refl g _ _).drewN nq).self ⟨g,1,none⟩ rfl _) hgw
    obtain ⟨A3,c3',rfl,hA3,_,_⟩:=own_form hO3
    have hrd:=Rd.of_own hO3
    have HCv:Hid ((convert 22 9 (.slice A3 acc.length c3')).run Tryz.prog ((w2.drewN nq).setCell ⟨g,1,none⟩ (.int .i64 ((q:Int)+1)))= .ok (.string (bt acc)) ((w2.drewN nq).setCell ⟨g,1,none⟩ (.int .i64 ((q:Int)+1)))):=Lib.hid (by
     have:=run_conv_bytes (w:=(w2.drewN nq).setCell ⟨g,1,none⟩ (.int .i64 ((q:Int)+1))) 22 9 5 A3 (acc.map fun n:Nat=>(n:Int)) c3' Tryz.underlying22 Tryz.underlying5 Tryz.underlying9 hrd (fun h=>by rw [List.length_map];exact hA3 h)
     rw [List.length_map] at this
     exact this)
    have hcv:=HCv.out
    clear hO3 hrd hA3 HO2
    go_wp2_with fail
    rw [Exit.noGoto_ret]
    go_ret
    rw [HE2.out]
    exact ⟨HF.out.2,_,rfl,⟨rfl,HA.out⟩,Rdr.toI HF.out.1 (by omega)⟩
   ·have b34:((y:Int)==34)=false:=by simp;omega
    rw [if_neg h34] at hE
    by_cases h92:y=92
    ·have b92:((y:Int)==92)=true:=by simp;omega
     have HEq:Hid (text M (src.drop p)=((bnd escP fun b=>pieces m' (acc++b)) (src.drop (q+1))).sh (q-p+1)):=Lib.hid (by
      rw [hE,if_pos h92,drop_one src q (by rw [HC'.out.len];exact hqn),bnd_okr (a:=()) (j:=1) rfl,List.drop_succ_cons,List.drop_zero,sh_sh])
     clear hE h92 h34 h32
     go_wp2_with fail
     refine HNx.out.mono ?_
     rintro e w2 ⟨rfl,hsm⟩
     have HR2:=Lib.hid (hsm.rdr HRr.out)
     have HK2:=Lib.hid (HKr.out.sm hsm)
     have HO1:=Lib.hid (row_kp HO.out (hsm.kp g _) hgw)
     obtain ⟨d0,d1,d2,d3⟩:=HR2.out.cells
     have f1:=HR2.out.frozen 1
     clear c0 c1 c2 c3 hsm HRr HKr HNx HO
     go_wp2_with fail
     go_quiet (fail)
     have HRq:Hid (Rdr ((w2.drewN nq).setCell ⟨g,1,none⟩ (.int .i64 ((q:Int)+1))) g A n c ((q+1:Nat):Int) o dp):=Lib.hid (Rdr.toI ((HR2.out.drewN nq).at_ ((q:Int)+1)) (by omega))
     have HKq:=Lib.hid ((HK2.out.drewN nq).self ⟨g,1,none⟩ rfl (.int .i64 ((q:Int)+1)))
     have HO2:Hid (((w2.drewN nq).setCell ⟨g,1,none⟩ (.int .i64 ((q:Int)+1))).ownsRow w.heap.size 5 1 vv acc.length (us acc)):=Lib.hid (row_kp HO1.out (((Kp.refl g _ _).drewN nq).self ⟨g,1,none⟩ rfl _) hgw)
     have HBq:=Lib.hid (below_kp HC'.out HB.out HKq.out)
     clear HR2 HK2 HO1
     go_wp2_with fail
     generalize (w2.drewN nq).setCell ⟨g,1,none⟩ (.int .i64 ((q:Int)+1))=wq at*
     refine (escape_any HC'.out wq (q+1) HBq.out HRq.out (by omega)).mono ?_
     rintro e w3 hP
     cases hD:escP (src.drop (q+1)) with
     | er k0 e0=>
       rw [hD] at hP
       obtain ⟨rfl,hk3⟩:=hP.er
       have HF:=Lib.hid (HKq.out.next hk3 HKq.out.size)
       have HE2:Hid (text M (src.drop p)= .er ((q-p+1)+k0) e0):=Lib.hid (by rw [HEq.out,bnd_err hD];rfl)
       clear hP hk3 hD HEq HRq HKq HBq HO2
       unfold flt
       go_wp2_with fail
       (try rw [Exit.noGoto_panic])
       refine ⟨rfl,?_⟩
       rw [HE2.out]
       refine ⟨HF.out,?_⟩
       have e:(q+1)+k0=p+((q-p+1)+k0):=by omega
       exact flt_at e
     | ok bs k0=>
       rw [hD] at hP
       obtain ⟨v2,rfl,⟨AA,cc,rfl,hrd,hnn⟩,hr3,hk3⟩:=hP.ok
       have HRd:=Lib.hid hrd
       have HNn:=Lib.hid hnn
       have HR3:=Lib.hid hr3
       have HK3:=Lib.hid (HKq.out.next hk3 HKq.out.size)
       have HO3:=Lib.hid (row_kp HO2.out hk3 hgw)
       have hbl:(q+1)+k0≤n:=by
        have h1:=Loc.escP.okl _ _ _ hD
        rw [List.length_drop,HC'.out.len] at h1
        omega
       have hk0:bs.length≤4*k0:=escP_len hD
       have HBy:Hid (∀x∈acc++bs,x<256):=Lib.hid (fun x hx=>by
        rcases List.mem_append.1 hx with h | h
        ·exact HA.out x h
        ·exact escP_lt hD x h)
       have HE2:Hid (text M (src.drop p)=(pieces m' (acc++bs) (src.drop ((q+1)+k0))).sh ((q-p+1)+k0)):=Lib.hid (by rw [HEq.out,bnd_okr hD,sh_sh,List.drop_drop])
       have HLn:Hid (acc.length+bs.length≤4*((q-p+1)+k0)):=Lib.hid (by have:=HL.out;omega)
       have hln:acc.length+bs.length≤4398046511104:=by have:=HLn.out;omega
       have hsz3:=HK3.out.size
       clear hP hrd hnn hr3 hk3 HEq HRq HKq HBq HO2 hD
       go_wp2_with (at_builtin;go_must (refine wpList_app _ rfl (.tmp 46) (.tmp 48) _ rfl w.heap.size 5 iv (.int .u8 0) 1 1 Tryz.underlying22 hiv hv0 hv1 hv2 rfl (by omega) vv acc.length (us acc) rfl HO3.out _ AA bs.length cc (us bs) rfl (by rw [us_len];omega) HRd.out HNn.out (us_one _) (by unfold maxLen;omega) (by omega) hsz3 ?_;intro v1 w4 hown4 hgrow4 hat4;have HO4:=Lib.hid hown4;have HR4:=Lib.hid (HR3.out.keep (hgrow4.block g HR3.out.lt (fun h=>absurd (HO3.out.lt g h.symm).1 (by omega))));have HK4:=Lib.hid (HK3.out.grown hgrow4 hsz3 (fun k hk=>(HO3.out.lt k hk).1));clear hown4 hgrow4 hat4))
       have hE4:Hid (text M (src.drop p)=(pieces m' (acc++bs) (src.drop ((q+1)+k0))).sh ((q+1)+k0-p)):=Lib.hid (by rw [HE2.out];congr 1;omega)
       refine ⟨⟨(q+1)+k0,m',acc++bs,v1,rfl,Lib.hid (by rw [us_app,List.length_append];exact HO4.out),hbl,by omega,Lib.hid (by have:=HM.out;omega),Lib.hid (by rw [List.length_append];have:=HLn.out;omega),HBy,HR4,HK4,hE4⟩,?_⟩
       rw [hat,HR4.out.atOf]
       omega
    ·have b92:((y:Int)==92)=false:=by simp;omega
     have HEq:Hid (text M (src.drop p)=((bnd jp.group fun b=>pieces m' (acc++b)) (src.drop q)).sh (q-p)):=Lib.hid (by rw [hE,if_neg h92])
     clear hE h92 h34 h32
     go_wp2_with fail
     refine HNx.out.mono ?_
     rintro e w2 ⟨rfl,hsm⟩
     have HR2:=Lib.hid (hsm.rdr HRr.out)
     have HK2:=Lib.hid (HKr.out.sm hsm)
     have HO1:=Lib.hid (row_kp HO.out (hsm.kp g _) hgw)
     obtain ⟨d0,d1,d2,d3⟩:=HR2.out.cells
     clear c0 c1 c2 c3 hsm HRr HKr HNx HO
     go_wp2_with fail
     go_quiet (fail)
     have HRq:=Lib.hid (HR2.out.drewN nq)
     have HKq:=Lib.hid (HK2.out.drewN nq)
     have HO2:Hid ((w2.drewN nq).ownsRow w.heap.size 5 1 vv acc.length (us acc)):=Lib.hid (row_kp HO1.out ((Kp.refl g _ _).drewN nq) hgw)
     have HBq:=Lib.hid (below_kp HC'.out HB.out HKq.out)
     clear HR2 HK2 HO1
     go_wp2_with fail
     generalize w2.drewN nq=wq at*
     refine (group_any HC'.out hnc wq q HBq.out HRq.out hqn).mono ?_
     rintro e w3 hP
     cases hD:jp.group (src.drop q) with
     | er k0 e0=>
       rw [hD] at hP
       obtain ⟨rfl,hk3⟩:=hP.er
       have HF:=Lib.hid (HKq.out.next hk3 HKq.out.size)
       have HE2:Hid (text M (src.drop p)= .er ((q-p)+k0) e0):=Lib.hid (by rw [HEq.out,bnd_err hD];rfl)
       clear hP hk3 hD HEq HRq HKq HBq HO2
       unfold flt
       go_wp2_with fail
       (try rw [Exit.noGoto_panic])
       refine ⟨rfl,?_⟩
       rw [HE2.out]
       refine ⟨HF.out,?_⟩
       have e:q+k0=p+((q-p)+k0):=by omega
       exact flt_at e
     | ok bs k0=>
       rw [hD] at hP
       obtain ⟨v2,rfl,⟨AA,cc,rfl,hrd,hnn⟩,hr3,hk3⟩:=hP.ok
       have HRd:=Lib.hid hrd
       have HNn:=Lib.hid hnn
       have HR3:=Lib.hid hr3
       have HK3:=Lib.hid (HKq.out.next hk3 HKq.out.size)
       have HO3:=Lib.hid (row_kp HO2.out hk3 hgw)
       have hbl:q+k0≤n:=by
        have h1:=Loc.group.okl _ _ _ hD
        rw [List.length_drop,HC'.out.len] at h1
        omega
       have hkp:0<k0:=Nat.pos_of_ne_zero fun e=>Eats.group _ _ (by rw [e] at hD;exact hD)
       have hk0:bs.length≤4*k0:=group_len hD
       have HBy:Hid (∀x∈acc++bs,x<256):=Lib.hid (fun x hx=>by
        rcases List.mem_append.1 hx with h | h
        ·exact HA.out x h
        ·exact HC'.out.byte x (List.mem_of_mem_drop (group_ok hD x h)))
       have HE2:Hid (text M (src.drop p)=(pieces m' (acc++bs) (src.drop (q+k0))).sh ((q-p)+k0)):=Lib.hid (by rw [HEq.out,bnd_okr hD,sh_sh,List.drop_drop])
       have HLn:Hid (acc.length+bs.length≤4*((q-p)+k0)):=Lib.hid (by have:=HL.out;omega)
       have hln:acc.length+bs.length≤4398046511104:=by have:=HLn.out;omega
       have hsz3:=HK3.out.size
       clear hP hrd hnn hr3 hk3 HEq HRq HKq HBq HO2 hD
       go_wp2_with (at_builtin;go_must (refine wpList_app _ rfl (.tmp 50) (.tmp 52) _ rfl w.heap.size 5 iv (.int .u8 0) 1 1 Tryz.underlying22 hiv hv0 hv1 hv2 rfl (by omega) vv acc.length (us acc) rfl HO3.out _ AA bs.length cc (us bs) rfl (by rw [us_len];omega) HRd.out HNn.out (us_one _) (by unfold maxLen;omega) (by omega) hsz3 ?_;intro v1 w4 hown4 hgrow4 hat4;have HO4:=Lib.hid hown4;have HR4:=Lib.hid (HR3.out.keep (hgrow4.block g HR3.out.lt (fun h=>absurd (HO3.out.lt g h.symm).1 (by omega))));have HK4:=Lib.hid (HK3.out.grown hgrow4 hsz3 (fun k hk=>(HO3.out.lt k hk).1));clear hown4 hgrow4 hat4))
       have hE4:Hid (text M (src.drop p)=(pieces m' (acc++bs) (src.drop (q+k0))).sh (q+k0-p)):=Lib.hid (by rw [HE2.out];congr 1;omega)
       refine ⟨⟨q+k0,m',acc++bs,v1,rfl,Lib.hid (by rw [us_app,List.length_append];exact HO4.out),hbl,by omega,Lib.hid (by have:=HM.out;omega),Lib.hid (by rw [List.length_append];have:=HLn.out;omega),HBy,HR4,HK4,hE4⟩,?_⟩
       rw [hat,HR4.out.atOf]
       omega
end
end Go.Proofs.YtjhhdnnblcbdbaaGreatDoor.jw
end
