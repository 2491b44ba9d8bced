/- The program's lay, walked. PLAIN LEAN: a whole number's text is parsed as that number; its length. PLAIN LEAN: the texts that 'lay' lays are number texts of the form with a point or an exponent; whole numbers' texts are of the other. No condition but the digits. -/
import Derived.Test.YtjhhdnnblcbdbaaGreatDoorGEt
import Derived.Test.YtjhhdnnblcbdbaaGreatDoorGFt
import Derived.Deep.RegionLaw
import Derived.Deep.QuietTactic
import Derived.BigQuiet
import Derived.Lib.ParseIntBTie
import Derived.Test.YtjhhdnnblcbdbaaGreatDoorGPfp
section
namespace Go.Proofs.YtjhhdnnblcbdbaaGreatDoor.pg
open Go.RowKit mem fl big
set_option linter.unusedVariables false
def layT (L:List Nat) (p:Int):List Nat:=
 if 1≤p∧p≤21∧(L.length:Int)≤p then L++List.replicate (p.toNat-L.length) 48++[46,48]
 else if 1≤p∧p≤21 then L.take p.toNat++[46]++L.drop p.toNat
 else if-5≤p∧p≤0 then [48,46]++List.replicate (-p).toNat 48++L
 else if 1<L.length then L.take 1++[46]++L.drop 1++[101]++wtx (p-1)
 else L++[101]++wtx (p-1)
theorem strN_take (L:List Nat) (k:Nat):(strN L).extract 0 k=strN (L.take k):=by
 apply ByteArray.ext
 apply Array.toList_inj.1
 simp [strN]
theorem strN_drop (L:List Nat) (k:Nat):(strN L).extract k (strN L).size=strN (L.drop k):=by
 apply ByteArray.ext
 apply Array.toList_inj.1
 simp [strN,ByteArray.size]
 exact List.take_of_length_le (by simp)
set_option maxRecDepth 100000 in
set_option maxHeartbeats 2000000 in
theorem lay_any (L:List Nat) (p:Int) (w:World) (hn0:0<L.length) (hn:L.length≤1000) (hp1: -1000≤p) (hp2:p≤1000) (htab:Lib.TabIs Tryz.prog w "internal/strconv.uint64pow10" .u64 Lib.pow10Tab):
  Calls Tryz.prog 108 #[.string (strN L),.int .i64 p] w (StPost (layT L p) w):=by
 have hsz:(strN L).size=L.length:=strN_size L
 have HSz:=Lib.hid hsz
 obtain ⟨n,hnn⟩:∃n,L.length=n:=⟨_,rfl⟩
 obtain ⟨S,hS⟩:∃S,strN L=S:=⟨_,rfl⟩
 rw [hS] at hsz ⊢
 rw [hnn] at hsz hn hn0
 have HN:=Lib.hid hnn
 have HS:=Lib.hid hS
 have HW:=Lib.hid (fun w' (hb:Below w.heap.size w w')=>wholeT_any (p-1) w' (by omega) (by omega) (uw.tab_below htab hb))
 clear hS hnn htab
 by_cases h1:1≤p∧p≤21
 ·obtain ⟨k,rfl⟩:∃k:Nat,p=k:=⟨p.toNat,by omega⟩
  have hk1:1≤k:=by omega
  have hk2:k≤21:=by omega
  have d1:decide ((k:Int)≥1)=true:=decide_eq_true (by omega)
  have d2:decide ((k:Int)≤21)=true:=decide_eq_true (by omega)
  by_cases h2:n≤k
  ·have hT:layT L (k:Int)=L++List.replicate (k-n) 48++[46,48]:=by
    unfold layT
    rw [if_pos ⟨by omega,by omega,by have:=HN.out;omega⟩,HN.out]
    rfl
   have HT:=Lib.hid hT
   have hkn:(k:Int)-n=((k-n:Nat):Int):=by omega
   have HQ:=Lib.hid (noughts_any (k-n) w (by omega))
   obtain ⟨j,hj⟩:∃j,k-n=j:=⟨_,rfl⟩
   rw [hj] at HQ HT hkn
   have hzs:(strN (List.replicate j 48)).size=j:=by rw [strN_size,List.length_replicate]
   obtain ⟨Z,hZ⟩:∃Z,strN (List.replicate j 48)=Z:=⟨_,rfl⟩
   unfold StPost at HQ
   rw [hZ] at hzs HQ
   have HZ:=Lib.hid hZ
   have hjb:j≤21:=by omega
   clear hT h1 hj hZ
   go_enter Tryz.func108,Tryz.ntmps108
   go_wp2_with fail
   refine HQ.out.mono ?_
   rintro e w2 ⟨rfl,hb⟩
   have HB:=Lib.hid hb
   clear hb
   go_wp2_with fail
   go_ret
   refine ⟨?_,HB.out⟩
   rw [HT.out,←strN_app,←strN_app,HS.out,HZ.out]
   rfl
  ·have hT:layT L (k:Int)=L.take k++[46]++L.drop k:=by
    unfold layT
    rw [if_neg (by have:=HN.out;omega),if_pos ⟨by omega,by omega⟩]
    rfl
   have HT:=Lib.hid hT
   have hkn:k<n:=by omega
   clear hT h1
   go_enter Tryz.func108,Tryz.ntmps108
   go_wp2_with fail
   go_quiet (fail)
   go_wp2_with fail
   go_ret
   refine ⟨?_,below_drewN (Below.refl _ _) _⟩
   have e1:S.extract 0 k=strN (L.take k):=by rw [←HS.out];exact strN_take L k
   have e2:S.extract k n=strN (L.drop k):=by
    have:=strN_drop L k
    rw [HS.out] at this
    rw [←this]
    congr 1
    omega
   rw [HT.out,←strN_app,←strN_app,←e1,←e2]
   rfl
 ·by_cases h3: -5≤p∧p≤0
  ·obtain ⟨k,hk⟩:∃k:Nat,-p=k:=⟨(-p).toNat,by omega⟩
   have hT:layT L p=[48,46]++List.replicate k 48++L:=by
    unfold layT
    rw [if_neg (by omega),if_neg h1,if_pos h3,hk]
    rfl
   have HT:=Lib.hid hT
   have HQ:=Lib.hid (noughts_any k w (by omega))
   obtain ⟨h3a,h3b⟩:=h3
   have hzs:(strN (List.replicate k 48)).size=k:=by rw [strN_size,List.length_replicate]
   obtain ⟨Z,hZ⟩:∃Z,strN (List.replicate k 48)=Z:=⟨_,rfl⟩
   unfold StPost at HQ
   rw [hZ] at hzs HQ
   have HZ:=Lib.hid hZ
   have hjb:k≤21:=by omega
   clear hT h1 hZ
   go_enter Tryz.func108,Tryz.ntmps108
   go_wp2_with fail
   refine HQ.out.mono ?_
   rintro e w2 ⟨rfl,hb⟩
   have HB:=Lib.hid hb
   clear hb
   go_wp2_with fail
   go_ret
   refine ⟨?_,HB.out⟩
   rw [HT.out,←strN_app,←strN_app,HS.out,HZ.out]
   rfl
  ·have hwl:(wtx (p-1)).length≤30:=by
    unfold wtx
    split
    ·rw [List.length_cons,uw.dgs_length]
     have:=uw.nd20 (p-1).natAbs (by omega)
     omega
    ·rw [uw.dgs_length]
     have:=uw.nd20 (p-1).natAbs (by omega)
     omega
   have hzs:(strN (wtx (p-1))).size≤30:=by rw [strN_size];exact hwl
   obtain ⟨Z,hZ⟩:∃Z,strN (wtx (p-1))=Z:=⟨_,rfl⟩
   unfold StPost at HW
   rw [hZ] at hzs HW
   have HZ:=Lib.hid hZ
   have q1:decide (1≤p)=true→decide (p≤21)=false:=fun h=>decide_eq_false (by have:=of_decide_eq_true h;omega)
   clear hwl hZ
   by_cases hn1:1<n
   ·have hT:layT L p=L.take 1++[46]++L.drop 1++[101]++wtx (p-1):=by
     unfold layT
     rw [if_neg (by omega),if_neg h1,if_neg h3,if_pos (by rw [HN.out];exact hn1)]
    have HT:=Lib.hid hT
    have e1:S.extract 0 1=strN (L.take 1):=by rw [←HS.out];exact strN_take L 1
    have e2:S.extract 1 n=strN (L.drop 1):=by
     have:=strN_drop L 1
     rw [HS.out] at this
     rw [←this]
     congr 1
     omega
    have E1:=Lib.hid e1
    have E2:=Lib.hid e2
    have hwp:IntKind.i64.wrap (p-1)=p-1:=by rw [IntKind.wrap_i64];omega
    have hle:(1:Int)≤n:=by omega
    have hz1:(S.extract 0 1).size=1:=by simp;omega
    obtain ⟨m1,hm1⟩:∃m1,n-1=m1:=⟨_,rfl⟩
    have hz2:(S.extract 1 n).size=m1:=by simp;omega
    obtain ⟨zl,hzl⟩:∃zl,Z.size=zl:=⟨_,rfl⟩
    have k1:¬9223372036854775807<2+m1:=by omega
    have k2:¬9223372036854775807<2+m1+1:=by omega
    have k3:¬9223372036854775807<2+m1+1+zl:=by omega
    clear hm1
    clear hT e1 e2
    by_cases hp:p< -5
    ·clear q1 h1 h3
     go_enter Tryz.func108,Tryz.ntmps108
     go_wp2_with fail
     go_region_law (first
      | (go_simp;go_at_call 23;go_must (refine (HW.out _ ((Below.refl _ _).drew)).mono ?_;rintro e4 w4 ⟨rfl,hb4⟩;have HB4:=Lib.hid ((Below.refl _ _).drew.trans hb4);clear hb4)))
     all_goals
      go_wp2_with fail
      go_ret
      refine ⟨?_,by first | exact HB4.out | exact HB4.out.drew⟩
      rw [HT.out,←strN_app,←strN_app,←strN_app,←strN_app,←E1.out,←E2.out,HZ.out]
      rfl
    ·have hp21:21<p:=by omega
     clear q1 h1 h3 hp
     go_enter Tryz.func108,Tryz.ntmps108
     go_wp2_with fail
     go_region_law (first
      | (go_simp;go_at_call 23;go_must (refine (HW.out _ ((Below.refl _ _).drew)).mono ?_;rintro e4 w4 ⟨rfl,hb4⟩;have HB4:=Lib.hid ((Below.refl _ _).drew.trans hb4);clear hb4)))
     all_goals
      go_wp2_with fail
      go_ret
      refine ⟨?_,by first | exact HB4.out | exact HB4.out.drew⟩
      rw [HT.out,←strN_app,←strN_app,←strN_app,←strN_app,←E1.out,←E2.out,HZ.out]
      rfl
   ·have hT:layT L p=L++[101]++wtx (p-1):=by
     unfold layT
     rw [if_neg (by omega),if_neg h1,if_neg h3,if_neg (by rw [HN.out];exact hn1)]
    have HT:=Lib.hid hT
    have hn2:n=1:=by omega
    clear hT hn1
    by_cases hp:p< -5
    ·clear q1 h1 h3
     go_enter Tryz.func108,Tryz.ntmps108
     go_wp2_with fail
     refine (HW.out w (Below.refl _ _)).mono ?_
     rintro e w2 ⟨rfl,hb⟩
     have HB:=Lib.hid hb
     clear hb
     go_wp2_with fail
     go_ret
     refine ⟨?_,HB.out⟩
     rw [HT.out,←strN_app,←strN_app,HS.out,HZ.out]
     rfl
    ·have hp21:21<p:=by omega
     clear q1 h1 h3 hp
     go_enter Tryz.func108,Tryz.ntmps108
     go_wp2_with fail
     refine (HW.out w (Below.refl _ _)).mono ?_
     rintro e w2 ⟨rfl,hb⟩
     have HB:=Lib.hid hb
     clear hb
     go_wp2_with fail
     go_ret
     refine ⟨?_,HB.out⟩
     rw [HT.out,←strN_app,←strN_app,HS.out,HZ.out]
     rfl
end Go.Proofs.YtjhhdnnblcbdbaaGreatDoor.pg
end
section
namespace Go.Proofs.YtjhhdnnblcbdbaaGreatDoor.pg
open Go.RowKit mem fl big uw
set_option linter.unusedVariables false
theorem dgs_len10:∀(k u:Nat),u<10^(k+1)→(dgs u).length≤k+1
 | 0,u,h=>by rw [dgs_small u (by omega)];simp
 | k+1,u,h=>by
   by_cases hu:u<10
   ·rw [dgs_small u hu];simp
   ·have h1:10^(k+1+1)=10^(k+1)*10:=Nat.pow_succ 10 (k+1)
    have:=dgs_len10 k (u/10) (by omega)
    rw [dgs_step u hu,List.length_append]
    simp
    omega
theorem wtx_len (x:Int) (h1: -9223372036854775808≤x) (h2:x≤9223372036854775807):(wtx x).length≤20:=by
 have h:=dgs_len10 18 x.natAbs (by have:(10:Nat)^(18+1)=10000000000000000000:=by decide
                                   omega)
 unfold wtx
 split
 ·simp only [List.length_cons];omega
 ·omega
def by8 (l:List Nat):List UInt8:=l.map UInt8.ofNat
end Go.Proofs.YtjhhdnnblcbdbaaGreatDoor.pg
end
section
namespace Go.Proofs.YtjhhdnnblcbdbaaGreatDoor.pfx
open Go.RowKit mem fl big uw pg
set_option linter.unusedVariables false
def adv (st:Int) (cs:List Nat):Int:=cs.foldl (fun (s:Int) (c:Nat)=>nx s (c:Int)) st
theorem adv_app (st:Int) (a b:List Nat):adv st (a++b)=adv (adv st a) b:=by unfold adv;rw [List.foldl_append]
theorem adv_cons (st:Int) (c:Nat) (b:List Nat):adv st (c :: b)=adv (nx st (c:Int)) b:=rfl
theorem adv_nil (st:Int):adv st []=st:=rfl
theorem adv9 (cs:List Nat):adv 9 cs=9:=by
 induction cs with
 | nil=>rfl
 | cons c r ih=>rw [adv_cons,show nx 9 (c:Int)=9 by simp [nx],ih]
theorem run_all:∀(L:List Nat) (st e f:Int) (i:Nat),L≠[]→fm (adv st L)≠0→run st e f i (L.map fun n:Nat=>(n:Int))=(((i+L.length:Nat):Int),((i+L.length:Nat):Int),fm (adv st L))
 | [],_,_,_,_,h,_=>absurd rfl h
 | c :: r,st,e,f,i,_,hf=>by
   rw [adv_cons] at hf
   have h9:nx st (c:Int)≠9:=fun h=>by rw [h,adv9] at hf;exact hf rfl
   rw [List.map_cons,run,if_neg h9,adv_cons]
   cases r with
   | nil=>
     rw [adv_nil] at hf ⊢
     rw [if_neg hf]
     simp [run]
   | cons d r=>
     have ih:=fun e f=>run_all (d :: r) (nx st (c:Int)) e f (i+1) (by simp) hf
     rw [ih,ih]
     simp only [List.length_cons,ite_self]
     rw [show i+1+(r.length+1)=i+(r.length+1+1) by omega]
theorem pf_all (L:List Nat) (hL:L≠[]) (hf:fm (adv 0 L)≠0):pf (L.map fun n:Nat=>(n:Int)) 0=((L.length:Int),(L.length:Int),fm (adv 0 L)):=by
 unfold pf
 rw [if_neg (by simp)]
 have:=run_all L 0 0 0 0 hL hf
 simpa using this
theorem adv_sign (T:List Nat):adv 0 (45 :: T)=adv 1 T:=by rw [adv_cons,show nx 0 ((45:Nat):Int)=1 by simp [nx]]
end Go.Proofs.YtjhhdnnblcbdbaaGreatDoor.pfx
end
