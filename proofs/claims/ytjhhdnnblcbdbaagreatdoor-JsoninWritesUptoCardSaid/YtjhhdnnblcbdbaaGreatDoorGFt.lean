/- ftoa64 with 'e' and no precision, walked, of a float above nought. ftoa64 with 'e' and no precision, walked, of a float below the least normal one; of any above nought. FormatFloat with 'e' and the least precision, of a float above nought. -/
import Derived.Test.YtjhhdnnblcbdbaaGreatDoorGEf
import Derived.Test.YtjhhdnnblcbdbaaGreatDoorGDl
import Derived.Deep.QuietTactic
import Derived.BigQuiet
section
namespace Go.Proofs.YtjhhdnnblcbdbaaGreatDoor.uw
open Go.RowKit Go.Sort mem fl big us sh
set_option linter.unusedVariables false
theorem run_fb (x:Nat) (w:World):(callFunc 161 #[.float .f64 x]).run Tryz.prog w= .ok (.value (.int .u64 (x:Int))) w:=by kernel_rfl
def Bd (q:Nat) (y:Int):Prop:=0<q∧(dgs q).length≤20∧ -500≤((dgs q).length:Int)+y∧((dgs q).length:Int)+y≤500
def FtPost (a B:Nat) (w:World) (e:Ending) (w':World):Prop:=
 ∃(q:Nat) (y:Int) (v:Value),Cand a q y∧q % 10≠0∧Bd q y∧e= .returned v∧w'.ownsRow B 5 1 v (eTxt (dgs q) ((dgs q).length+y-1)).length (ns (eTxt (dgs q) ((dgs q).length+y-1)))∧Below B w w'
theorem and_i (n k M:Nat) (h:n<9223372036854775808) (hk:0<k) (hk2:k<63) (hM:2^k-1=M):bits .and .i64 (n:Int) (M:Int)=((n % 2^k:Nat):Int):=by
 have h63:(n:Int)<2^63:=by
  have h63:(2:Int)^63=9223372036854775808:=by decide
  rw [h63]
  omega
 have h:=bits_mask .i64 63 (by decide) wrap_pos k (by omega) (n:Int) (by omega) h63
 have e2:((2:Int)^k)=((2^k:Nat):Int):=by simp
 have e:(2:Int)^k-1=(M:Int):=by
  have:=Nat.two_pow_pos k
  rw [e2]
  omega
 rw [e,e2] at h
 rw [h]
 rfl
theorem tab_below {w w':World} {name:String} {k:IntKind} {zs:List Int} (h:Lib.TabIs Tryz.prog w name k zs) (hb:Below w.heap.size w w'):Lib.TabIs Tryz.prog w' name k zs:=by
 unfold Lib.TabIs World.var? at*
 cases hg:Tryz.prog.globalNamed name with
 | none=>simp [hg] at h
 | some g=>
   simp only [hg,Option.bind_some] at h ⊢
   have hlt:g<w.heap.size:=by
    rcases Nat.lt_or_ge g w.heap.size with h' | h'
    ·exact h'
    ·rw [Array.getElem?_eq_none h'] at h;simp at h
   rw [hb.block g hlt]
   exact h
def zeros32:Array Value:=Array.replicate 32 (.int .u8 0)
theorem holds32 {w:World} {g:Nat} {T:TypeId} (h:w.heap[g]? =some (.cells zeros32 T (0,0))) (nd:Nat) (hn:nd≤32):Holds encB w g 0 (Array.replicate nd (0:UInt8)):=fun j hj=>by
 have hj':j<nd:=by simpa using hj
 refine ⟨?_,blk_frozen h _⟩
 rw [Nat.zero_add,blk_cell h (i:=j) (by simp [zeros32];omega),getElem!_pos _ j hj]
 simp [zeros32,encB]
theorem own_below' {w w':World} {B size n:Nat} {e:TypeId} {v:Value} {xs:List Value} (h:w.ownsRow B e size v n xs) (hb:Below w.heap.size w w'):w'.ownsRow B e size v n xs:=by
 refine ⟨h.1,?_⟩
 rcases h.2 with h2 | ⟨g,cap,cur,h1,h2,h3,h4⟩
 ·exact .inl h2
 ·exact .inr ⟨g,cap,cur,h1,h2,(hb.block g (lt_of_block h3)).trans h3,h4⟩
theorem put_below {w:World} {B blk off:Nat} {d:Array UInt8} (hB:B≤blk):Below B w (putRow encB w blk off d):=by
 refine ⟨rfl,rfl,rfl,by simp,fun k hk=>?_⟩
 simp only [putRow,mapBlock,Array.getElem?_modify]
 rw [if_neg (by omega)]
theorem ready {w w3 w5:World} {B G n5:Nat} {dk:Array UInt8} {L:List Nat} (ho:w.ownsRow B 5 1 (.slice (some ⟨G,0,none⟩) 0 24) 0 []) (hb:Below w.heap.size w w3) (hB:B≤w.heap.size) (hG:G<w.heap.size)
  (hw5:w5=(putRow encB w3.drew w.heap.size 0 dk).drewN n5) (hc:w3.heap[w.heap.size]? =some (.cells zeros32 160 (0,0))) (hs:dk.size≤20) (hl:L.length≤dk.size) (hL:∀j,j<L.length→L.getD j 0=(dk[j]!).toNat):
  EfSt w5 B w.heap.size L [] (.slice (some ⟨G,0,none⟩) 0 24) w5∧Below w.heap.size w w5:=by
 have h1:Below w.heap.size w w5:=by
  rw [hw5]
  exact below_drewN (hb.drew.trans (put_below (Nat.le_refl _))) n5
 have hlt:w.heap.size<w3.heap.size:=lt_of_block hc
 have hsz:w5.heap.size=w3.heap.size:=by rw [hw5];simp
 refine ⟨⟨own_below' ho h1,Below.refl _ _,fun j hj=>?_,?_,by omega,by omega⟩,h1⟩
 ·have h2:=cell?_putRow encB w3.drew w.heap.size 0 (Array.replicate dk.size 0) dk (holds32 (w:=w3.drew) hc _ (by omega)) (by simp) j (by omega)
  rw [Nat.zero_add] at h2
  rw [hw5,hL j hj]
  exact h2
 ·intro h
  injection h with h
  simp only at h
  omega
set_option maxRecDepth 100000 in
set_option maxHeartbeats 4000000 in
theorem ftoa_norm (a B G:Nat) (w:World) (j K z:Nat) (h0:0<a) (h1:a<9218868437227405312) (hs:Sh a j K z) (hb:Lib.bitLen K=64-(z:Int)) (hn:4503599627370496≤a) (h7:PowAt w) (hsz:14<w.heap.size) (htab:Lib.TabIs Tryz.prog w "internal/strconv.uint64pow10" .u64 Lib.pow10Tab)
  (hown:w.ownsRow B 5 1 (.slice (some ⟨G,0,none⟩) 0 24) 0 []) (hB:B≤w.heap.size) (hG:G<w.heap.size) (hB7:14<B):
  Calls Tryz.prog 142 #[.slice (some ⟨G,0,none⟩) 0 24,.float .f64 a,.int .u8 101,.int .i64 (-1)] w (FtPost a B w):=by
 have ha:=hs.ha
 have hKb:=hs.hK
 have hK0:=hs.hK0
 have hz1:=hs.hz1
 have hz2:=hs.hz2
 have hm2:=hs.hm2
 have hj2:=hs.hj2
 obtain ⟨f,hf⟩:∃f,a % 4503599627370496=f:=⟨_,rfl⟩
 have hKf:K=f+4503599627370496:=by have:=hs.hj;omega
 obtain ⟨X,hX⟩:∃X,X=j+1:=⟨_,rfl⟩
 have hq:(a:Int)/4503599627370496=(X:Int):=by omega
 have c1:(a:Int)/9223372036854775808=0:=by omega
 have c2:bits .and .i64 (X:Int) 2047=(X:Int):=by
  have:=and_i X 11 2047 (by omega) (by decide) (by decide) (by decide)
  rw [show X % 2^11=X from Nat.mod_eq_of_lt (by omega)] at this
  exact this
 have c3:bits .and .u64 (a:Int) 4503599627370495=(f:Int):=by
  rw [←hf];exact and_low a 52 (by omega) (by decide)
 have c4:bits .or .u64 (f:Int) 4503599627370496=(K:Int):=by
  have:=or_join' 4503599627370496 f 52 (by decide) (by omega) (by decide) (by omega)
  rw [←hKf] at this
  exact this
 have hL:=Lib.hid (fun w=>shelf.bits_Len64 (K:Int) w (by omega) (by omega))
 have hbe:((Lib.bitLen ((K:Int)).toNat:Nat):Int)=64-(z:Int):=by rw [←hb];simp
 have HBE:=Lib.hid hbe
 have HX:=Lib.hid hX
 have hX0:0<X:=by omega
 have hX2:X<2047:=by omega
 have HSH:=Lib.hid hs
 have H7:=Lib.hid h7
 have HT:=Lib.hid htab
 have HO:=Lib.hid hown
 have HKf:=Lib.hid hKf
 have h64:(64:Int)-(64-(z:Int))=z:=by omega
 obtain ⟨M,hM⟩:∃M,K*2^z=M:=⟨_,rfl⟩
 have hsh:(K:Int)*2^z=(M:Int):=by rw [←hM];simp
 rw [hM] at hm2
 have HM:=Lib.hid hM
 clear hM
 clear hs hb hbe h7 htab hown ha hf hKf hX
 go_enter Tryz.func142,Tryz.ntmps142
 go_wp2_with fail
 rw [run_fb]
 go_wp2_with fail
 go_quiet (fail)
 go_wp2_with fail
 have hbq:Below w.heap.size w ((w.drewN nq).alloc (.cells zeros32 160)):=(below_drewN (Below.refl _ _) nq).alloc (Nat.le_refl _) _
 have hzq:((w.drewN nq).alloc (.cells zeros32 160)).heap.size=w.heap.size+1:=by simp
 have hcq:((w.drewN nq).alloc (.cells zeros32 160)).heap[w.heap.size]? =some (.cells zeros32 160 (0,0)):=heap_alloc_new (w.drewN nq) _
 obtain ⟨w1,hw1⟩:∃w1,(w.drewN nq).alloc (.cells zeros32 160)=w1:=⟨_,rfl⟩
 have hw2:(w.drewN nq).alloc (.cells #[.int .u8 0,.int .u8 0,.int .u8 0,.int .u8 0,.int .u8 0,.int .u8 0,.int .u8 0,.int .u8 0,.int .u8 0,.int .u8 0,.int .u8 0,.int .u8 0,.int .u8 0,.int .u8 0,.int .u8 0,.int .u8 0,.int .u8 0,.int .u8 0,.int .u8 0,.int .u8 0,.int .u8 0,.int .u8 0,.int .u8 0,.int .u8 0,.int .u8 0,.int .u8 0,.int .u8 0,.int .u8 0,.int .u8 0,.int .u8 0,.int .u8 0,.int .u8 0] 160)=w1:=hw1
 rw [hw1] at hbq hzq hcq
 rw [hw2]
 clear hw1 hw2
 refine (hL.out _).mono ?_
 rintro e1 w2 ⟨rfl,rfl⟩
 rw [HBE.out]
 go_wp2_with fail
 rw [show (X:Int)+ -1023-z-52=(j:Int)-1074-z by have:=HX.out;omega,←HM.out]
 have h7b:PowAt w2:=H7.out.below hbq hsz
 have hT2:=tab_below HT.out hbq
 refine (short_any a j K z w2 h0 h1 HSH.out h7b (by omega)).mono ?_
 rintro e1 w3 ⟨d,y,rfl,hC,hd0,hdb,hy1,hy2,hb3⟩
 rw [HM.out]
 have hb03:=hbq.trans (hb3.mono (by omega))
 have hT3:Lib.TabIs Tryz.prog w3.drew "internal/strconv.uint64pow10" .u64 Lib.pow10Tab:=tab_below HT.out hb03.drew
 have hc3:w3.heap[w.heap.size]? =some (.cells zeros32 160 (0,0)):=(hb3.block _ (by omega)).trans hcq
 have hn20:=nd20 d (by omega)
 have hndp:=Lib.nDigits_pos d
 have HN:=Lib.hid (shelf.internal_strconv_numDigits d hd0 (by omega) w3.drew hT3)
 have HS:=Lib.hid (setDigits_any w.heap.size d (Lib.nDigits d) y w3.drew (Array.replicate (Lib.nDigits d) 0) (holds32 (w:=w3.drew) hc3 _ (by omega)) (by simp) hn20 (Lib.lt_pow_nDigits d) (by omega) (by omega) (by omega))
 have HLD:=Lib.hid (fun (r v':Nat) (dk:Array UInt8)=>laid_digits (d:=d) (r:=r) (v':=v') (dk:=dk) hd0)
 obtain ⟨nd,hnd⟩:∃nd,Lib.nDigits d=nd:=⟨_,rfl⟩
 rw [hnd] at hn20 hndp HN HS HLD
 have HC:=Lib.hid hC
 have HC3:=Lib.hid hc3
 have HB:=Lib.hid hb03
 clear h7b hT2 hT3 hb3 hb03 hC hbq hcq hc3 hnd
 go_wp2_with fail
 go_region_law (first
  | (go_simp;go_at_call 103;go_must (refine (HN.out).mono ?_;rintro e4 w4 ⟨rfl,rfl⟩))
  | (go_simp;go_at_call 166;go_must (refine (HS.out).mono ?_;rintro e4 w5 ⟨r,n5,v5,dk,rfl,hw5,hF,hr,hr0,hrz⟩)))
 all_goals
  obtain ⟨q,k,hq1,hq2,hq3,hq4,hq5⟩:=HLD.out r v5 dk hF hr hr0 hrz
  have hrl:(dgs q).length=r:=by rw [dgs_length,hq4]
  have hr1:0<r:=by rw [←hq4];exact Lib.nDigits_pos q
  have hC2:Cand a q (y+k):=Cand.stripk k (by rw [←hq1];exact HC.out)
  obtain ⟨hst,hb5⟩:=ready (L:=dgs q) HO.out HB.out hB hG hw5 HC3.out (by rw [hF.size];exact hn20) (by rw [hF.size,hrl];exact hr) (fun j hj=>by
   rw [←hq5] at hj ⊢
   rw [List.getD_eq_getElem?_getD,List.getElem?_map,List.getElem?_range (by simpa using hj)]
   rfl)
  have hrb:0<(dgs q).length∧(dgs q).length≤20:=by omega
  have HST:=Lib.hid hst
  have HB5:=Lib.hid hb5
  have HC2:=Lib.hid hC2
  have HQ2:=Lib.hid hq2
  have HRL:=Lib.hid hrl
  have HBd:Hid (Bd q (y+k)):=Lib.hid ⟨by rcases Nat.eq_zero_or_pos q with h | h
                                         ·rw [h] at hq2;exact absurd rfl hq2
                                         ·exact h,by omega,by omega,by omega⟩
  have HQ3:=Lib.hid hq3
  have hmax:max ((r:Int)-1) 0=(r:Int)-1:=by omega
  clear HLD HN HS hst hb5 hC2 hq1 hq2 hq4 hq5 hF hr0 hrz hrl
  subst hw5
  generalize (putRow encB w3.drew w.heap.size 0 dk).drewN n5=w5 at*
  go_wp2_with fail
  have hdgb:=fun c hc=>Nat.lt_of_le_of_lt (dgs_bytes q c hc).2 (show 57<256 by decide)
  by_cases hx:0≤(r:Int)+k+y-1
  ·obtain ⟨E,hE⟩:∃E:Nat,(r:Int)+k+y-1=E:=⟨((r:Int)+k+y-1).toNat,by omega⟩
   have hef:=ef_pos (dgs q) B w.heap.size E _ _ HST.out hrb.1 hrb.2 hdgb (by omega)
   rw [HRL.out,show (E:Int)+1=(r:Int)+k+y by omega] at hef
   refine hef.mono ?_
   rintro e6 w6 ⟨v6,rfl,ho6,hb6⟩
   have HX6:=Lib.hid (show ((dgs q).length:Int)+(y+k)-1=(E:Int) by have:=HRL.out;omega)
   have HO6:=Lib.hid ho6
   have HB6:=Lib.hid hb6
   clear ho6 hb6 hef
   go_wp2_with fail
   go_ret
   refine ⟨q,y+k,v6,HC2.out,HQ2.out,HBd.out,rfl,?_,(HB5.out.mono hB).trans HB6.out⟩
   rw [HX6.out]
   exact HO6.out
  ·obtain ⟨E,hE⟩:∃E:Nat,-((r:Int)+k+y-1)=E:=⟨(-((r:Int)+k+y-1)).toNat,by omega⟩
   have hef:=ef_neg (dgs q) B w.heap.size E _ _ HST.out hrb.1 hrb.2 hdgb (by omega) ((r:Int)+k+y-1) (by omega) hE
   rw [HRL.out,show (r:Int)+k+y-1+1=(r:Int)+k+y by omega] at hef
   refine hef.mono ?_
   rintro e6 w6 ⟨v6,rfl,ho6,hb6⟩
   have HX6:=Lib.hid (show ((dgs q).length:Int)+(y+k)-1=(r:Int)+k+y-1 by have:=HRL.out;omega)
   have HO6:=Lib.hid ho6
   have HB6:=Lib.hid hb6
   clear ho6 hb6 hef
   go_wp2_with fail
   go_ret
   refine ⟨q,y+k,v6,HC2.out,HQ2.out,HBd.out,rfl,?_,(HB5.out.mono hB).trans HB6.out⟩
   rw [HX6.out]
   exact HO6.out
end Go.Proofs.YtjhhdnnblcbdbaaGreatDoor.uw
end
section
namespace Go.Proofs.YtjhhdnnblcbdbaaGreatDoor.uw
open Go.RowKit Go.Sort mem fl big us sh
set_option linter.unusedVariables false
set_option maxRecDepth 100000 in
set_option maxHeartbeats 4000000 in
theorem ftoa_den (a B G:Nat) (w:World) (j K z:Nat) (h0:0<a) (h1:a<9218868437227405312) (hs:Sh a j K z) (hb:Lib.bitLen K=64-(z:Int)) (hn:a<4503599627370496) (h7:PowAt w) (hsz:14<w.heap.size) (htab:Lib.TabIs Tryz.prog w "internal/strconv.uint64pow10" .u64 Lib.pow10Tab)
  (hown:w.ownsRow B 5 1 (.slice (some ⟨G,0,none⟩) 0 24) 0 []) (hB:B≤w.heap.size) (hG:G<w.heap.size) (hB7:14<B):
  Calls Tryz.prog 142 #[.slice (some ⟨G,0,none⟩) 0 24,.float .f64 a,.int .u8 101,.int .i64 (-1)] w (FtPost a B w):=by
 have ha:=hs.ha
 have hKb:=hs.hK
 have hK0:=hs.hK0
 have hz1:=hs.hz1
 have hz2:=hs.hz2
 have hm2:=hs.hm2
 have hj2:=hs.hj2
 have hj0:j=0:=by omega
 have hKa:K=a:=by omega
 have hq:(a:Int)/4503599627370496=0:=by omega
 have c1:(a:Int)/9223372036854775808=0:=by omega
 have c2:bits .and .i64 0 2047=0:=by decide
 have c3:bits .and .u64 (a:Int) 4503599627370495=(K:Int):=by
  have:=and_low a 52 (by omega) (by decide)
  rw [show a % 2^52=K by rw [show (2:Nat)^52=4503599627370496 by decide];omega] at this
  exact this
 have HJ0:=Lib.hid hj0
 clear hj0 hKa
 have hL:=Lib.hid (fun w=>shelf.bits_Len64 (K:Int) w (by omega) (by omega))
 have hbe:((Lib.bitLen ((K:Int)).toNat:Nat):Int)=64-(z:Int):=by rw [←hb];simp
 have HBE:=Lib.hid hbe
 have HSH:=Lib.hid hs
 have H7:=Lib.hid h7
 have HT:=Lib.hid htab
 have HO:=Lib.hid hown
 have h64:(64:Int)-(64-(z:Int))=z:=by omega
 obtain ⟨M,hM⟩:∃M,K*2^z=M:=⟨_,rfl⟩
 have hsh:(K:Int)*2^z=(M:Int):=by rw [←hM];simp
 rw [hM] at hm2
 have HM:=Lib.hid hM
 clear hM
 clear hs hb hbe h7 htab hown ha
 go_enter Tryz.func142,Tryz.ntmps142
 go_wp2_with fail
 rw [run_fb]
 go_wp2_with fail
 go_quiet (fail)
 go_wp2_with fail
 have hbq:Below w.heap.size w ((w.drewN nq).alloc (.cells zeros32 160)):=(below_drewN (Below.refl _ _) nq).alloc (Nat.le_refl _) _
 have hzq:((w.drewN nq).alloc (.cells zeros32 160)).heap.size=w.heap.size+1:=by simp
 have hcq:((w.drewN nq).alloc (.cells zeros32 160)).heap[w.heap.size]? =some (.cells zeros32 160 (0,0)):=heap_alloc_new (w.drewN nq) _
 obtain ⟨w1,hw1⟩:∃w1,(w.drewN nq).alloc (.cells zeros32 160)=w1:=⟨_,rfl⟩
 have hw2:(w.drewN nq).alloc (.cells #[.int .u8 0,.int .u8 0,.int .u8 0,.int .u8 0,.int .u8 0,.int .u8 0,.int .u8 0,.int .u8 0,.int .u8 0,.int .u8 0,.int .u8 0,.int .u8 0,.int .u8 0,.int .u8 0,.int .u8 0,.int .u8 0,.int .u8 0,.int .u8 0,.int .u8 0,.int .u8 0,.int .u8 0,.int .u8 0,.int .u8 0,.int .u8 0,.int .u8 0,.int .u8 0,.int .u8 0,.int .u8 0,.int .u8 0,.int .u8 0,.int .u8 0,.int .u8 0] 160)=w1:=hw1
 rw [hw1] at hbq hzq hcq
 rw [hw2]
 clear hw1 hw2
 refine (hL.out _).mono ?_
 rintro e1 w2 ⟨rfl,rfl⟩
 rw [HBE.out]
 go_wp2_with fail
 rw [show (-1022:Int)-z-52=(j:Int)-1074-z by have:=HJ0.out;omega,←HM.out]
 have h7b:PowAt w2:=H7.out.below hbq hsz
 have hT2:=tab_below HT.out hbq
 refine (short_any a j K z w2 h0 h1 HSH.out h7b (by omega)).mono ?_
 rintro e1 w3 ⟨d,y,rfl,hC,hd0,hdb,hy1,hy2,hb3⟩
 rw [HM.out]
 have hb03:=hbq.trans (hb3.mono (by omega))
 have hT3:Lib.TabIs Tryz.prog w3.drew "internal/strconv.uint64pow10" .u64 Lib.pow10Tab:=tab_below HT.out hb03.drew
 have hc3:w3.heap[w.heap.size]? =some (.cells zeros32 160 (0,0)):=(hb3.block _ (by omega)).trans hcq
 have hn20:=nd20 d (by omega)
 have hndp:=Lib.nDigits_pos d
 have HN:=Lib.hid (shelf.internal_strconv_numDigits d hd0 (by omega) w3.drew hT3)
 have HS:=Lib.hid (setDigits_any w.heap.size d (Lib.nDigits d) y w3.drew (Array.replicate (Lib.nDigits d) 0) (holds32 (w:=w3.drew) hc3 _ (by omega)) (by simp) hn20 (Lib.lt_pow_nDigits d) (by omega) (by omega) (by omega))
 have HLD:=Lib.hid (fun (r v':Nat) (dk:Array UInt8)=>laid_digits (d:=d) (r:=r) (v':=v') (dk:=dk) hd0)
 obtain ⟨nd,hnd⟩:∃nd,Lib.nDigits d=nd:=⟨_,rfl⟩
 rw [hnd] at hn20 hndp HN HS HLD
 have HC:=Lib.hid hC
 have HC3:=Lib.hid hc3
 have HB:=Lib.hid hb03
 clear h7b hT2 hT3 hb3 hb03 hC hbq hcq hc3 hnd
 go_wp2_with fail
 go_region_law (first
  | (go_simp;go_at_call 103;go_must (refine (HN.out).mono ?_;rintro e4 w4 ⟨rfl,rfl⟩))
  | (go_simp;go_at_call 166;go_must (refine (HS.out).mono ?_;rintro e4 w5 ⟨r,n5,v5,dk,rfl,hw5,hF,hr,hr0,hrz⟩)))
 all_goals
  obtain ⟨q,k,hq1,hq2,hq3,hq4,hq5⟩:=HLD.out r v5 dk hF hr hr0 hrz
  have hrl:(dgs q).length=r:=by rw [dgs_length,hq4]
  have hr1:0<r:=by rw [←hq4];exact Lib.nDigits_pos q
  have hC2:Cand a q (y+k):=Cand.stripk k (by rw [←hq1];exact HC.out)
  obtain ⟨hst,hb5⟩:=ready (L:=dgs q) HO.out HB.out hB hG hw5 HC3.out (by rw [hF.size];exact hn20) (by rw [hF.size,hrl];exact hr) (fun j hj=>by
   rw [←hq5] at hj ⊢
   rw [List.getD_eq_getElem?_getD,List.getElem?_map,List.getElem?_range (by simpa using hj)]
   rfl)
  have hrb:0<(dgs q).length∧(dgs q).length≤20:=by omega
  have HST:=Lib.hid hst
  have HB5:=Lib.hid hb5
  have HC2:=Lib.hid hC2
  have HQ2:=Lib.hid hq2
  have HRL:=Lib.hid hrl
  have HBd:Hid (Bd q (y+k)):=Lib.hid ⟨by rcases Nat.eq_zero_or_pos q with h | h
                                         ·rw [h] at hq2;exact absurd rfl hq2
                                         ·exact h,by omega,by omega,by omega⟩
  have HQ3:=Lib.hid hq3
  have hmax:max ((r:Int)-1) 0=(r:Int)-1:=by omega
  clear HLD HN HS hst hb5 hC2 hq1 hq2 hq4 hq5 hF hr0 hrz hrl
  subst hw5
  generalize (putRow encB w3.drew w.heap.size 0 dk).drewN n5=w5 at*
  go_wp2_with fail
  have hdgb:=fun c hc=>Nat.lt_of_le_of_lt (dgs_bytes q c hc).2 (show 57<256 by decide)
  by_cases hx:0≤(r:Int)+k+y-1
  ·obtain ⟨E,hE⟩:∃E:Nat,(r:Int)+k+y-1=E:=⟨((r:Int)+k+y-1).toNat,by omega⟩
   have hef:=ef_pos (dgs q) B w.heap.size E _ _ HST.out hrb.1 hrb.2 hdgb (by omega)
   rw [HRL.out,show (E:Int)+1=(r:Int)+k+y by omega] at hef
   refine hef.mono ?_
   rintro e6 w6 ⟨v6,rfl,ho6,hb6⟩
   have HX6:=Lib.hid (show ((dgs q).length:Int)+(y+k)-1=(E:Int) by have:=HRL.out;omega)
   have HO6:=Lib.hid ho6
   have HB6:=Lib.hid hb6
   clear ho6 hb6 hef
   go_wp2_with fail
   go_ret
   refine ⟨q,y+k,v6,HC2.out,HQ2.out,HBd.out,rfl,?_,(HB5.out.mono hB).trans HB6.out⟩
   rw [HX6.out]
   exact HO6.out
  ·obtain ⟨E,hE⟩:∃E:Nat,-((r:Int)+k+y-1)=E:=⟨(-((r:Int)+k+y-1)).toNat,by omega⟩
   have hef:=ef_neg (dgs q) B w.heap.size E _ _ HST.out hrb.1 hrb.2 hdgb (by omega) ((r:Int)+k+y-1) (by omega) hE
   rw [HRL.out,show (r:Int)+k+y-1+1=(r:Int)+k+y by omega] at hef
   refine hef.mono ?_
   rintro e6 w6 ⟨v6,rfl,ho6,hb6⟩
   have HX6:=Lib.hid (show ((dgs q).length:Int)+(y+k)-1=(r:Int)+k+y-1 by have:=HRL.out;omega)
   have HO6:=Lib.hid ho6
   have HB6:=Lib.hid hb6
   clear ho6 hb6 hef
   go_wp2_with fail
   go_ret
   refine ⟨q,y+k,v6,HC2.out,HQ2.out,HBd.out,rfl,?_,(HB5.out.mono hB).trans HB6.out⟩
   rw [HX6.out]
   exact HO6.out
end Go.Proofs.YtjhhdnnblcbdbaaGreatDoor.uw
end
section
namespace Go.Proofs.YtjhhdnnblcbdbaaGreatDoor.uw
open Go.RowKit Go.Sort mem fl big us sh
set_option linter.unusedVariables false
theorem ftoa_any (a B G:Nat) (w:World) (h0:0<a) (h1:a<9218868437227405312) (h7:PowAt w) (hsz:14<w.heap.size) (htab:Lib.TabIs Tryz.prog w "internal/strconv.uint64pow10" .u64 Lib.pow10Tab)
  (hown:w.ownsRow B 5 1 (.slice (some ⟨G,0,none⟩) 0 24) 0 []) (hB:B≤w.heap.size) (hG:G<w.heap.size) (hB7:14<B):
  Calls Tryz.prog 142 #[.slice (some ⟨G,0,none⟩) 0 24,.float .f64 a,.int .u8 101,.int .i64 (-1)] w (FtPost a B w):=by
 obtain ⟨j,K,z,hs,hb⟩:=shape a h0 h1
 by_cases hn:a<4503599627370496
 ·exact ftoa_den a B G w j K z h0 h1 hs hb hn h7 hsz htab hown hB hG hB7
 ·exact ftoa_norm a B G w j K z h0 h1 hs hb (by omega) h7 hsz htab hown hB hG hB7
def FmPost (a:Nat) (w:World) (e:Ending) (w':World):Prop:=∃(q:Nat) (y:Int),Cand a q y∧q % 10≠0∧Bd q y∧e= .returned (.string (strN (eTxt (dgs q) ((dgs q).length+y-1))))∧Below w.heap.size w w'
set_option maxRecDepth 100000 in
theorem fmt_inner (a:Nat) (w:World) (h0:0<a) (h1:a<9218868437227405312) (h7:PowAt w) (hsz:14<w.heap.size) (htab:Lib.TabIs Tryz.prog w "internal/strconv.uint64pow10" .u64 Lib.pow10Tab):
  Calls Tryz.prog 128 #[.float .f64 a,.int .u8 101,.int .i64 (-1),.int .i64 64] w (FmPost a w):=by
 obtain ⟨iv,hiv,hv0,hv1,hv2⟩:=info_parts infoB
 have H7:=Lib.hid h7
 have HT:=Lib.hid htab
 clear h7 htab
 go_enter Tryz.func128,Tryz.ntmps128
 go_wp2_with (refine wpList_make_own _ rfl (.const (.int .i64 0)) (.tmp 25) 22 rfl w.heap.size 5 iv _ 1 Tryz.underlying22 hiv hv0 hv1 .i64 .i64 24 24 rfl rfl (by simp) (by rw [hv2];omega) (by unfold maxLen;omega) (Nat.le_refl _) ?_;intro w6 hown6 hgrow6)
 have hb6:Below w.heap.size w w6:=(Below.refl _ _).grown hgrow6 (Nat.le_refl _) (fun k hk=>by cases hk)
 have hs6:=hb6.size
 have hlt6:=hown6.lt _ rfl
 refine (ftoa_any a w.heap.size w.heap.size w6 h0 h1 (H7.out.below hb6 hsz) (by omega) (tab_below HT.out hb6) hown6 hs6 hlt6.2 hsz).mono ?_
 rintro e w7 ⟨q,y,v,hC,hq,hbd,rfl,ho,hb⟩
 obtain ⟨A,c,rfl,_⟩:=own_form ho
 have hcv:(convert 22 9 (.slice A (eTxt (dgs q) ((dgs q).length+y-1)).length c)).run Tryz.prog w7= .ok (.string (strN (eTxt (dgs q) ((dgs q).length+y-1)))) w7:=conv_bytes A _ c (Rd.of_own ho)
 have HB:=Lib.hid (hb6.trans hb)
 have HC:=Lib.hid (And.intro hC (And.intro hq hbd))
 clear ho hb hb6 hC hq hbd hown6 hgrow6
 obtain ⟨S,hS⟩:∃S,strN (eTxt (dgs q) ((dgs q).length+y-1))=S:=⟨_,rfl⟩
 obtain ⟨n,hn⟩:∃n,(eTxt (dgs q) ((dgs q).length+y-1)).length=n:=⟨_,rfl⟩
 rw [hS,hn] at hcv
 rw [hn]
 have HS:=Lib.hid hS
 clear hS hn
 go_wp2_with fail
 go_ret
 exact ⟨q,y,HC.out.1,HC.out.2.1,HC.out.2.2,by rw [HS.out];rfl,HB.out⟩
set_option maxRecDepth 100000 in
theorem fmt_any (a:Nat) (w:World) (h0:0<a) (h1:a<9218868437227405312) (h7:PowAt w) (hsz:14<w.heap.size) (htab:Lib.TabIs Tryz.prog w "internal/strconv.uint64pow10" .u64 Lib.pow10Tab):
  Calls Tryz.prog 107 #[.float .f64 a,.int .u8 101,.int .i64 (-1),.int .i64 64] w (FmPost a w):=by
 have H:=Lib.hid (fmt_inner a w h0 h1 h7 hsz htab)
 clear h7 htab
 go_enter Tryz.func107,Tryz.ntmps107
 go_wp2_with fail
 refine (H.out).mono ?_
 rintro e w2 ⟨q,y,hC,hq,hbd,rfl,hb⟩
 have HC:=Lib.hid (And.intro hC (And.intro hq (And.intro hbd hb)))
 clear hC hq hbd hb
 go_wp2_with fail
 go_ret
 exact ⟨q,y,HC.out.1,HC.out.2.1,HC.out.2.2.1,rfl,HC.out.2.2.2⟩
end Go.Proofs.YtjhhdnnblcbdbaaGreatDoor.uw
end
