/- The two answers that the document fixes: the program gives them. JsoninStays, walked. Printed by gen_jz.py. What layer 2 reads of a text, as one function of the text. -/
import Derived.Test.YtjhhdnnblcbdbaaGreatDoorGJs
import Derived.Test.YtjhhdnnblcbdbaaGreatDoorGVal
import Derived.Lib.SlBytesConst
import Derived.Test.YtjhhdnnblcbdbaaGreatDoorYNr
import Derived.Test.YtjhhdnnblcbdbaaGreatDoorGJm
section
namespace Go.Proofs.YtjhhdnnblcbdbaaGreatDoor.jw
open Go.RowKit mem val jp
set_option linter.unusedVariables false
attribute [local go_sem] run_store_float
theorem rd_mark (w:World) (l:List Nat) (t:TypeId) (fr:Nat×Nat) (cs:Array Value) (hcs:cs=(us l).toArray):Rd (w.alloc (.cells cs t fr)) (w.alloc (.cells cs t fr)).heap.size (some ⟨w.heap.size,0,none⟩) (us l):=by
 subst hcs
 intro j u hu
 refine ⟨_,rfl,by simp,?_⟩
 rw [add_zero_off,cell_of_row (w.alloc (.cells (us l).toArray t fr)) w.heap.size j (us l).toArray t fr (heap_alloc_new w _)]
 simpa using hu
theorem v1_parts {W:World} {S:Nat→Prop} {cs:List Value} (h:IsV W S V1 cs):∃(ad am:Addr) (c1 c2 c3 c4:Nat) (A2 A3:Option Addr) (z1 z2:Nat),cs=[.int .i64 5,.bool false,.int .i64 0,.float .f64 0,.string ByteArray.empty,.string ByteArray.empty,.slice (some ad) 2 c1,.slice A2 0 c2]∧S ad.block∧S am.block∧
  CellsAt W (ad.add 8) [.int .i64 6,.bool false,.int .i64 0,.float .f64 0,.string ByteArray.empty,.string ByteArray.empty,.slice A3 0 c3,.slice (some am) 1 c4]∧
  ∃(A4 A5:Option Addr),CellsAt W am [.string (bt [97]),.int .i64 3,.bool false,.int .i64 0,.float .f64 4609434218613702656,.string ByteArray.empty,.string ByteArray.empty,.slice A4 0 z1,.slice A5 0 z2]:=by
 unfold V1 listV objV numV nullV at h
 simp only [IsV,List.length_cons,List.length_nil,Nat.zero_add] at h
 obtain ⟨A,c1,A',c2,rfl,_,_,hI,_⟩:=h
 obtain ⟨ad,cs2,rfl,hS,hC,hV⟩:=hI.at_ (i:=1) rfl
 simp only [IsV,List.length_cons,List.length_nil,Nat.zero_add] at hV
 obtain ⟨A3,c3,A6,c4,rfl,_,_,_,hF⟩:=hV
 obtain ⟨am,cs3,rfl,hS3,hC3,hV3⟩:=hF.at_ (i:=0) rfl
 simp only [IsV,List.length_nil] at hV3
 obtain ⟨A4,z1,A5,z2,rfl,_⟩:=hV3
 exact ⟨ad,am,c1,c2,c3,c4,A',A3,z1,z2,rfl,hS,hS3,hC,A4,A5,hC3⟩
theorem tok_small {src:List Nat} (h:src.length≤1100000) (p:Nat):pE (src.drop p)≤1100000:=by
 have h1:=pf_at (src.drop p)
 rw [List.length_drop] at h1
 omega
set_option maxRecDepth 100000 in
set_option maxHeartbeats 1600000 in
theorem fixed_all {F:Nf} (w:World) (hnum:NumOf F w) (hnf:∀l,(F l).2.2.2≠50∧(F l).2.2.2≠71) (h15:F [49,46,53]=(3,0,4609434218613702656,0)) (h1:F [49]=(2,1,0,0)):
  Calls Tryz.prog 12 #[] w fun e w'=>e= .returned (.bool true)∧Below w.heap.size w w':=by
 have HNum:=Lib.hid hnum
 have HNf:=Lib.hid hnf
 have HR1:=Lib.hid (fun (W:World) (c:Nat) (hc:18≤c) (hcm:c≤maxLen) (hb:Below w.heap.size w W) (hr:Rd W W.heap.size (some ⟨w.heap.size,0,none⟩) (us L1))=>read_any (F:=F) (some ⟨w.heap.size,0,none⟩) 18 c L1 2 80 W rfl (by omega) (tok_small (by decide)) (by decide) hr (fun s hs W' hW'=>hnum s hs W' (hb.trans (hW'.mono hb.size))) hnf hc hcm (by omega))
 have HR2:=Lib.hid (fun (W:World) (g c:Nat) (hc:4≤c) (hcm:c≤maxLen) (hb:Below w.heap.size w W) (hr:Rd W W.heap.size (some ⟨g,0,none⟩) (us L2))=>read_any (F:=F) (some ⟨g,0,none⟩) 4 c L2 2 80 W rfl (by omega) (tok_small (by decide)) (by decide) hr (fun s hs W' hW'=>hnum s hs W' (hb.trans (hW'.mono hb.size))) hnf hc hcm (by omega))
 have HE1:=Lib.hid (fixed1 h15 60)
 have HE2:=Lib.hid (fixed2 h1 60)
 clear hnum hnf h15 h1
 go_enter Tryz.func12,Tryz.ntmps12
 have hcv1:=Lib.run_convert_bytes_const (P:=Tryz.prog) w 22 5 #[.int .u8 32,.int .u8 91,.int .u8 110,.int .u8 117,.int .u8 108,.int .u8 108,.int .u8 44,.int .u8 32,.int .u8 123,.int .u8 34,.int .u8 97,.int .u8 34,.int .u8 58,.int .u8 49,.int .u8 46,.int .u8 53,.int .u8 125,.int .u8 93] 18 18 Tryz.underlying22 Tryz.underlying5
 have hrd1:=rd_mark w L1 5 (18,19) #[.int .u8 32,.int .u8 91,.int .u8 110,.int .u8 117,.int .u8 108,.int .u8 108,.int .u8 44,.int .u8 32,.int .u8 123,.int .u8 34,.int .u8 97,.int .u8 34,.int .u8 58,.int .u8 49,.int .u8 46,.int .u8 53,.int .u8 125,.int .u8 93] rfl
 have hb1:Below w.heap.size w (w.alloc (.cells #[.int .u8 32,.int .u8 91,.int .u8 110,.int .u8 117,.int .u8 108,.int .u8 108,.int .u8 44,.int .u8 32,.int .u8 123,.int .u8 34,.int .u8 97,.int .u8 34,.int .u8 58,.int .u8 49,.int .u8 46,.int .u8 53,.int .u8 125,.int .u8 93] 5 (18,19))):=(Below.refl _ _).alloc (Nat.le_refl _) _
 have HX:=Lib.hid (HR1.out (w.alloc (.cells #[.int .u8 32,.int .u8 91,.int .u8 110,.int .u8 117,.int .u8 108,.int .u8 108,.int .u8 44,.int .u8 32,.int .u8 123,.int .u8 34,.int .u8 97,.int .u8 34,.int .u8 58,.int .u8 49,.int .u8 46,.int .u8 53,.int .u8 125,.int .u8 93] 5 (18,19))) 18 (by omega) (by unfold maxLen;omega) hb1 hrd1)
 have HB1:=Lib.hid hb1
 clear hrd1 hb1
 go_wp2_with fail
 refine HX.out.mono ?_
 rintro e w2 hQ
 rw [show dep 2=2 from rfl,HE1.out] at hQ
 obtain ⟨hb2,cs,rfl,hv⟩:=hQ
 obtain ⟨ad,am,c1,c2,c3,c4,A2,A3,z1,z2,rfl,hS1,hS2,hC1,A4,A5,hC2⟩:=v1_parts hv
 have HB2:=Lib.hid (HB1.out.trans (hb2.mono HB1.out.size))
 have HC1:=Lib.hid hC1
 have HC2:=Lib.hid hC2
 have hl1:ad.block<w2.heap.size:=hS1.2
 have hl2:am.block<w2.heap.size:=hS2.2
 clear hb2 hv hC1 hC2 hS1 hS2 HX HR1 HE1 hcv1
 have hb3:Below w.heap.size w (w2.alloc (.cells #[.int .i64 5,.bool false,.int .i64 0,.float .f64 0,.string ByteArray.empty,.string ByteArray.empty,.slice (some ad) 2 c1,.slice A2 0 c2] 29)):=HB2.out.alloc HB2.out.size _
 have hg3:=heap_alloc_new w2 (.cells #[.int .i64 5,.bool false,.int .i64 0,.float .f64 0,.string ByteArray.empty,.string ByteArray.empty,.slice (some ad) 2 c1,.slice A2 0 c2] 29)
 have hcv2:=Lib.run_convert_bytes_const (P:=Tryz.prog) (w2.alloc (.cells #[.int .i64 5,.bool false,.int .i64 0,.float .f64 0,.string ByteArray.empty,.string ByteArray.empty,.slice (some ad) 2 c1,.slice A2 0 c2] 29)) 22 5 #[.int .u8 91,.int .u8 49,.int .u8 44,.int .u8 93] 4 4 Tryz.underlying22 Tryz.underlying5
 have hrd2:=rd_mark (w2.alloc (.cells #[.int .i64 5,.bool false,.int .i64 0,.float .f64 0,.string ByteArray.empty,.string ByteArray.empty,.slice (some ad) 2 c1,.slice A2 0 c2] 29)) L2 5 (4,5) #[.int .u8 91,.int .u8 49,.int .u8 44,.int .u8 93] rfl
 have hb4:Below w.heap.size w ((w2.alloc (.cells #[.int .i64 5,.bool false,.int .i64 0,.float .f64 0,.string ByteArray.empty,.string ByteArray.empty,.slice (some ad) 2 c1,.slice A2 0 c2] 29)).alloc (.cells #[.int .u8 91,.int .u8 49,.int .u8 44,.int .u8 93] 5 (4,5))):=hb3.alloc hb3.size _
 have h24:Below w2.heap.size w2 ((w2.alloc (.cells #[.int .i64 5,.bool false,.int .i64 0,.float .f64 0,.string ByteArray.empty,.string ByteArray.empty,.slice (some ad) 2 c1,.slice A2 0 c2] 29)).alloc (.cells #[.int .u8 91,.int .u8 49,.int .u8 44,.int .u8 93] 5 (4,5))):=((Below.refl _ _).alloc (Nat.le_refl _) _).alloc (by simp) _
 have hg4:((w2.alloc (.cells #[.int .i64 5,.bool false,.int .i64 0,.float .f64 0,.string ByteArray.empty,.string ByteArray.empty,.slice (some ad) 2 c1,.slice A2 0 c2] 29)).alloc (.cells #[.int .u8 91,.int .u8 49,.int .u8 44,.int .u8 93] 5 (4,5))).heap[w2.heap.size]? =some (.cells #[.int .i64 5,.bool false,.int .i64 0,.float .f64 0,.string ByteArray.empty,.string ByteArray.empty,.slice (some ad) 2 c1,.slice A2 0 c2] 29):=blk_alloc hg3 _
 rw [show (w2.alloc (.cells #[.int .i64 5,.bool false,.int .i64 0,.float .f64 0,.string ByteArray.empty,.string ByteArray.empty,.slice (some ad) 2 c1,.slice A2 0 c2] 29)).heap.size=w2.heap.size+1 by simp] at hcv2 hrd2
 have HX:=Lib.hid (HR2.out ((w2.alloc (.cells #[.int .i64 5,.bool false,.int .i64 0,.float .f64 0,.string ByteArray.empty,.string ByteArray.empty,.slice (some ad) 2 c1,.slice A2 0 c2] 29)).alloc (.cells #[.int .u8 91,.int .u8 49,.int .u8 44,.int .u8 93] 5 (4,5))) (w2.heap.size+1) 4 (by omega) (by unfold maxLen;omega) hb4 hrd2)
 have HB4:=Lib.hid hb4
 have H24:=Lib.hid h24
 have HG4:=Lib.hid hg4
 clear hrd2 hb3 hb4 h24 hg3 hg4 HR2
 go_wp2_with fail
 refine HX.out.mono ?_
 rintro e w5 hQ
 rw [show dep 2=2 from rfl,HE2.out] at hQ
 obtain ⟨hb5,rfl⟩:=hQ
 have HB5:=Lib.hid (HB4.out.trans (hb5.mono HB4.out.size))
 have h25:Below w2.heap.size w2 w5:=H24.out.trans (hb5.mono H24.out.size)
 have hgl:w2.heap.size<w5.heap.size:=by have:=blk_lt HG4.out;have:=hb5.size;omega
 have hg5:w5.heap[w2.heap.size]? =some (.cells #[.int .i64 5,.bool false,.int .i64 0,.float .f64 0,.string ByteArray.empty,.string ByteArray.empty,.slice (some ad) 2 c1,.slice A2 0 c2] 29):=(hb5.block _ (blk_lt HG4.out)).trans HG4.out
 have hg6:=blk_alloc hg5 (.cells #[.int .i64 0,.bool false,.int .i64 0,.float .f64 0,.string { data:= #[]},.string { data:= #[]},.slice none 0 0,.slice none 0 0] 29)
 have h26:Below w2.heap.size w2 (w5.alloc (.cells #[.int .i64 0,.bool false,.int .i64 0,.float .f64 0,.string { data:= #[]},.string { data:= #[]},.slice none 0 0,.slice none 0 0] 29)):=h25.alloc h25.size _
 obtain ⟨b0,b1,b2,b3,b4,b5,b6,b7⟩:=blk8 hg6
 obtain ⟨e0,e1,e2,e3,e4,e5,e6,e7⟩:=(HC1.out.keep (S:=fun b=>b<w2.heap.size) (by rw [add_block];exact hl1) (fun p hp=>h26.cell hp)).eight
 obtain ⟨m0,m1,m2,m3,m4,m5,m6,m7,m8⟩:=(HC2.out.keep (S:=fun b=>b<w2.heap.size) hl2 (fun p hp=>h26.cell hp)).nine
 have HBF:=Lib.hid (HB5.out.alloc HB5.out.size (.cells #[.int .i64 0,.bool false,.int .i64 0,.float .f64 0,.string { data:= #[]},.string { data:= #[]},.slice none 0 0,.slice none 0 0] 29))
 have f0:(w5.alloc (.cells #[.int .i64 0,.bool false,.int .i64 0,.float .f64 0,.string { data:= #[]},.string { data:= #[]},.slice none 0 0,.slice none 0 0] 29)).cell? ⟨ad.block,ad.off+8,none⟩=some (.int .i64 6):=e0
 have f7:(w5.alloc (.cells #[.int .i64 0,.bool false,.int .i64 0,.float .f64 0,.string { data:= #[]},.string { data:= #[]},.slice none 0 0,.slice none 0 0] 29)).cell? ⟨ad.block,ad.off+8+7,none⟩=some (.slice (some am) 1 c4):=e7
 have f7':(w5.alloc (.cells #[.int .i64 0,.bool false,.int .i64 0,.float .f64 0,.string { data:= #[]},.string { data:= #[]},.slice none 0 0,.slice none 0 0] 29)).cell? ⟨ad.block,ad.off+15,none⟩=some (.slice (some am) 1 c4):=e7
 have x4:(w5.alloc (.cells #[.int .i64 0,.bool false,.int .i64 0,.float .f64 0,.string { data:= #[]},.string { data:= #[]},.slice none 0 0,.slice none 0 0] 29)).cell? ⟨am.block,am.off+1+3,none⟩=some (.float .f64 4609434218613702656):=m4
 have hkey:bt [97]=⟨#[97]⟩:=rfl
 rw [hkey] at m0
 clear hg5 hg6 h25 h26 hb5 HX HB4 H24 HG4 HB5 HC1 HC2 HE2 hcv2
 go_wp2_with fail
 go_ret
 exact ⟨rfl,HBF.out⟩
end Go.Proofs.YtjhhdnnblcbdbaaGreatDoor.jw
end
section
namespace Go.Proofs.YtjhhdnnblcbdbaaGreatDoor.jw
open Go.RowKit mem val jp
set_option linter.unusedVariables false
attribute [local go_sem] run_store_float
theorem rd_take {w:World} {B:Nat} {A:Option Addr} {l:List Nat} (h:Rd w B A (us l)) (k:Nat):Rd w B A (us (l.take k)):=fun j u hu=>by
 rw [us_get] at hu
 have hj:(l.take k)[j]? =if j<k then l[j]? else none:=List.getElem?_take
 by_cases hjk:j<k
 ·rw [hj,if_pos hjk] at hu
  exact h j u (by rw [us_get];exact hu)
 ·rw [hj,if_neg hjk] at hu
  cases hu
theorem conv_take {w:World} {A:Option Addr} {l:List Nat} {n c:Nat} (hl:l.length=n) (h:Rd w w.heap.size A (us l)) (k:Nat) (hk:k≤n) (hA:A=none→n=0) (W:World) (hW:Below w.heap.size w W):
  (convert 22 9 (.slice A k c)).run Tryz.prog W= .ok (.string (bt (l.take k))) W:=by
 have hlen:(l.take k).length=k:=by rw [List.length_take];omega
 have:=run_conv_bytes (w:=W) 22 9 5 A ((l.take k).map fun n:Nat=>(n:Int)) c Tryz.underlying22 Tryz.underlying5 Tryz.underlying9 ((rd_take h k).below hW) (fun h=>by rw [List.length_map,hlen];have:=hA h;omega)
 rw [List.length_map,hlen] at this
 exact this
end Go.Proofs.YtjhhdnnblcbdbaaGreatDoor.jw
end
section
namespace Go.Proofs.YtjhhdnnblcbdbaaGreatDoor.jw
open Go.RowKit mem fl big us uw pg dcm
set_option linter.unusedVariables false
theorem nm_uniq {P:Nat} {l:List Nat} {k v k' v':Int} {b b':Nat} {e e':Int} (h:Nm P l k v b e) (h':Nm P l k' v' b' e'):k=k'∧v=v'∧b=b'∧e=e':=by
 obtain ⟨R,hR,h1⟩:=h
 obtain ⟨R',hR',h2⟩:=h'
 have hs:ans l R=ans l R':=by
  by_cases ha:asks l
  ·rw [dec_unique (hR ha).1 (hR' ha).1]
  ·unfold ans
   by_cases h0:form l=0
   ·rw [if_pos h0,if_pos h0]
   ·rw [if_neg h0,if_neg h0]
    have h3:form l=1∧fits l:=by
     unfold asks at ha
     rcases fm_range (pfx.adv 0 l) with h | h | h
     ·exact absurd h h0
     ·exact ⟨h,Classical.byContradiction fun hf=>ha (.inr ⟨h,hf⟩)⟩
     ·exact absurd (.inl h) ha
    rw [if_pos h3,if_pos h3]
 exact numV_inj (h1.symm.trans (hs.trans h2))
open Classical in
noncomputable def Fn (P:Nat) (l:List Nat):Int×Int×Nat×Int:=if h:∃x:Int×Int×Nat×Int,Nm P l x.1 x.2.1 x.2.2.1 x.2.2.2 then h.choose else (0,0,0,0)
theorem fn_of {P:Nat} {l:List Nat} {k v:Int} {b:Nat} {e:Int} (h:Nm P l k v b e):Fn P l=(k,v,b,e):=by
 have hx:∃x:Int×Int×Nat×Int,Nm P l x.1 x.2.1 x.2.2.1 x.2.2.2:=⟨(k,v,b,e),h⟩
 unfold Fn
 rw [dif_pos hx]
 obtain ⟨e1,e2,e3,e4⟩:=nm_uniq hx.choose_spec h
 exact Prod.ext e1 (Prod.ext e2 (Prod.ext e3 e4))
theorem nm_err {P:Nat} {l:List Nat} {k v:Int} {b:Nat} {e:Int} (h:Nm P l k v b e):e=0∨e=7∨e=20:=by
 obtain ⟨R,_,h⟩:=h
 unfold ans fltV at h
 split at h
 ·have:=numV_inj h;omega
 ·split at h
  ·have:=numV_inj h;omega
  ·split at h
   ·have:=numV_inj h;omega
   ·have:=numV_inj h;omega
theorem fn_nf (P:Nat) (l:List Nat):(Fn P l).2.2.2≠50∧(Fn P l).2.2.2≠71:=by
 by_cases hx:∃x:Int×Int×Nat×Int,Nm P l x.1 x.2.1 x.2.2.1 x.2.2.2
 ·obtain ⟨x,hx⟩:=hx
  rw [fn_of hx]
  have:=nm_err hx
  simp only
  omega
 ·unfold Fn
  rw [dif_neg hx]
  decide
theorem num_of {P z:Nat} (hz:z=1074) (hP:P=2^z) {w:World} (hE:REnv w):NumOf (Fn P) w:=by
 intro s hs W hW
 refine (read_parts' hz hP s hs W (hE.below hW)).mono ?_
 rintro e w' ⟨k,v,b,er,HN,he,hb⟩
 have:Fn P (s.data.toList.map UInt8.toNat)=(k,v,b,er):=fn_of HN.out
 rw [this]
 exact ⟨he,hb⟩
theorem v15 {y:Nat} (hy:y=1022):V 4609434218613702656=6755399441055744*2^y:=by
 have e1:4609434218613702656/4503599627370496-1=y:=by omega
 unfold V
 rewrite [if_neg (by omega),e1]
 rfl
theorem fn15 {P z:Nat} (hz:z=1074) (hP:P=2^z):Fn P [49,46,53]=(3,0,4609434218613702656,0):=by
 refine fn_of ⟨4609434218613702656,fun _=>⟨?_,by decide⟩,?_⟩
 rotate_left
 ·unfold ans
  rw [if_neg (by decide),if_neg (by rintro ⟨h,_⟩;revert h;decide)]
  rfl
 have hd:dvn (spB [49,46,53])=15:=by decide
 have hx:spX [49,46,53]-(spB [49,46,53]).length= -1:=by decide
 show Dec P (dvn (spB [49,46,53])) (spX [49,46,53]-(spB [49,46,53]).length) _
 rewrite [hd,hx]
 obtain ⟨y,hy⟩:∃y,y=1022:=⟨_,rfl⟩
 have hv:=v15 hy
 have hPy:P=4503599627370496*2^y:=by
  rewrite [hP,show z=52+y by omega,Nat.pow_add]
  rfl
 refine near_cross (near_exact hv (by decide)) (by decide) (by decide) ?_
 rewrite [hPy]
 have t1:(-(-1:Int)).toNat=1:=rfl
 have t2:(-1:Int).toNat=0:=rfl
 rewrite [t1,t2]
 generalize 2^y=Q
 omega
theorem fn1 (P:Nat):Fn P [49]=(2,1,0,0):=by
 refine fn_of ⟨0,fun h=>?_,?_⟩
 ·exfalso
  have hf:fits [49]:=by unfold fits wholeZ;decide
  rcases h with h | ⟨_,h⟩
  ·revert h;decide
  ·exact h hf
 ·have hf:fits [49]:=by unfold fits wholeZ;decide
  unfold ans
  rw [if_neg (by decide),if_pos ⟨by decide,hf⟩]
  rfl
end Go.Proofs.YtjhhdnnblcbdbaaGreatDoor.jw
end
