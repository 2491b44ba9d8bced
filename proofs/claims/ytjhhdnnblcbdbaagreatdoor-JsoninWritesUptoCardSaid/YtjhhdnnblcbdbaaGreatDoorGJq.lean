/- An object. Printed by gen_jq.py. A value, by induction on the fuel. Printed by gen_jr.py. -/
import Derived.Test.YtjhhdnnblcbdbaaGreatDoorGJn
import Derived.Test.YtjhhdnnblcbdbaaGreatDoorGVal
section
namespace Go.Proofs.YtjhhdnnblcbdbaaGreatDoor.jw
open Go.RowKit mem val jp smap
set_option linter.unusedVariables false
set_option linter.unusedSectionVars false
attribute [local go_sem] run_store_float
theorem infoMe:(Tryz.prog.info? 54).map (fun i=>(i.zero,i.size,i.bytes))=some (some (.agg #[.string ByteArray.empty,.int .i64 0,.bool false,.int .i64 0,.float .f64 0,.string ByteArray.empty,.string ByteArray.empty,.slice none 0 0,.slice none 0 0]),9,128):=by kernel_rfl
theorem MapS.len_run {w:World} {m k:Nat} {l:List ByteArray} (hk:k≤4611686018427387904) (h:MapS w m k l) (ty:TypeId):∃z:Int,(Lit.int .i64 z).wf=true∧(Builtin.len_ #[137] ty #[.map (some m)]).run Tryz.prog w= .ok (.int .i64 z) w:=by
 obtain ⟨D,h,_⟩:=h
 refine ⟨Maps.size D,WalkArith.wf_i64 ?_,h.len Tryz.underlying137 ty⟩
 have:=h.size_le
 omega
theorem pieces_len:∀(m:Nat) (acc l a:List Nat) (k:Nat),pieces m acc l= .ok a k→a.length≤acc.length+4*k
 | 0,acc,l,a,k,h=>by simp [pieces] at h
 | m+1,acc,l,a,k,h=>by
   simp only [pieces] at h
   split at h
   ·cases h
   ·split at h
    ·rcases bnd_cases one (fun _=>jp.ret acc) l with ⟨k1,e,_,h2⟩ | ⟨u,j,b,i,_,h2,h3⟩ | ⟨u,j,i,e,_,h2,h3⟩
     ·rw [h2] at h;cases h
     ·rw [h3] at h
      simp only [jp.ret,Rs.ok.injEq] at h h2
      rw [←h.1,←h2.1]
      omega
     ·rw [h3] at h;cases h
    ·split at h
     ·rcases bnd_cases one (fun _=>bnd escP fun b=>pieces m (acc++b)) l with ⟨k1,e,_,h2⟩ | ⟨u,j,b,i,_,h2,h3⟩ | ⟨u,j,i,e,_,h2,h3⟩
      ·rw [h2] at h;cases h
      ·rw [h3] at h
       simp only [Rs.ok.injEq] at h
       rcases bnd_cases escP (fun b=>pieces m (acc++b)) (l.drop j) with ⟨k1,e,_,h4⟩ | ⟨u2,j2,b2,i2,h4,h5,h6⟩ | ⟨u2,j2,i2,e,_,h4,h5⟩
       ·rw [h4] at h2;cases h2
       ·rw [h6] at h2
        simp only [Rs.ok.injEq] at h2
        have e1:=pieces_len m _ _ _ _ h5
        have e2:=escP_len h4
        rw [List.length_append] at e1
        rw [←h.1,←h2.1]
        omega
       ·rw [h5] at h2;cases h2
      ·rw [h3] at h;cases h
     ·rcases bnd_cases jp.group (fun b=>pieces m (acc++b)) l with ⟨k1,e,_,h4⟩ | ⟨u2,j2,b2,i2,h4,h5,h6⟩ | ⟨u2,j2,i2,e,_,h4,h5⟩
      ·rw [h4] at h;cases h
      ·rw [h6] at h
       simp only [Rs.ok.injEq] at h
       have e1:=pieces_len m _ _ _ _ h5
       have e2:=group_len h4
       rw [List.length_append] at e1
       rw [←h.1]
       omega
      ·rw [h5] at h;cases h
theorem text_len {m:Nat} {l a:List Nat} {k:Nat} (h:text m l= .ok a k):a.length≤4*k:=by
 unfold text at h
 rcases bnd_cases (want 34) (fun _=>pieces m []) l with ⟨k1,e,_,h4⟩ | ⟨u2,j2,b2,i2,h4,h5,h6⟩ | ⟨u2,j2,i2,e,_,h4,h5⟩
 ·rw [h4] at h;cases h
 ·rw [h6] at h
  simp only [Rs.ok.injEq] at h
  have e1:=pieces_len m _ _ _ _ h5
  rw [←h.1]
  simp only [List.length_nil] at e1
  omega
 ·rw [h5] at h;cases h
theorem row_gr {w w':World} {B mb:Nat} {e:TypeId} {s n:Nat} {v:Value} {xs:List Value} (h:w.ownsRow B e s v n xs) (hg:w.grownBy w' (some mb)) (hb:mb<B):w'.ownsRow B e s v n xs:=by
 refine ⟨h.1,?_⟩
 rcases h.2 with h0 | ⟨b,cap,cur,hv,hbb,hcell,hr⟩
 ·exact .inl h0
 ·have hl:=h.lt b (by rw [hv];rfl)
  exact .inr ⟨b,cap,cur,hv,hbb,(hg.block b hl.2 (fun e=>by injection e;omega)).trans hcell,hr⟩
theorem elems_gr {α:Type} {size:Nat} {R:World→(Nat→Prop)→α→List Value→Prop} (hR:Rec size R) {w w':World} {base mb:Nat} {v:Value} {l:List α} {css:List (List Value)} (h:Elems R w (val.Kids w base v) l css) (hg:w.grownBy w' (some mb)) (hb:mb<base):Elems R w' (val.Kids w' base v) l css:=
 h.keep hR (fun p hp=>World.cell?_of_block (hg.block p.block hp.2.1 (fun e=>by injection e;have:=hp.1;omega))) (fun b hp=>⟨hp.1,Nat.lt_of_lt_of_le hp.2.1 hg.size,hp.2.2⟩)
theorem twice_iff (acc:List (ByteArray×V)) (key:List Nat):twice acc key=true↔bt key∈acc.map (·.1):=by
 unfold twice
 rw [List.any_eq_true,List.mem_map]
 constructor
 ·rintro ⟨p,hp,h⟩
  refine ⟨p,hp,?_⟩
  have h1:p.1.data.toList=(bt key).data.toList:=by simpa using h
  have h2:p.1.data=(bt key).data:=Array.toList_inj.1 h1
  cases hq:p.1
  cases hb:bt key
  simp_all
 ·rintro ⟨p,hp,h⟩
  exact ⟨p,hp,by rw [h];simp⟩
section
variable {F:Nf} {w0:World} {g:Nat} {A:Option Addr} {n:Nat} {src:List Nat} (HC:Cx F w0 g A n src) {c:Nat} {dp:Int}
include HC
set_option maxRecDepth 100000 in
set_option maxHeartbeats 1600000 in
theorem object_any (hnc:n≤c) (N:Nat) (IH:∀m,m<N→VAt F w0 g A n c src dp m) (hdp:dp≤200) (d:Nat) (o:Int) (ho:0≤o) (hod:o+d=dp) (w:World) (p:Nat) (hb:Below w0.heap.size w0 w) (hr:Rdr w g A n c (p:Int) o dp) (hp:p<n) (hN:2*(n-p)≤N):
  Calls Tryz.prog 54 #[.pointer (some ⟨g,0,none⟩)] w (Pst g A n c (fun _=>o) dp (RV w.heap.size) p (objP F N d (src.drop p)) w):=by
 have hn:=HC.le
 have HB:=Lib.hid hb
 have HC':=Lib.hid HC
 have HIH:=Lib.hid IH
 have hgw:g<w.heap.size:=hr.lt
 obtain ⟨iv,hiv,hv0,hv1,hv2⟩:=info_get infoMe
 have hL0:objP F N d (src.drop p)=bnd (bnd (opn d) fun _=>blanks) (fun _ l=>if l.headD 0=125 then (bnd one fun _=>jp.ret (objV [])) l else members F N (d-1) [] l) (src.drop p):=bracket_split d _ _
 have HL0:=Lib.hid hL0
 have g1:=heap_alloc_new w (.cells #[.int .i64 0,.bool false,.int .i64 0,.float .f64 0,.string { data:= #[]},.string { data:= #[]},.slice none 0 0,.slice none 0 0] 29)
 have g2:=heap_alloc_new (w.alloc (.cells #[.int .i64 0,.bool false,.int .i64 0,.float .f64 0,.string { data:= #[]},.string { data:= #[]},.slice none 0 0,.slice none 0 0] 29)) (.cells #[.int .i64 6,.bool false,.int .i64 0,.float .f64 0,.string { data:= #[]},.string { data:= #[]},.slice none 0 0,.slice none 0 0] 29)
 have g1':=blk_alloc g1 (.cells #[.int .i64 6,.bool false,.int .i64 0,.float .f64 0,.string { data:= #[]},.string { data:= #[]},.slice none 0 0,.slice none 0 0] 29)
 have gk:=((Kp.refl g w.heap.size w).alloc (Nat.le_refl _) (.cells #[.int .i64 0,.bool false,.int .i64 0,.float .f64 0,.string { data:= #[]},.string { data:= #[]},.slice none 0 0,.slice none 0 0] 29)).alloc (by simp) (.cells #[.int .i64 6,.bool false,.int .i64 0,.float .f64 0,.string { data:= #[]},.string { data:= #[]},.slice none 0 0,.slice none 0 0] 29)
 have gr:=(hr.alloc (.cells #[.int .i64 0,.bool false,.int .i64 0,.float .f64 0,.string { data:= #[]},.string { data:= #[]},.slice none 0 0,.slice none 0 0] 29)).alloc (.cells #[.int .i64 6,.bool false,.int .i64 0,.float .f64 0,.string { data:= #[]},.string { data:= #[]},.slice none 0 0,.slice none 0 0] 29)
 have gs:((w.alloc (.cells #[.int .i64 0,.bool false,.int .i64 0,.float .f64 0,.string { data:= #[]},.string { data:= #[]},.slice none 0 0,.slice none 0 0] 29)).alloc (.cells #[.int .i64 6,.bool false,.int .i64 0,.float .f64 0,.string { data:= #[]},.string { data:= #[]},.slice none 0 0,.slice none 0 0] 29)).heap.size=w.heap.size+2:=by simp
 rw [show (w.alloc (.cells #[.int .i64 0,.bool false,.int .i64 0,.float .f64 0,.string { data:= #[]},.string { data:= #[]},.slice none 0 0,.slice none 0 0] 29)).heap.size=w.heap.size+1 by simp] at g2
 clear hL0 hb hr IH
 go_enter Tryz.func54,Tryz.ntmps54
 go_wp2_with fail
 generalize ((w.alloc (.cells #[.int .i64 0,.bool false,.int .i64 0,.float .f64 0,.string { data:= #[]},.string { data:= #[]},.slice none 0 0,.slice none 0 0] 29)).alloc (.cells #[.int .i64 6,.bool false,.int .i64 0,.float .f64 0,.string { data:= #[]},.string { data:= #[]},.slice none 0 0,.slice none 0 0] 29))=w1 at*
 have HG1:=Lib.hid g1'
 have HG2:=Lib.hid g2
 have HK1:=Lib.hid gk
 have HR1:=Lib.hid gr
 have HB1:=Lib.hid (below_kp HC'.out HB.out gk)
 clear g1 g2 g1' gk gr
 refine (opened_any HC'.out d ho hod hdp w1 p HB1.out HR1.out hp).mono ?_
 rintro e w2 hP
 cases hO:(bnd (opn d) fun _=>blanks) (src.drop p) with
 | er k0 e0=>
   rw [hO] at hP
   obtain ⟨rfl,hk2⟩:=hP.er
   have HF:=Lib.hid (HK1.out.next hk2 (by have:=HK1.out.size;omega))
   have HE2:Hid (objP F N d (src.drop p)= .er k0 e0):=Lib.hid (by rw [HL0.out,bnd_err hO])
   clear hP hk2 hO HL0
   unfold flt
   go_wp2_with fail
   rw [HE2.out]
   exact ⟨rfl,HF.out,rfl⟩
 | ok u j=>
 rw [hO] at hP
 obtain ⟨v,rfl,rfl,hr2,hk2⟩:=hP.ok
 have hd0:0<d:=by
  rcases Nat.eq_zero_or_pos d with h | h
  ·rw [drop_one src p (by rw [HC'.out.len];exact hp)] at hO
   simp [bnd,opn,h] at hO
  ·exact h
 have hj:0<j∧p+j≤n:=by
  have h1:=(Loc.bnd (Loc.opn d) fun _=>Loc.blanks).okl _ _ _ hO
  rw [List.length_drop,HC'.out.len] at h1
  refine ⟨Nat.pos_of_ne_zero fun e=>Eats.bnd (Eats.opn d) _ _ (by rw [e] at hO;exact hO),by omega⟩
 have HL1:=Lib.hid (show objP F N d (src.drop p)=((if (src.drop (p+j)).headD 0=125 then (bnd one fun _=>jp.ret (objV [])) (src.drop (p+j)) else members F N (d-1) [] (src.drop (p+j)))).sh j by rw [HL0.out,bnd_okr hO,List.drop_drop])
 have HG3:=Lib.hid (blk_kp HG1.out hk2 (by omega))
 have HG4:=Lib.hid (blk_kp HG2.out hk2 (by omega))
 have HK2:=Lib.hid (HK1.out.next hk2 (by have:=HK1.out.size;omega))
 have hs2:w.heap.size+2≤w2.heap.size:=by have:=hk2.size;omega
 have HR2:=Lib.hid hr2
 have HB2:=Lib.hid (below_kp HC'.out HB.out HK2.out)
 clear hP hr2 hk2 hO HL0 HG1 HG2 HK1 HR1 HB1
 go_wp2_with fail
 refine (next_any HC'.out w2 (p+j) HB2.out HR2.out hj.2).mono ?_
 rintro e w3 ⟨rfl,hsm⟩
 have HR3:=Lib.hid (hsm.rdr HR2.out)
 have HK3:=Lib.hid (HK2.out.sm hsm)
 have HB3:=Lib.hid (hsm.below HB2.out)
 have HG5:Hid (w3.heap[w.heap.size]? =some (.cells #[.int .i64 0,.bool false,.int .i64 0,.float .f64 0,.string { data:= #[]},.string { data:= #[]},.slice none 0 0,.slice none 0 0] 29)):=Lib.hid (by rw [hsm.heap];exact HG3.out)
 have HG6:Hid (w3.heap[w.heap.size+1]? =some (.cells #[.int .i64 6,.bool false,.int .i64 0,.float .f64 0,.string { data:= #[]},.string { data:= #[]},.slice none 0 0,.slice none 0 0] 29)):=Lib.hid (by rw [hsm.heap];exact HG4.out)
 have hs3:w.heap.size+2≤w3.heap.size:=by rw [hsm.heap];exact hs2
 clear hsm HR2 HK2 HB2 HG3 HG4 hs2
 have h256:=HC'.out.lt256 (p+j)
 rw [head_drop] at HL1
 by_cases hy:src.getD (p+j) 0=125
 ·have hpj:p+j<src.length:=by
   rcases Nat.lt_or_ge (p+j) src.length with h | h
   ·exact h
   ·rw [List.getD_eq_getElem?_getD,List.getElem?_eq_none h] at hy
    exact absurd hy (by decide)
  have HE2:Hid (objP F N d (src.drop p)= .ok (objV []) (j+1)):=Lib.hid (by
   rw [HL1.out,if_pos hy,drop_one src (p+j) hpj]
   rfl)
  rw [hy]
  have hr4:Rdr (w3.setCell ⟨g,1,none⟩ (.int .i64 (((p+j:Nat):Int)+1))) g A n c ((p+(j+1):Nat):Int) (o+1) dp:=Rdr.toI (HR3.out.at_ (((p+j:Nat):Int)+1)) (by omega)
  have hr5:=hr4.open_ (o+1-1)
  have hk5:=(HK3.out.self ⟨g,1,none⟩ rfl (.int .i64 (((p+j:Nat):Int)+1))).self ⟨g,2,none⟩ rfl (.int .i64 (o+1-1))
  have hx5:∀k,k≠g→((w3.setCell ⟨g,1,none⟩ (.int .i64 (((p+j:Nat):Int)+1))).setCell ⟨g,2,none⟩ (.int .i64 (o+1-1))).heap[k]? =w3.heap[k]? :=fun k hk=>by rw [Below.heap_setCell _ _ _ k hk,Below.heap_setCell _ _ _ k hk]
  have hG7:=(hx5 w.heap.size (by omega)).trans HG5.out
  have hG8:=(hx5 (w.heap.size+1) (by omega)).trans HG6.out
  rw [Int.add_sub_cancel] at hr5 hk5 hx5 hG7 hG8
  have HS8:=Lib.hid (store8 hG7 (.int .i64 6) (.bool false) (.int .i64 0) (.float .f64 0) (.string { data:= #[]}) (.string { data:= #[]}) (.slice none 0 0) (.slice none 0 0))
  have HF:=Lib.hid (And.intro hr5 hk5)
  obtain ⟨c0,c1,c2,c3⟩:=HR3.out.cells
  obtain ⟨e0,e1,e2,e3⟩:=hr4.cells
  have f1:=HR3.out.frozen 1
  have f2:=hr4.frozen 2
  obtain ⟨m0,m1,m2,m3,m4,m5,m6,m7⟩:=blk8 hG7
  obtain ⟨q0,q1,q2,q3,q4,q5,q6,q7⟩:=blk8 hG8
  have j0:=blk_frozen hG7 0
  have j1:=blk_frozen hG7 1
  have j2:=blk_frozen hG7 2
  have j3:=blk_frozen hG7 3
  have j4:=blk_frozen hG7 4
  have j5:=blk_frozen hG7 5
  have j6:=blk_frozen hG7 6
  have j7:=blk_frozen hG7 7
  have hpj1:((p+j:Nat):Int)≤1099511627776:=by omega
  have hpj0:(0:Int)≤((p+j:Nat):Int):=by omega
  have ho1:o+1-1=o:=by omega
  have ho2:o≤200:=by omega
  have hp4:((p+(j+1):Nat):Int)=((p+j:Nat):Int)+1:=by omega
  generalize ((p+j:Nat):Int)=P at*
  clear hr4 hr5 hk5 hx5 hy HL1 hG7 hG8 HG5 HG6 HR3 HK3
  go_wp2_with fail
  obtain ⟨s1,s2,s3⟩:=HS8.out
  obtain ⟨o0,o1',o2,o3,o4,o5,o6,o7⟩:=blk8 s1
  refine bodyPost_ret (v:= .agg #[.int .i64 6,.bool false,.int .i64 0,.float .f64 0,.string { data:= #[]},.string { data:= #[]},.slice none 0 0,.slice none 0 0]) (by simp [results,Tryz.results54,go_sem,o0,o1',o2,o3,o4,o5,o6,o7]) rfl ?_
  rw [HE2.out]
  exact ⟨HF.out.2.trans (s3 g w.heap.size (Nat.le_refl _)),_,rfl,⟨_,rfl,isV_leaf _ _ _ _ _ _⟩,HF.out.1.keep (s2 g (by omega))⟩
 ·have HL2:Hid (objP F N d (src.drop p)=(members F N (d-1) [] (src.drop (p+j))).sh j):=Lib.hid (by rw [HL1.out,if_neg hy])
  obtain ⟨y,hyy⟩:∃y:Nat,src.getD (p+j) 0=y:=⟨_,rfl⟩
  rw [hyy] at hy
  have hne:((y:Int)==125)=false:=by simp;omega
  rw [hyy]
  clear hyy hy HL1 h256
  have HG5':=Lib.hid ((Below.heap_alloc w3 (.map #[] 0) w.heap.size (by omega)).trans HG5.out)
  have HG6':=Lib.hid ((Below.heap_alloc w3 (.map #[] 0) (w.heap.size+1) (by omega)).trans HG6.out)
  have HR3':=Lib.hid (HR3.out.alloc (.map #[] 0))
  have HK3':=Lib.hid (HK3.out.alloc (by omega) (.map #[] 0))
  have HMp:=Lib.hid (MapS.made w3)
  have hsm:w3.heap.size+1≤(w3.alloc (.map #[] 0)).heap.size:=by simp
  obtain ⟨mb,hmb⟩:∃mb,w3.heap.size=mb:=⟨_,rfl⟩
  rw [hmb] at hs3 hsm HMp
  have hmm:∀(w:World),(Instr.makeMap 137 none).run Tryz.prog w= .ok (.map (some w.heap.size)) (w.alloc (.map #[] 0)):=fun _=>by simp [Instr.makeMap,newObj,Sem.run,Result.andThen] <;> rfl
  have hmm3:=hmm w3
  rw [hmb] at hmm3
  clear HG5 HG6 HR3 HK3 HB3 hmm
  go_wp2_with fail
  go_loopw [] (fun wr=>∃(q m:Nat) (acc:List (ByteArray×V)) (css:List (List Value)) (vv:Value) (lk:List ByteArray),p<q∧q≤n∧Hid (2*(n-q)+1<m)∧m≤N∧Hid (acc.length≤q-p)∧Hid (wr.ownsRow (mb+1) 54 9 vv acc.length css.flatten)∧Hid (Elems IsF wr (val.Kids wr (mb+1) vv) acc css)∧
   Hid (wr.heap[w.heap.size]? =some (.cells #[.int .i64 0,.bool false,.int .i64 0,.float .f64 0,.string { data:= #[]},.string { data:= #[]},.slice none 0 0,.slice none 0 0] 29))∧Hid (wr.heap[w.heap.size+1]? =some (.cells #[.int .i64 6,.bool false,.int .i64 0,.float .f64 0,.string { data:= #[]},.string { data:= #[]},.slice none 0 0,vv] 29))∧Hid (MapS wr mb acc.length lk)∧Hid (∀s,s∈lk↔s∈acc.map (·.1))∧Hid (Rdr wr g A n c (q:Int) (o+1) dp)∧Hid (Kp g w.heap.size w wr)∧mb+1≤wr.heap.size∧Hid (objP F N d (src.drop p)=(members F m (d-1) acc (src.drop q)).sh (q-p))) (fun wr=>n-atOf wr g)
  case atStart=>
   exact ⟨p+j,N,[],[],.slice none 0 0,[],by omega,hj.2,Lib.hid (by omega),Nat.le_refl _,Lib.hid (by simp),Lib.hid (World.ownsRow_nil _ _ _ _),Lib.hid Elems.nil,HG5',HG6',HMp,Lib.hid (fun s=>by simp),HR3',HK3',hsm,Lib.hid (by rw [HL2.out,show p+j-p=j by omega])⟩
  case round=>
   clear HL2 HG5' HG6' HR3' HK3' HMp hsm hne hmm3 hmb
   obtain ⟨q,m,acc,css,vv,lk,hpq,hq,HM,hmN,HLen,HO,HE,HG1,HG2,HMp,HLk,HRr,HKr,hsr,HL⟩:=hrel
   obtain ⟨m',rfl⟩:∃m',m=m'+1:=⟨m-1,by have:=HM.out;omega⟩
   have hat:=HRr.out.atOf
   have HBr:=Lib.hid (below_kp HC'.out HB.out HKr.out)
   have hL:=HL.out
   rw [members] at hL
   have hmx:=HM.out
   have hlen:=HLen.out
   obtain ⟨yq,hyq⟩:∃y:Nat,src.getD q 0=y:=⟨_,rfl⟩
   have HNx:=Lib.hid (next_any HC'.out wr q HBr.out HRr.out hq)
   rw [hyq] at HNx
   have h256:=HC'.out.lt256 q
   rw [hyq] at h256
   obtain ⟨c0,c1,c2,c3⟩:=HRr.out.cells
   by_cases h34:yq=34
   rotate_left
   ·have hw:text m' (src.drop q)= .er 0 50:=by
     unfold text
     rcases want_cases 34 (src.drop q) with ⟨_,h2,_⟩ | ⟨_,h3⟩
     ·rw [head_drop,hyq] at h2;exact absurd h2 h34
     ·rw [bnd_err h3]
    have HE2:Hid (objP F N d (src.drop p)= .er (q-p) 50):=Lib.hid (by rw [hL];simp only [chk,hw];rfl)
    have hne:((yq:Int) !=34)=true:=by simp;omega
    clear hw hL HL hyq h34
    go_wp2_with fail
    refine HNx.out.mono ?_
    rintro e w4 ⟨rfl,hsm4⟩
    have HR4:=Lib.hid (hsm4.rdr HRr.out)
    have HK4:=Lib.hid (HKr.out.sm hsm4)
    clear hsm4 c0 c1 c2 c3
    go_wp2_with fail
    refine (stop_any _ q HR4.out).mono ?_
    rintro e w' ⟨rfl,rfl⟩
    unfold flt
    go_wp2_with fail
    refine ⟨rfl,?_⟩
    rw [HE2.out]
    refine ⟨HK4.out,?_⟩
    have e:q=p+(q-p):=by omega
    exact flt_at e
   have hne:((yq:Int) !=34)=false:=by simp;omega
   have hqn:q<n:=by
    rcases Nat.lt_or_ge q n with h | h
    ·exact h
    ·rw [List.getD_eq_getElem?_getD,List.getElem?_eq_none (by rw [HC'.out.len];exact h)] at hyq
     simp only [Option.getD_none] at hyq
     omega
   clear HL hyq h34
   go_wp2_with fail
   refine HNx.out.mono ?_
   rintro e w4 ⟨rfl,hsm4⟩
   have HR4:=Lib.hid (hsm4.rdr HRr.out)
   have HK4:=Lib.hid (HKr.out.sm hsm4)
   have HB4:=Lib.hid (hsm4.below HBr.out)
   have k4:Kp g wr.heap.size wr w4:=hsm4.kp g _
   have HO4:=Lib.hid (row_kp HO.out k4 (by omega))
   have HE4:=Lib.hid (elems_kp recF HE.out k4 (by omega))
   have HG14:=Lib.hid (blk_kp HG1.out k4 (by omega))
   have HG24:=Lib.hid (blk_kp HG2.out k4 (by omega))
   have HM4:=Lib.hid (HMp.out.heap (k4.block mb (by omega) (by omega)))
   have hs4:mb+1≤w4.heap.size:=Nat.le_trans hsr k4.size
   clear hsm4 k4 c0 c1 c2 c3 HRr HKr HBr HO HE HG1 HG2 HMp hsr HNx
   go_wp2_with fail
   refine (text_any HC'.out hnc m' w4 q (by omega) HB4.out HR4.out hq).mono ?_
   rintro e w5 hP
   cases hT:text m' (src.drop q) with
   | er k0 e0=>
     rw [hT] at hP
     obtain ⟨rfl,hk5⟩:=hP.er
     have HF:=Lib.hid (HK4.out.next hk5 HK4.out.size)
     have HE2:Hid (objP F N d (src.drop p)= .er (q-p+k0) e0):=Lib.hid (by rw [hL];simp only [chk,hT];rfl)
     clear hP hk5 hT hL
     unfold flt
     go_wp2_with fail
     refine ⟨rfl,?_⟩
     rw [HE2.out]
     exact ⟨HF.out,flt_int (by omega)⟩
   | ok key k0=>
   rw [hT] at hP
   obtain ⟨v5,rfl,⟨rfl,hkey⟩,hr5,hk5⟩:=hP.ok
   have hkl:=text_len hT
   have hbl:q+k0≤n:=by
    have h1:=(Loc.text m').okl _ _ _ hT
    rw [List.length_drop,HC'.out.len] at h1
    omega
   have hkz:(bt key).size≤4398046511104:=by rw [bt_size];omega
   have HO5:=Lib.hid (row_kp HO4.out hk5 (by omega))
   have HE5:=Lib.hid (elems_kp recF HE4.out hk5 (by omega))
   have HG15:=Lib.hid (blk_kp HG14.out hk5 (by omega))
   have HG25:=Lib.hid (blk_kp HG24.out hk5 (by omega))
   have HM5:=Lib.hid (HM4.out.heap (hk5.block mb (by omega) (by omega)))
   have HK5:=Lib.hid (HK4.out.next hk5 HK4.out.size)
   have HR5:=Lib.hid hr5
   have hs5:mb+1≤w5.heap.size:=Nat.le_trans hs4 hk5.size
   clear hP hr5 hk5 HO4 HE4 HG14 HG24 HM4 HK4 HR4 HB4
   cases htw:twice acc key with
   | true=>
     have HE2:Hid (objP F N d (src.drop p)= .er (q-p) 5):=Lib.hid (by rw [hL];simp only [chk,hT,htw,if_true];rfl)
     have hin:bt key∈lk:=(HLk.out _).2 ((twice_iff acc key).1 htw)
     obtain ⟨xz,hlk⟩:=HM5.out.look_in (by unfold maxLen;omega) hin
     generalize bt key=ks at*
     clear hL hT htw hin
     go_wp2_with fail
     refine ⟨rfl,?_⟩
     rw [HE2.out]
     refine ⟨HK5.out,?_⟩
     have e:q=p+(q-p):=by omega
     exact flt_at e
   | false=>
   have hnin:bt key∉lk:=fun h=>by
    have:=(twice_iff acc key).2 ((HLk.out _).1 h)
    rw [htw] at this
    cases this
   have HL5:=Lib.hid (show objP F N d (src.drop p)=((bnd blanks fun _=>bnd (want 58) fun _=>bnd blanks fun _=>bnd (value F m' (d-1)) fun v=>bnd (more 125) fun b=>if b=true then members F m' (d-1) (acc++[(bt key,v)]) else jp.ret (objV (acc++[(bt key,v)]))) (src.drop (q+k0))).sh (q-p+k0) by rw [hL,chk_ok hT htw,sh_sh,List.drop_drop])
   obtain ⟨xz,hlk⟩:=HM5.out.look (by unfold maxLen;omega) hnin
   obtain ⟨zl,hzl,hln⟩:=MapS.len_run (by omega) HM5.out 3
   obtain ⟨w6,hput,hM6,hg6⟩:=HM5.out.put (s:=bt key) (by unfold maxLen;omega) (by unfold maxLen;omega) hzl
   have HO6:=Lib.hid (row_gr HO5.out hg6 (by omega))
   have HE6:=Lib.hid (elems_gr recF HE5.out hg6 (by omega))
   have hgb:∀k,k<mb→w6.heap[k]? =w5.heap[k]? :=fun k hk=>hg6.block k (by omega) (fun e=>by injection e;omega)
   have HG16:=Lib.hid ((hgb w.heap.size (by omega)).trans HG15.out)
   have HG26:=Lib.hid ((hgb (w.heap.size+1) (by omega)).trans HG25.out)
   have HM6:=Lib.hid hM6
   have HLk6:Hid (∀(x:V) (s:ByteArray),s∈(bt key :: lk)↔s∈(acc++[(bt key,x)]).map (fun p=>p.1)):=Lib.hid (fun x s=>by
    rw [List.map_append,List.mem_append,List.mem_cons,HLk.out s]
    simp [or_comm])
   have HK6:=Lib.hid (HK5.out.grown hg6 (by omega) (fun k hk=>by injection hk;omega))
   have HR6:=Lib.hid (HR5.out.keep (hgb g (by omega)))
   have hs6:mb+1≤w6.heap.size:=Nat.le_trans hs5 hg6.size
   have HB6:=Lib.hid (below_kp HC'.out HB.out HK6.out)
   have hap:acc.length+1≤q-p+k0:=by
    have h1:0<k0:=Nat.pos_of_ne_zero fun e=>Eats.bnd (Eats.want 34) _ _ (by rw [e] at hT;exact hT)
    omega
   have hq0:q<q+k0:=by
    have h1:0<k0:=Nat.pos_of_ne_zero fun e=>Eats.bnd (Eats.want 34) _ _ (by rw [e] at hT;exact hT)
    omega
   generalize bt key=ks at*
   clear hL hT htw hnin HO5 HE5 HG15 HG25 HM5 HK5 HR5 hM6 hg6 hgb HLk
   go_wp2_with fail
   clear hlk hput hln
   refine (blanks_any HC'.out w6 (q+k0) HB6.out HR6.out hbl).mono ?_
   rintro e w7 hP
   obtain ⟨j1,hj1⟩:∃j1,cnt (src.drop (q+k0))=j1:=⟨_,rfl⟩
   obtain ⟨v7,rfl,rfl,hr7,k7⟩:=Pst.ok (a:=()) (k:=j1) (by rw [←hj1];exact hP)
   have hb7:q+k0+j1≤n:=by
    have:=cnt_le' (src.drop (q+k0))
    rw [List.length_drop,HC'.out.len] at this
    omega
   have HL7:=Lib.hid (show objP F N d (src.drop p)=((bnd (want 58) fun _=>bnd blanks fun _=>bnd (value F m' (d-1)) fun v=>bnd (more 125) fun b=>if b=true then members F m' (d-1) (acc++[(ks,v)]) else jp.ret (objV (acc++[(ks,v)]))) (src.drop (q+k0+j1))).sh (q-p+k0+j1) by rw [HL5.out,bnd_okr (a:=()) (j:=j1) (by rw [←hj1];rfl),sh_sh,List.drop_drop])
   have HO7:=Lib.hid (row_kp HO6.out k7 (by omega))
   have HE7:=Lib.hid (elems_kp recF HE6.out k7 (by omega))
   have HG17:=Lib.hid (blk_kp HG16.out k7 (by omega))
   have HG27:=Lib.hid (blk_kp HG26.out k7 (by omega))
   have HM7:=Lib.hid (HM6.out.heap (k7.block mb (by omega) (by omega)))
   have HK7:=Lib.hid (HK6.out.next k7 HK6.out.size)
   have HR7:=Lib.hid hr7
   have hs7:mb+1≤w7.heap.size:=Nat.le_trans hs6 k7.size
   have HB7:=Lib.hid (below_kp HC'.out HB.out HK7.out)
   clear hr7 k7 HO6 HE6 HG16 HG26 HM6 HK6 HR6 HB6 hs6
   clear hP hj1 HL5
   go_wp2_with fail
   refine (want_any HC'.out 58 w7 (q+k0+j1) HB7.out HR7.out hb7).mono ?_
   rintro e w8 hP
   rcases want_cases 58 (src.drop (q+k0+j1)) with ⟨h1,h2,h3⟩ | ⟨h1,h3⟩
   rotate_left
   ·rw [h3] at hP
    obtain ⟨rfl,hk8⟩:=hP.er
    have HF:=Lib.hid (HK7.out.next hk8 HK7.out.size)
    have HE2:Hid (objP F N d (src.drop p)= .er (q-p+k0+j1) 50):=Lib.hid (by rw [HL7.out,bnd_err h3];rfl)
    clear hP hk8 h1 h3 HL7
    unfold flt
    go_wp2_with fail
    refine ⟨rfl,?_⟩
    rw [HE2.out]
    refine ⟨HF.out,?_⟩
    have e:q+k0+j1=p+(q-p+k0+j1):=by omega
    exact flt_at e
   rw [h3] at hP
   obtain ⟨v8,rfl,rfl,hr8,k8⟩:=hP.ok
   have hb8:q+k0+j1<n:=by rw [←HC'.out.len];exact drop_ne.1 h1
   have HL8:=Lib.hid (show objP F N d (src.drop p)=((bnd blanks fun _=>bnd (value F m' (d-1)) fun v=>bnd (more 125) fun b=>if b=true then members F m' (d-1) (acc++[(ks,v)]) else jp.ret (objV (acc++[(ks,v)]))) (src.drop (q+k0+j1+1))).sh (q-p+k0+j1+1) by rw [HL7.out,bnd_okr h3,sh_sh,List.drop_drop])
   have HO8:=Lib.hid (row_kp HO7.out k8 (by omega))
   have HE8:=Lib.hid (elems_kp recF HE7.out k8 (by omega))
   have HG18:=Lib.hid (blk_kp HG17.out k8 (by omega))
   have HG28:=Lib.hid (blk_kp HG27.out k8 (by omega))
   have HM8:=Lib.hid (HM7.out.heap (k8.block mb (by omega) (by omega)))
   have HK8:=Lib.hid (HK7.out.next k8 HK7.out.size)
   have HR8:=Lib.hid hr8
   have hs8:mb+1≤w8.heap.size:=Nat.le_trans hs7 k8.size
   have HB8:=Lib.hid (below_kp HC'.out HB.out HK8.out)
   clear hr8 k8 HO7 HE7 HG17 HG27 HM7 HK7 HR7 HB7 hs7
   clear hP h1 h2 h3 HL7
   go_wp2_with fail
   refine (blanks_any HC'.out w8 (q+k0+j1+1) HB8.out HR8.out (by omega)).mono ?_
   rintro e w9 hP
   obtain ⟨j2,hj2⟩:∃j2,cnt (src.drop (q+k0+j1+1))=j2:=⟨_,rfl⟩
   obtain ⟨v9,rfl,rfl,hr9,k9⟩:=Pst.ok (a:=()) (k:=j2) (by rw [←hj2];exact hP)
   have hb9:q+k0+j1+1+j2≤n:=by
    have:=cnt_le' (src.drop (q+k0+j1+1))
    rw [List.length_drop,HC'.out.len] at this
    omega
   have HL9:=Lib.hid (show objP F N d (src.drop p)=((bnd (value F m' (d-1)) fun v=>bnd (more 125) fun b=>if b=true then members F m' (d-1) (acc++[(ks,v)]) else jp.ret (objV (acc++[(ks,v)]))) (src.drop (q+k0+j1+1+j2))).sh (q-p+k0+j1+1+j2) by rw [HL8.out,bnd_okr (a:=()) (j:=j2) (by rw [←hj2];rfl),sh_sh,List.drop_drop])
   have HO9:=Lib.hid (row_kp HO8.out k9 (by omega))
   have HE9:=Lib.hid (elems_kp recF HE8.out k9 (by omega))
   have HG19:=Lib.hid (blk_kp HG18.out k9 (by omega))
   have HG29:=Lib.hid (blk_kp HG28.out k9 (by omega))
   have HM9:=Lib.hid (HM8.out.heap (k9.block mb (by omega) (by omega)))
   have HK9:=Lib.hid (HK8.out.next k9 HK8.out.size)
   have HR9:=Lib.hid hr9
   have hs9:mb+1≤w9.heap.size:=Nat.le_trans hs8 k9.size
   have HB9:=Lib.hid (below_kp HC'.out HB.out HK9.out)
   clear hr9 k9 HO8 HE8 HG18 HG28 HM8 HK8 HR8 HB8 hs8
   clear hP hj2 HL8
   obtain ⟨qv,hqv⟩:∃qv,q+k0+j1+1+j2=qv:=⟨_,rfl⟩
   have hpv:q-p+k0+j1+1+j2=qv-p:=by omega
   rw [hqv] at HR9 hb9 HL9
   rw [hpv] at HL9
   have hqqv:q<qv:=by omega
   have hapv:acc.length+1≤qv-p:=by omega
   clear hqv hpv hap hq0 hb7 hb8 hkl hkz hkey hne hbl
   have hVA:=HIH.out m' (by omega) (d-1) (o+1)
   have HV:=Lib.hid (fun W (h1:Below w0.heap.size w0 W) (h2:Rdr W g A n c (qv:Int) (o+1) dp)=>hVA W qv (by omega) (by omega) h1 h2 hb9 (by omega))
   have b7:=(blk8 HG29.out).2.2.2.2.2.2.2
   have b7d:w9.drew.cell? ⟨w.heap.size+1,7,none⟩=some vv:=b7
   clear hVA b7
   cases hD:value F m' (d-1) (src.drop qv) with
   | er k0 e0=>
     have HE2':Hid (objP F N d (src.drop p)= .er (qv-p+k0) e0):=Lib.hid (by rw [HL9.out,bnd_err hD];rfl)
     have HQK:Hid ((qv:Int)+(k0:Int)=((p+(qv-p+k0):Nat):Int)):=Lib.hid (by omega)
     have HD:=Lib.hid hD
     clear HL9 hD
     go_wp2_with fail
     go_cut [] from 62 to 70 (fun wx=>False)
     case first=>
      go_region_law (first
       | (refine step_app _ rfl (.tmp 63) (.tmp 68) _ rfl (mb+1) 54 iv _ 9 128 Tryz.underlying27 hiv hv0 hv1 hv2 rfl (by omega) vv acc.length css.flatten rfl (HO3.out.alloc _) (wc.heap.size+1) (some ⟨wc.heap.size,0,none⟩) 1 1 [.string ks,.int .i64 k2,.bool b2,.int .i64 i2,.float .f64 f2,.string t2,.string y2,.slice A3 is2.length c3,.slice A3' fs2.length c3'] rfl rfl (Rd.new wc [.string ks,.int .i64 k2,.bool b2,.int .i64 i2,.float .f64 f2,.string t2,.string y2,.slice A3 is2.length c3,.slice A3' fs2.length c3'] 54) (by simp) HV3.out (by unfold maxLen;omega) (by omega) hszc ?_;intro v' wz hown' hgrow hat5;have R2w:=blk_grown (blk_alloc HG2c.out _) hgrow (own_ne HO3.out (by omega));have j7w:=(blk8 R2w).2.2.2.2.2.2.2;have jfw:=blk_frozen R2w 7;obtain ⟨A5,c5,rfl,_,_,_⟩:=own_form hown';clear hown' hgrow hat5 R2w)
       | (go_simp;go_at_call 28;(refine (HV.out w9.drew (bel_dr HB9.out 1) (HR9.out.drewN 1)).mono ?_;rintro e wc hP;rw [HD.out] at hP;obtain ⟨he,hk⟩:=hP.er;have HK4':Hid (Kp g w.heap.size w wc):=Lib.hid ((HK9.out.drewN 1).next hk (HK9.out.drewN 1).size);clear hk hP;rcases ended e with ⟨vr,rfl⟩ | hne;rotate_left;(subst he;unfold flt;refine ⟨rfl,?_⟩;rw [HE2'.out];exact ⟨HK4'.out,flt_int HQK.out⟩);have hFF:False:=absurd he (by unfold flt;intro h;cases h);have HFF:=Lib.hid hFF;obtain ⟨k2,b2,i2,f2,t2,y2,is2,fs2,A3,c3,A3',c3',rfl,hV3,hO3,hG2,hsz⟩:∃(k2:Int) (b2:Bool) (i2:Int) (f2:Nat) (t2 y2:ByteArray) (is2:List V) (fs2:List (ByteArray×V)) (A3:Option Addr) (c3:Nat) (A3':Option Addr) (c3':Nat),vr= .agg ([.int .i64 k2,.bool b2,.int .i64 i2,.float .f64 f2,.string t2,.string y2,.slice A3 is2.length c3,.slice A3' fs2.length c3']:List Value).toArray∧(∀u∈([.string ks,.int .i64 k2,.bool b2,.int .i64 i2,.float .f64 f2,.string t2,.string y2,.slice A3 is2.length c3,.slice A3' fs2.length c3']:List Value),u.oneCell'=true)∧wc.ownsRow (mb+1) 54 9 vv acc.length css.flatten∧wc.heap[w.heap.size+1]? =some (.cells #[.int .i64 6,.bool false,.int .i64 0,.float .f64 0,.string { data:= #[]},.string { data:= #[]},.slice none 0 0,vv] 29)∧mb+1≤(wc.alloc (.cells ([.string ks,.int .i64 k2,.bool b2,.int .i64 i2,.float .f64 f2,.string t2,.string y2,.slice A3 is2.length c3,.slice A3' fs2.length c3']:List Value).toArray 54)).heap.size:=hFF.elim;have HV3:=Lib.hid hV3;have HO3:=Lib.hid hO3;have HG2c:=Lib.hid hG2;have hszc:=hsz;have b7c:=(blk8 hG2).2.2.2.2.2.2.2;have gl1c:=blk_lt hG2;clear he hFF hV3 hO3 hG2 hsz)))
      all_goals exact HFF.out.elim
     case rest=>exact hcut.elim
   | ok x k0=>
     have hk0:0<k0:=Nat.pos_of_ne_zero fun e=>Eats.value F m' (d-1) _ _ (by rw [e] at hD;exact hD)
     have hbl:qv+k0≤n:=by
      have h1:=((Loc.all HC'.out.nf m').1 (d-1)).okl _ _ _ hD
      rw [List.length_drop,HC'.out.len] at h1
      omega
     have HL3:=Lib.hid (show objP F N d (src.drop p)=((bnd (more 125) fun b=>if b=true then members F m' (d-1) (acc++[(ks,x)]) else jp.ret (objV (acc++[(ks,x)]))) (src.drop (qv+k0))).sh (qv-p+k0) by rw [HL9.out,bnd_okr hD,sh_sh,List.drop_drop])
     have HD:=Lib.hid hD
     clear HL9 hD
     go_wp2_with fail
     go_cut [] from 62 to 70 (fun wx=>∃(css':List (List Value)) (vv':Value),Hid (wx.ownsRow (mb+1) 54 9 vv' (acc++[(ks,x)]).length css'.flatten)∧Hid (Elems IsF wx (val.Kids wx (mb+1) vv') (acc++[(ks,x)]) css')∧
      Hid (wx.heap[w.heap.size]? =some (.cells #[.int .i64 0,.bool false,.int .i64 0,.float .f64 0,.string { data:= #[]},.string { data:= #[]},.slice none 0 0,.slice none 0 0] 29))∧Hid (wx.heap[w.heap.size+1]? =some (.cells #[.int .i64 6,.bool false,.int .i64 0,.float .f64 0,.string { data:= #[]},.string { data:= #[]},.slice none 0 0,vv'] 29))∧Hid (MapS wx mb (acc.length+1) (ks :: lk))∧Hid (Rdr wx g A n c ((qv+k0:Nat):Int) (o+1) dp)∧Hid (Kp g w.heap.size w wx)∧mb+1≤wx.heap.size)
     case first=>
      have HEd:=Lib.hid (HE9.out.below recF ((Below.refl w9.heap.size w9).drew))
      go_region_law (first
       | (refine step_app _ rfl (.tmp 63) (.tmp 68) _ rfl (mb+1) 54 iv _ 9 128 Tryz.underlying27 hiv hv0 hv1 hv2 rfl (by omega) vv acc.length css.flatten rfl (HO3.out.alloc _) (wc.heap.size+1) (some ⟨wc.heap.size,0,none⟩) 1 1 [.string ks,.int .i64 k2,.bool b2,.int .i64 i2,.float .f64 f2,.string t2,.string y2,.slice A3 is2.length c3,.slice A3' fs2.length c3'] rfl rfl (Rd.new wc [.string ks,.int .i64 k2,.bool b2,.int .i64 i2,.float .f64 f2,.string t2,.string y2,.slice A3 is2.length c3,.slice A3' fs2.length c3'] 54) (by simp) (isF_one HV3.out) (by unfold maxLen;omega) (by omega) (by simp;omega) ?_;intro v' wz hown' hgrow hat5;have R2w:=blk_grown (blk_alloc HG2c.out _) hgrow (own_ne HO3.out (by omega));have j7w:=(blk8 R2w).2.2.2.2.2.2.2;have jfw:=blk_frozen R2w 7;have R2W:=Lib.hid R2w;have HO5':=Lib.hid hown';have HG5':=Lib.hid hgrow;have HA5':=Lib.hid hat5;obtain ⟨A5,c5,rfl,_,_,_⟩:=own_form hown';clear hown' hgrow hat5 R2w)
       | (go_simp;go_at_call 28;(refine (HV.out w9.drew (bel_dr HB9.out 1) (HR9.out.drewN 1)).mono ?_;rintro e wc hP;rw [HD.out] at hP;obtain ⟨vr,rfl,⟨cs3,rfl,hv3⟩,hr3,hk3⟩:=hP.ok;obtain ⟨k2,b2,i2,f2,t2,y2,is2,fs2⟩:=x;have HV3:=Lib.hid hv3;simp only [IsV] at hv3;obtain ⟨A3,c3,A3',c3',rfl,_⟩:=hv3;have HR3:=Lib.hid hr3;have HK3:Hid (Kp g w.heap.size w wc):=Lib.hid ((HK9.out.drewN 1).next hk3 (HK9.out.drewN 1).size);have HO3:=Lib.hid (row_kp (w:=w9.drew) HO9.out hk3 (by omega));have HE3:=Lib.hid (elems_kp recF (w:=w9.drew) HEd.out hk3 (by omega));have HG1c:=Lib.hid (blk_kp (w:=w9.drew) HG19.out hk3 (by omega));have HG2c:=Lib.hid (blk_kp (w:=w9.drew) HG29.out hk3 (by omega));have HMc:=Lib.hid (HM9.out.heap (hk3.block mb hs9 (by omega)));have b7c:=(blk8 HG2c.out).2.2.2.2.2.2.2;have hszc:w9.heap.size≤wc.heap.size:=hk3.size;have gl1c:=blk_lt HG2c.out;clear hr3 hk3 hP)))
      all_goals
       go_wp2_with fail
       go_meet
       case rel=>
        have hOn:wz.ownsRow (mb+1) 54 9 (.slice A5 (acc.length+1) c5) (acc++[(ks,V.mk k2 b2 i2 f2 t2 y2 is2 fs2)]).length (css++[([.string ks,.int .i64 k2,.bool b2,.int .i64 i2,.float .f64 f2,.string t2,.string y2,.slice A3 is2.length c3,.slice A3' fs2.length c3']:List Value)]).flatten:=by
         have h1:=HO5'.out
         rw [List.length_append,List.flatten_append]
         simpa only [List.flatten_cons,List.flatten_nil,List.append_nil,List.length_cons,List.length_nil,Nat.zero_add] using h1
        have hxk:IsF wc (val.Kids wc (mb+1) vv) (ks,.mk k2 b2 i2 f2 t2 y2 is2 fs2) [.string ks,.int .i64 k2,.bool b2,.int .i64 i2,.float .f64 f2,.string t2,.string y2,.slice A3 is2.length c3,.slice A3' fs2.length c3']:=⟨[.int .i64 k2,.bool b2,.int .i64 i2,.float .f64 f2,.string t2,.string y2,.slice A3 is2.length c3,.slice A3' fs2.length c3'],rfl,HV3.out.more (kid_new HO9.out (Nat.le_refl w9.heap.size) hs9)⟩
        have hEn:=Elems.app recF HE3.out hxk HG5'.out HA5'.out
        have hsz5:wc.heap.size+1≤wz.heap.size:=by have:=HG5'.out.size;simpa using this
        have hne5:∀k,k<mb+1→some k≠vv.ownBlock:=fun k hk=>own_ne HO3.out hk
        have hMz:=(HMc.out.heap (Below.heap_alloc wc (.cells ([.string ks,.int .i64 k2,.bool b2,.int .i64 i2,.float .f64 f2,.string t2,.string y2,.slice A3 is2.length c3,.slice A3' fs2.length c3']:List Value).toArray 54) mb (by omega))).heap (HG5'.out.block mb (by simp;omega) (hne5 mb (by omega)))
        exact ⟨css++[([.string ks,.int .i64 k2,.bool b2,.int .i64 i2,.float .f64 f2,.string t2,.string y2,.slice A3 is2.length c3,.slice A3' fs2.length c3']:List Value)],.slice A5 (acc.length+1) c5,ownsRow_setCell_below hOn (show w.heap.size+1<mb+1 by omega) _,hEn.low recF (show w.heap.size+1<mb+1 by omega) _,
         blk_far (blk_grown (blk_alloc HG1c.out _) HG5'.out (hne5 _ (by omega))) (show w.heap.size≠w.heap.size+1 by omega) _,Lib.hid (by simpa using blk_set R2W.out 7 (.slice A5 (acc.length+1) c5)),
         hMz.heap (Below.heap_setCell _ _ _ _ (show mb≠w.heap.size+1 by omega)),
         ((HR3.out.alloc _).keep (HG5'.out.block g (HR3.out.alloc _).lt (hne5 g (by omega)))).keep (Below.heap_setCell _ _ _ _ (show g≠w.heap.size+1 by omega)),
         ((HK3.out.alloc (by omega) _).grown HG5'.out (by simp;omega) (fun k hk=>by have:=(HO3.out.lt k hk).1;omega)).setCell (show w.heap.size≤w.heap.size+1 by omega) _,by simp [World.setCell];omega⟩
     obtain ⟨css',vv',HO6,HE6,HG1',HG2',HM6,HR6,HK6,hs6⟩:=hcut
     clear HO9 HE9 HG19 HG29 HR9 HK9 HB9 HM9 hs9 b7d HV HD
     have HB6:=Lib.hid (below_kp HC'.out HB.out HK6.out)
     go_wp2_with fail
     refine (more_any HC'.out 125 (by decide) (by decide) (by omega) (by omega) wc (qv+k0) HB6.out HR6.out hbl).mono ?_
     rintro e w7 hP
     cases hM:more 125 (src.drop (qv+k0)) with
     | er k1 e1=>
       rw [hM] at hP
       obtain ⟨rfl,hk7⟩:=hP.er
       have HF:=Lib.hid (HK6.out.next hk7 HK6.out.size)
       have HE2:Hid (objP F N d (src.drop p)= .er (qv-p+k0+k1) e1):=Lib.hid (by rw [HL3.out,bnd_err hM];rfl)
       clear hP hk7 hM HL3
       unfold flt
       go_wp2_with fail
       refine ⟨rfl,?_⟩
       rw [HE2.out]
       exact ⟨HF.out,flt_int (by omega)⟩
     | ok bm k1=>
       rw [hM] at hP
       obtain ⟨v7,rfl,rfl,hr7,hk7⟩:=hP.ok
       have hk1:qv+k0+k1≤n:=by
        have h1:=(Loc.more 125).okl _ _ _ hM
        rw [List.length_drop,HC'.out.len] at h1
        omega
       have HL4:=Lib.hid (show objP F N d (src.drop p)=((if bm=true then members F m' (d-1) (acc++[(ks,x)]) else jp.ret (objV (acc++[(ks,x)]))) (src.drop (qv+k0+k1))).sh (qv-p+k0+k1) by rw [HL3.out,bnd_okr hM,sh_sh,List.drop_drop])
       have HO7:=Lib.hid (row_kp HO6.out hk7 (by omega))
       have HE7:=Lib.hid (elems_kp recF HE6.out hk7 (by omega))
       have HG17:=Lib.hid (blk_kp HG1'.out hk7 (by omega))
       have HG27:=Lib.hid (blk_kp HG2'.out hk7 (by omega))
       have HM7:=Lib.hid (HM6.out.heap (hk7.block mb hs6 (by omega)))
       have HK7:=Lib.hid (HK6.out.next hk7 HK6.out.size)
       have HR7:=Lib.hid hr7
       have hs7:mb+1≤w7.heap.size:=Nat.le_trans hs6 hk7.size
       have hla:(acc++[(ks,x)]).length=acc.length+1:=by simp
       have HLx:=Lib.hid (HLk6.out x)
       clear hP hr7 hk7 hM HL3 HO6 HE6 HG1' HG2' HR6 HK6 HB6 HM6 HLk6
       cases bm with
       | true=>
         have HR8:Hid (Rdr w7 g A n c ((qv+k0+k1:Nat):Int) (o+1) dp):=Lib.hid HR7.out
         go_wp2_with fail
         refine ⟨⟨qv+k0+k1,m',acc++[(ks,x)],css',vv',ks :: lk,by omega,hk1,Lib.hid (by omega),by omega,Lib.hid (by rw [hla];omega),HO7,HE7,HG17,HG27,Lib.hid (by rw [hla];exact HM7.out),HLx,HR8,HK7,hs7,Lib.hid (by rw [HL4.out,if_pos trivial];congr 1;omega)⟩,?_⟩
         rw [hat,HR8.out.atOf]
         omega
       | false=>
         have HE2:Hid (objP F N d (src.drop p)= .ok (objV (acc++[(ks,x)])) (qv-p+k0+k1)):=Lib.hid (by rw [HL4.out,if_neg (by decide)];rfl)
         have HR8:Hid (Rdr w7 g A n c ((qv+k0+k1:Nat):Int) o dp):=Lib.hid (by have:=HR7.out;rw [if_neg (by decide),Int.add_sub_cancel] at this;exact this)
         clear hla HLx HM7 HL4
         generalize acc++[(ks,x)]=l2 at*
         obtain ⟨A5,c5,rfl,hA5,_,_⟩:=own_form HO7.out
         have hG7:=HG17.out
         obtain ⟨m0,m1,m2,m3,m4,m5,m6,m7⟩:=blk8 hG7
         obtain ⟨q0,q1,q2,q3,q4,q5,q6,q7⟩:=blk8 HG27.out
         have j0:=blk_frozen hG7 0
         have j1:=blk_frozen hG7 1
         have j2:=blk_frozen hG7 2
         have j3:=blk_frozen hG7 3
         have j4:=blk_frozen hG7 4
         have j5:=blk_frozen hG7 5
         have j6:=blk_frozen hG7 6
         have j7:=blk_frozen hG7 7
         have HS8:=Lib.hid (store8 hG7 (.int .i64 6) (.bool false) (.int .i64 0) (.float .f64 0) (.string { data:= #[]}) (.string { data:= #[]}) (.slice none 0 0) (.slice A5 l2.length c5))
         have HIs:=Lib.hid (own_isFs HO7.out HE7.out)
         have HA5:=Lib.hid hA5
         clear hG7 HO7 HE7 HG17 HG27 HR7 hA5
         go_wp2_with fail
         obtain ⟨s1,s2,s3⟩:=HS8.out
         obtain ⟨o0,o1',o2,o3,o4,o5,o6,o7⟩:=blk8 s1
         refine bodyPost_ret (v:= .agg #[.int .i64 6,.bool false,.int .i64 0,.float .f64 0,.string { data:= #[]},.string { data:= #[]},.slice none 0 0,.slice A5 l2.length c5]) (by simp [results,Tryz.results54,go_sem,o0,o1',o2,o3,o4,o5,o6,o7]) rfl ?_
         rw [HE2.out]
         refine ⟨HK7.out.trans (s3 g w.heap.size (Nat.le_refl _)),_,rfl,⟨_,rfl,?_⟩,Rdr.to (HR8.out.keep (s2 g (by omega))) (by omega)⟩
         unfold objV
         simp only [IsV,IsVs]
         exact ⟨none,0,A5,c5,rfl,fun _=>rfl,HA5.out,trivial,HIs.out.keep (fun p hp=>World.cell?_of_block (s2 p.block (by have:=hp.1;omega))) (fun b hb=>⟨by have:=hb.1;omega,by have:=hb.2;simpa [World.setCell] using this⟩)⟩
end
end Go.Proofs.YtjhhdnnblcbdbaaGreatDoor.jw
end
section
namespace Go.Proofs.YtjhhdnnblcbdbaaGreatDoor.jw
open Go.RowKit mem val jp
set_option linter.unusedVariables false
set_option linter.unusedSectionVars false
attribute [local go_sem] run_store_float
theorem value_eq (F:Nf) (n d:Nat) (l:List Nat):value F (n+1) d l=
  (if l.headD 0=110 then (bnd (word [110,117,108,108]) fun _=>jp.ret nullV) l
  else if l.headD 0=116 then (bnd (word [116,114,117,101]) fun _=>jp.ret (boolV true)) l
  else if l.headD 0=102 then (bnd (word [102,97,108,115,101]) fun _=>jp.ret (boolV false)) l
  else if l.headD 0=34 then (bnd (text n) fun b=>jp.ret (strV b)) l
  else if l.headD 0=91 then listP F n d l
  else if l.headD 0=123 then objP F n d l
  else numP F l):=by
 rw [value]
 rfl
section
variable {F:Nf} {w0:World} {g:Nat} {A:Option Addr} {n:Nat} {src:List Nat} (HC:Cx F w0 g A n src) {c:Nat} {dp:Int}
include HC
set_option maxRecDepth 100000 in
set_option maxHeartbeats 1600000 in
theorem value_step (hnc:n≤c) (hcm:c≤maxLen) (hdp:dp≤200) (N:Nat) (IH:∀m,m<N→VAt F w0 g A n c src dp m):VAt F w0 g A n c src dp N:=by
 intro d o w p ho hod hb hr hp hN
 obtain ⟨N',rfl⟩:∃N',N=N'+1:=⟨N-1,by omega⟩
 have hn:=HC.le
 have HB:=Lib.hid hb
 have HC':=Lib.hid HC
 have HIH:=Lib.hid IH
 have hgw:g<w.heap.size:=hr.lt
 have g1:=heap_alloc_new w (.cells #[.int .i64 0,.bool false,.int .i64 0,.float .f64 0,.string { data:= #[]},.string { data:= #[]},.slice none 0 0,.slice none 0 0] 29)
 have gk:=(Kp.refl g w.heap.size w).alloc (Nat.le_refl _) (.cells #[.int .i64 0,.bool false,.int .i64 0,.float .f64 0,.string { data:= #[]},.string { data:= #[]},.slice none 0 0,.slice none 0 0] 29)
 have gr:=hr.alloc (.cells #[.int .i64 0,.bool false,.int .i64 0,.float .f64 0,.string { data:= #[]},.string { data:= #[]},.slice none 0 0,.slice none 0 0] 29)
 have gs:(w.alloc (.cells #[.int .i64 0,.bool false,.int .i64 0,.float .f64 0,.string { data:= #[]},.string { data:= #[]},.slice none 0 0,.slice none 0 0] 29)).heap.size=w.heap.size+1:=by simp
 have h256:=HC.lt256 p
 obtain ⟨y,hy⟩:∃y:Nat,src.getD p 0=y:=⟨_,rfl⟩
 have hE:=value_eq F N' d (src.drop p)
 rw [head_drop,hy] at hE
 have hyn:y≠0→p<n:=fun h0=>by
  rcases Nat.lt_or_ge p n with h | h
  ·exact h
  ·rw [List.getD_eq_getElem?_getD,List.getElem?_eq_none (by rw [HC.len];exact h)] at hy
   simp only [Option.getD_none] at hy
   omega
 rw [hy] at h256
 clear hb hr IH
 go_enter Tryz.func28,Tryz.ntmps28
 go_wp2_with fail
 generalize w.alloc (.cells #[.int .i64 0,.bool false,.int .i64 0,.float .f64 0,.string { data:= #[]},.string { data:= #[]},.slice none 0 0,.slice none 0 0] 29)=w1 at*
 have HB1:=Lib.hid (below_kp HC'.out HB.out gk)
 have HNx:=Lib.hid (next_any HC'.out w1 p HB1.out gr hp)
 rw [hy] at HNx
 have HK1:=Lib.hid gk
 have HR1:=Lib.hid gr
 have HG1:=Lib.hid g1
 clear hy gk gr g1 HB1
 refine HNx.out.mono ?_
 rintro e w2 ⟨rfl,hsm⟩
 have HR2:=Lib.hid (hsm.rdr HR1.out)
 have HK2:=Lib.hid (HK1.out.sm hsm)
 have HB2:=Lib.hid (below_kp HC'.out HB.out HK2.out)
 have HG2:Hid (w2.heap[w.heap.size]? =some (.cells #[.int .i64 0,.bool false,.int .i64 0,.float .f64 0,.string { data:= #[]},.string { data:= #[]},.slice none 0 0,.slice none 0 0] 29)):=Lib.hid (by rw [hsm.heap];exact HG1.out)
 have hs2:w.heap.size+1≤w2.heap.size:=by rw [hsm.heap];omega
 clear hsm HNx HR1 HK1 HG1 gs
 by_cases h110:y=110
 ·rw [if_pos h110] at hE
  have HEv:=Lib.hid hE
  have t110:((y:Int)==110)=true:=by simp;omega
  clear hE h110 HIH
  go_wp2_with fail
  refine (word_any HC'.out ⟨#[110,117,108,108]⟩ (by decide) w2 p HB2.out HR2.out hp).mono ?_
  rintro e w3 hP
  rw [show natsOf ⟨#[110,117,108,108]⟩=[110,117,108,108] from rfl] at hP
  cases hW:word [110,117,108,108] (src.drop p) with
  | er k0 e0=>
    rw [hW] at hP
    obtain ⟨rfl,hk3⟩:=hP.er
    have HF:=Lib.hid (HK2.out.next hk3 HK2.out.size)
    have HE2:Hid (value F (N'+1) d (src.drop p)= .er k0 e0):=Lib.hid (by rw [HEv.out,bnd_err hW])
    clear hP hk3 hW HEv
    unfold flt
    go_wp2_with fail
    rw [HE2.out]
    exact ⟨rfl,HF.out,rfl⟩
  | ok u k0=>
    rw [hW] at hP
    obtain ⟨v3,rfl,rfl,hr3,hk3⟩:=hP.ok
    have hG3:=blk_kp HG2.out hk3 (by omega)
    have hkk:=HK2.out.next hk3 HK2.out.size
    have HE2:Hid (value F (N'+1) d (src.drop p)= .ok nullV k0):=Lib.hid (by rw [HEv.out,bnd_okr hW];rfl)
    clear hP hk3 hW HEv HR2 HK2 HB2 HG2
    obtain ⟨m0,m1,m2,m3,m4,m5,m6,m7⟩:=blk8 hG3
    have j0:=blk_frozen hG3 0
    have j1:=blk_frozen hG3 1
    have j2:=blk_frozen hG3 2
    have j3:=blk_frozen hG3 3
    have j4:=blk_frozen hG3 4
    have j5:=blk_frozen hG3 5
    have j6:=blk_frozen hG3 6
    have j7:=blk_frozen hG3 7
    have HS8:=Lib.hid (store8 hG3 (.int .i64 0) (.bool false) (.int .i64 0) (.float .f64 0) (.string { data:= #[]}) (.string { data:= #[]}) (.slice none 0 0) (.slice none 0 0))
    have HF:=Lib.hid (And.intro hkk hr3)
    clear hG3 hkk hr3
    go_wp2_with fail
    obtain ⟨s1,s2,s3⟩:=HS8.out
    obtain ⟨o0,o1',o2,o3,o4,o5,o6,o7⟩:=blk8 s1
    refine bodyPost_ret (v:= .agg #[.int .i64 0,.bool false,.int .i64 0,.float .f64 0,.string { data:= #[]},.string { data:= #[]},.slice none 0 0,.slice none 0 0]) (by simp [results,Tryz.results28,go_sem,o0,o1',o2,o3,o4,o5,o6,o7]) rfl ?_
    rw [HE2.out]
    refine ⟨HF.out.1.trans (s3 g w.heap.size (Nat.le_refl _)),_,rfl,⟨_,rfl,isV_leaf _ _ _ _ _ _⟩,Rdr.to (HF.out.2.keep (s2 g (by omega))) (by omega)⟩
 rw [if_neg h110] at hE
 by_cases h116:y=116
 ·rw [if_pos h116] at hE
  have HEv:=Lib.hid hE
  have t110:((y:Int)==110)=false:=by simp;omega
  have t116:((y:Int)==116)=true:=by simp;omega
  clear hE h116 HIH
  go_wp2_with fail
  refine (word_any HC'.out ⟨#[116,114,117,101]⟩ (by decide) w2 p HB2.out HR2.out hp).mono ?_
  rintro e w3 hP
  rw [show natsOf ⟨#[116,114,117,101]⟩=[116,114,117,101] from rfl] at hP
  cases hW:word [116,114,117,101] (src.drop p) with
  | er k0 e0=>
    rw [hW] at hP
    obtain ⟨rfl,hk3⟩:=hP.er
    have HF:=Lib.hid (HK2.out.next hk3 HK2.out.size)
    have HE2:Hid (value F (N'+1) d (src.drop p)= .er k0 e0):=Lib.hid (by rw [HEv.out,bnd_err hW])
    clear hP hk3 hW HEv
    unfold flt
    go_wp2_with fail
    rw [HE2.out]
    exact ⟨rfl,HF.out,rfl⟩
  | ok u k0=>
    rw [hW] at hP
    obtain ⟨v3,rfl,rfl,hr3,hk3⟩:=hP.ok
    have hG3:=blk_kp HG2.out hk3 (by omega)
    have hkk:=HK2.out.next hk3 HK2.out.size
    have HE2:Hid (value F (N'+1) d (src.drop p)= .ok (boolV true) k0):=Lib.hid (by rw [HEv.out,bnd_okr hW];rfl)
    clear hP hk3 hW HEv HR2 HK2 HB2 HG2
    obtain ⟨m0,m1,m2,m3,m4,m5,m6,m7⟩:=blk8 hG3
    have j0:=blk_frozen hG3 0
    have j1:=blk_frozen hG3 1
    have j2:=blk_frozen hG3 2
    have j3:=blk_frozen hG3 3
    have j4:=blk_frozen hG3 4
    have j5:=blk_frozen hG3 5
    have j6:=blk_frozen hG3 6
    have j7:=blk_frozen hG3 7
    have HS8:=Lib.hid (store8 hG3 (.int .i64 1) (.bool true) (.int .i64 0) (.float .f64 0) (.string { data:= #[]}) (.string { data:= #[]}) (.slice none 0 0) (.slice none 0 0))
    have HF:=Lib.hid (And.intro hkk hr3)
    clear hG3 hkk hr3
    go_wp2_with fail
    obtain ⟨s1,s2,s3⟩:=HS8.out
    obtain ⟨o0,o1',o2,o3,o4,o5,o6,o7⟩:=blk8 s1
    refine bodyPost_ret (v:= .agg #[.int .i64 1,.bool true,.int .i64 0,.float .f64 0,.string { data:= #[]},.string { data:= #[]},.slice none 0 0,.slice none 0 0]) (by simp [results,Tryz.results28,go_sem,o0,o1',o2,o3,o4,o5,o6,o7]) rfl ?_
    rw [HE2.out]
    refine ⟨HF.out.1.trans (s3 g w.heap.size (Nat.le_refl _)),_,rfl,⟨_,rfl,isV_leaf _ _ _ _ _ _⟩,Rdr.to (HF.out.2.keep (s2 g (by omega))) (by omega)⟩
 rw [if_neg h116] at hE
 by_cases h102:y=102
 ·rw [if_pos h102] at hE
  have HEv:=Lib.hid hE
  have t110:((y:Int)==110)=false:=by simp;omega
  have t116:((y:Int)==116)=false:=by simp;omega
  have t102:((y:Int)==102)=true:=by simp;omega
  clear hE h102 HIH
  go_wp2_with fail
  refine (word_any HC'.out ⟨#[102,97,108,115,101]⟩ (by decide) w2 p HB2.out HR2.out hp).mono ?_
  rintro e w3 hP
  rw [show natsOf ⟨#[102,97,108,115,101]⟩=[102,97,108,115,101] from rfl] at hP
  cases hW:word [102,97,108,115,101] (src.drop p) with
  | er k0 e0=>
    rw [hW] at hP
    obtain ⟨rfl,hk3⟩:=hP.er
    have HF:=Lib.hid (HK2.out.next hk3 HK2.out.size)
    have HE2:Hid (value F (N'+1) d (src.drop p)= .er k0 e0):=Lib.hid (by rw [HEv.out,bnd_err hW])
    clear hP hk3 hW HEv
    unfold flt
    go_wp2_with fail
    rw [HE2.out]
    exact ⟨rfl,HF.out,rfl⟩
  | ok u k0=>
    rw [hW] at hP
    obtain ⟨v3,rfl,rfl,hr3,hk3⟩:=hP.ok
    have hG3:=blk_kp HG2.out hk3 (by omega)
    have hkk:=HK2.out.next hk3 HK2.out.size
    have HE2:Hid (value F (N'+1) d (src.drop p)= .ok (boolV false) k0):=Lib.hid (by rw [HEv.out,bnd_okr hW];rfl)
    clear hP hk3 hW HEv HR2 HK2 HB2 HG2
    obtain ⟨m0,m1,m2,m3,m4,m5,m6,m7⟩:=blk8 hG3
    have j0:=blk_frozen hG3 0
    have j1:=blk_frozen hG3 1
    have j2:=blk_frozen hG3 2
    have j3:=blk_frozen hG3 3
    have j4:=blk_frozen hG3 4
    have j5:=blk_frozen hG3 5
    have j6:=blk_frozen hG3 6
    have j7:=blk_frozen hG3 7
    have HS8:=Lib.hid (store8 hG3 (.int .i64 1) (.bool false) (.int .i64 0) (.float .f64 0) (.string { data:= #[]}) (.string { data:= #[]}) (.slice none 0 0) (.slice none 0 0))
    have HF:=Lib.hid (And.intro hkk hr3)
    clear hG3 hkk hr3
    go_wp2_with fail
    obtain ⟨s1,s2,s3⟩:=HS8.out
    obtain ⟨o0,o1',o2,o3,o4,o5,o6,o7⟩:=blk8 s1
    refine bodyPost_ret (v:= .agg #[.int .i64 1,.bool false,.int .i64 0,.float .f64 0,.string { data:= #[]},.string { data:= #[]},.slice none 0 0,.slice none 0 0]) (by simp [results,Tryz.results28,go_sem,o0,o1',o2,o3,o4,o5,o6,o7]) rfl ?_
    rw [HE2.out]
    refine ⟨HF.out.1.trans (s3 g w.heap.size (Nat.le_refl _)),_,rfl,⟨_,rfl,isV_leaf _ _ _ _ _ _⟩,Rdr.to (HF.out.2.keep (s2 g (by omega))) (by omega)⟩
 rw [if_neg h102] at hE
 by_cases h34:y=34
 ·rw [if_pos h34] at hE
  have HEv:=Lib.hid hE
  have hpn:=hyn (by omega)
  have t110:((y:Int)==110)=false:=by simp;omega
  have t116:((y:Int)==116)=false:=by simp;omega
  have t102:((y:Int)==102)=false:=by simp;omega
  have t34:((y:Int)==34)=true:=by simp;omega
  clear hE h34 HIH
  go_wp2_with fail
  refine (text_any HC'.out hnc N' w2 p (by omega) HB2.out HR2.out hp).mono ?_
  rintro e w3 hP
  cases hW:text N' (src.drop p) with
  | er k0 e0=>
    rw [hW] at hP
    obtain ⟨rfl,hk3⟩:=hP.er
    have HF:=Lib.hid (HK2.out.next hk3 HK2.out.size)
    have HE2:Hid (value F (N'+1) d (src.drop p)= .er k0 e0):=Lib.hid (by rw [HEv.out,bnd_err hW])
    clear hP hk3 hW HEv
    unfold flt
    go_wp2_with fail
    rw [HE2.out]
    exact ⟨rfl,HF.out,rfl⟩
  | ok l k0=>
    rw [hW] at hP
    obtain ⟨v3,rfl,⟨rfl,_⟩,hr3,hk3⟩:=hP.ok
    have hG3:=blk_kp HG2.out hk3 (by omega)
    have hkk:=HK2.out.next hk3 HK2.out.size
    have HE2:Hid (value F (N'+1) d (src.drop p)= .ok (strV l) k0):=Lib.hid (by rw [HEv.out,bnd_okr hW];rfl)
    unfold strV at HE2
    generalize bt l=T at*
    clear hP hk3 hW HEv HR2 HK2 HB2 HG2
    obtain ⟨m0,m1,m2,m3,m4,m5,m6,m7⟩:=blk8 hG3
    have j0:=blk_frozen hG3 0
    have j1:=blk_frozen hG3 1
    have j2:=blk_frozen hG3 2
    have j3:=blk_frozen hG3 3
    have j4:=blk_frozen hG3 4
    have j5:=blk_frozen hG3 5
    have j6:=blk_frozen hG3 6
    have j7:=blk_frozen hG3 7
    have HS8:=Lib.hid (store8 hG3 (.int .i64 4) (.bool false) (.int .i64 0) (.float .f64 0) (.string T) (.string { data:= #[]}) (.slice none 0 0) (.slice none 0 0))
    have HF:=Lib.hid (And.intro hkk hr3)
    clear hG3 hkk hr3
    go_wp2_with fail
    obtain ⟨s1,s2,s3⟩:=HS8.out
    obtain ⟨o0,o1',o2,o3,o4,o5,o6,o7⟩:=blk8 s1
    refine bodyPost_ret (v:= .agg #[.int .i64 4,.bool false,.int .i64 0,.float .f64 0,.string T,.string { data:= #[]},.slice none 0 0,.slice none 0 0]) (by simp [results,Tryz.results28,go_sem,o0,o1',o2,o3,o4,o5,o6,o7]) rfl ?_
    rw [HE2.out]
    refine ⟨HF.out.1.trans (s3 g w.heap.size (Nat.le_refl _)),_,rfl,⟨_,rfl,isV_leaf _ _ _ _ _ _⟩,Rdr.to (HF.out.2.keep (s2 g (by omega))) (by omega)⟩
 rw [if_neg h34] at hE
 by_cases h91:y=91
 ·rw [if_pos h91] at hE
  have HEv:=Lib.hid (show value F (N'+1) d (src.drop p)=listP F N' d (src.drop p) from hE)
  have hpn:=hyn (by omega)
  have t110:((y:Int)==110)=false:=by simp;omega
  have t116:((y:Int)==116)=false:=by simp;omega
  have t102:((y:Int)==102)=false:=by simp;omega
  have t34:((y:Int)==34)=false:=by simp;omega
  have t91:((y:Int)==91)=true:=by simp;omega
  clear hE h91
  go_wp2_with fail
  refine (list_any HC'.out N' (fun m hm=>HIH.out m (by omega)) hdp d o ho hod w2 p HB2.out HR2.out hpn (by omega)).mono ?_
  rintro e w3 hP
  cases hW:listP F N' d (src.drop p) with
  | er k0 e0=>
    rw [hW] at hP
    obtain ⟨rfl,hk3⟩:=hP.er
    have HF:=Lib.hid (HK2.out.next hk3 HK2.out.size)
    have HE2:Hid (value F (N'+1) d (src.drop p)= .er k0 e0):=Lib.hid (HEv.out.trans hW)
    clear hP hk3 hW HEv
    unfold flt
    go_wp2_with fail
    rw [HE2.out]
    exact ⟨rfl,HF.out,rfl⟩
  | ok x k0=>
    rw [hW] at hP
    obtain ⟨v3,rfl,⟨cs3,rfl,hv3⟩,hr3,hk3⟩:=hP.ok
    have hG3:=blk_kp HG2.out hk3 (by omega)
    have hkk:=HK2.out.next hk3 HK2.out.size
    have HE2:Hid (value F (N'+1) d (src.drop p)= .ok x k0):=Lib.hid (HEv.out.trans hW)
    obtain ⟨k2,b2,i2,f2,t2,y2,is2,fs2⟩:=x
    have HV3:=Lib.hid hv3
    simp only [IsV] at hv3
    obtain ⟨A3,c3,A3',c3',rfl,_⟩:=hv3
    clear hP hk3 hW HEv HR2 HK2 HB2 HG2
    obtain ⟨m0,m1,m2,m3,m4,m5,m6,m7⟩:=blk8 hG3
    have j0:=blk_frozen hG3 0
    have j1:=blk_frozen hG3 1
    have j2:=blk_frozen hG3 2
    have j3:=blk_frozen hG3 3
    have j4:=blk_frozen hG3 4
    have j5:=blk_frozen hG3 5
    have j6:=blk_frozen hG3 6
    have j7:=blk_frozen hG3 7
    have HS8:=Lib.hid (store8 hG3 (.int .i64 k2) (.bool b2) (.int .i64 i2) (.float .f64 f2) (.string t2) (.string y2) (.slice A3 is2.length c3) (.slice A3' fs2.length c3'))
    have HF:=Lib.hid (And.intro hkk hr3)
    clear hG3 hkk hr3
    go_wp2_with fail
    obtain ⟨s1,s2,s3⟩:=HS8.out
    obtain ⟨o0,o1',o2,o3,o4,o5,o6,o7⟩:=blk8 s1
    refine bodyPost_ret (v:= .agg #[.int .i64 k2,.bool b2,.int .i64 i2,.float .f64 f2,.string t2,.string y2,.slice A3 is2.length c3,.slice A3' fs2.length c3']) (by simp [results,Tryz.results28,go_sem,o0,o1',o2,o3,o4,o5,o6,o7]) rfl ?_
    rw [HE2.out]
    refine ⟨HF.out.1.trans (s3 g w.heap.size (Nat.le_refl _)),_,rfl,⟨_,rfl,HV3.out.keep (fun p hp=>World.cell?_of_block (s2 p.block (by have:=hp.1;omega))) (fun b hb=>⟨by have:=hb.1;omega,by have:=hb.2;simpa [World.setCell] using this⟩)⟩,Rdr.to (HF.out.2.keep (s2 g (by omega))) (by omega)⟩
 rw [if_neg h91] at hE
 by_cases h123:y=123
 ·rw [if_pos h123] at hE
  have HEv:=Lib.hid (show value F (N'+1) d (src.drop p)=objP F N' d (src.drop p) from hE)
  have hpn:=hyn (by omega)
  have t110:((y:Int)==110)=false:=by simp;omega
  have t116:((y:Int)==116)=false:=by simp;omega
  have t102:((y:Int)==102)=false:=by simp;omega
  have t34:((y:Int)==34)=false:=by simp;omega
  have t91:((y:Int)==91)=false:=by simp;omega
  have t123:((y:Int)==123)=true:=by simp;omega
  clear hE h123
  go_wp2_with fail
  refine (object_any HC'.out hnc N' (fun m hm=>HIH.out m (by omega)) hdp d o ho hod w2 p HB2.out HR2.out hpn (by omega)).mono ?_
  rintro e w3 hP
  cases hW:objP F N' d (src.drop p) with
  | er k0 e0=>
    rw [hW] at hP
    obtain ⟨rfl,hk3⟩:=hP.er
    have HF:=Lib.hid (HK2.out.next hk3 HK2.out.size)
    have HE2:Hid (value F (N'+1) d (src.drop p)= .er k0 e0):=Lib.hid (HEv.out.trans hW)
    clear hP hk3 hW HEv
    unfold flt
    go_wp2_with fail
    rw [HE2.out]
    exact ⟨rfl,HF.out,rfl⟩
  | ok x k0=>
    rw [hW] at hP
    obtain ⟨v3,rfl,⟨cs3,rfl,hv3⟩,hr3,hk3⟩:=hP.ok
    have hG3:=blk_kp HG2.out hk3 (by omega)
    have hkk:=HK2.out.next hk3 HK2.out.size
    have HE2:Hid (value F (N'+1) d (src.drop p)= .ok x k0):=Lib.hid (HEv.out.trans hW)
    obtain ⟨k2,b2,i2,f2,t2,y2,is2,fs2⟩:=x
    have HV3:=Lib.hid hv3
    simp only [IsV] at hv3
    obtain ⟨A3,c3,A3',c3',rfl,_⟩:=hv3
    clear hP hk3 hW HEv HR2 HK2 HB2 HG2
    obtain ⟨m0,m1,m2,m3,m4,m5,m6,m7⟩:=blk8 hG3
    have j0:=blk_frozen hG3 0
    have j1:=blk_frozen hG3 1
    have j2:=blk_frozen hG3 2
    have j3:=blk_frozen hG3 3
    have j4:=blk_frozen hG3 4
    have j5:=blk_frozen hG3 5
    have j6:=blk_frozen hG3 6
    have j7:=blk_frozen hG3 7
    have HS8:=Lib.hid (store8 hG3 (.int .i64 k2) (.bool b2) (.int .i64 i2) (.float .f64 f2) (.string t2) (.string y2) (.slice A3 is2.length c3) (.slice A3' fs2.length c3'))
    have HF:=Lib.hid (And.intro hkk hr3)
    clear hG3 hkk hr3
    go_wp2_with fail
    obtain ⟨s1,s2,s3⟩:=HS8.out
    obtain ⟨o0,o1',o2,o3,o4,o5,o6,o7⟩:=blk8 s1
    refine bodyPost_ret (v:= .agg #[.int .i64 k2,.bool b2,.int .i64 i2,.float .f64 f2,.string t2,.string y2,.slice A3 is2.length c3,.slice A3' fs2.length c3']) (by simp [results,Tryz.results28,go_sem,o0,o1',o2,o3,o4,o5,o6,o7]) rfl ?_
    rw [HE2.out]
    refine ⟨HF.out.1.trans (s3 g w.heap.size (Nat.le_refl _)),_,rfl,⟨_,rfl,HV3.out.keep (fun p hp=>World.cell?_of_block (s2 p.block (by have:=hp.1;omega))) (fun b hb=>⟨by have:=hb.1;omega,by have:=hb.2;simpa [World.setCell] using this⟩)⟩,Rdr.to (HF.out.2.keep (s2 g (by omega))) (by omega)⟩
 rw [if_neg h123] at hE
 have HEv:=Lib.hid hE
 have t110:((y:Int)==110)=false:=by simp;omega
 have t116:((y:Int)==116)=false:=by simp;omega
 have t102:((y:Int)==102)=false:=by simp;omega
 have t34:((y:Int)==34)=false:=by simp;omega
 have t91:((y:Int)==91)=false:=by simp;omega
 have t123:((y:Int)==123)=false:=by simp;omega
 clear hE
 go_wp2_with fail
 refine (number_any HC'.out hnc hcm w2 p HB2.out HR2.out hp).mono ?_
 rintro e w3 hP
 cases hW:numP F (src.drop p) with
 | er k0 e0=>
   rw [hW] at hP
   obtain ⟨rfl,hk3⟩:=hP.er
   have HF:=Lib.hid (HK2.out.next hk3 HK2.out.size)
   have HE2:Hid (value F (N'+1) d (src.drop p)= .er k0 e0):=Lib.hid (HEv.out.trans hW)
   clear hP hk3 hW HEv
   unfold flt
   go_wp2_with fail
   rw [HE2.out]
   exact ⟨rfl,HF.out,rfl⟩
 | ok x k0=>
   rw [hW] at hP
   obtain ⟨v3,rfl,⟨cs3,rfl,hv3⟩,hr3,hk3⟩:=hP.ok
   have hG3:=blk_kp HG2.out hk3 (by omega)
   have hkk:=HK2.out.next hk3 HK2.out.size
   have HE2:Hid (value F (N'+1) d (src.drop p)= .ok x k0):=Lib.hid (HEv.out.trans hW)
   obtain ⟨k2,b2,i2,f2,t2,y2,is2,fs2⟩:=x
   have HV3:=Lib.hid hv3
   simp only [IsV] at hv3
   obtain ⟨A3,c3,A3',c3',rfl,_⟩:=hv3
   clear hP hk3 hW HEv HR2 HK2 HB2 HG2
   obtain ⟨m0,m1,m2,m3,m4,m5,m6,m7⟩:=blk8 hG3
   have j0:=blk_frozen hG3 0
   have j1:=blk_frozen hG3 1
   have j2:=blk_frozen hG3 2
   have j3:=blk_frozen hG3 3
   have j4:=blk_frozen hG3 4
   have j5:=blk_frozen hG3 5
   have j6:=blk_frozen hG3 6
   have j7:=blk_frozen hG3 7
   have HS8:=Lib.hid (store8 hG3 (.int .i64 k2) (.bool b2) (.int .i64 i2) (.float .f64 f2) (.string t2) (.string y2) (.slice A3 is2.length c3) (.slice A3' fs2.length c3'))
   have HF:=Lib.hid (And.intro hkk hr3)
   clear hG3 hkk hr3
   go_wp2_with fail
   obtain ⟨s1,s2,s3⟩:=HS8.out
   obtain ⟨o0,o1',o2,o3,o4,o5,o6,o7⟩:=blk8 s1
   refine bodyPost_ret (v:= .agg #[.int .i64 k2,.bool b2,.int .i64 i2,.float .f64 f2,.string t2,.string y2,.slice A3 is2.length c3,.slice A3' fs2.length c3']) (by simp [results,Tryz.results28,go_sem,o0,o1',o2,o3,o4,o5,o6,o7]) rfl ?_
   rw [HE2.out]
   refine ⟨HF.out.1.trans (s3 g w.heap.size (Nat.le_refl _)),_,rfl,⟨_,rfl,HV3.out.keep (fun p hp=>World.cell?_of_block (s2 p.block (by have:=hp.1;omega))) (fun b hb=>⟨by have:=hb.1;omega,by have:=hb.2;simpa [World.setCell] using this⟩)⟩,Rdr.to (HF.out.2.keep (s2 g (by omega))) (by omega)⟩
theorem value_all (hnc:n≤c) (hcm:c≤maxLen) (hdp:dp≤200) (N:Nat):VAt F w0 g A n c src dp N:=by
 induction N using Nat.strongRecOn with
 | ind N ih=>exact value_step HC hnc hcm hdp N ih
end
end Go.Proofs.YtjhhdnnblcbdbaaGreatDoor.jw
end
