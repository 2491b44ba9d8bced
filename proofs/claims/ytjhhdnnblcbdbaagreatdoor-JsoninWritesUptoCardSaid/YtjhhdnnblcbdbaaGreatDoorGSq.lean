/- The program's split, walked: a number text's sign, digits and power; without a sign. The program's split, walked: of a text with a sign. -/
import Derived.Test.YtjhhdnnblcbdbaaGreatDoorGPo
import Derived.Deep.RegionLaw
section
namespace Go.Proofs.YtjhhdnnblcbdbaaGreatDoor.pg
open Go.RowKit mem fl big
set_option linter.unusedVariables false
structure Ds where
 b:List Nat
 x:Int
 bh:Bool
def spStep (s:Ds) (c:Nat):Ds:=
 if c=46 then { s with bh:=true}
 else if c=48∧s.b.length=0 then (if s.bh then { s with x:=s.x-1} else s)
 else { s with b:=s.b++[c],x:=if s.bh then s.x else s.x+1}
def spF (l:List Nat):Ds:=l.foldl spStep ⟨[],0,false⟩
theorem spF_snoc (l:List Nat) (c:Nat):spF (l++[c])=spStep (spF l) c:=by unfold spF;rw [List.foldl_append];rfl
def isE (c:Nat):Bool:=c==101||c==69
def st0 (l:List Nat):Nat:=if l.head? =some 45 then 1 else 0
def spM (l:List Nat):List Nat:=(l.drop (st0 l)).takeWhile fun c=>!isE c
def spR (l:List Nat):List Nat:=(l.drop (st0 l)).dropWhile fun c=>!isE c
def spB (l:List Nat):List Nat:=(spF (spM l)).b
def spX (l:List Nat):Int:=(spF (spM l)).x+(if (spR l).length=0 then 0 else pwV ((spR l).drop 1))
theorem tw (p:Nat→Bool):∀(L:List Nat) (i:Nat),i≤L.length→(∀k,k<i→p (L.getD k 0)=true)→(i<L.length→p (L.getD i 0)=false)→L.takeWhile p=L.take i∧L.dropWhile p=L.drop i
 | [],i,_,_,_=>by simp
 | a :: L,0,_,_,h=>by
   have:=h (by simp)
   simp at this
   simp [this]
 | a :: L,i+1,hl,h1,h2=>by
   have h0:=h1 0 (by omega)
   simp at h0
   obtain ⟨r1,r2⟩:=tw p L i (by simpa using hl) (fun k hk=>by have:=h1 (k+1) (by omega);simpa using this) (fun hi=>by have:=h2 (by simpa using hi);simpa using this)
   constructor
   ·rw [List.takeWhile_cons,h0];simp [r1]
   ·rw [List.dropWhile_cons,h0];simp [r2]
def SpSt (l:List Nat) (w:World) (neg:Bool) (b:List Nat) (x:Int) (bh:Bool) (A:Option Addr) (n c i:Nat) (wr:World):Prop:=
 wr.heap[w.heap.size+1]? =some (.cells #[.bool neg,.slice A n c,.int .i64 x] 118 (0,0))∧wr.heap[w.heap.size]? =some (.cells #[.bool false,.slice none 0 0,.int .i64 0] 118 (0,0))∧
 wr.ownsRow (w.heap.size+2) 5 1 (.slice A n c) n (ns b)∧Below w.heap.size w wr∧spF ((l.take i).drop (st0 l))=⟨b,x,bh⟩∧b.length=n∧st0 l≤i∧∀k,st0 l≤k→k<i→isE (l.getD k 0)=false
theorem SpSt.next {l:List Nat} {w wr wr':World} {neg bh bh':Bool} {b b':List Nat} {x x':Int} {A A':Option Addr} {n n' c c' i ch:Nat} (h:SpSt l w neg b x bh A n c i wr) (hi:i<l.length) (hch:l.getD i 0=ch) (hne:isE ch=false)
  (hs:spStep ⟨b,x,bh⟩ ch=⟨b',x',bh'⟩) (g1:wr'.heap[w.heap.size+1]? =some (.cells #[.bool neg,.slice A' n' c',.int .i64 x'] 118 (0,0))) (g2:wr'.heap[w.heap.size]? =some (.cells #[.bool false,.slice none 0 0,.int .i64 0] 118 (0,0)))
  (ho:wr'.ownsRow (w.heap.size+2) 5 1 (.slice A' n' c') n' (ns b')) (hb:Below w.heap.size w wr') (hn:b'.length=n'):SpSt l w neg b' x' bh' A' n' c' (i+1) wr':=by
 obtain ⟨_,_,_,_,hf,_,hsi,hnn⟩:=h
 refine ⟨g1,g2,ho,hb,?_,hn,by omega,fun k h1 h2=>?_⟩
 ·have e:(l.take (i+1)).drop (st0 l)=(l.take i).drop (st0 l)++[ch]:=by
   rw [List.take_succ_eq_append_getElem hi,List.drop_append_of_le_length (by rw [List.length_take];omega)]
   congr 2
   rw [←hch,List.getD_eq_getElem?_getD,List.getElem?_eq_getElem hi]
   rfl
  rw [e,spF_snoc,hf,hs]
 ·by_cases hk:k=i
  ·rw [hk,hch];exact hne
  ·exact hnn k h1 (by omega)
theorem own_set {w:World} {base g i:Nat} {e:TypeId} {size n:Nat} {v u:Value} {xs:List Value} (h:w.ownsRow base e size v n xs) (hg:g<base):(w.setCell ⟨g,i,none⟩ u).ownsRow base e size v n xs:=by
 refine ⟨h.1,?_⟩
 rcases h.2 with h2 | ⟨g',cap,cur,h1,h2,h3,h4⟩
 ·exact .inl h2
 ·exact .inr ⟨g',cap,cur,h1,h2,(Below.heap_setCell _ _ _ _ (by simp;omega)).trans h3,h4⟩
def SpPost (l:List Nat) (w:World) (e:Ending) (w':World):Prop:=∃(A:Option Addr) (c:Nat),e= .returned (.agg #[.bool (decide (l.head? =some 45)),.slice A (spB l).length c,.int .i64 (spX l)])∧Rd w' w'.heap.size A (ns (spB l))∧Below w.heap.size w w'
theorem pwV_bd (l:List Nat): -1099511627776≤pwV l∧pwV l≤1099511627776:=by
 unfold pwV
 split <;> omega
theorem nats_extract (s:ByteArray) (a:Nat):nats (s.extract a s.size)=(nats s).drop a:=by
 unfold nats
 rw [←List.map_drop]
 congr 1
 simp
 exact List.take_of_length_le (by simp)
theorem SpSt.fin {l:List Nat} {w wr W:World} {neg bh:Bool} {b:List Nat} {x X:Int} {A:Option Addr} {n c i:Nat} (h:SpSt l w neg b x bh A n c i wr) (hl:i≤l.length) (hs0:st0 l≤l.length) (hneg:decide (l.head? =some 45)=neg) (hX:X=x+(if i=l.length then 0 else pwV (l.drop (i+1)))) (he:i<l.length→isE (l.getD i 0)=true)
  (ho:W.ownsRow (w.heap.size+2) 5 1 (.slice A n c) n (ns b)) (hb:Below w.heap.size w W):SpPost l w (.returned (.agg #[.bool neg,.slice A n c,.int .i64 X])) W:=by
 obtain ⟨_,_,_,_,hf,hbn,hsi,hne⟩:=h
 have hg:∀k,(l.drop (st0 l)).getD k 0=l.getD (st0 l+k) 0:=fun k=>by rw [List.getD_eq_getElem?_getD,List.getD_eq_getElem?_getD,List.getElem?_drop]
 obtain ⟨t1,t2⟩:=tw (fun c=>!isE c) (l.drop (st0 l)) (i-st0 l) (by rw [List.length_drop];omega)
  (fun k hk=>by rw [hg,hne (st0 l+k) (by omega) (by omega)];rfl)
  (fun hk=>by rw [List.length_drop] at hk;rw [hg,show st0 l+(i-st0 l)=i by omega,he (by omega)];rfl)
 have hM:spM l=(l.take i).drop (st0 l):=by
  unfold spM
  rw [t1,List.drop_take]
 have hR:spR l=l.drop i:=by
  unfold spR
  rw [t2,List.drop_drop,show st0 l+(i-st0 l)=i by omega]
 have hB:spB l=b:=by unfold spB;rw [hM,hf]
 have hXX:spX l=X:=by
  unfold spX
  rw [hM,hf,hR,hX]
  congr 1
  by_cases h9:i=l.length
  ·rw [if_pos h9,if_pos (by rw [List.length_drop];omega)]
  ·rw [if_neg h9,if_neg (by rw [List.length_drop];omega),List.drop_drop]
 refine ⟨A,c,?_,by rw [hB];exact Rd.of_own ho,hb⟩
 rw [hB,hXX,hbn,hneg]
theorem fin_cells {wr:World} {g:Nat} {v0 v1 v2:Value} (h:wr.heap[g]? =some (.cells #[.bool false,.slice none 0 0,.int .i64 0] 118 (0,0))):
  (((wr.setCell ⟨g,0,none⟩ v0).setCell ⟨g,1,none⟩ v1).setCell ⟨g,2,none⟩ v2).heap[g]? =some (.cells #[v0,v1,v2] 118 (0,0)):=by
 have:=blk_set (blk_set (blk_set h 0 v0) 1 v1) 2 v2
 simpa using this
set_option maxRecDepth 100000 in
set_option maxHeartbeats 4000000 in
theorem split_pos (s:ByteArray) (w:World) (h0:0<s.size) (hn:s.size≤1100000) (hE:∀k,k<s.size→isE ((nats s).getD k 0)=true→k+1<s.size) (hneg:(nats s).head?≠some 45):
  Calls Tryz.prog 64 #[.string s] w (SpPost (nats s) w):=by
 have HSn:=Lib.hid (nats_snoc s)
 have HLn:=Lib.hid (nats_length s)
 have hc0:=nats_get s 0 h0
 obtain ⟨c0,hcc⟩:∃c0,(s[0]'h0).toNat=c0:=⟨_,rfl⟩
 have hc45:((c0:Int)==45)=false:=by
  refine beq_false_of_ne fun h=>hneg ?_
  rw [List.head?_eq_getElem?,List.getElem?_eq_getElem (by rw [nats_length];exact h0),hc0,hcc]
  congr 1
  omega
 have hst:st0 (nats s)=0:=by unfold st0;rw [if_neg hneg]
 have HS0:=Lib.hid hst
 have HNg:=Lib.hid (show decide ((nats s).head? =some 45)=false from decide_eq_false hneg)
 obtain ⟨iv,hiv,hv0,hv1,hv2⟩:=info_parts infoB
 go_enter Tryz.func64,Tryz.ntmps64
 go_wp2_with fail
 go_loopw [4,5] (fun v4 v5 wr=>∃(b:List Nat) (x:Int) (bh:Bool) (A:Option Addr) (n c i:Nat),i≤s.size∧n≤i∧ -(i:Int)≤x∧x≤i∧v4= .int .i64 (i:Int)∧v5= .bool bh∧Hid (SpSt (nats s) w false b x bh A n c i wr)) (fun v4 _ _=>s.size-(intOf v4).toNat)
 case atStart=>
  have k1:=heap_alloc_new w (.cells #[.bool false,.slice none 0 0,.int .i64 0] 118)
  have k2:=heap_alloc_new (w.alloc (.cells #[.bool false,.slice none 0 0,.int .i64 0] 118)) (.cells #[.bool false,.slice none 0 0,.int .i64 0] 118)
  have k3:(w.alloc (.cells #[.bool false,.slice none 0 0,.int .i64 0] 118)).heap.size=w.heap.size+1:=by simp
  rw [k3] at k2
  refine ⟨[],0,false,none,0,0,0,by omega,by omega,by omega,by omega,rfl,rfl,Lib.hid ⟨k2,(Below.heap_alloc _ _ _ (by omega)).trans k1,World.ownsRow_nil _ _ _ _,((Below.refl _ _).alloc (Nat.le_refl _) _).alloc (by omega) _,by simp [spF],rfl,by rw [hst];omega,fun k h1 h2=>by omega⟩⟩
 case round=>
  obtain ⟨b,x,bh,A,n,c,i,hi,hni,hx1,hx2,rfl,rfl,hst⟩:=hrel
  have hst2:=hst.out
  obtain ⟨g1,g2,ho,hb,hf,hbn,hsi,hne⟩:=hst2
  have m0:=blk_cell g1 (i:=0) (by simp)
  have m1:=blk_cell g1 (i:=1) (by simp)
  have m2:=blk_cell g1 (i:=2) (by simp)
  have f1:=blk_frozen g1 1
  have f2:=blk_frozen g1 2
  have hsz1:=lt_of_block g1
  simp at m0 m1 m2
  have HO:=Lib.hid ho
  have HB:=Lib.hid hb
  have HG:=Lib.hid (And.intro g1 g2)
  have HBn:=Lib.hid hbn
  have HST:=hst
  clear g1 g2 ho hb hf hbn hsi hne
  by_cases hlt:i<s.size
  ·obtain ⟨ch,hch⟩:∃ch,(s[i]).toNat=ch:=⟨_,rfl⟩
   have hcb:ch<256:=by rw [←hch];exact UInt8.toNat_lt _
   have hget:(nats s).getD i 0=ch:=by
    have h1:=nats_get s i hlt
    rw [hch] at h1
    rw [List.getD_eq_getElem?_getD,List.getElem?_eq_getElem (by rw [nats_length];exact hlt),h1]
    rfl
   by_cases he:ch=101∨ch=69
   ·have hEt:isE ch=true:=by unfold isE;rcases he with rfl | rfl <;> rfl
    have hi1:i+1<s.size:=hE i hlt (by rw [hget];exact hEt)
    have HEt:=Lib.hid hEt
    have HGet:=Lib.hid hget
    clear hEt hget
    have z0:=blk_frozen HG.out.2 0
    have z1:=blk_frozen HG.out.2 1
    have z2:=blk_frozen HG.out.2 2
    have y0:=blk_cell HG.out.2 (i:=0) (by simp)
    have y1:=blk_cell HG.out.2 (i:=1) (by simp)
    have y2:=blk_cell HG.out.2 (i:=2) (by simp)
    simp at y0 y1 y2
    obtain ⟨i1,hi1e⟩:∃i1,i+1=i1:=⟨_,rfl⟩
    rw [hi1e] at hi1
    have hw1:IntKind.i64.wrap ((i:Int)+1)=(i1:Int):=by rw [IntKind.wrap_i64];omega
    have hle1:(i1:Int)≤s.size:=by omega
    have hsz2:(s.extract i1 s.size).size=s.size-i1:=by simp
    have hpb:=pwV_bd (nats (s.extract i1 s.size))
    have HPw:=Lib.hid (fun w=>power_any (s.extract i1 s.size) w (by omega) (by omega))
    obtain ⟨PV,hPV⟩:∃PV,pwV (nats (s.extract i1 s.size))=PV:=⟨_,rfl⟩
    rw [hPV] at HPw hpb
    have hw2:IntKind.i64.wrap (x+PV)=x+PV:=by rw [IntKind.wrap_i64];omega
    have HE1:=Lib.hid hi1e
    have HPV:=Lib.hid hPV
    have hg3:=blk_set HG.out.1 2 (.int .i64 (x+PV))
    have HG3:=Lib.hid hg3
    have s0:=blk_cell hg3 (i:=0) (by simp)
    have s1:=blk_cell hg3 (i:=1) (by simp)
    have s2:=blk_cell hg3 (i:=2) (by simp)
    simp at s0 s1 s2
    clear hi1e hPV hg3
    rcases he with rfl | rfl
    all_goals
     go_wp2_with fail
     go_region_law (first
      | (go_simp;go_at_call 96;go_must (refine (HPw.out _).mono ?_;rintro e4 w4 ⟨rfl,rfl⟩)))
     all_goals
      go_wp2_with fail
      have hfc:=fin_cells (v0:= .bool false) (v1:= .slice A n c) (v2:= .int .i64 (x+PV)) (wr:=wr.setCell ⟨w.heap.size+1,2,none⟩ (.int .i64 (x+PV))) ((Below.heap_setCell _ _ _ _ (by simp)).trans HG.out.2)
      have r0:=blk_cell hfc (i:=0) (by simp)
      have r1:=blk_cell hfc (i:=1) (by simp)
      have r2:=blk_cell hfc (i:=2) (by simp)
      simp only [List.getElem_toArray,List.getElem_cons_zero,List.getElem_cons_succ] at r0 r1 r2
      exact bodyPost_ret (v:= .agg #[.bool false,.slice A n c,.int .i64 (x+PV)]) (by simp [results,Tryz.results64,go_sem,r0,r1,r2]) rfl
       (HST.out.fin (by rw [HLn.out];omega) (by rw [HS0.out];omega) HNg.out (by rw [←HPV.out,nats_extract,HE1.out,HLn.out,if_neg (by omega)]) (fun _=>by rw [HGet.out];exact HEt.out)
        (own_set (own_set (own_set (own_set HO.out (by omega)) (by omega)) (by omega)) (by omega)) ((((HB.out.setCell (by simp) _).setCell (by simp) _).setCell (by simp) _).setCell (by simp) _).drew)
   ·have q1:((ch:Int) !=101)=true:=bne_iff_ne.2 (by omega)
    have q2:((ch:Int) !=69)=true:=bne_iff_ne.2 (by omega)
    have hnE:isE ch=false:=by unfold isE;rw [beq_false_of_ne (by omega),beq_false_of_ne (by omega)];rfl
    have HNx:=Lib.hid (fun (wr':World) (bh':Bool) (b':List Nat) (x':Int) (A':Option Addr) (n' c':Nat)=>SpSt.next (wr':=wr') (bh':=bh') (b':=b') (x':=x') (A':=A') (n':=n') (c':=c') hst.out (by rw [HLn.out];exact hlt) hget hnE)
    clear hget hnE hst
    by_cases h46:ch=46
    ·subst h46
     clear q1 q2
     go_wp2_with fail
     exact ⟨⟨b,x,true,A,n,c,i+1,by omega,by omega,by omega,by omega,rfl,rfl,Lib.hid (HNx.out _ _ _ _ _ _ _ rfl HG.out.1 HG.out.2 HO.out HB.out HBn.out)⟩,by simp [intOf];omega⟩
    ·have q3:((ch:Int)==46)=false:=beq_false_of_ne (by omega)
     by_cases h48:ch=48∧n=0
     ·obtain ⟨rfl,rfl⟩:=h48
      cases bh
      ·go_wp2_with fail
       exact ⟨⟨b,x,false,A,0,c,i+1,by omega,by omega,by omega,by omega,rfl,rfl,Lib.hid (HNx.out _ _ _ _ _ _ _ (by unfold spStep;rw [if_neg (by decide),if_pos ⟨rfl,HBn.out⟩];rfl) HG.out.1 HG.out.2 HO.out HB.out HBn.out)⟩,by simp [intOf];omega⟩
      ·go_wp2_with fail
       exact ⟨⟨b,x-1,true,A,0,c,i+1,by omega,by omega,by omega,by omega,rfl,rfl,Lib.hid (HNx.out _ _ _ _ _ _ _ (by unfold spStep;rw [if_neg (by decide),if_pos ⟨rfl,HBn.out⟩];rfl) (by have:=blk_set HG.out.1 2 (.int .i64 (x-1));simpa using this) ((Below.heap_setCell _ _ _ _ (by simp)).trans HG.out.2) (own_set HO.out (by omega)) (HB.out.setCell (by simp) _) HBn.out)⟩,by simp [intOf];omega⟩
     ·have hap:∀(w5:World) (v':Value) (o:Obj),w5.ownsRow (w.heap.size+2) 5 1 v' (n+1) (ns b++[.int .u8 (ch:Int)])→(wr.alloc o).grownBy w5 (Value.ownBlock (.slice A n c))→
        ∃A' c',v'= .slice A' (n+1) c'∧w5.heap[w.heap.size+1]? =some (.cells #[.bool false,.slice A n c,.int .i64 x] 118 (0,0))∧w5.heap[w.heap.size]? =some (.cells #[.bool false,.slice none 0 0,.int .i64 0] 118 (0,0))∧w5.ownsRow (w.heap.size+2) 5 1 (.slice A' (n+1) c') (n+1) (ns (b++[ch]))∧Below w.heap.size w w5:=by
       intro w5 v' o hown hgrow
       obtain ⟨A',c',rfl,_⟩:=own_form hown
       have hk:∀g,g<w.heap.size+2→w5.heap[g]? =wr.heap[g]? :=fun g hg=>
        (hgrow.block g (by simp;omega) (fun e=>by have:=HO.out.lt g e.symm;omega)).trans (Below.heap_alloc _ _ _ (by omega))
       exact ⟨A',c',rfl,(hk _ (by omega)).trans HG.out.1,(hk _ (by omega)).trans HG.out.2,by rw [ns_app];exact hown,below_app1 (HB.out) HO.out (by omega) (by omega) hgrow⟩
      have HAp:=Lib.hid hap
      clear hap
      have hst3:∀bb,spStep ⟨b,x,bb⟩ ch=⟨b++[ch],if bb then x else x+1,bb⟩:=fun bb=>by
       unfold spStep
       rw [if_neg h46,if_neg (by rw [HBn.out];exact h48)]
      have HS3:=Lib.hid hst3
      have hbl:(b++[ch]).length=n+1:=by rw [List.length_append,HBn.out];rfl
      have HBl:=Lib.hid hbl
      clear hst3 hbl
      by_cases h9:ch=48
      ·subst h9
       have hn0:0<n:=by omega
       have q5:((n:Int)==0)=false:=beq_false_of_ne (by omega)
       cases bh
       ·skip
        go_wp2_with fail
        go_region_law (first
         | (refine step_app _ rfl (.tmp 31) (.tmp 35) _ rfl (w.heap.size+2) 5 iv (.int .u8 0) 1 1 Tryz.underlying22 hiv hv0 hv1 hv2 rfl (by omega) (.slice A n c) n (ns b) rfl (HO.out.alloc _) (wr.heap.size+1) (some ⟨wr.heap.size,0,none⟩) 1 1 [.int .u8 48] rfl rfl (Rd.new wr [.int .u8 48] 5) (by simp) (by intro u hu;simp at hu;subst hu;rfl) (by unfold maxLen;omega) (by omega) (by simp;omega) ?_;intro v' w5 hown' hgrow' hat';obtain ⟨A',c',hv',k1,k2,k3,k4⟩:=HAp.out w5 v' (.cells #[.int .u8 48] 5) hown' ⟨hgrow'.1,hgrow'.2,hgrow'.3,hgrow'.4,hgrow'.5⟩;subst hv';have n1:=blk_cell k1 (i:=1) (by simp);have n2:=blk_cell k1 (i:=2) (by simp);have n3:=blk_frozen k1 1;have n4:=blk_frozen k1 2;have n5:=lt_of_block k1;have HW5:=Lib.hid (And.intro k1 (And.intro k2 (And.intro k3 k4)));simp at n1 n2;clear hown' hgrow' hat' k1 k2 k3 k4;have hgs:=Lib.hid (blk_set HW5.out.1 1 (.slice A' (n+1) c'));have p2:=blk_cell hgs.out (i:=2) (by simp);simp at p2;have p3:=blk_frozen hgs.out 2))
        all_goals
         go_wp2_with fail
         exact ⟨⟨b++[48],x+1,false,A',n+1,c',i+1,by omega,by omega,by omega,by omega,rfl,rfl,Lib.hid (HNx.out _ _ _ _ _ _ _ (HS3.out false) (by have:=blk_set hgs.out 2 (.int .i64 (x+1));simpa using this) (((Below.heap_setCell _ _ _ _ (by simp)).trans (Below.heap_setCell _ _ _ _ (by simp))).trans HW5.out.2.1) (own_set (own_set HW5.out.2.2.1 (by omega)) (by omega)) ((HW5.out.2.2.2.setCell (by simp) _).setCell (by simp) _) HBl.out)⟩,by simp [intOf];omega⟩
       ·skip
        go_wp2_with fail
        go_region_law (first
         | (refine step_app _ rfl (.tmp 31) (.tmp 35) _ rfl (w.heap.size+2) 5 iv (.int .u8 0) 1 1 Tryz.underlying22 hiv hv0 hv1 hv2 rfl (by omega) (.slice A n c) n (ns b) rfl (HO.out.alloc _) (wr.heap.size+1) (some ⟨wr.heap.size,0,none⟩) 1 1 [.int .u8 48] rfl rfl (Rd.new wr [.int .u8 48] 5) (by simp) (by intro u hu;simp at hu;subst hu;rfl) (by unfold maxLen;omega) (by omega) (by simp;omega) ?_;intro v' w5 hown' hgrow' hat';obtain ⟨A',c',hv',k1,k2,k3,k4⟩:=HAp.out w5 v' (.cells #[.int .u8 48] 5) hown' ⟨hgrow'.1,hgrow'.2,hgrow'.3,hgrow'.4,hgrow'.5⟩;subst hv';have n1:=blk_cell k1 (i:=1) (by simp);have n2:=blk_cell k1 (i:=2) (by simp);have n3:=blk_frozen k1 1;have n4:=blk_frozen k1 2;have n5:=lt_of_block k1;have HW5:=Lib.hid (And.intro k1 (And.intro k2 (And.intro k3 k4)));simp at n1 n2;clear hown' hgrow' hat' k1 k2 k3 k4;have hgs:=Lib.hid (blk_set HW5.out.1 1 (.slice A' (n+1) c'));have p2:=blk_cell hgs.out (i:=2) (by simp);simp at p2;have p3:=blk_frozen hgs.out 2))
        all_goals
         go_wp2_with fail
         exact ⟨⟨b++[48],x,true,A',n+1,c',i+1,by omega,by omega,by omega,by omega,rfl,rfl,Lib.hid (HNx.out _ _ _ _ _ _ _ (HS3.out true) (by have:=hgs.out;simpa using this) ((Below.heap_setCell _ _ _ _ (by simp)).trans HW5.out.2.1) (own_set HW5.out.2.2.1 (by omega)) (HW5.out.2.2.2.setCell (by simp) _) HBl.out)⟩,by simp [intOf];omega⟩
      ·have q5:((ch:Int)==48)=false:=beq_false_of_ne (by omega)
       cases bh
       ·skip
        go_wp2_with fail
        go_region_law (first
         | (refine step_app _ rfl (.tmp 31) (.tmp 35) _ rfl (w.heap.size+2) 5 iv (.int .u8 0) 1 1 Tryz.underlying22 hiv hv0 hv1 hv2 rfl (by omega) (.slice A n c) n (ns b) rfl (HO.out.alloc _) (wr.heap.size+1) (some ⟨wr.heap.size,0,none⟩) 1 1 [.int .u8 (ch:Int)] rfl rfl (Rd.new wr [.int .u8 (ch:Int)] 5) (by simp) (by intro u hu;simp at hu;subst hu;rfl) (by unfold maxLen;omega) (by omega) (by simp;omega) ?_;intro v' w5 hown' hgrow' hat';obtain ⟨A',c',hv',k1,k2,k3,k4⟩:=HAp.out w5 v' (.cells #[.int .u8 (ch:Int)] 5) hown' ⟨hgrow'.1,hgrow'.2,hgrow'.3,hgrow'.4,hgrow'.5⟩;subst hv';have n1:=blk_cell k1 (i:=1) (by simp);have n2:=blk_cell k1 (i:=2) (by simp);have n3:=blk_frozen k1 1;have n4:=blk_frozen k1 2;have n5:=lt_of_block k1;have HW5:=Lib.hid (And.intro k1 (And.intro k2 (And.intro k3 k4)));simp at n1 n2;clear hown' hgrow' hat' k1 k2 k3 k4;have hgs:=Lib.hid (blk_set HW5.out.1 1 (.slice A' (n+1) c'));have p2:=blk_cell hgs.out (i:=2) (by simp);simp at p2;have p3:=blk_frozen hgs.out 2))
        all_goals
         go_wp2_with fail
         exact ⟨⟨b++[ch],x+1,false,A',n+1,c',i+1,by omega,by omega,by omega,by omega,rfl,rfl,Lib.hid (HNx.out _ _ _ _ _ _ _ (HS3.out false) (by have:=blk_set hgs.out 2 (.int .i64 (x+1));simpa using this) (((Below.heap_setCell _ _ _ _ (by simp)).trans (Below.heap_setCell _ _ _ _ (by simp))).trans HW5.out.2.1) (own_set (own_set HW5.out.2.2.1 (by omega)) (by omega)) ((HW5.out.2.2.2.setCell (by simp) _).setCell (by simp) _) HBl.out)⟩,by simp [intOf];omega⟩
       ·skip
        go_wp2_with fail
        go_region_law (first
         | (refine step_app _ rfl (.tmp 31) (.tmp 35) _ rfl (w.heap.size+2) 5 iv (.int .u8 0) 1 1 Tryz.underlying22 hiv hv0 hv1 hv2 rfl (by omega) (.slice A n c) n (ns b) rfl (HO.out.alloc _) (wr.heap.size+1) (some ⟨wr.heap.size,0,none⟩) 1 1 [.int .u8 (ch:Int)] rfl rfl (Rd.new wr [.int .u8 (ch:Int)] 5) (by simp) (by intro u hu;simp at hu;subst hu;rfl) (by unfold maxLen;omega) (by omega) (by simp;omega) ?_;intro v' w5 hown' hgrow' hat';obtain ⟨A',c',hv',k1,k2,k3,k4⟩:=HAp.out w5 v' (.cells #[.int .u8 (ch:Int)] 5) hown' ⟨hgrow'.1,hgrow'.2,hgrow'.3,hgrow'.4,hgrow'.5⟩;subst hv';have n1:=blk_cell k1 (i:=1) (by simp);have n2:=blk_cell k1 (i:=2) (by simp);have n3:=blk_frozen k1 1;have n4:=blk_frozen k1 2;have n5:=lt_of_block k1;have HW5:=Lib.hid (And.intro k1 (And.intro k2 (And.intro k3 k4)));simp at n1 n2;clear hown' hgrow' hat' k1 k2 k3 k4;have hgs:=Lib.hid (blk_set HW5.out.1 1 (.slice A' (n+1) c'));have p2:=blk_cell hgs.out (i:=2) (by simp);simp at p2;have p3:=blk_frozen hgs.out 2))
        all_goals
         go_wp2_with fail
         exact ⟨⟨b++[ch],x,true,A',n+1,c',i+1,by omega,by omega,by omega,by omega,rfl,rfl,Lib.hid (HNx.out _ _ _ _ _ _ _ (HS3.out true) (by have:=hgs.out;simpa using this) ((Below.heap_setCell _ _ _ _ (by simp)).trans HW5.out.2.1) (own_set HW5.out.2.2.1 (by omega)) (HW5.out.2.2.2.setCell (by simp) _) HBl.out)⟩,by simp [intOf];omega⟩
  ·have hil:i=s.size:=by omega
   subst hil
   have z0:=blk_frozen HG.out.2 0
   have z1:=blk_frozen HG.out.2 1
   have z2:=blk_frozen HG.out.2 2
   have y0:=blk_cell HG.out.2 (i:=0) (by simp)
   have y1:=blk_cell HG.out.2 (i:=1) (by simp)
   have y2:=blk_cell HG.out.2 (i:=2) (by simp)
   simp at y0 y1 y2
   go_wp2_with fail
   have hfc:=fin_cells (v0:= .bool false) (v1:= .slice A n c) (v2:= .int .i64 x) (wr:=wr) HG.out.2
   have r0:=blk_cell hfc (i:=0) (by simp)
   have r1:=blk_cell hfc (i:=1) (by simp)
   have r2:=blk_cell hfc (i:=2) (by simp)
   simp only [List.getElem_toArray,List.getElem_cons_zero,List.getElem_cons_succ] at r0 r1 r2
   exact bodyPost_ret (v:= .agg #[.bool false,.slice A n c,.int .i64 x]) (by simp [results,Tryz.results64,go_sem,r0,r1,r2]) rfl
    (HST.out.fin (by rw [HLn.out];omega) (by rw [HS0.out];omega) HNg.out (by rw [HLn.out,if_pos rfl,Int.add_zero]) (fun h=>by rw [HLn.out] at h;omega)
     (own_set (own_set (own_set HO.out (by omega)) (by omega)) (by omega)) (((HB.out.setCell (by simp) _).setCell (by simp) _).setCell (by simp) _))
end Go.Proofs.YtjhhdnnblcbdbaaGreatDoor.pg
end
section
namespace Go.Proofs.YtjhhdnnblcbdbaaGreatDoor.pg
open Go.RowKit mem fl big
set_option linter.unusedVariables false
set_option maxRecDepth 100000 in
set_option maxHeartbeats 4000000 in
theorem split_neg (s:ByteArray) (w:World) (h0:0<s.size) (hn:s.size≤1100000) (hE:∀k,k<s.size→isE ((nats s).getD k 0)=true→k+1<s.size) (hneg:(nats s).head? =some 45):
  Calls Tryz.prog 64 #[.string s] w (SpPost (nats s) w):=by
 have HSn:=Lib.hid (nats_snoc s)
 have HLn:=Lib.hid (nats_length s)
 have hc0:=nats_get s 0 h0
 obtain ⟨c0,hcc⟩:∃c0,(s[0]'h0).toNat=c0:=⟨_,rfl⟩
 have hc45:((c0:Int)==45)=true:=by
  rw [List.head?_eq_getElem?,List.getElem?_eq_getElem (by rw [nats_length];exact h0),hc0,hcc] at hneg
  injection hneg with hneg
  rw [hneg]
  decide
 have hst:st0 (nats s)=1:=by unfold st0;rw [if_pos hneg]
 have HS0:=Lib.hid hst
 have HNg:=Lib.hid (show decide ((nats s).head? =some 45)=true from decide_eq_true hneg)
 obtain ⟨iv,hiv,hv0,hv1,hv2⟩:=info_parts infoB
 go_enter Tryz.func64,Tryz.ntmps64
 go_wp2_with fail
 go_loopw [4,5] (fun v4 v5 wr=>∃(b:List Nat) (x:Int) (bh:Bool) (A:Option Addr) (n c i:Nat),i≤s.size∧n≤i∧ -(i:Int)≤x∧x≤i∧v4= .int .i64 (i:Int)∧v5= .bool bh∧Hid (SpSt (nats s) w true b x bh A n c i wr)) (fun v4 _ _=>s.size-(intOf v4).toNat)
 case atStart=>
  have k1:=heap_alloc_new w (.cells #[.bool false,.slice none 0 0,.int .i64 0] 118)
  have k2:=heap_alloc_new (w.alloc (.cells #[.bool false,.slice none 0 0,.int .i64 0] 118)) (.cells #[.bool false,.slice none 0 0,.int .i64 0] 118)
  have k3:(w.alloc (.cells #[.bool false,.slice none 0 0,.int .i64 0] 118)).heap.size=w.heap.size+1:=by simp
  rw [k3] at k2
  have k5:=heap_alloc_new (w.alloc (.cells #[.bool false,.slice none 0 0,.int .i64 0] 118)) (.cells #[.bool true,.slice none 0 0,.int .i64 0] 118)
  rw [k3] at k5
  refine ⟨[],0,false,none,0,0,1,by omega,by omega,by omega,by omega,rfl,rfl,Lib.hid ⟨k5,(Below.heap_alloc _ _ _ (by omega)).trans k1,World.ownsRow_nil _ _ _ _,((Below.refl _ _).alloc (Nat.le_refl _) _).alloc (by omega) _,?_,rfl,by rw [hst];omega,fun k h1 h2=>by rw [hst] at h1;omega⟩⟩
  rw [List.drop_of_length_le (by rw [hst,List.length_take];omega)]
  rfl
 case round=>
  obtain ⟨b,x,bh,A,n,c,i,hi,hni,hx1,hx2,rfl,rfl,hst⟩:=hrel
  have hst2:=hst.out
  obtain ⟨g1,g2,ho,hb,hf,hbn,hsi,hne⟩:=hst2
  have m0:=blk_cell g1 (i:=0) (by simp)
  have m1:=blk_cell g1 (i:=1) (by simp)
  have m2:=blk_cell g1 (i:=2) (by simp)
  have f1:=blk_frozen g1 1
  have f2:=blk_frozen g1 2
  have hsz1:=lt_of_block g1
  simp at m0 m1 m2
  have HO:=Lib.hid ho
  have HB:=Lib.hid hb
  have HG:=Lib.hid (And.intro g1 g2)
  have HBn:=Lib.hid hbn
  have HST:=hst
  clear g1 g2 ho hb hf hbn hsi hne
  by_cases hlt:i<s.size
  ·obtain ⟨ch,hch⟩:∃ch,(s[i]).toNat=ch:=⟨_,rfl⟩
   have hcb:ch<256:=by rw [←hch];exact UInt8.toNat_lt _
   have hget:(nats s).getD i 0=ch:=by
    have h1:=nats_get s i hlt
    rw [hch] at h1
    rw [List.getD_eq_getElem?_getD,List.getElem?_eq_getElem (by rw [nats_length];exact hlt),h1]
    rfl
   by_cases he:ch=101∨ch=69
   ·have hEt:isE ch=true:=by unfold isE;rcases he with rfl | rfl <;> rfl
    have hi1:i+1<s.size:=hE i hlt (by rw [hget];exact hEt)
    have HEt:=Lib.hid hEt
    have HGet:=Lib.hid hget
    clear hEt hget
    have z0:=blk_frozen HG.out.2 0
    have z1:=blk_frozen HG.out.2 1
    have z2:=blk_frozen HG.out.2 2
    have y0:=blk_cell HG.out.2 (i:=0) (by simp)
    have y1:=blk_cell HG.out.2 (i:=1) (by simp)
    have y2:=blk_cell HG.out.2 (i:=2) (by simp)
    simp at y0 y1 y2
    obtain ⟨i1,hi1e⟩:∃i1,i+1=i1:=⟨_,rfl⟩
    rw [hi1e] at hi1
    have hw1:IntKind.i64.wrap ((i:Int)+1)=(i1:Int):=by rw [IntKind.wrap_i64];omega
    have hle1:(i1:Int)≤s.size:=by omega
    have hsz2:(s.extract i1 s.size).size=s.size-i1:=by simp
    have hpb:=pwV_bd (nats (s.extract i1 s.size))
    have HPw:=Lib.hid (fun w=>power_any (s.extract i1 s.size) w (by omega) (by omega))
    obtain ⟨PV,hPV⟩:∃PV,pwV (nats (s.extract i1 s.size))=PV:=⟨_,rfl⟩
    rw [hPV] at HPw hpb
    have hw2:IntKind.i64.wrap (x+PV)=x+PV:=by rw [IntKind.wrap_i64];omega
    have HE1:=Lib.hid hi1e
    have HPV:=Lib.hid hPV
    have hg3:=blk_set HG.out.1 2 (.int .i64 (x+PV))
    have HG3:=Lib.hid hg3
    have s0:=blk_cell hg3 (i:=0) (by simp)
    have s1:=blk_cell hg3 (i:=1) (by simp)
    have s2:=blk_cell hg3 (i:=2) (by simp)
    simp at s0 s1 s2
    clear hi1e hPV hg3
    rcases he with rfl | rfl
    all_goals
     go_wp2_with fail
     go_region_law (first
      | (go_simp;go_at_call 96;go_must (refine (HPw.out _).mono ?_;rintro e4 w4 ⟨rfl,rfl⟩)))
     all_goals
      go_wp2_with fail
      have hfc:=fin_cells (v0:= .bool true) (v1:= .slice A n c) (v2:= .int .i64 (x+PV)) (wr:=wr.setCell ⟨w.heap.size+1,2,none⟩ (.int .i64 (x+PV))) ((Below.heap_setCell _ _ _ _ (by simp)).trans HG.out.2)
      have r0:=blk_cell hfc (i:=0) (by simp)
      have r1:=blk_cell hfc (i:=1) (by simp)
      have r2:=blk_cell hfc (i:=2) (by simp)
      simp only [List.getElem_toArray,List.getElem_cons_zero,List.getElem_cons_succ] at r0 r1 r2
      exact bodyPost_ret (v:= .agg #[.bool true,.slice A n c,.int .i64 (x+PV)]) (by simp [results,Tryz.results64,go_sem,r0,r1,r2]) rfl
       (HST.out.fin (by rw [HLn.out];omega) (by rw [HS0.out,HLn.out];omega) HNg.out (by rw [←HPV.out,nats_extract,HE1.out,HLn.out,if_neg (by omega)]) (fun _=>by rw [HGet.out];exact HEt.out)
        (own_set (own_set (own_set (own_set HO.out (by omega)) (by omega)) (by omega)) (by omega)) ((((HB.out.setCell (by simp) _).setCell (by simp) _).setCell (by simp) _).setCell (by simp) _).drew)
   ·have q1:((ch:Int) !=101)=true:=bne_iff_ne.2 (by omega)
    have q2:((ch:Int) !=69)=true:=bne_iff_ne.2 (by omega)
    have hnE:isE ch=false:=by unfold isE;rw [beq_false_of_ne (by omega),beq_false_of_ne (by omega)];rfl
    have HNx:=Lib.hid (fun (wr':World) (bh':Bool) (b':List Nat) (x':Int) (A':Option Addr) (n' c':Nat)=>SpSt.next (wr':=wr') (bh':=bh') (b':=b') (x':=x') (A':=A') (n':=n') (c':=c') hst.out (by rw [HLn.out];exact hlt) hget hnE)
    clear hget hnE hst
    by_cases h46:ch=46
    ·subst h46
     clear q1 q2
     go_wp2_with fail
     exact ⟨⟨b,x,true,A,n,c,i+1,by omega,by omega,by omega,by omega,rfl,rfl,Lib.hid (HNx.out _ _ _ _ _ _ _ rfl HG.out.1 HG.out.2 HO.out HB.out HBn.out)⟩,by simp [intOf];omega⟩
    ·have q3:((ch:Int)==46)=false:=beq_false_of_ne (by omega)
     by_cases h48:ch=48∧n=0
     ·obtain ⟨rfl,rfl⟩:=h48
      cases bh
      ·go_wp2_with fail
       exact ⟨⟨b,x,false,A,0,c,i+1,by omega,by omega,by omega,by omega,rfl,rfl,Lib.hid (HNx.out _ _ _ _ _ _ _ (by unfold spStep;rw [if_neg (by decide),if_pos ⟨rfl,HBn.out⟩];rfl) HG.out.1 HG.out.2 HO.out HB.out HBn.out)⟩,by simp [intOf];omega⟩
      ·go_wp2_with fail
       exact ⟨⟨b,x-1,true,A,0,c,i+1,by omega,by omega,by omega,by omega,rfl,rfl,Lib.hid (HNx.out _ _ _ _ _ _ _ (by unfold spStep;rw [if_neg (by decide),if_pos ⟨rfl,HBn.out⟩];rfl) (by have:=blk_set HG.out.1 2 (.int .i64 (x-1));simpa using this) ((Below.heap_setCell _ _ _ _ (by simp)).trans HG.out.2) (own_set HO.out (by omega)) (HB.out.setCell (by simp) _) HBn.out)⟩,by simp [intOf];omega⟩
     ·have hap:∀(w5:World) (v':Value) (o:Obj),w5.ownsRow (w.heap.size+2) 5 1 v' (n+1) (ns b++[.int .u8 (ch:Int)])→(wr.alloc o).grownBy w5 (Value.ownBlock (.slice A n c))→
        ∃A' c',v'= .slice A' (n+1) c'∧w5.heap[w.heap.size+1]? =some (.cells #[.bool true,.slice A n c,.int .i64 x] 118 (0,0))∧w5.heap[w.heap.size]? =some (.cells #[.bool false,.slice none 0 0,.int .i64 0] 118 (0,0))∧w5.ownsRow (w.heap.size+2) 5 1 (.slice A' (n+1) c') (n+1) (ns (b++[ch]))∧Below w.heap.size w w5:=by
       intro w5 v' o hown hgrow
       obtain ⟨A',c',rfl,_⟩:=own_form hown
       have hk:∀g,g<w.heap.size+2→w5.heap[g]? =wr.heap[g]? :=fun g hg=>
        (hgrow.block g (by simp;omega) (fun e=>by have:=HO.out.lt g e.symm;omega)).trans (Below.heap_alloc _ _ _ (by omega))
       exact ⟨A',c',rfl,(hk _ (by omega)).trans HG.out.1,(hk _ (by omega)).trans HG.out.2,by rw [ns_app];exact hown,below_app1 (HB.out) HO.out (by omega) (by omega) hgrow⟩
      have HAp:=Lib.hid hap
      clear hap
      have hst3:∀bb,spStep ⟨b,x,bb⟩ ch=⟨b++[ch],if bb then x else x+1,bb⟩:=fun bb=>by
       unfold spStep
       rw [if_neg h46,if_neg (by rw [HBn.out];exact h48)]
      have HS3:=Lib.hid hst3
      have hbl:(b++[ch]).length=n+1:=by rw [List.length_append,HBn.out];rfl
      have HBl:=Lib.hid hbl
      clear hst3 hbl
      by_cases h9:ch=48
      ·subst h9
       have hn0:0<n:=by omega
       have q5:((n:Int)==0)=false:=beq_false_of_ne (by omega)
       cases bh
       ·skip
        go_wp2_with fail
        go_region_law (first
         | (refine step_app _ rfl (.tmp 31) (.tmp 35) _ rfl (w.heap.size+2) 5 iv (.int .u8 0) 1 1 Tryz.underlying22 hiv hv0 hv1 hv2 rfl (by omega) (.slice A n c) n (ns b) rfl (HO.out.alloc _) (wr.heap.size+1) (some ⟨wr.heap.size,0,none⟩) 1 1 [.int .u8 48] rfl rfl (Rd.new wr [.int .u8 48] 5) (by simp) (by intro u hu;simp at hu;subst hu;rfl) (by unfold maxLen;omega) (by omega) (by simp;omega) ?_;intro v' w5 hown' hgrow' hat';obtain ⟨A',c',hv',k1,k2,k3,k4⟩:=HAp.out w5 v' (.cells #[.int .u8 48] 5) hown' ⟨hgrow'.1,hgrow'.2,hgrow'.3,hgrow'.4,hgrow'.5⟩;subst hv';have n1:=blk_cell k1 (i:=1) (by simp);have n2:=blk_cell k1 (i:=2) (by simp);have n3:=blk_frozen k1 1;have n4:=blk_frozen k1 2;have n5:=lt_of_block k1;have HW5:=Lib.hid (And.intro k1 (And.intro k2 (And.intro k3 k4)));simp at n1 n2;clear hown' hgrow' hat' k1 k2 k3 k4;have hgs:=Lib.hid (blk_set HW5.out.1 1 (.slice A' (n+1) c'));have p2:=blk_cell hgs.out (i:=2) (by simp);simp at p2;have p3:=blk_frozen hgs.out 2))
        all_goals
         go_wp2_with fail
         exact ⟨⟨b++[48],x+1,false,A',n+1,c',i+1,by omega,by omega,by omega,by omega,rfl,rfl,Lib.hid (HNx.out _ _ _ _ _ _ _ (HS3.out false) (by have:=blk_set hgs.out 2 (.int .i64 (x+1));simpa using this) (((Below.heap_setCell _ _ _ _ (by simp)).trans (Below.heap_setCell _ _ _ _ (by simp))).trans HW5.out.2.1) (own_set (own_set HW5.out.2.2.1 (by omega)) (by omega)) ((HW5.out.2.2.2.setCell (by simp) _).setCell (by simp) _) HBl.out)⟩,by simp [intOf];omega⟩
       ·skip
        go_wp2_with fail
        go_region_law (first
         | (refine step_app _ rfl (.tmp 31) (.tmp 35) _ rfl (w.heap.size+2) 5 iv (.int .u8 0) 1 1 Tryz.underlying22 hiv hv0 hv1 hv2 rfl (by omega) (.slice A n c) n (ns b) rfl (HO.out.alloc _) (wr.heap.size+1) (some ⟨wr.heap.size,0,none⟩) 1 1 [.int .u8 48] rfl rfl (Rd.new wr [.int .u8 48] 5) (by simp) (by intro u hu;simp at hu;subst hu;rfl) (by unfold maxLen;omega) (by omega) (by simp;omega) ?_;intro v' w5 hown' hgrow' hat';obtain ⟨A',c',hv',k1,k2,k3,k4⟩:=HAp.out w5 v' (.cells #[.int .u8 48] 5) hown' ⟨hgrow'.1,hgrow'.2,hgrow'.3,hgrow'.4,hgrow'.5⟩;subst hv';have n1:=blk_cell k1 (i:=1) (by simp);have n2:=blk_cell k1 (i:=2) (by simp);have n3:=blk_frozen k1 1;have n4:=blk_frozen k1 2;have n5:=lt_of_block k1;have HW5:=Lib.hid (And.intro k1 (And.intro k2 (And.intro k3 k4)));simp at n1 n2;clear hown' hgrow' hat' k1 k2 k3 k4;have hgs:=Lib.hid (blk_set HW5.out.1 1 (.slice A' (n+1) c'));have p2:=blk_cell hgs.out (i:=2) (by simp);simp at p2;have p3:=blk_frozen hgs.out 2))
        all_goals
         go_wp2_with fail
         exact ⟨⟨b++[48],x,true,A',n+1,c',i+1,by omega,by omega,by omega,by omega,rfl,rfl,Lib.hid (HNx.out _ _ _ _ _ _ _ (HS3.out true) (by have:=hgs.out;simpa using this) ((Below.heap_setCell _ _ _ _ (by simp)).trans HW5.out.2.1) (own_set HW5.out.2.2.1 (by omega)) (HW5.out.2.2.2.setCell (by simp) _) HBl.out)⟩,by simp [intOf];omega⟩
      ·have q5:((ch:Int)==48)=false:=beq_false_of_ne (by omega)
       cases bh
       ·skip
        go_wp2_with fail
        go_region_law (first
         | (refine step_app _ rfl (.tmp 31) (.tmp 35) _ rfl (w.heap.size+2) 5 iv (.int .u8 0) 1 1 Tryz.underlying22 hiv hv0 hv1 hv2 rfl (by omega) (.slice A n c) n (ns b) rfl (HO.out.alloc _) (wr.heap.size+1) (some ⟨wr.heap.size,0,none⟩) 1 1 [.int .u8 (ch:Int)] rfl rfl (Rd.new wr [.int .u8 (ch:Int)] 5) (by simp) (by intro u hu;simp at hu;subst hu;rfl) (by unfold maxLen;omega) (by omega) (by simp;omega) ?_;intro v' w5 hown' hgrow' hat';obtain ⟨A',c',hv',k1,k2,k3,k4⟩:=HAp.out w5 v' (.cells #[.int .u8 (ch:Int)] 5) hown' ⟨hgrow'.1,hgrow'.2,hgrow'.3,hgrow'.4,hgrow'.5⟩;subst hv';have n1:=blk_cell k1 (i:=1) (by simp);have n2:=blk_cell k1 (i:=2) (by simp);have n3:=blk_frozen k1 1;have n4:=blk_frozen k1 2;have n5:=lt_of_block k1;have HW5:=Lib.hid (And.intro k1 (And.intro k2 (And.intro k3 k4)));simp at n1 n2;clear hown' hgrow' hat' k1 k2 k3 k4;have hgs:=Lib.hid (blk_set HW5.out.1 1 (.slice A' (n+1) c'));have p2:=blk_cell hgs.out (i:=2) (by simp);simp at p2;have p3:=blk_frozen hgs.out 2))
        all_goals
         go_wp2_with fail
         exact ⟨⟨b++[ch],x+1,false,A',n+1,c',i+1,by omega,by omega,by omega,by omega,rfl,rfl,Lib.hid (HNx.out _ _ _ _ _ _ _ (HS3.out false) (by have:=blk_set hgs.out 2 (.int .i64 (x+1));simpa using this) (((Below.heap_setCell _ _ _ _ (by simp)).trans (Below.heap_setCell _ _ _ _ (by simp))).trans HW5.out.2.1) (own_set (own_set HW5.out.2.2.1 (by omega)) (by omega)) ((HW5.out.2.2.2.setCell (by simp) _).setCell (by simp) _) HBl.out)⟩,by simp [intOf];omega⟩
       ·skip
        go_wp2_with fail
        go_region_law (first
         | (refine step_app _ rfl (.tmp 31) (.tmp 35) _ rfl (w.heap.size+2) 5 iv (.int .u8 0) 1 1 Tryz.underlying22 hiv hv0 hv1 hv2 rfl (by omega) (.slice A n c) n (ns b) rfl (HO.out.alloc _) (wr.heap.size+1) (some ⟨wr.heap.size,0,none⟩) 1 1 [.int .u8 (ch:Int)] rfl rfl (Rd.new wr [.int .u8 (ch:Int)] 5) (by simp) (by intro u hu;simp at hu;subst hu;rfl) (by unfold maxLen;omega) (by omega) (by simp;omega) ?_;intro v' w5 hown' hgrow' hat';obtain ⟨A',c',hv',k1,k2,k3,k4⟩:=HAp.out w5 v' (.cells #[.int .u8 (ch:Int)] 5) hown' ⟨hgrow'.1,hgrow'.2,hgrow'.3,hgrow'.4,hgrow'.5⟩;subst hv';have n1:=blk_cell k1 (i:=1) (by simp);have n2:=blk_cell k1 (i:=2) (by simp);have n3:=blk_frozen k1 1;have n4:=blk_frozen k1 2;have n5:=lt_of_block k1;have HW5:=Lib.hid (And.intro k1 (And.intro k2 (And.intro k3 k4)));simp at n1 n2;clear hown' hgrow' hat' k1 k2 k3 k4;have hgs:=Lib.hid (blk_set HW5.out.1 1 (.slice A' (n+1) c'));have p2:=blk_cell hgs.out (i:=2) (by simp);simp at p2;have p3:=blk_frozen hgs.out 2))
        all_goals
         go_wp2_with fail
         exact ⟨⟨b++[ch],x,true,A',n+1,c',i+1,by omega,by omega,by omega,by omega,rfl,rfl,Lib.hid (HNx.out _ _ _ _ _ _ _ (HS3.out true) (by have:=hgs.out;simpa using this) ((Below.heap_setCell _ _ _ _ (by simp)).trans HW5.out.2.1) (own_set HW5.out.2.2.1 (by omega)) (HW5.out.2.2.2.setCell (by simp) _) HBl.out)⟩,by simp [intOf];omega⟩
  ·have hil:i=s.size:=by omega
   subst hil
   have z0:=blk_frozen HG.out.2 0
   have z1:=blk_frozen HG.out.2 1
   have z2:=blk_frozen HG.out.2 2
   have y0:=blk_cell HG.out.2 (i:=0) (by simp)
   have y1:=blk_cell HG.out.2 (i:=1) (by simp)
   have y2:=blk_cell HG.out.2 (i:=2) (by simp)
   simp at y0 y1 y2
   go_wp2_with fail
   have hfc:=fin_cells (v0:= .bool true) (v1:= .slice A n c) (v2:= .int .i64 x) (wr:=wr) HG.out.2
   have r0:=blk_cell hfc (i:=0) (by simp)
   have r1:=blk_cell hfc (i:=1) (by simp)
   have r2:=blk_cell hfc (i:=2) (by simp)
   simp only [List.getElem_toArray,List.getElem_cons_zero,List.getElem_cons_succ] at r0 r1 r2
   exact bodyPost_ret (v:= .agg #[.bool true,.slice A n c,.int .i64 x]) (by simp [results,Tryz.results64,go_sem,r0,r1,r2]) rfl
    (HST.out.fin (by rw [HLn.out];omega) (by rw [HS0.out,HLn.out];omega) HNg.out (by rw [HLn.out,if_pos rfl,Int.add_zero]) (fun h=>by rw [HLn.out] at h;omega)
     (own_set (own_set (own_set HO.out (by omega)) (by omega)) (by omega)) (((HB.out.setCell (by simp) _).setCell (by simp) _).setCell (by simp) _))
end Go.Proofs.YtjhhdnnblcbdbaaGreatDoor.pg
end
