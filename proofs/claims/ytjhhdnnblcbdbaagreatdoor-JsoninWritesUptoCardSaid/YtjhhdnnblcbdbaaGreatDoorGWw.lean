/- Words on arrays that a call lays: a composite literal of an array, its variable, its store, as closed facts. escape: which letter stands behind the backslash; a block more (its table). appendText: what it writes behind a row of bytes that the call owns. The library's contracts that these texts use, laid at this dump (plain text that the kit's tools lay-shelf.mjs and lay-plain.mjs printed). utf.Clean, jsonout.Text at every text. What the lifts of JsoninTexts, JsoninKeys, JsoninWrites share: the tables that the listed variables' readings give; a world that lays them; the witness. jsonout.lookText at a clean text. lookNames over any members: the first fault of their names. lookNames over any members. look over any value: its first fault. look over a list, an object; over any value. appendValue of a value without children. appendValue of a list. appendValue of an object; of any value. What Write and Size defer. Write, whatever the value. tree.kind. number.Same of finite floats; tree.plain of values of one kind. tree.Equal, by kinds. tree.Equal of objects. tree.Equal of one good value, read at two places. JsoninWrites, walked. -/
import Derived.Test.YtjhhdnnblcbdbaaGreatDoorGMem
import Derived.Laws.Tables
import Derived.Test.YtjhhdnnblcbdbaaGreatDoorGKp
import Derived.Test.YtjhhdnnblcbdbaaGreatDoorProg
import Derived.KernelRfl
import Derived.Deep.Cut
import Derived.Test.YtjhhdnnblcbdbaaGreatDoorShelf
import Derived.Lib.OthersKept
import Derived.Lib.RuneCount
import Derived.OpenShut
import Derived.Deep.DeepMust
import Derived.WalkSpells
import Derived.Deep.RegionLaw
import Derived.Deep.RegionWith
import Derived.Shelf.LaysM
import Derived.Shelf.Unicode.ValidAny
import Derived.Test.YtjhhdnnblcbdbaaGreatDoorGVal
import Derived.Lib.LaidU8T
import Derived.Shelf.Unicode.DecodeSlow
import Derived.Laws.Rows
import Derived.Test.YtjhhdnnblcbdbaaGreatDoorYUpE
import Derived.Lib.AppendStr
import Derived.Recover
import Derived.Defers
import Derived.Laws.Pointers
import Derived.Test.YtjhhdnnblcbdbaaGreatDoorGEt
import Derived.Test.YtjhhdnnblcbdbaaGreatDoorGJm
import Derived.Handy
import Derived.WalkLawsBesides
import Derived.Deep.RegionHeld3
import Derived.Deep.CutRange
import Derived.Test.YtjhhdnnblcbdbaaGreatDoorGJs
import Derived.Test.YtjhhdnnblcbdbaaGreatDoorGJw
section
set_option linter.unusedVariables false
namespace Go.Proofs.YtjhhdnnblcbdbaaGreatDoor.arr
open Go.RowKit
section
variable {P:Program}
theorem run_alloc_new (w:World) (t:TypeId) (old:Value) (z:Value) (hz:(P.info? t).bind (·.zero)=some z):(Instr.alloc t true old).run P w= .ok (.pointer (some ⟨w.heap.size,0,none⟩)) (w.alloc (.cells z.cells t)):=by
 cases hi:P.info? t with
 | none=>simp [hi] at hz
 | some i=>
   simp only [hi,Option.bind_some] at hz
   simp [Instr.alloc,zeroValue,typeInfo,hi,hz,newVar,newRow,newObj,Sem.run,Result.andThen]
   try rfl
theorem wpList_allocNew {ops:Array Oper} {rest:List Oper} {o:Oper} {a:Act} {w:World} {Q:Exit→Act→World→Prop} (hg:o.guard=none) (t:TypeId) (ho:o.op= .alloc t) (d:Tmp) (hd:o.dst=some d)
  (z:Value) (hz:(P.info? t).bind (·.zero)=some z)
  (h:wpList P ops Q rest (a.put o.dst (.pointer (some ⟨w.heap.size,0,none⟩))) (w.alloc (.cells z.cells t))):wpList P ops Q (o :: rest) a w:=
 wpList_plain hg fun _ hK=>by
  unfold Oper.wp execOp
  simp only [ho,Sem.run_bind,run_alloc_new w t _ z hz,Result.andThen_ok]
  exact hK _ _ h
theorem wpList_allocTo {ops:Array Oper} {rest:List Oper} {o:Oper} {a:Act} {w:World} {Q:Exit→Act→World→Prop} (hg:o.guard=none) (t:TypeId) (ho:o.op= .alloc t) (d:Tmp) (hd:o.dst=some d)
  (zc:Array Value) (hz:((P.info? t).bind (·.zero)).map (·.cells)=some zc)
  (h:wpList P ops Q rest (a.put (some d) (.pointer (some ⟨w.heap.size,0,none⟩))) (w.alloc (.cells zc t))):wpList P ops Q (o :: rest) a w:=by
 cases hi:(P.info? t).bind (·.zero) with
 | none=>simp [hi] at hz
 | some z=>
   simp only [hi,Option.map_some,Option.some.injEq] at hz
   subst hz
   exact wpList_allocNew hg t ho d hd z hi (hd▸h)
theorem wpList_buildTo {ops:Array Oper} {rest:List Oper} {o:Oper} {a:Act} {w:World} {Q:Exit→Act→World→Prop} (hg:o.guard=none) (t:TypeId) (parts:Array (Nat×Operand)) (ho:o.op= .build t parts) (d:Tmp) (hd:o.dst=some d)
  (cells:Array Value) (hf:P.built t (parts.map fun (i,x)=>(i,a.eval x)).toList=some cells)
  (h:wpList P ops Q rest (a.put (some d) (.agg cells)) w):wpList P ops Q (o :: rest) a w:=
 wpList_plain hg fun _ hK=>by
  unfold Oper.wp execOp
  simp only [ho,Sem.run_bind,run_build w t _ cells hf,Result.andThen_ok]
  have:=hK _ _ h
  rw [←hd] at this
  exact this
theorem setRow_new (w:World) (a b:Array Value) (t:TypeId):(w.alloc (.cells a t)).setRow w.heap.size b=w.alloc (.cells b t):=by
 unfold World.setRow World.alloc
 congr 1
 apply Array.ext
 ·simp
 ·intro i h1 h2
  simp only [Array.getElem_modify,Array.getElem_push]
  simp at h1
  split <;> split <;> first | rfl | omega | (exfalso;omega) | simp_all
theorem wpList_storeNew {ops:Array Oper} {rest:List Oper} {o:Oper} {a:Act} {w:World} {Q:Exit→Act→World→Prop} (hg:o.guard=none) (ty:TypeId) (x y:Operand) (ho:o.op= .store ty x y) (hd:o.dst=none)
  (cells old:Array Value) (hx:a.eval x= .pointer (some ⟨w.heap.size,0,none⟩)) (hy:a.eval y= .agg cells)
  (hi:(P.info? ty).map (·.size)=some cells.size) (hold:old.size=cells.size) (h1:cells.all (·.oneCell')=true)
  (h:wpList P ops Q rest a (w.alloc (.cells cells ty))):wpList P ops Q (o :: rest) a (w.alloc (.cells old ty)):=
 wpList_store_row hg ty x y ho w.heap.size cells hx hy ty old (heap_alloc_new w _) hi hold h1 (by rw [hd,setRow_new];exact h)
end
end Go.Proofs.YtjhhdnnblcbdbaaGreatDoor.arr
end
section
namespace Go.Proofs.YtjhhdnnblcbdbaaGreatDoor.esc
open Go.RowKit mem txt arr
set_option linter.unusedVariables false
def tabL:List Value:=[.int .u8 0,.int .u8 0,.int .u8 0,.int .u8 0,.int .u8 0,.int .u8 0,.int .u8 0,.int .u8 0,.int .u8 98,.int .u8 116,.int .u8 110,.int .u8 0,.int .u8 102,.int .u8 114,.int .u8 0,.int .u8 0,.int .u8 0,.int .u8 0,.int .u8 0,.int .u8 0,.int .u8 0,.int .u8 0,.int .u8 0,.int .u8 0,.int .u8 0,.int .u8 0,.int .u8 0,.int .u8 0,.int .u8 0,.int .u8 0,.int .u8 0,.int .u8 0]
def tabN (r:Nat):Nat:=if r=8 then 98 else if r=9 then 116 else if r=10 then 110 else if r=12 then 102 else if r=13 then 114 else 0
theorem tabL_at:∀(r:Nat),r<32→tabL[r]? =some (.int .u8 (tabN r:Nat))
 | 0,_=>rfl
 | 1,_=>rfl
 | 2,_=>rfl
 | 3,_=>rfl
 | 4,_=>rfl
 | 5,_=>rfl
 | 6,_=>rfl
 | 7,_=>rfl
 | 8,_=>rfl
 | 9,_=>rfl
 | 10,_=>rfl
 | 11,_=>rfl
 | 12,_=>rfl
 | 13,_=>rfl
 | 14,_=>rfl
 | 15,_=>rfl
 | 16,_=>rfl
 | 17,_=>rfl
 | 18,_=>rfl
 | 19,_=>rfl
 | 20,_=>rfl
 | 21,_=>rfl
 | 22,_=>rfl
 | 23,_=>rfl
 | 24,_=>rfl
 | 25,_=>rfl
 | 26,_=>rfl
 | 27,_=>rfl
 | 28,_=>rfl
 | 29,_=>rfl
 | 30,_=>rfl
 | 31,_=>rfl
 | n+32,h=>by omega
theorem escB_tab {r:Nat} (h:r<32):escB r=if tabN r=0 then 117 else tabN r:=by
 unfold escB tabN
 repeat' split
 all_goals omega
def tabA:Array Value:=tabL.toArray
def zeroA:Array Value:=(List.replicate 32 (Value.int .u8 0)).toArray
set_option maxRecDepth 100000 in
theorem escape_lo (r:Nat) (h:r<32) (w:World):Calls Tryz.prog 72 #[.int .i32 r] w fun e w'=>e= .returned (.int .u8 (escB r))∧∃o,w'=w.alloc o:=by
 have b1:((r:Int)==34)=false:=by simp;omega
 have b2:((r:Int)==92)=false:=by simp;omega
 have d3:decide ((r:Int)≥32)=false:=decide_eq_false (by omega)
 rw [escB_tab h]
 obtain ⟨t,ht⟩:∃t,tabN r=t:=⟨_,rfl⟩
 rw [ht]
 go_enter Tryz.func72,Tryz.ntmps72
 go_upto_region 2 with (first | (refine wpList_buildTo rfl 160 _ rfl 4 rfl tabA (by kernel_rfl) ?_) | (refine wpList_allocTo rfl 160 rfl 3 rfl zeroA (by kernel_rfl) ?_) | (refine wpList_storeNew rfl 160 (.tmp 3) (.tmp 4) rfl rfl tabA zeroA rfl rfl (by kernel_rfl) rfl (by kernel_rfl) ?_))
 have hc:(w.alloc (.cells tabA 160)).cell? ⟨w.heap.size,r,none⟩=some (.int .u8 (t:Nat)):=by
  rw [←ht,cell_of_row (w.alloc (.cells tabA 160)) w.heap.size r tabA 160 (0,0) (heap_alloc_new w _)]
  simpa [tabA] using tabL_at r h
 obtain ⟨W,hW⟩:∃W,w.alloc (.cells tabA 160)=W:=⟨_,rfl⟩
 rw [hW] at hc ⊢
 generalize tabA=TA at*
 have HW:=Lib.hid hW
 clear hW
 by_cases h0:t=0
 ·subst h0
  go_wp2
  go_ret
  exact ⟨rfl,_,HW.out.symm⟩
 ·have b4:((t:Int)==0)=false:=by simp;omega
  have b5:((t:Int) !=0)=true:=by simp;omega
  go_wp2
  go_ret
  exact ⟨rfl,_,HW.out.symm⟩
set_option maxRecDepth 100000 in
theorem escape_hi (r:Nat) (h:32≤r) (hr:r≤1114111) (w:World):Calls Tryz.prog 72 #[.int .i32 r] w fun e w'=>e= .returned (.int .u8 (escB r))∧∃o,w'=w.alloc o:=by
 have d3:decide ((r:Int)≥32)=true:=decide_eq_true (by omega)
 by_cases h1:r=34
 ·subst h1
  go_enter Tryz.func72,Tryz.ntmps72
  go_upto_region 2 with (first | (refine wpList_buildTo rfl 160 _ rfl 4 rfl tabA (by kernel_rfl) ?_) | (refine wpList_allocTo rfl 160 rfl 3 rfl zeroA (by kernel_rfl) ?_) | (refine wpList_storeNew rfl 160 (.tmp 3) (.tmp 4) rfl rfl tabA zeroA rfl rfl (by kernel_rfl) rfl (by kernel_rfl) ?_))
  generalize tabA=TA at*
  go_wp2
  go_ret
  exact ⟨rfl,_,rfl⟩
 ·by_cases h2:r=92
  ·subst h2
   go_enter Tryz.func72,Tryz.ntmps72
   go_upto_region 2 with (first | (refine wpList_buildTo rfl 160 _ rfl 4 rfl tabA (by kernel_rfl) ?_) | (refine wpList_allocTo rfl 160 rfl 3 rfl zeroA (by kernel_rfl) ?_) | (refine wpList_storeNew rfl 160 (.tmp 3) (.tmp 4) rfl rfl tabA zeroA rfl rfl (by kernel_rfl) rfl (by kernel_rfl) ?_))
   generalize tabA=TA at*
   go_wp2
   go_ret
   exact ⟨rfl,_,rfl⟩
  ·have b1:((r:Int)==34)=false:=by simp;omega
   have b2:((r:Int)==92)=false:=by simp;omega
   rw [show escB r=0 by unfold escB;rw [if_neg (by omega),if_pos h]]
   go_enter Tryz.func72,Tryz.ntmps72
   go_upto_region 2 with (first | (refine wpList_buildTo rfl 160 _ rfl 4 rfl tabA (by kernel_rfl) ?_) | (refine wpList_allocTo rfl 160 rfl 3 rfl zeroA (by kernel_rfl) ?_) | (refine wpList_storeNew rfl 160 (.tmp 3) (.tmp 4) rfl rfl tabA zeroA rfl rfl (by kernel_rfl) rfl (by kernel_rfl) ?_))
   generalize tabA=TA at*
   go_wp2
   go_ret
   exact ⟨rfl,_,rfl⟩
theorem escape_any (r:Nat) (hr:r≤1114111) (w:World):Calls Tryz.prog 72 #[.int .i32 r] w fun e w'=>e= .returned (.int .u8 (escB r))∧∃o,w'=w.alloc o:=by
 by_cases h:r<32
 ·exact escape_lo r h w
 ·exact escape_hi r (by omega) hr w
end Go.Proofs.YtjhhdnnblcbdbaaGreatDoor.esc
end
section
namespace Go.Proofs.YtjhhdnnblcbdbaaGreatDoor.app
open Go.RowKit mem txt esc
set_option linter.unusedVariables false
def zs (l:List Int):List Value:=l.map fun x=>Value.int .u8 x
theorem zs_append (l r:List Int):zs (l++r)=zs l++zs r:=by simp [zs]
theorem infoB:(Tryz.prog.info? 5).map (fun i=>(i.zero,i.size,i.bytes))=some (some (.int .u8 0),1,1):=by kernel_rfl
theorem own_kept {w w':World} {base:Nat} {e:TypeId} {size n:Nat} {v:Value} {xs:List Value} (h:w.ownsRow base e size v n xs) (hk:∀g,v.ownBlock=some g→w'.heap[g]? =w.heap[g]?):w'.ownsRow base e size v n xs:=by
 refine ⟨h.1,?_⟩
 rcases h.2 with h0 | ⟨g,cap,cur,hv,hb,hg,hr⟩
 ·exact .inl h0
 ·exact .inr ⟨g,cap,cur,hv,hb,(hk g (by rw [hv];rfl)).trans hg,hr⟩
theorem own_cells {w:World} {base:Nat} {e:TypeId} {size n:Nat} {v:Value} {xs:List Value} (h:w.ownsRow base e size v n xs):∀g,v.ownBlock=some g→∃cur,w.heap[g]? =some (.cells cur e (0,0)):=by
 intro g hg
 rcases h.2 with ⟨rfl,_⟩ | ⟨g',cap,cur,rfl,_,hgg,_⟩
 ·simp [Value.ownBlock] at hg
 ·simp [Value.ownBlock] at hg
  subst hg
  exact ⟨cur,hgg⟩
theorem own_iterAt {w:World} {base:Nat} {e:TypeId} {size n:Nat} {v:Value} {xs:List Value} (h:w.ownsRow base e size v n xs) {k:Nat} {s:ByteArray} {pos:Nat} (hk:w.heap[k]? =some (.stringIter s pos)) (pos':Nat):(w.iterAt k s pos').ownsRow base e size v n xs:=
 own_kept h fun g hg=>Lib.iterAt_other w k g s pos' fun e1=>by
  obtain ⟨cur,hc⟩:=own_cells h g hg
  rw [e1,hk] at hc
  cases hc
theorem iter_grown {w w':World} {base:Nat} {e:TypeId} {size n:Nat} {v:Value} {xs:List Value} (h:w.ownsRow base e size v n xs) {k:Nat} {s:ByteArray} {pos:Nat} (hk:w.heap[k]? =some (.stringIter s pos)) (hg:w.grownBy w' v.ownBlock):w'.heap[k]? =some (.stringIter s pos):=by
 have hlt:k<w.heap.size:=(Array.getElem?_eq_some_iff.1 hk).1
 rw [hg.block k hlt ?_]
 ·exact hk
 ·intro h2
  obtain ⟨cur,hc⟩:=own_cells h k h2.symm
  rw [hk] at hc
  cases hc
theorem iter_alloc {w:World} {k:Nat} {s:ByteArray} {pos:Nat} (hk:w.heap[k]? =some (.stringIter s pos)) (o:Obj):(w.alloc o).heap[k]? =some (.stringIter s pos):=
 (Lib.alloc_old w o k (Array.getElem?_eq_some_iff.1 hk).1).trans hk
theorem and15:∀r:Fin 32,bits .and .i32 (r.val:Int) 15=((r.val % 16:Nat):Int):=by decide
theorem digits_at:∀(x:Nat) (h:x<16),((⟨#[48,49,50,51,52,53,54,55,56,57,97,98,99,100,101,102]⟩:ByteArray)[x]'h).toNat=hexd x
 | 0,_=>rfl
 | 1,_=>rfl
 | 2,_=>rfl
 | 3,_=>rfl
 | 4,_=>rfl
 | 5,_=>rfl
 | 6,_=>rfl
 | 7,_=>rfl
 | 8,_=>rfl
 | 9,_=>rfl
 | 10,_=>rfl
 | 11,_=>rfl
 | 12,_=>rfl
 | 13,_=>rfl
 | 14,_=>rfl
 | 15,_=>rfl
 | n+16,h=>by omega
theorem kept_iterAt {a w:World} (h:Lib.OthersKept 5 none a w) {k:Nat} (hk:a.heap.size≤k) (s:ByteArray) (pos:Nat):Lib.OthersKept 5 none a (w.iterAt k s pos):=
 fun j o hj hb ho=>by
  have hlt:j<a.heap.size:=(Array.getElem?_eq_some_iff.1 hj).1
  rw [Lib.iterAt_other _ _ _ _ _ (by omega)]
  exact h j o hj hb ho
theorem kept_app {a w w':World} {base n:Nat} {v:Value} {xs:List Value} {o:Obj} (h:Lib.OthersKept 5 none a w) (hown:w.ownsRow base 5 1 v n xs) (hg:(w.alloc o).grownBy w' v.ownBlock):Lib.OthersKept 5 none a w':=
 (h.alloc o).grown hg fun g hgv=>by
  obtain ⟨cur,hc⟩:=own_cells (hown.alloc o) g hgv
  exact ⟨cur,_,hc⟩
def RowPost (B n:Nat) (xs:List Value) (out:List Int) (w:World) (e:Ending) (w':World):Prop:=
 ∃v',e= .returned v'∧w'.ownsRow B 5 1 v' (n+out.length) (xs++zs out)∧Below B w w'∧Lib.OthersKept 5 none w w'
set_option maxRecDepth 100000 in
set_option maxHeartbeats 4000000 in
theorem appendText_any (s:ByteArray) (hs:s.size≤4194304) (B:Nat) (v:Value) (n:Nat) (xs:List Value) (w:World) (hown:w.ownsRow B 5 1 v n xs) (hB:B≤w.heap.size) (hn:n≤1099511627776):
  Calls Tryz.prog 43 #[v,.string s] w (RowPost B n xs (quoteZ s.data.toList) w):=by
 obtain ⟨iv,hiv,hv0,hv1,hv2⟩:=info_parts infoB
 have HO:=Lib.hid hown
 clear hown
 go_enter Tryz.func43,Tryz.ntmps43
 go_wp2_with (at_builtin;go_must (refine wpList_app _ rfl (.tmp 8) (.tmp 9) _ rfl B 5 iv (.int .u8 0) 1 1 Tryz.underlying22 hiv hv0 hv1 hv2 rfl (by omega) v n xs rfl (HO.out.alloc _) (w.heap.size+1) (some ⟨w.heap.size,0,none⟩) 1 1 [.int .u8 34] rfl rfl (Rd.new w [.int .u8 34] 5) (by simp) (by intro u hu;simp at hu;subst hu;rfl) (by unfold maxLen;omega) (by omega) (by simp;omega) ?_;intro v1 w1 hown1 hgrow1 hat1;have HO1:=Lib.hid hown1;have HG1:=Lib.hid hgrow1;clear hown1 hgrow1 hat1))
 have hb1:Below B w w1:=below_app1 (Below.refl _ _) HO.out (Nat.le_refl _) hB HG1.out
 have hz1:B≤w1.heap.size:=by have:=hb1.size;omega
 have hw1:w.heap.size≤w1.heap.size:=by have:=HG1.out.size;simp at this;omega
 have hk1:Lib.OthersKept 5 none w w1:=kept_app (Lib.OthersKept.refl _ _ _) HO.out HG1.out
 clear HG1 HO
 go_loopw [0] (fun v0 wr=>∃(pos:Nat) (done:List Int) (vv:Value),vv=v0∧wr.ownsRow B 5 1 vv (n+done.length) (xs++zs done)∧wr.heap[w1.heap.size]? =some (.stringIter s pos)∧Below B w wr∧Lib.OthersKept 5 none w wr∧pos≤s.size∧Hid (done++encZ (s.data.toList.drop pos)=34 :: encZ s.data.toList)∧done.length≤1+6*pos) (fun _ wr=>s.size-wr.iterPos w1.heap.size)
 case atStart=>
  exact ⟨0,[34],_,rfl,HO1.out.alloc _,World.iter_heap w1 s 0,hb1.alloc hz1 _,hk1.alloc _,Nat.zero_le _,rfl,by simp⟩
 case round=>
  obtain ⟨pos,done,vv,rfl,hown,hit,hb,hk,hpos,hacc,hlen⟩:=hrel
  have hszr:w1.heap.size<wr.heap.size:=(Array.getElem?_eq_some_iff.1 hit).1
  have hszL:=Lib.size_eq s
  have HOr:=Lib.hid hown
  clear hown
  by_cases hp:pos<s.size
  ·have hwd:=Lib.decode_width_pos s pos hp
   have hle:=decode_le s pos
   have hne:s.data.toList.drop pos≠[]:=by
    intro h0
    have:=congrArg List.length h0
    rw [List.length_drop] at this
    simp at this
    omega
   have hr1:(Utf8.decode s pos).1≤1114111:=by
    rw [←Lib.decodeL_drop]
    exact Lib.decodeL_rune _
   have hpw:pos+(Utf8.decode s pos).2≤s.size:=by
    have h1:=Lib.decodeL_le _ hne
    rw [Lib.decodeL_drop,List.length_drop] at h1
    omega
   have hst:encZ (s.data.toList.drop pos)=escZ (Utf8.decode s pos).1++encZ (s.data.toList.drop (pos+(Utf8.decode s pos).2)):=by
    rw [encZ_step _ hne,Lib.decodeL_drop,List.drop_drop]
   have hnx:∀ty,(Instr.next (.pointer (some ⟨w1.heap.size,0,none⟩)) true ty).run Tryz.prog wr=_:=fun ty=>Lib.run_next_any_at wr w1.heap.size s pos ty hit hp
   have hO2:=own_iterAt HOr.out hit (pos+(Utf8.decode s pos).2)
   have hit2:=Lib.iterAt_heap wr w1.heap.size s pos (pos+(Utf8.decode s pos).2) hit
   have hb2:=Lib.below_iterAt hb (k:=w1.heap.size) hz1 s (pos+(Utf8.decode s pos).2)
   have hk2:=kept_iterAt hk (k:=w1.heap.size) hw1 s (pos+(Utf8.decode s pos).2)
   have hz2:(wr.iterAt w1.heap.size s (pos+(Utf8.decode s pos).2)).heap.size=wr.heap.size:=Lib.iterAt_size _ _ _ _
   rw [hst] at hacc
   have HST:=Lib.hid hst
   have HAC:=Lib.hid hacc
   have hmz:∀W:World,W.heap[w1.heap.size]? =some (.stringIter s (pos+(Utf8.decode s pos).2))→s.size-W.iterPos w1.heap.size<s.size-wr.iterPos w1.heap.size:=fun W hW=>by
    simp only [World.iterPos,hW,hit]
    omega
   have HM:=Lib.hid hmz
   clear hst hne hacc hmz hit hle HOr
   obtain ⟨q,hq⟩:∃q,pos+(Utf8.decode s pos).2=q:=⟨_,rfl⟩
   obtain ⟨r,hr⟩:∃r,(Utf8.decode s pos).1=r:=⟨_,rfl⟩
   rw [hq] at hpw hnx hO2 hit2 hb2 hk2 hz2 HM HAC
   rw [hr] at hr1 hnx HAC
   obtain ⟨W,hW⟩:∃W,wr.iterAt w1.heap.size s q=W:=⟨_,rfl⟩
   rw [hW] at hnx hO2 hit2 hb2 hk2 hz2
   clear hW HST
   have HO2:=Lib.hid hO2
   have HI2:=Lib.hid hit2
   clear hO2 hit2
   have hqp:pos+1≤q:=by omega
   clear hq hr hwd
   go_wp2_with fail
   refine (escape_any r hr1 _).mono ?_
   rintro e w' ⟨rfl,o,rfl⟩
   have HO3:=Lib.hid (HO2.out.alloc o)
   have HI3:=Lib.hid (iter_alloc HI2.out o)
   have hb3:Below B w (W.alloc o):=hb2.alloc (by omega) o
   have hk3:Lib.OthersKept 5 none w (W.alloc o):=hk2.alloc o
   have hz3:wr.heap.size+1=(W.alloc o).heap.size:=by simp;omega
   generalize W.alloc o=W3 at*
   clear HO2 HI2 hb2 hk2 hz2 hnx
   obtain ⟨el,hel⟩:∃el,escB r=el:=⟨_,rfl⟩
   have hez:escZ r=if el=0 then Lib.encodeRuneZ r else if el=117 then [92,117,48,48,hexd (r/16),hexd (r % 16)] else [92,(el:Int)]:=by rw [←hel];rfl
   have hlow:el=117→r<32:=fun h=>escB_low (by rw [hel];exact h)
   have hel6:=escZ_length r
   rw [hel]
   clear hel
   have HZ:=Lib.hid hez
   clear hez
   by_cases e0:el=0
   ·subst e0
    rw [show escZ r=Lib.encodeRuneZ r from HZ.out] at hel6 HAC
    go_wp2_with fail
    refine (shelf.utf8_AppendRune_plain B vv (n+done.length) (xs++zs done) r (by omega) (by omega) _ HO3.out (by omega) (by omega)).mono ?_
    rintro e w' ⟨v',rfl,hown',o',hgrow'⟩
    have hit5:=iter_grown (HO3.out.alloc o') (iter_alloc HI3.out o') hgrow'
    have hb5:Below B w w':=below_app1 hb3 HO3.out (Nat.le_refl _) (by omega) hgrow'
    have hk5:Lib.OthersKept 5 none w w':=kept_app hk3 HO3.out hgrow'
    have hOn:w'.ownsRow B 5 1 v' (n+(done++Lib.encodeRuneZ r).length) (xs++zs (done++Lib.encodeRuneZ r)):=by
     have h1:=hown'
     rw [zs_append,←List.append_assoc,show n+(done++Lib.encodeRuneZ r).length=n+done.length+(Lib.runeCells r).length by simp [Lib.runeCells];omega]
     exact h1
    clear hown' hgrow' hb3 hz3
    have HF:=Lib.hid (And.intro hit5 (And.intro hb5 (And.intro hk5 hOn)))
    clear hit5 hb5 hk5 hk3 hOn
    go_wp2_with fail
    exact ⟨⟨q,done++Lib.encodeRuneZ r,_,rfl,HF.out.2.2.2,HF.out.1,HF.out.2.1,HF.out.2.2.1,hpw,by rw [List.append_assoc];exact HAC.out,by rw [List.length_append];omega⟩,HM.out _ HF.out.1⟩
   ·by_cases e1:el=117
    ·subst e1
     have hr32:=hlow rfl
     rw [show escZ r=[92,117,48,48,hexd (r/16),hexd (r % 16)] from HZ.out] at hel6 HAC
     obtain ⟨x,hx⟩:∃x,r/16=x:=⟨_,rfl⟩
     obtain ⟨y,hy⟩:∃y,r % 16=y:=⟨_,rfl⟩
     have hx1:(r:Int)/16=(x:Int):=by omega
     have hy1:bits .and .i32 (r:Int) 15=(y:Int):=by rw [and15 ⟨r,hr32⟩,hy]
     have hx2:x<16:=by omega
     have hy2:y<16:=by omega
     obtain ⟨X,hX⟩:∃X,((⟨#[48,49,50,51,52,53,54,55,56,57,97,98,99,100,101,102]⟩:ByteArray)[x]'hx2).toNat=X:=⟨_,rfl⟩
     obtain ⟨Y,hY⟩:∃Y,((⟨#[48,49,50,51,52,53,54,55,56,57,97,98,99,100,101,102]⟩:ByteArray)[y]'hy2).toNat=Y:=⟨_,rfl⟩
     have hX2:hexd x=(X:Int):=by rw [←hX];exact (digits_at x hx2).symm
     have hY2:hexd y=(Y:Int):=by rw [←hY];exact (digits_at y hy2).symm
     rw [hx,hy,hX2,hY2] at hel6 HAC
     have hx3:(x:Int)<16:=by omega
     have hy3:(y:Int)<16:=by omega
     clear HZ hx hy hX2 hY2
     go_wp2_with fail
     go_region_law (first
      | (refine step_app _ rfl (.tmp 30) (.tmp 37) _ rfl B 5 iv (.int .u8 0) 1 1 Tryz.underlying22 hiv hv0 hv1 hv2 rfl (by omega) vv (n+done.length) (xs++zs done) rfl (HO3.out.alloc _) (W3.heap.size+1) (some ⟨W3.heap.size,0,none⟩) 6 6 [.int .u8 92,.int .u8 117,.int .u8 48,.int .u8 48,.int .u8 X,.int .u8 Y] rfl rfl (Rd.new W3 [.int .u8 92,.int .u8 117,.int .u8 48,.int .u8 48,.int .u8 X,.int .u8 Y] 5) (by simp) (by intro u hu;simp at hu;rcases hu with rfl | rfl | rfl | rfl | rfl | rfl <;> rfl) (by unfold maxLen;omega) (by omega) (by simp;omega) ?_;intro v' w5 hown' hgrow' hat';have HO':=Lib.hid hown';have HG':=Lib.hid hgrow';clear hown' hgrow' hat'))
     all_goals
      have hit5:=iter_grown (show World.ownsRow (World.drew (W3.alloc _)) B 5 1 vv (n+done.length) (xs++zs done) from HO3.out.alloc _) (show (World.drew (W3.alloc _)).heap[w1.heap.size]? =some (.stringIter s q) from iter_alloc HI3.out _) HG'.out
      have hb5:Below B w w5:=((hb3.alloc (by omega) _).drew).grown HG'.out (by simp;omega) (fun kk hkk=>(HO3.out.lt kk hkk).1)
      have hk5:Lib.OthersKept 5 none w w5:=((hk3.alloc _).drew).grown HG'.out (fun g hgv=>by obtain ⟨cur,hc⟩:=own_cells (HO3.out.alloc _) g hgv;exact ⟨cur,_,hc⟩)
      have hOn:w5.ownsRow B 5 1 v' (n+(done++[92,117,48,48,(X:Int),(Y:Int)]).length) (xs++zs (done++[92,117,48,48,(X:Int),(Y:Int)])):=by
       have h1:=HO'.out
       rw [zs_append,←List.append_assoc]
       rw [show n+(done++[92,117,48,48,(X:Int),(Y:Int)]).length=n+done.length+6 by simp;omega]
       exact h1
      clear HO' HG' hb3 hx1 hy1 hX hY
      have HF:=Lib.hid (And.intro hit5 (And.intro hb5 (And.intro hk5 hOn)))
      clear hit5 hb5 hk5 hk3 hOn
      go_wp2_with fail
      refine ⟨?_,HM.out _ HF.out.1⟩
      refine ⟨v',_,_,_,_,_,_,_,_,_,_,_,_,_,_,_,_,_,_,_,_,_,_,_,_,_,_,_,_,⟨q,done++[92,117,48,48,(X:Int),(Y:Int)],_,rfl,HF.out.2.2.2,HF.out.1,HF.out.2.1,HF.out.2.2.1,hpw,by rw [List.append_assoc];exact HAC.out,by rw [List.length_append];simp;omega⟩,rfl⟩
    ·have he0:((el:Int)==0)=false:=by simp;omega
     have he1:((el:Int)==117)=false:=by simp;omega
     rw [show escZ r=[92,(el:Int)] by rw [HZ.out,if_neg e0,if_neg e1]] at hel6 HAC
     go_wp2_with (at_builtin;go_must (refine wpList_app _ rfl (.tmp 19) (.tmp 21) _ rfl B 5 iv (.int .u8 0) 1 1 Tryz.underlying22 hiv hv0 hv1 hv2 rfl (by omega) vv (n+done.length) (xs++zs done) rfl (HO3.out.alloc _) (W3.heap.size+1) (some ⟨W3.heap.size,0,none⟩) 2 2 [.int .u8 92,.int .u8 el] rfl rfl (Rd.new W3 [.int .u8 92,.int .u8 el] 5) (by simp) (by intro u hu;simp at hu;rcases hu with rfl | rfl <;> rfl) (by unfold maxLen;omega) (by omega) (by simp;omega) ?_;intro v' w5 hown' hgrow' hat';have HO':=Lib.hid hown';have HG':=Lib.hid hgrow';clear hown' hgrow' hat'))
     have hit5:=iter_grown (HO3.out.alloc _) (iter_alloc HI3.out _) HG'.out
     have hb5:Below B w w5:=below_app1 hb3 HO3.out (Nat.le_refl _) (by omega) HG'.out
     have hk5:Lib.OthersKept 5 none w w5:=kept_app hk3 HO3.out HG'.out
     have hOn:w5.ownsRow B 5 1 v' (n+(done++[92,(el:Int)]).length) (xs++zs (done++[92,(el:Int)])):=by
      have h1:=HO'.out
      rw [zs_append,←List.append_assoc]
      rw [show n+(done++[92,(el:Int)]).length=n+done.length+2 by simp;omega]
      exact h1
     exact ⟨⟨q,done++[92,(el:Int)],_,rfl,hOn,hit5,hb5,hk5,hpw,by rw [List.append_assoc];exact HAC.out,by rw [List.length_append];simp;omega⟩,HM.out _ hit5⟩
  ·have hend:s.data.toList.drop pos=[]:=List.drop_eq_nil_of_le (by omega)
   rw [hend,encZ_nil,List.append_nil] at hacc
   have HAC:=Lib.hid hacc
   clear hacc hend
   have hnx:∀ty,(Instr.next (.pointer (some ⟨w1.heap.size,0,none⟩)) true ty).run Tryz.prog wr=_:=fun ty=>Lib.run_next_end_at wr w1.heap.size s pos ty hit hp
   go_wp2_with (at_builtin;go_must (refine wpList_app _ rfl (.tmp 39) (.tmp 40) _ rfl B 5 iv (.int .u8 0) 1 1 Tryz.underlying22 hiv hv0 hv1 hv2 rfl (by omega) vv (n+done.length) (xs++zs done) rfl (HOr.out.alloc _) (wr.heap.size+1) (some ⟨wr.heap.size,0,none⟩) 1 1 [.int .u8 34] rfl rfl (Rd.new wr [.int .u8 34] 5) (by simp) (by intro u hu;simp at hu;subst hu;rfl) (by unfold maxLen;omega) (by omega) (by simp;omega) ?_;intro v' w5 hown' hgrow' hat';have HO':=Lib.hid hown';have HG':=Lib.hid hgrow';clear hown' hgrow' hat'))
   go_ret
   refine ⟨v',rfl,?_,below_app1 hb HOr.out (Nat.le_refl _) (by omega) HG'.out,kept_app hk HOr.out HG'.out⟩
   have hq2:quoteZ s.data.toList=done++[34]:=by
    rw [HAC.out]
    rfl
   have h1:=HO'.out
   rw [hq2,zs_append,←List.append_assoc]
   rw [show n+(done++[(34:Int)]).length=n+done.length+1 by simp;omega]
   exact h1
end Go.Proofs.YtjhhdnnblcbdbaaGreatDoor.app
end
section
set_option linter.unusedVariables false
namespace Go.Proofs.YtjhhdnnblcbdbaaGreatDoor.shelf
open Go.Shelf
def laysValid_ren:Go.Shelf.Ren:=⟨fun | 196=>71 | 259=>100 | n=>n,fun | 9=>9 | 4=>4 | 3=>3 | 5=>5 | 12=>12 | 119=>156 | 0=>0 | 46=>129 | 139=>159 | 138=>158 | 53=>91 | n=>n,fun | 3=>1 | 4=>2 | n=>n⟩
theorem laysValid:Go.Proofs.Lays.n196 Tryz.prog laysValid_ren:={
 mixed:=by kernel_rfl
 f196:=Tryz.func71.trans (congrArg some (by kernel_rfl))
 f259:=Tryz.func100.trans (congrArg some (by kernel_rfl))
 t0:=Tryz.underlying0
 a0:=Tryz.isAgg0
 z0:=Tryz.sizeOf0
 v0:=Tryz.zeroValue0
 t3:=Tryz.underlying3
 a3:=Tryz.isAgg3
 z3:=Tryz.sizeOf3
 v3:=Tryz.zeroValue3
 t4:=Tryz.underlying4
 a4:=Tryz.isAgg4
 z4:=Tryz.sizeOf4
 v4:=Tryz.zeroValue4
 t5:=Tryz.underlying5
 a5:=Tryz.isAgg5
 z5:=Tryz.sizeOf5
 v5:=Tryz.zeroValue5
 t9:=Tryz.underlying9
 a9:=Tryz.isAgg9
 z9:=Tryz.sizeOf9
 v9:=Tryz.zeroValue9
 t12:=Tryz.underlying12
 a12:=Tryz.isAgg12
 z12:=Tryz.sizeOf12
 v12:=Tryz.zeroValue12
 t46:=Tryz.underlying129
 a46:=Tryz.isAgg129
 z46:=Tryz.sizeOf129
 v46:=Tryz.zeroValue129
 t53:=Tryz.underlying91
 a53:=Tryz.isAgg91
 z53:=Tryz.sizeOf91
 v53:=Tryz.zeroValue91
 t119:=Tryz.underlying156
 a119:=Tryz.isAgg156
 z119:=Tryz.sizeOf156
 t138:=Tryz.underlying158
 a138:=Tryz.isAgg158
 z138:=Tryz.sizeOf158
 v138:=Tryz.zeroValue158
 t139:=Tryz.underlying159
 a139:=Tryz.isAgg159
 z139:=Tryz.sizeOf159
 v139:=Tryz.zeroValue159
 g3:=by kernel_rfl
 g4:=by kernel_rfl}
end Go.Proofs.YtjhhdnnblcbdbaaGreatDoor.shelf
end
section
namespace Go.Proofs.YtjhhdnnblcbdbaaGreatDoor.look
open Go.RowKit mem txt app smap
attribute [local go_sem] run_store_float
set_option linter.unusedVariables false
def Tabs (w:World):Prop:=Lib.Utf8Tabs (shelf.laysValid_ren.g 3) (shelf.laysValid_ren.g 4) w
theorem Tabs.below {w w':World} (h:Tabs w) (hb:Below w.heap.size w w'):Tabs w':=Utf8Tabs_below h hb
theorem clean_any (s:ByteArray) (w:World) (hs:s.size≤9223372036854775807) (hT:Tabs w):
  Calls Tryz.prog 42 #[.string s] w fun e w'=>e= .returned (.bool (Lib.validD s.data.toList))∧Below w.heap.size w w':=by
 have cV:Calls Tryz.prog 71 #[.string s] w _:=Any.utf8_ValidString shelf.laysValid s w hs hT
 go_enter Tryz.func42,Tryz.ntmps42
 go_wp2_with (go_at_call 71;refine cV.mono ?_;rintro e w' ⟨rfl,hb⟩)
 go_ret
 exact ⟨rfl,hb⟩
def textOf (s:ByteArray):ByteArray:=strOf (quoteZ s.data.toList)
set_option maxRecDepth 100000 in
set_option maxHeartbeats 4000000 in
theorem text_ok (s:ByteArray) (hs:s.size≤4194304) (w:World) (hT:Tabs w) (hv:Lib.validD s.data.toList=true):
  Calls Tryz.prog 22 #[.string s] w fun e w'=>e= .returned (.tuple #[.string (textOf s),.int .i64 0])∧Below w.heap.size w w':=by
 have cV:=clean_any s w (by omega) hT
 rw [hv] at cV
 go_enter Tryz.func22,Tryz.ntmps22
 go_wp2_with fail
 refine cV.mono ?_
 rintro e w1 ⟨rfl,hb1⟩
 go_wp2_with fail
 refine (appendText_any s hs w1.heap.size (.slice none 0 0) 0 [] w1 (World.ownsRow_nil _ _ _ _) (Nat.le_refl _) (by omega)).mono ?_
 rintro e w2 ⟨v',rfl,ho,hb2,_⟩
 have hb3:Below w.heap.size w w2:=hb1.trans (hb2.mono hb1.size)
 obtain ⟨A,c,rfl,hA,_⟩:=own_form ho
 rw [Nat.zero_add,List.nil_append] at*
 have hcv:(convert 22 9 (.slice A (quoteZ s.data.toList).length c)).run Tryz.prog w2= .ok (.string (textOf s)) w2:=run_conv_bytes 22 9 5 A (quoteZ s.data.toList) c Tryz.underlying22 Tryz.underlying5 Tryz.underlying9 (Rd.of_own ho) hA
 clear ho hb1 hb2 cV
 go_wp2_with fail
 go_ret2
 exact ⟨rfl,hb3⟩
set_option maxRecDepth 100000 in
set_option maxHeartbeats 4000000 in
theorem text_bad (s:ByteArray) (hs:s.size≤4194304) (w:World) (hT:Tabs w) (hv:Lib.validD s.data.toList=false):
  Calls Tryz.prog 22 #[.string s] w fun e w'=>e= .returned (.tuple #[.string ⟨#[]⟩,.int .i64 1])∧Below w.heap.size w w':=by
 have cV:=clean_any s w (by omega) hT
 rw [hv] at cV
 go_enter Tryz.func22,Tryz.ntmps22
 go_wp2_with fail
 refine cV.mono ?_
 rintro e w1 ⟨rfl,hb1⟩
 go_wp2_with fail
 go_ret2
 exact ⟨rfl,hb1⟩
theorem text_any (s:ByteArray) (hs:s.size≤4194304) (w:World) (hT:Tabs w):
  Calls Tryz.prog 22 #[.string s] w fun e w'=>e= .returned (.tuple #[.string (if Lib.validD s.data.toList=true then textOf s else ⟨#[]⟩),.int .i64 (if Lib.validD s.data.toList=true then 0 else 1)])∧Below w.heap.size w w':=by
 cases hv:Lib.validD s.data.toList with
 | true=>exact text_ok s hs w hT hv
 | false=>exact text_bad s hs w hT hv
end Go.Proofs.YtjhhdnnblcbdbaaGreatDoor.look
end
section
namespace Go.Proofs.YtjhhdnnblcbdbaaGreatDoor.upT
open Go.ChangeShapes Go.WideShapes Go.ChangeAt Go.RowKit Go.Lib Go.Shelf us uw pg dcm upN
set_option linter.unusedVariables false
def laidT:List (String×DataW Unit):=Rows.jsoninTextsRow.laid
theorem envT {W:World} (h:laidMetH Tryz.prog laidT W):REnv W:=by
 rw [MakeChecks.laidMetH_plain _ _ _ (by kernel_rfl)] at h
 have hp:=p10_of (Lib.laidMet.reads h (by unfold laidT;simp [Rows.jsoninTextsRow]))
 have hbig:=big15 (Lib.laidMet.reads h (by unfold laidT;simp [Rows.jsoninTextsRow,Rows.laid_internal_strconv_leftcheats]))
 have hi:=info3_of (Lib.laidMet.reads h (by unfold laidT;simp [Rows.jsoninTextsRow]))
 exact ⟨⟨info_of (Lib.laidMet.reads h (by unfold laidT;simp [Rows.jsoninTextsRow])),opt_of (Lib.laidMet.reads h (by unfold laidT;simp [Rows.jsoninTextsRow])),hp.1,pow_of (Lib.laidMet.reads h (by unfold laidT;simp [Rows.jsoninTextsRow,Rows.laid_internal_strconv_pow10Tab])),hbig,tab_of (Lib.laidMet.reads h (by unfold laidT;simp [Rows.jsoninTextsRow]))⟩,
  ⟨lc_of (Lib.laidMet.reads h (by unfold laidT;simp [Rows.jsoninTextsRow,Rows.laid_internal_strconv_leftcheats])),pt_of (Lib.laidMet.reads h (by unfold laidT;simp [Rows.jsoninTextsRow])),hi.1,hi.2.1,hi.2.2⟩,
  er_of (Lib.laidMet.reads h (by unfold laidT;simp [Rows.jsoninTextsRow]))⟩
theorem xU8:U8Extra Tryz.prog shelf.laysValid_ren:=⟨by kernel_rfl,by kernel_rfl,by kernel_rfl,by kernel_rfl,by kernel_rfl,by kernel_rfl,by kernel_rfl⟩
theorem accept_eq:(Rows.laid_unicode_utf8_acceptRanges:DataW Unit)=acceptData:=by kernel_rfl
theorem first_eq:(Rows.laid_unicode_utf8_first:DataW Unit)=firstData:=by kernel_rfl
theorem tabs {W:World} (h:laidMetH Tryz.prog laidT W):look.Tabs W:=by
 rw [MakeChecks.laidMetH_plain _ _ _ (by kernel_rfl)] at h
 have h1:VarReads Tryz.prog W "unicode/utf8.first" Rows.laid_unicode_utf8_first:=Lib.laidMet.reads h (by unfold laidT;simp [Rows.jsoninTextsRow])
 have h2:VarReads Tryz.prog W "unicode/utf8.acceptRanges" Rows.laid_unicode_utf8_acceptRanges:=Lib.laidMet.reads h (by unfold laidT;simp [Rows.jsoninTextsRow])
 rw [accept_eq] at h2
 rw [first_eq] at h1
 exact utf8Tabs_of_readsT (U8Types.of196 shelf.laysValid) xU8 h1 h2
noncomputable abbrev wT (os:Os):World:=World.laidAll Tryz.prog os laidT
set_option maxRecDepth 100000 in
theorem fitsT (os:Os):(World.holding Tryz.prog os ⟨#[],#[],[]⟩).layFits Tryz.prog laidT []=true:=by kernel_rfl
set_option maxRecDepth 100000 in
theorem laid_metT (os:Os) (args:Array Value):laidMet Tryz.prog laidT ((wT os).forCall (fun _ _=>0) ⟨#[],args,[]⟩).memory:=laidMet_laidAll args (fitsT os) (by kernel_rfl)
set_option maxRecDepth 100000 in
theorem zipT (os:Os) (args:Array Value):((wT os).forCall (fun _ _=>0) ⟨#[],args,[]⟩).variablesZipB Tryz.checked.prog=true:=by kernel_rfl
set_option maxRecDepth 100000 in
theorem restT (os:Os) (args:Array Value):(((wT os).forCall (fun _ _=>0) ⟨#[],args,[]⟩).heap.toList.drop Tryz.checked.prog.globals.size).take ((begin Tryz.checked.prog (fun _ _=>0) default).world.heap.size-Tryz.checked.prog.globals.size)=(begin Tryz.checked.prog (fun _ _=>0) default).world.heap.toList.drop Tryz.checked.prog.globals.size:=by kernel_rfl
theorem witnessT {H:Type} {enc:TypeId×Value→H} (os:Os) {f:FuncId} {fn:Func} {s:OpenSpec} {conds:List PathCond} {apart:Bool} {laid:List (String×DataW Unit)} (args:Array Value)
  (hok:Input.okWideB Tryz.checked.prog ((wT os).forCall (fun _ _=>0) ⟨#[],args,[]⟩) f ⟨#[],args,[]⟩=true)
  (hrow:s.preRow enc Tryz.checked.prog fn conds apart laid ((wT os).forCall (fun _ _=>0) ⟨#[],args,[]⟩).memory args):
  ∃(w:World) (tape:Tape) (i:Input),w.os=os∧(w.forCall tape i).Shaped Tryz.checked.prog∧i.vars=[]∧Input.okWide Tryz.checked.prog (w.forCall tape i) .any w.heap.size f i∧
   s.preRow enc Tryz.checked.prog fn conds apart laid (w.forCall tape i).memory i.args∧({}:Assume).holds Tryz.checked.prog (lone (Frame.enter Tryz.checked.prog f i.args .normal) [] (w.forCall tape i)):=
 ⟨wT os,fun _ _=>0,⟨#[],args,[]⟩,World.laidAll_os _ _ _,World.shaped_of_ZipB (zipT os args) (restT os args),(Input.okWide_of_okWideB (base:=0) hok).1,(Input.okWide_of_okWideB hok).2,hrow,by
  simp only [Assume.holds]
  exact ⟨by simp,by simp,fun _=>Modest.zero,by simp,by simp⟩⟩
end Go.Proofs.YtjhhdnnblcbdbaaGreatDoor.upT
end
section
namespace Go.Proofs.YtjhhdnnblcbdbaaGreatDoor.look
open Go.RowKit mem txt app smap
attribute [local go_sem] run_store_float
set_option linter.unusedVariables false
theorem heap_alloc_at (w:World) (o:Obj) (n:Nat) (h:n=w.heap.size):(w.alloc o).heap[n]? =some o:=by rw [h];exact heap_alloc_new w o
theorem lookText_ok (s:ByteArray) (w:World) (hs:s.size≤9223372036854775807) (hT:Tabs w) (hv:Lib.validD s.data.toList=true):
  Calls Tryz.prog 76 #[.string s] w fun e w'=>e= .returned (.tuple #[])∧Below w.heap.size w w':=by
 have cV:=clean_any s w hs hT
 rw [hv] at cV
 go_enter Tryz.func76,Tryz.ntmps76
 go_wp2_with (go_at_call 42;refine cV.mono ?_;rintro e w' ⟨rfl,hb⟩)
 go_end0
 exact ⟨rfl,hb⟩
end Go.Proofs.YtjhhdnnblcbdbaaGreatDoor.look
end
section
namespace Go.Proofs.YtjhhdnnblcbdbaaGreatDoor.look
open Go.RowKit mem txt app smap val
attribute [local go_sem] run_store_float
set_option linter.unusedVariables false
def fault (n:Int):Ending:= .panicked [{ v:= .iface 131 (.agg #[.int .i64 n]),recovered:=false}]
def LkPost (w:World) (n:Int) (e:Ending) (w':World):Prop:=(n=0→e= .returned (.tuple #[]))∧(n≠0→e=fault n)∧Below w.heap.size w w'
theorem lk_bad {w w':World} {n:Int} (h:n≠0) (hb:Below w.heap.size w w'):LkPost w n (fault n) w':=⟨fun e=>absurd e h,fun _=>rfl,hb⟩
theorem lk_good {w w':World} {n:Int} (h:n=0) (hb:Below w.heap.size w w'):LkPost w n (.returned (.tuple #[])) w':=⟨fun _=>rfl,fun e=>absurd h e,hb⟩
theorem lookText_bad (s:ByteArray) (w:World) (hs:s.size≤9223372036854775807) (hT:Tabs w) (hv:Lib.validD s.data.toList=false):
  Calls Tryz.prog 76 #[.string s] w fun e w'=>e=fault 1∧Below w.heap.size w w':=by
 have cV:=clean_any s w hs hT
 rw [hv] at cV
 go_enter Tryz.func76,Tryz.ntmps76
 go_wp2_with (go_at_call 42;refine cV.mono ?_;rintro e w' ⟨rfl,hb⟩)
 go_wp2
 exact ⟨rfl,rfl,hb⟩
end Go.Proofs.YtjhhdnnblcbdbaaGreatDoor.look
end
section
namespace Go.Proofs.YtjhhdnnblcbdbaaGreatDoor.look
open Go.RowKit mem txt app smap val
attribute [local go_sem] run_store_float
set_option linter.unusedVariables false
open Classical in
theorem nmE_step {fs:List (ByteArray×V)} {i:Nat} {s:ByteArray} {x:V} (h:fs[i]? =some (s,x)) (l:List ByteArray):nmE l (fs.drop i)=if Lib.validD s.data.toList=true then (if s∈l then 5 else nmE (s :: l) (fs.drop (i+1))) else 1:=by
 obtain ⟨hi,he⟩:=List.getElem?_eq_some_iff.1 h
 rw [List.drop_eq_getElem_cons hi,he]
 simp only [nmE]
set_option maxRecDepth 100000 in
set_option maxHeartbeats 4000000 in
theorem names_any (fs:List (ByteArray×V)) (A:Option Addr) (c n:Nat) (w:World) (S:Nat→Prop) (hn:fs.length=n) (hF:IsFs w S fs A 0) (hS:Bel S w.heap.size) (hT:Tabs w) (hok:okf fs) (hn2:n≤1048576):
  Calls Tryz.prog 77 #[.slice A n c] w (LkPost w (nmE [] fs)):=by
 have HF:=Lib.hid hF
 have HT:=Lib.hid hT
 have HS:=Lib.hid hS
 have HO:=Lib.hid hok
 have HN:=Lib.hid hn
 clear hF hT hS hok hn
 have hmm:∀(m:Int) (w:World),(Instr.makeMap 137 (some (.int .i64 m))).run Tryz.prog w= .ok (.map (some w.heap.size)) (w.alloc (.map #[] 0)):=fun _ _=>by simp [Instr.makeMap,run_underlying Tryz.underlying137,asInt,newObj,Sem.run,Result.andThen] <;> rfl
 go_enter Tryz.func77,Tryz.ntmps77
 go_wp2_with fail
 go_loopw [12] (fun v12 wr=>∃(i:Nat) (l:List ByteArray),i≤n∧v12= .int .i64 (i:Int)∧MapS wr w.heap.size i l∧Hid (nmE [] fs=nmE l (fs.drop i))∧Below w.heap.size w wr) (fun v _=>n-(intOf v).toNat)
 case atStart=>exact ⟨0,[],Nat.zero_le _,rfl,MapS.made w,rfl,(Below.refl _ _).alloc (Nat.le_refl _) _⟩
 case round=>
  obtain ⟨i,l,hi,rfl,hmap,hacc,hb⟩:=hrel
  have hszr:=hb.size
  have hml:=hmap.lt
  have HMP:=Lib.hid hmap
  clear hmap
  by_cases hlt:i<n
  ·have hil:i<fs.length:=by rw [HN.out];exact hlt
   obtain ⟨p,hx⟩:∃p,fs[i]? =some p:=⟨_,List.getElem?_eq_getElem hil⟩
   obtain ⟨s,x⟩:=p
   obtain ⟨ad,cs,rfl,hadB,hcs,hvx⟩:=HF.out.at_ hx
   rw [Nat.zero_add] at hcs
   have hsz:=(okf_get HO.out hx).1
   simp only at hsz hcs hvx
   have HE:=Lib.hid (nmE_step hx l)
   obtain ⟨k2,b2,i2,f2,t2,y2,is2,fs2⟩:=x
   simp only [IsV] at hvx
   obtain ⟨A2,c2,A2',c2',rfl,_⟩:=hvx
   have hcs2:=hcs.keep (S:=fun b=>b<w.heap.size) (by rw [add_block];exact HS.out _ hadB) (fun p hp=>hb.cell hp)
   obtain ⟨d0,d1,d2,d3,d4,d5,d6,d7,d8⟩:=hcs2.nine
   clear hcs hcs2 hx hil
   go_wp2_with fail
   clear d0 d1 d2 d3 d4 d5 d6 d7 d8
   have gE:=heap_alloc_new wr (.cells #[.string s,.int .i64 k2,.bool b2,.int .i64 i2,.float .f64 f2,.string t2,.string y2,.slice A2 is2.length c2,.slice A2' fs2.length c2'] 54)
   have hc0:=cell_of_row _ wr.heap.size 0 _ 54 (0,0) gE
   have hb1:Below w.heap.size w (wr.alloc (.cells #[.string s,.int .i64 k2,.bool b2,.int .i64 i2,.float .f64 f2,.string t2,.string y2,.slice A2 is2.length c2,.slice A2' fs2.length c2'] 54)):=hb.alloc hszr _
   have HM1:=Lib.hid (HMP.out.heap (Lib.alloc_old wr (.cells #[.string s,.int .i64 k2,.bool b2,.int .i64 i2,.float .f64 f2,.string t2,.string y2,.slice A2 is2.length c2,.slice A2' fs2.length c2'] 54) _ hml))
   have hz1:wr.heap.size+1=(wr.alloc (.cells #[.string s,.int .i64 k2,.bool b2,.int .i64 i2,.float .f64 f2,.string t2,.string y2,.slice A2 is2.length c2,.slice A2' fs2.length c2'] 54)).heap.size:=by simp
   generalize (wr.alloc (.cells #[.string s,.int .i64 k2,.bool b2,.int .i64 i2,.float .f64 f2,.string t2,.string y2,.slice A2 is2.length c2,.slice A2' fs2.length c2'] 54))=W1 at*
   clear gE HMP
   have hc0:W1.cell? ⟨wr.heap.size,0,none⟩=some (.string s):=by simpa using hc0
   cases hva:Lib.validD s.data.toList with
   | false=>
     have HR:Hid (nmE [] fs=1):=Lib.hid (by rw [hacc.out,HE.out,hva];rfl)
     refine (lookText_bad s W1 (by omega) (HT.out.below hb1) hva).mono ?_
     rintro e w' ⟨rfl,hb2⟩
     refine ⟨rfl,?_⟩
     rw [HR.out]
     exact lk_bad (by decide) (hb1.trans (hb2.mono (by omega)))
   | true=>
     refine (lookText_ok s W1 (by omega) (HT.out.below hb1) hva).mono ?_
     rintro e w' ⟨rfl,hb2⟩
     have hc2:=(hb2.cell (p:=⟨wr.heap.size,0,none⟩) (by show wr.heap.size<_;omega)).trans hc0
     have HM2:=Lib.hid (HM1.out.heap (hb2.block w.heap.size (by omega)))
     have hb3:Below w.heap.size w w':=hb1.trans (hb2.mono (by omega))
     have hz2:=hb2.size
     clear hc0 HM1 hb1 hb
     rcases Classical.em (s∈l) with hin | hin
     ·have HR:Hid (nmE [] fs=5):=Lib.hid (by rw [hacc.out,HE.out,if_pos hva,if_pos hin])
      obtain ⟨q,hlk⟩:=HM2.out.look_in (by unfold maxLen;omega) hin
      clear hin
      go_wp2_with fail
      refine ⟨rfl,?_⟩
      rw [HR.out]
      exact lk_bad (by decide) hb3
     ·have HR:Hid (nmE [] fs=nmE (s :: l) (fs.drop (i+1))):=Lib.hid (by rw [hacc.out,HE.out,if_pos hva,if_neg hin])
      obtain ⟨q,hlk⟩:=HM2.out.look (by unfold maxLen;omega) hin
      obtain ⟨w3,hput,hm3,hg3⟩:=HM2.out.put (s:=s) (by unfold maxLen;omega) (by unfold maxLen;omega) (i:=(i:Int)) (WalkArith.wf_i64 (by omega))
      clear hin
      have HF3:=Lib.hid (And.intro hm3 hg3)
      clear hm3 hg3
      go_wp2_with fail
      exact ⟨⟨i+1,s :: l,by omega,by go_num,HF3.out.1,HR,hb3.grown HF3.out.2 (by omega) (fun kk hkk=>by injection hkk with hkk;omega)⟩,by simp [intOf];omega⟩
  ·obtain rfl:i=n:=by omega
   have HR:Hid (nmE [] fs=0):=Lib.hid (by rw [hacc.out,List.drop_eq_nil_of_le (by rw [HN.out];exact Nat.le_refl _)];simp only [nmE])
   go_wp2_with fail
   go_end0
   rw [HR.out]
   exact lk_good rfl hb
end Go.Proofs.YtjhhdnnblcbdbaaGreatDoor.look
end
section
namespace Go.Proofs.YtjhhdnnblcbdbaaGreatDoor.look
open Go.RowKit mem txt app smap val
attribute [local go_sem] run_store_float
set_option linter.unusedVariables false
structure Env (w:World):Prop where
 tabs:Tabs w
 num:pg.NumAt w
theorem Env.below {w w':World} (h:Env w) (hb:Below w.heap.size w w'):Env w':=⟨h.tabs.below hb,h.num.below hb⟩
theorem blk8 {w:World} {g:Nat} {t:TypeId} {c0 c1 c2 c3 c4 c5 c6 c7:Value} (h:w.heap[g]? =some (.cells #[c0,c1,c2,c3,c4,c5,c6,c7] t (0,0))):
  w.cell? ⟨g,0,none⟩=some c0∧w.cell? ⟨g,1,none⟩=some c1∧w.cell? ⟨g,2,none⟩=some c2∧w.cell? ⟨g,3,none⟩=some c3∧w.cell? ⟨g,4,none⟩=some c4∧w.cell? ⟨g,5,none⟩=some c5∧w.cell? ⟨g,6,none⟩=some c6∧w.cell? ⟨g,7,none⟩=some c7:=
 ⟨cell_of_row w g 0 _ t (0,0) h,cell_of_row w g 1 _ t (0,0) h,cell_of_row w g 2 _ t (0,0) h,cell_of_row w g 3 _ t (0,0) h,cell_of_row w g 4 _ t (0,0) h,cell_of_row w g 5 _ t (0,0) h,cell_of_row w g 6 _ t (0,0) h,cell_of_row w g 7 _ t (0,0) h⟩
theorem lks_step {l:List V} {i:Nat} {x:V} (h:l[i]? =some x):lks (l.drop i)=if lk x=0 then lks (l.drop (i+1)) else lk x:=by
 obtain ⟨hi,he⟩:=List.getElem?_eq_some_iff.1 h
 rw [List.drop_eq_getElem_cons hi,he]
 simp only [lks]
theorem lkf_step {l:List (ByteArray×V)} {i:Nat} {s:ByteArray} {x:V} (h:l[i]? =some (s,x)):lkf (l.drop i)=if lk x=0 then lkf (l.drop (i+1)) else lk x:=by
 obtain ⟨hi,he⟩:=List.getElem?_eq_some_iff.1 h
 rw [List.drop_eq_getElem_cons hi,he]
 simp only [lkf]
section
variable (b:Bool) (i:Int) (f:Nat) (t y:ByteArray) (A A':Option Addr) (n m c c':Nat) (w:World)
set_option maxRecDepth 100000 in
set_option maxHeartbeats 4000000 in
theorem look_easy (k:Int) (h:k=0∨k=1∨k=2):Calls Tryz.prog 47 #[.agg #[.int .i64 k,.bool b,.int .i64 i,.float .f64 f,.string t,.string y,.slice A n c,.slice A' m c']] w (LkPost w 0):=by
 rcases h with rfl | rfl | rfl
 all_goals
  go_enter Tryz.func47,Tryz.ntmps47
  go_wp2_with fail
  go_end0
  exact lk_good rfl ((Below.refl _ _).alloc (Nat.le_refl _) _)
set_option maxRecDepth 100000 in
set_option maxHeartbeats 4000000 in
theorem look_other (k:Int) (h:k<0∨6<k):Calls Tryz.prog 47 #[.agg #[.int .i64 k,.bool b,.int .i64 i,.float .f64 f,.string t,.string y,.slice A n c,.slice A' m c']] w (LkPost w 2):=by
 have q0:(k==0)=false:=beq_false_of_ne (by omega)
 have q1:(k==1)=false:=beq_false_of_ne (by omega)
 have q2:(k==2)=false:=beq_false_of_ne (by omega)
 have q3:(k==3)=false:=beq_false_of_ne (by omega)
 have q4:(k==4)=false:=beq_false_of_ne (by omega)
 have q5:(k==5)=false:=beq_false_of_ne (by omega)
 have q6:(k==6)=false:=beq_false_of_ne (by omega)
 clear h
 go_enter Tryz.func47,Tryz.ntmps47
 go_wp2_with fail
 exact ⟨rfl,lk_bad (by decide) ((Below.refl _ _).alloc (Nat.le_refl _) _)⟩
theorem data_nil {S:ByteArray} (h:S.size=0):S=⟨#[]⟩:=by
 apply ByteArray.ext
 exact Array.eq_empty_of_size_eq_zero h
set_option maxRecDepth 100000 in
set_option maxHeartbeats 4000000 in
theorem look_string (k:Int) (h:k=4) (hT:Tabs w) (ht:t.size≤1048576):Calls Tryz.prog 47 #[.agg #[.int .i64 k,.bool b,.int .i64 i,.float .f64 f,.string t,.string y,.slice A n c,.slice A' m c']] w (LkPost w (if Lib.validD t.data.toList=true then 0 else 1)):=by
 subst h
 have HT:=Lib.hid hT
 clear hT
 obtain ⟨r,hr⟩:∃r:Int,(if Lib.validD t.data.toList=true then 0 else 1)=r:=⟨_,rfl⟩
 rw [hr]
 have HR:=Lib.hid hr
 clear hr
 go_enter Tryz.func47,Tryz.ntmps47
 go_wp2_with fail
 have hb:=(Below.refl w.heap.size w).alloc (Nat.le_refl _) (.cells #[.int .i64 4,.bool b,.int .i64 i,.float .f64 f,.string t,.string y,.slice A n c,.slice A' m c'] 29)
 have gB:=heap_alloc_new w (.cells #[.int .i64 4,.bool b,.int .i64 i,.float .f64 f,.string t,.string y,.slice A n c,.slice A' m c'] 29)
 have hz:=hb.size
 generalize (w.alloc (.cells #[.int .i64 4,.bool b,.int .i64 i,.float .f64 f,.string t,.string y,.slice A n c,.slice A' m c'] 29))=W1 at*
 have hlt:w.heap.size<W1.heap.size:=(Array.getElem?_eq_some_iff.1 gB).1
 cases hv:Lib.validD t.data.toList with
 | true=>
   have HR0:Hid (r=0):=Lib.hid (by rw [←HR.out,hv];rfl)
   refine (lookText_ok t W1 (by omega) (HT.out.below hb) hv).mono ?_
   rintro e w' ⟨rfl,hb2⟩
   obtain ⟨m0,m1,m2,m3,m4,m5,m6,m7⟩:=blk8 ((hb2.block _ hlt).trans gB)
   clear hv
   go_wp2_with fail
   go_end0
   exact lk_good HR0.out (hb.trans (hb2.mono hz))
 | false=>
   have HR0:Hid (r=1):=Lib.hid (by rw [←HR.out,hv];rfl)
   refine (lookText_bad t W1 (by omega) (HT.out.below hb) hv).mono ?_
   rintro e w' ⟨rfl,hb2⟩
   refine ⟨rfl,?_⟩
   rw [HR0.out]
   exact lk_bad (by decide) (hb.trans (hb2.mono hz))
set_option maxRecDepth 100000 in
set_option maxHeartbeats 4000000 in
theorem look_float (k:Int) (h:k=3) (hN:pg.NumAt w) (hf:f<18446744073709551616):Calls Tryz.prog 47 #[.agg #[.int .i64 k,.bool b,.int .i64 i,.float .f64 f,.string t,.string y,.slice A n c,.slice A' m c']] w (LkPost w (if 9218868437227405312≤f % 9223372036854775808 then 6 else 0)):=by
 subst h
 have HC:=Lib.hid (fun w h=>pg.floatText_any f hf w h)
 have HZ:=Lib.hid ((pg.ftx_spec f).2.2 hf)
 have HN:=Lib.hid hN
 obtain ⟨r,hr⟩:∃r:Int,(if 9218868437227405312≤f % 9223372036854775808 then 6 else 0)=r:=⟨_,rfl⟩
 rw [hr]
 have HR:=Lib.hid hr
 clear hN hr
 go_enter Tryz.func47,Tryz.ntmps47
 go_wp2_with fail
 have hb:=(Below.refl w.heap.size w).alloc (Nat.le_refl _) (.cells #[.int .i64 3,.bool b,.int .i64 i,.float .f64 f,.string t,.string y,.slice A n c,.slice A' m c'] 29)
 have gB:=heap_alloc_new w (.cells #[.int .i64 3,.bool b,.int .i64 i,.float .f64 f,.string t,.string y,.slice A n c,.slice A' m c'] 29)
 have hz:=hb.size
 generalize (w.alloc (.cells #[.int .i64 3,.bool b,.int .i64 i,.float .f64 f,.string t,.string y,.slice A n c,.slice A' m c'] 29))=W1 at*
 have hlt:w.heap.size<W1.heap.size:=(Array.getElem?_eq_some_iff.1 gB).1
 refine (HC.out W1 (HN.out.below hb)).mono ?_
 rintro e w' ⟨rfl,hb2⟩
 have hb3:=hb.trans (hb2.mono hz)
 obtain ⟨m0,m1,m2,m3,m4,m5,m6,m7⟩:=blk8 ((hb2.block _ hlt).trans gB)
 obtain ⟨S,hS⟩:∃S,pg.ftx f=S:=⟨_,rfl⟩
 rw [hS] at HZ ⊢
 clear hb hb2 gB HC hS
 by_cases hs:S.size=0
 ·have HR0:Hid (r=6):=Lib.hid (by rw [←HR.out,if_pos (HZ.out.1 hs)])
  obtain rfl:=data_nil hs
  clear HZ hs
  go_wp2_with fail
  refine ⟨rfl,?_⟩
  rw [HR0.out]
  exact lk_bad (by decide) hb3
 ·have HR0:Hid (r=0):=Lib.hid (by rw [←HR.out,if_neg (fun h=>hs (HZ.out.2 h))])
  have hne:¬S.toList=[]:=by
   rw [ByteArray.toList_eq]
   intro h
   apply hs
   rw [Lib.size_eq,h]
   rfl
  have hne2:S.toList.isEmpty=false:=by
   cases hl:S.toList with
   | nil=>exact absurd hl hne
   | cons a l=>rfl
  clear HZ hs
  go_wp2_with fail
  go_end0
  exact lk_good HR0.out hb3
end
end Go.Proofs.YtjhhdnnblcbdbaaGreatDoor.look
end
section
namespace Go.Proofs.YtjhhdnnblcbdbaaGreatDoor.look
open Go.RowKit mem txt app smap val
attribute [local go_sem] run_store_float
set_option linter.unusedVariables false
section
variable (b:Bool) (i:Int) (f:Nat) (t y:ByteArray) (A A':Option Addr) (n m c c':Nat) (w:World) (S:Nat→Prop)
set_option maxRecDepth 100000 in
set_option maxHeartbeats 4000000 in
theorem look_items (is:List V) (hn:is.length=n) (hn2:n≤1048576) (hI:IsVs w S is A 0) (hS:Bel S w.heap.size) (hE:Env w)
  (hc:∀(j:Nat) (x:V),is[j]? =some x→∀cs W,IsV W S x cs→Bel S W.heap.size→Env W→Calls Tryz.prog 47 #[.agg cs.toArray] W (LkPost W (lk x))):
  Calls Tryz.prog 47 #[.agg #[.int .i64 5,.bool b,.int .i64 i,.float .f64 f,.string t,.string y,.slice A n c,.slice A' m c']] w (LkPost w (lks is)):=by
 have HI:=Lib.hid hI
 have HS:=Lib.hid hS
 have HE:=Lib.hid hE
 have HC:=Lib.hid hc
 have HN:=Lib.hid hn
 clear hI hS hE hc hn
 go_enter Tryz.func47,Tryz.ntmps47
 go_wp2_with fail
 have hb1:=(Below.refl w.heap.size w).alloc (Nat.le_refl _) (.cells #[.int .i64 5,.bool b,.int .i64 i,.float .f64 f,.string t,.string y,.slice A n c,.slice A' m c'] 29)
 have gB:=heap_alloc_new w (.cells #[.int .i64 5,.bool b,.int .i64 i,.float .f64 f,.string t,.string y,.slice A n c,.slice A' m c'] 29)
 have hz1:=hb1.size
 generalize (w.alloc (.cells #[.int .i64 5,.bool b,.int .i64 i,.float .f64 f,.string t,.string y,.slice A n c,.slice A' m c'] 29))=W1 at*
 clear gB
 go_loopw [50] (fun v wr=>∃q:Nat,q≤n∧v= .int .i64 (q:Int)∧Hid (lks is=lks (is.drop q))∧Below w.heap.size w wr) (fun v _=>n-(intOf v).toNat)
 case atStart=>exact ⟨0,Nat.zero_le _,rfl,rfl,hb1⟩
 case round=>
  clear hb1 hz1
  obtain ⟨q,hq,rfl,hacc,hb⟩:=hrel
  have hszr:=hb.size
  by_cases hlt:q<n
  ·have hil:q<is.length:=by rw [HN.out];exact hlt
   obtain ⟨x,hx⟩:∃p,is[q]? =some p:=⟨_,List.getElem?_eq_getElem hil⟩
   obtain ⟨ad,cs,rfl,hadB,hcs,hvx⟩:=(HI.out.below HS.out hb).at_ hx
   rw [Nat.zero_add] at hcs
   have HK:=Lib.hid (HC.out q x hx)
   have HST:=Lib.hid (lks_step hx)
   have hvx2:=Lib.hid hvx
   obtain ⟨k2,b2,i2,f2,t2,y2,is2,fs2⟩:=x
   simp only [IsV] at hvx
   obtain ⟨A2,c2,A2',c2',rfl,_⟩:=hvx
   obtain ⟨d0,d1,d2,d3,d4,d5,d6,d7⟩:=hcs.eight
   clear hcs hx hil
   go_wp2_with fail
   clear d0 d1 d2 d3 d4 d5 d6 d7
   have hb4:Below w.heap.size w (wr.alloc (.cells #[.int .i64 k2,.bool b2,.int .i64 i2,.float .f64 f2,.string t2,.string y2,.slice A2 is2.length c2,.slice A2' fs2.length c2'] 29)):=hb.alloc hszr _
   have hb5:Below wr.heap.size wr (wr.alloc (.cells #[.int .i64 k2,.bool b2,.int .i64 i2,.float .f64 f2,.string t2,.string y2,.slice A2 is2.length c2,.slice A2' fs2.length c2'] 29)):=(Below.refl _ _).alloc (Nat.le_refl _) _
   have HV:=Lib.hid (hvx2.out.below (HS.out.mono hszr) hb5)
   have hz4:=hb4.size
   generalize (wr.alloc (.cells #[.int .i64 k2,.bool b2,.int .i64 i2,.float .f64 f2,.string t2,.string y2,.slice A2 is2.length c2,.slice A2' fs2.length c2'] 29))=W4 at*
   refine (HK.out _ W4 HV.out (HS.out.mono hz4) (HE.out.below hb4)).mono ?_
   rintro e w5 ⟨he1,he2,hb6⟩
   by_cases h0:lk (.mk k2 b2 i2 f2 t2 y2 is2 fs2)=0
   ·obtain rfl:=he1 h0
    have HR:Hid (lks is=lks (is.drop (q+1))):=Lib.hid (by rw [hacc.out,HST.out,if_pos h0])
    have hb7:=hb4.trans (hb6.mono hz4)
    clear he1 he2 hb6 hb4 hb5 HV HST HK hvx2 h0
    go_wp2_with fail
    exact ⟨⟨q+1,by omega,by go_num,HR,hb7⟩,by simp [intOf];omega⟩
   ·obtain rfl:=he2 h0
    have HR:Hid (lks is=lk (.mk k2 b2 i2 f2 t2 y2 is2 fs2)):=Lib.hid (by rw [hacc.out,HST.out,if_neg h0])
    refine ⟨rfl,?_⟩
    rw [HR.out]
    exact lk_bad h0 (hb4.trans (hb6.mono hz4))
  ·obtain rfl:q=n:=by omega
   have HR:Hid (lks is=0):=Lib.hid (by rw [hacc.out,List.drop_eq_nil_of_le (by rw [HN.out];exact Nat.le_refl _)];simp only [lks])
   go_wp2_with fail
   go_end0
   rw [HR.out]
   exact lk_good rfl hb
set_option maxRecDepth 100000 in
set_option maxHeartbeats 4000000 in
theorem look_members (fs:List (ByteArray×V)) (hn:fs.length=m) (hn2:m≤1048576) (hI:IsFs w S fs A' 0) (hS:Bel S w.heap.size) (hE:Env w) (hok:okf fs)
  (hc:∀(j:Nat) (s:ByteArray) (x:V),fs[j]? =some (s,x)→∀cs W,IsV W S x cs→Bel S W.heap.size→Env W→Calls Tryz.prog 47 #[.agg cs.toArray] W (LkPost W (lk x))):
  Calls Tryz.prog 47 #[.agg #[.int .i64 6,.bool b,.int .i64 i,.float .f64 f,.string t,.string y,.slice A n c,.slice A' m c']] w (LkPost w (if nmE [] fs=0 then lkf fs else nmE [] fs)):=by
 have HNM:=Lib.hid (fun W (hW:Below w.heap.size w W)=>names_any fs A' c' m W S hn (hI.below hS hW) (hS.mono hW.size) (hE.below hW).tabs hok hn2)
 have HI:=Lib.hid hI
 have HS:=Lib.hid hS
 have HE:=Lib.hid hE
 have HC:=Lib.hid hc
 have HN:=Lib.hid hn
 obtain ⟨r,hr⟩:∃r:Int,(if nmE [] fs=0 then lkf fs else nmE [] fs)=r:=⟨_,rfl⟩
 rw [hr]
 have HRR:=Lib.hid hr
 clear hI hS hE hc hn hok hr
 go_enter Tryz.func47,Tryz.ntmps47
 go_wp2_with fail
 have hb1:=(Below.refl w.heap.size w).alloc (Nat.le_refl _) (.cells #[.int .i64 6,.bool b,.int .i64 i,.float .f64 f,.string t,.string y,.slice A n c,.slice A' m c'] 29)
 have gB:=heap_alloc_new w (.cells #[.int .i64 6,.bool b,.int .i64 i,.float .f64 f,.string t,.string y,.slice A n c,.slice A' m c'] 29)
 have hz1:=hb1.size
 generalize (w.alloc (.cells #[.int .i64 6,.bool b,.int .i64 i,.float .f64 f,.string t,.string y,.slice A n c,.slice A' m c'] 29))=W1 at*
 have hlt1:w.heap.size<W1.heap.size:=(Array.getElem?_eq_some_iff.1 gB).1
 refine (HNM.out W1 hb1).mono ?_
 rintro e w2 ⟨he1,he2,hb2⟩
 by_cases hnm:nmE [] fs=0
 ·obtain rfl:=he1 hnm
  have HR0:Hid (r=lkf fs):=Lib.hid (by rw [←HRR.out,if_pos hnm])
  have gB2:=Lib.hid ((hb2.block w.heap.size hlt1).trans gB)
  obtain ⟨m0,m1,m2,m3,m4,m5,m6,m7⟩:=blk8 gB2.out
  have hb3:Below w.heap.size w w2:=hb1.trans (hb2.mono hz1)
  have hz2:w.heap.size<w2.heap.size:=by have:=hb2.size;omega
  clear gB hb1 hb2 HNM hz1 he1 he2 hnm hlt1
  go_wp2_with fail
  clear m0 m1 m2 m3 m4 m5 m6 m7
  go_loopw [36] (fun v wr=>∃q:Nat,q≤m∧v= .int .i64 (q:Int)∧Hid (lkf fs=lkf (fs.drop q))∧Below w2.heap.size w2 wr) (fun v _=>m-(intOf v).toNat)
  case atStart=>exact ⟨0,Nat.zero_le _,rfl,rfl,Below.refl _ _⟩
  case round=>
   obtain ⟨q,hq,rfl,hacc,hbr⟩:=hrel
   have hszr:=hbr.size
   have hb:Below w.heap.size w wr:=hb3.trans (hbr.mono (by omega))
   have hsz0:=hb.size
   obtain ⟨m0,m1,m2,m3,m4,m5,m6,m7⟩:=blk8 ((hbr.block w.heap.size hz2).trans gB2.out)
   by_cases hlt:q<m
   ·have hil:q<fs.length:=by rw [HN.out];exact hlt
    obtain ⟨p,hx⟩:∃p,fs[q]? =some p:=⟨_,List.getElem?_eq_getElem hil⟩
    obtain ⟨s,x⟩:=p
    obtain ⟨ad,cs,rfl,hadB,hcs,hvx⟩:=(HI.out.below HS.out hb).at_ hx
    rw [Nat.zero_add] at hcs
    simp only at hcs hvx
    have HK:=Lib.hid (HC.out q s x hx)
    have HST:=Lib.hid (lkf_step hx)
    have hvx2:=Lib.hid hvx
    obtain ⟨k2,b2,i2,f2,t2,y2,is2,fs2⟩:=x
    simp only [IsV] at hvx
    obtain ⟨A2,c2,A2',c2',rfl,_⟩:=hvx
    obtain ⟨d0,d1,d2,d3,d4,d5,d6,d7,d8⟩:=hcs.nine
    clear hcs hx hil
    go_wp2_with fail
    clear d0 d1 d2 d3 d4 d5 d6 d7 d8 m0 m1 m2 m3 m4 m5 m6 m7
    have hb4:Below w2.heap.size w2 (wr.alloc (.cells #[.string s,.int .i64 k2,.bool b2,.int .i64 i2,.float .f64 f2,.string t2,.string y2,.slice A2 is2.length c2,.slice A2' fs2.length c2'] 54)):=hbr.alloc hszr _
    have hb5:Below wr.heap.size wr (wr.alloc (.cells #[.string s,.int .i64 k2,.bool b2,.int .i64 i2,.float .f64 f2,.string t2,.string y2,.slice A2 is2.length c2,.slice A2' fs2.length c2'] 54)):=(Below.refl _ _).alloc (Nat.le_refl _) _
    have HV:=Lib.hid (hvx2.out.below (HS.out.mono hsz0) hb5)
    have hz4:=hb4.size
    generalize (wr.alloc (.cells #[.string s,.int .i64 k2,.bool b2,.int .i64 i2,.float .f64 f2,.string t2,.string y2,.slice A2 is2.length c2,.slice A2' fs2.length c2'] 54))=W4 at*
    refine (HK.out _ W4 HV.out (HS.out.mono (by omega)) (HE.out.below (hb3.trans (hb4.mono (by omega))))).mono ?_
    rintro e w5 ⟨he1,he2,hb6⟩
    by_cases h0:lk (.mk k2 b2 i2 f2 t2 y2 is2 fs2)=0
    ·obtain rfl:=he1 h0
     have HR:Hid (lkf fs=lkf (fs.drop (q+1))):=Lib.hid (by rw [hacc.out,HST.out,if_pos h0])
     have hb7:=hb4.trans (hb6.mono hz4)
     clear he1 he2 hb6 hb4 hb5 HV HST HK hvx2 h0
     go_wp2_with fail
     exact ⟨⟨q+1,by omega,by go_num,HR,hb7⟩,by simp [intOf];omega⟩
    ·obtain rfl:=he2 h0
     have HR:Hid (lkf fs=lk (.mk k2 b2 i2 f2 t2 y2 is2 fs2)):=Lib.hid (by rw [hacc.out,HST.out,if_neg h0])
     refine ⟨rfl,?_⟩
     rw [HR0.out,HR.out]
     exact lk_bad h0 (hb3.trans ((hb4.trans (hb6.mono hz4)).mono (by omega)))
   ·obtain rfl:q=m:=by omega
    have HR:Hid (lkf fs=0):=Lib.hid (by rw [hacc.out,List.drop_eq_nil_of_le (by rw [HN.out];exact Nat.le_refl _)];simp only [lkf])
    go_wp2_with fail
    go_end0
    rw [HR0.out,HR.out]
    exact lk_good rfl hb
 ·obtain rfl:=he2 hnm
  have HR0:Hid (r=nmE [] fs):=Lib.hid (by rw [←HRR.out,if_neg hnm])
  refine ⟨rfl,?_⟩
  rw [HR0.out]
  exact lk_bad hnm (hb1.trans (hb2.mono hz1))
end
theorem look_any:∀(N:Nat) (v:V),sz v≤N→N≤1048576→ok v→∀(cs:List Value) (w:World) (S:Nat→Prop),IsV w S v cs→Bel S w.heap.size→Env w→
  Calls Tryz.prog 47 #[.agg cs.toArray] w (LkPost w (lk v)):=by
 intro N
 induction N with
 | zero=>intro v hv;have:=sz_pos v;omega
 | succ N ih=>
   intro v hv hN hok cs w S hV hB hE
   obtain ⟨k,b,i,f,t,y,is,fs⟩:=v
   simp only [IsV] at hV
   obtain ⟨A,c,A',c',rfl,hA,hA',his,hfs⟩:=hV
   simp only [sz] at hv
   simp only [ok] at hok
   obtain ⟨⟨hi1,hi2,hf,ht,hy⟩,hos,hof⟩:=hok
   have hl1:=szs_len is
   have hl2:=szf_len fs
   simp only [lk]
   by_cases c0:k=0∨k=1∨k=2
   ·rw [if_pos c0]
    exact look_easy b i f t y A A' _ _ c c' w k c0
   rw [if_neg c0]
   by_cases c3:k=3
   ·rw [if_pos c3]
    exact look_float b i f t y A A' _ _ c c' w k c3 hE.num hf
   rw [if_neg c3]
   by_cases c4:k=4
   ·rw [if_pos c4]
    exact look_string b i f t y A A' _ _ c c' w k c4 hE.tabs ht
   rw [if_neg c4]
   by_cases c5:k=5
   ·rw [if_pos c5]
    subst c5
    exact look_items b i f t y A A' _ _ c c' w S is rfl (by omega) his hB hE (fun j x hx cs W hV hB hE=>ih x (by have:=szs_get hx;omega) (by omega) (oks_get hos hx) cs W S hV hB hE)
   rw [if_neg c5]
   by_cases c6:k=6
   ·rw [if_pos c6]
    subst c6
    exact look_members b i f t y A A' _ _ c c' w S fs rfl (by omega) hfs hB hE hof (fun j s x hx cs W hV hB hE=>ih x (by have:=szf_get hx;simp only at this;omega) (by omega) (okf_get hof hx).2 cs W S hV hB hE)
   rw [if_neg c6]
   exact look_other b i f t y A A' _ _ c c' w k (by omega)
end Go.Proofs.YtjhhdnnblcbdbaaGreatDoor.look
end
section
namespace Go.Proofs.YtjhhdnnblcbdbaaGreatDoor.look
open Go.RowKit mem txt app smap val
attribute [local go_sem] run_store_float
set_option linter.unusedVariables false
theorem strCells_zs (s:ByteArray):Lib.strCells s=zs (bz s):=by
 unfold Lib.strCells zs bz
 simp
theorem kept_below {a w w':World} (h:Lib.OthersKept 5 none a w) (ha:a.heap.size≤w.heap.size) (hb:Below w.heap.size w w'):Lib.OthersKept 5 none a w':=
 fun j o hj hbl ho=>by
  have hlt:j<a.heap.size:=(Array.getElem?_eq_some_iff.1 hj).1
  rw [hb.block j (by omega)]
  exact h j o hj hbl ho
theorem kept_app0 {a w w':World} {base n:Nat} {v:Value} {xs:List Value} (h:Lib.OthersKept 5 none a w) (hown:w.ownsRow base 5 1 v n xs) (hg:w.grownBy w' v.ownBlock):Lib.OthersKept 5 none a w':=
 h.grown hg fun g hgv=>by
  obtain ⟨cur,hc⟩:=own_cells hown g hgv
  exact ⟨cur,_,hc⟩
theorem own_below {w w':World} {base:Nat} {e:TypeId} {size n:Nat} {v:Value} {xs:List Value} (h:w.ownsRow base e size v n xs) (hb:Below w.heap.size w w'):w'.ownsRow base e size v n xs:=own_kept h fun g hg=>hb.block g (h.lt g hg).2
section
variable (b:Bool) (i:Int) (f:Nat) (t y:ByteArray) (A A':Option Addr) (n m c c':Nat) (B:Nat) (v:Value) (l:Nat) (xs:List Value) (w:World)
set_option maxRecDepth 100000 in
set_option maxHeartbeats 4000000 in
theorem app_null (k:Int) (h:k<1∨6<k) (hown:w.ownsRow B 5 1 v l xs) (hB:B≤w.heap.size) (hl:l≤1099511627776):Calls Tryz.prog 48 #[v,.agg #[.int .i64 k,.bool b,.int .i64 i,.float .f64 f,.string t,.string y,.slice A n c,.slice A' m c']] w (RowPost B l xs [110,117,108,108] w):=by
 obtain ⟨iv,hiv,hv0,hv1,hv2⟩:=info_parts infoB
 have HO:=Lib.hid hown
 have q1:(k==1)=false:=beq_false_of_ne (by omega)
 have q2:(k==2)=false:=beq_false_of_ne (by omega)
 have q3:(k==3)=false:=beq_false_of_ne (by omega)
 have q4:(k==4)=false:=beq_false_of_ne (by omega)
 have q5:(k==5)=false:=beq_false_of_ne (by omega)
 have q6:(k==6)=false:=beq_false_of_ne (by omega)
 clear hown h
 go_enter Tryz.func48,Tryz.ntmps48
 go_wp2_with (at_builtin;go_must (refine Lib.wpList_append_own_string _ rfl _ _ _ _ rfl B 5 iv Tryz.underlying22 Tryz.underlying9 hiv hv0 hv1 hv2 v l xs rfl (HO.out.alloc _) ⟨#[110,117,108,108]⟩ rfl (show l+4≤maxLen by unfold maxLen;omega) (show l+4≤140737488355328 by omega) (by simp;omega) ?_;intro v' w5 hown' hgrow' _))
 go_ret
 exact ⟨v',rfl,hown',below_app1 (Below.refl _ _) HO.out (Nat.le_refl _) hB hgrow',kept_app (Lib.OthersKept.refl _ _ _) HO.out hgrow'⟩
set_option maxRecDepth 100000 in
set_option maxHeartbeats 4000000 in
theorem app_bool (k:Int) (h:k=1) (hown:w.ownsRow B 5 1 v l xs) (hB:B≤w.heap.size) (hl:l≤1099511627776):Calls Tryz.prog 48 #[v,.agg #[.int .i64 k,.bool b,.int .i64 i,.float .f64 f,.string t,.string y,.slice A n c,.slice A' m c']] w (RowPost B l xs (tfz b) w):=by
 obtain ⟨iv,hiv,hv0,hv1,hv2⟩:=info_parts infoB
 have HO:=Lib.hid hown
 subst h
 clear hown
 cases b with
 | true=>
   go_enter Tryz.func48,Tryz.ntmps48
   go_wp2_with (at_builtin;go_must (refine Lib.wpList_append_own_string _ rfl _ _ _ _ rfl B 5 iv Tryz.underlying22 Tryz.underlying9 hiv hv0 hv1 hv2 v l xs rfl (HO.out.alloc _) ⟨#[116,114,117,101]⟩ rfl (show l+4≤maxLen by unfold maxLen;omega) (show l+4≤140737488355328 by omega) (by simp;omega) ?_;intro v' w5 hown' hgrow' _))
   go_ret
   exact ⟨v',rfl,hown',below_app1 (Below.refl _ _) HO.out (Nat.le_refl _) hB hgrow',kept_app (Lib.OthersKept.refl _ _ _) HO.out hgrow'⟩
 | false=>
   go_enter Tryz.func48,Tryz.ntmps48
   go_wp2_with (at_builtin;go_must (refine Lib.wpList_append_own_string _ rfl _ _ _ _ rfl B 5 iv Tryz.underlying22 Tryz.underlying9 hiv hv0 hv1 hv2 v l xs rfl (HO.out.alloc _) ⟨#[102,97,108,115,101]⟩ rfl (show l+5≤maxLen by unfold maxLen;omega) (show l+5≤140737488355328 by omega) (by simp;omega) ?_;intro v' w5 hown' hgrow' _))
   go_ret
   exact ⟨v',rfl,hown',below_app1 (Below.refl _ _) HO.out (Nat.le_refl _) hB hgrow',kept_app (Lib.OthersKept.refl _ _ _) HO.out hgrow'⟩
set_option maxRecDepth 100000 in
set_option maxHeartbeats 4000000 in
theorem app_int (k:Int) (h:k=2) (hi1: -9223372036854775808≤i) (hi2:i≤9223372036854775807) (hE:Env w) (hown:w.ownsRow B 5 1 v l xs) (hB:B≤w.heap.size) (hl:l≤1099511627776):Calls Tryz.prog 48 #[v,.agg #[.int .i64 k,.bool b,.int .i64 i,.float .f64 f,.string t,.string y,.slice A n c,.slice A' m c']] w (RowPost B l xs (wz i) w):=by
 obtain ⟨iv,hiv,hv0,hv1,hv2⟩:=info_parts infoB
 have HO:=Lib.hid hown
 have HC:=Lib.hid (fun W (hW:Below w.heap.size w W)=>pg.wholeT_any i W hi1 hi2 (hE.below hW).num.tab)
 have hlen:=wz_len i hi1 hi2
 subst h
 clear hown hE
 go_enter Tryz.func48,Tryz.ntmps48
 go_wp2_with fail
 have hb1:=(Below.refl w.heap.size w).alloc (Nat.le_refl _) (.cells #[.int .i64 2,.bool b,.int .i64 i,.float .f64 f,.string t,.string y,.slice A n c,.slice A' m c'] 29)
 have HO1:=Lib.hid (HO.out.alloc (.cells #[.int .i64 2,.bool b,.int .i64 i,.float .f64 f,.string t,.string y,.slice A n c,.slice A' m c'] 29))
 have hk1:=(Lib.OthersKept.refl 5 none w).alloc (.cells #[.int .i64 2,.bool b,.int .i64 i,.float .f64 f,.string t,.string y,.slice A n c,.slice A' m c'] 29)
 generalize (w.alloc (.cells #[.int .i64 2,.bool b,.int .i64 i,.float .f64 f,.string t,.string y,.slice A n c,.slice A' m c'] 29))=W1 at*
 refine (HC.out W1 hb1).mono ?_
 rintro e w2 ⟨rfl,hb2⟩
 have HO2:=Lib.hid (own_below HO1.out hb2)
 have hk2:=kept_below hk1 hb1.size hb2
 have hb3:Below B w w2:=(hb1.trans (hb2.mono hb1.size)).mono hB
 have hz3:B≤w2.heap.size:=Nat.le_trans hB hb3.size
 have hsz:(big.strN (big.wtx i)).size≤30:=by rw [←bz_length];exact hlen
 have HZ:=Lib.hid (strCells_zs (big.strN (big.wtx i)))
 have HW:Hid (bz (big.strN (big.wtx i))=wz i):=Lib.hid rfl
 generalize big.strN (big.wtx i)=T at*
 clear hb1 hb2 hk1 HO1 HC HO hlen
 go_wp2_with (at_builtin;go_must (refine Lib.wpList_append_own_string _ rfl _ _ _ _ rfl B 5 iv Tryz.underlying22 Tryz.underlying9 hiv hv0 hv1 hv2 v l xs rfl HO2.out T rfl (show l+T.size≤maxLen by unfold maxLen;omega) (show l+T.size≤140737488355328 by omega) hz3 ?_;intro v' w5 hown' hgrow' _))
 go_ret
 refine ⟨v',rfl,?_,below_app hb3 HO2.out (Nat.le_refl _) hz3 hgrow',kept_app0 hk2 HO2.out hgrow'⟩
 rw [←HW.out,bz_length,←HZ.out]
 exact hown'
set_option maxRecDepth 100000 in
set_option maxHeartbeats 4000000 in
theorem app_float (k:Int) (h:k=3) (hf:f<18446744073709551616) (hE:Env w) (hown:w.ownsRow B 5 1 v l xs) (hB:B≤w.heap.size) (hl:l≤1099511627776):Calls Tryz.prog 48 #[v,.agg #[.int .i64 k,.bool b,.int .i64 i,.float .f64 f,.string t,.string y,.slice A n c,.slice A' m c']] w (RowPost B l xs (fz f) w):=by
 obtain ⟨iv,hiv,hv0,hv1,hv2⟩:=info_parts infoB
 have HO:=Lib.hid hown
 have HC:=Lib.hid (fun W (hW:Below w.heap.size w W)=>pg.floatText_any f hf W (hE.below hW).num)
 have hlen:=fz_len f
 subst h
 clear hown hE
 go_enter Tryz.func48,Tryz.ntmps48
 go_wp2_with fail
 have hb1:=(Below.refl w.heap.size w).alloc (Nat.le_refl _) (.cells #[.int .i64 3,.bool b,.int .i64 i,.float .f64 f,.string t,.string y,.slice A n c,.slice A' m c'] 29)
 have HO1:=Lib.hid (HO.out.alloc (.cells #[.int .i64 3,.bool b,.int .i64 i,.float .f64 f,.string t,.string y,.slice A n c,.slice A' m c'] 29))
 have hk1:=(Lib.OthersKept.refl 5 none w).alloc (.cells #[.int .i64 3,.bool b,.int .i64 i,.float .f64 f,.string t,.string y,.slice A n c,.slice A' m c'] 29)
 generalize (w.alloc (.cells #[.int .i64 3,.bool b,.int .i64 i,.float .f64 f,.string t,.string y,.slice A n c,.slice A' m c'] 29))=W1 at*
 refine (HC.out W1 hb1).mono ?_
 rintro e w2 ⟨rfl,hb2⟩
 have HO2:=Lib.hid (own_below HO1.out hb2)
 have hk2:=kept_below hk1 hb1.size hb2
 have hb3:Below B w w2:=(hb1.trans (hb2.mono hb1.size)).mono hB
 have hz3:B≤w2.heap.size:=Nat.le_trans hB hb3.size
 have hsz:(pg.ftx f).size≤1001:=by rw [←bz_length];exact hlen
 have HZ:=Lib.hid (strCells_zs (pg.ftx f))
 have HW:Hid (bz (pg.ftx f)=fz f):=Lib.hid rfl
 generalize pg.ftx f=T at*
 clear hb1 hb2 hk1 HO1 HC HO hlen
 go_wp2_with (at_builtin;go_must (refine Lib.wpList_append_own_string _ rfl _ _ _ _ rfl B 5 iv Tryz.underlying22 Tryz.underlying9 hiv hv0 hv1 hv2 v l xs rfl HO2.out T rfl (show l+T.size≤maxLen by unfold maxLen;omega) (show l+T.size≤140737488355328 by omega) hz3 ?_;intro v' w5 hown' hgrow' _))
 go_ret
 refine ⟨v',rfl,?_,below_app hb3 HO2.out (Nat.le_refl _) hz3 hgrow',kept_app0 hk2 HO2.out hgrow'⟩
 rw [←HW.out,bz_length,←HZ.out]
 exact hown'
set_option maxRecDepth 100000 in
set_option maxHeartbeats 4000000 in
theorem app_string (k:Int) (h:k=4) (ht:t.size≤1048576) (hown:w.ownsRow B 5 1 v l xs) (hB:B≤w.heap.size) (hl:l≤1099511627776):Calls Tryz.prog 48 #[v,.agg #[.int .i64 k,.bool b,.int .i64 i,.float .f64 f,.string t,.string y,.slice A n c,.slice A' m c']] w (RowPost B l xs (quoteZ t.data.toList) w):=by
 have HO:=Lib.hid hown
 subst h
 clear hown
 go_enter Tryz.func48,Tryz.ntmps48
 go_wp2_with fail
 have hb1:=(Below.refl B w).alloc hB (.cells #[.int .i64 4,.bool b,.int .i64 i,.float .f64 f,.string t,.string y,.slice A n c,.slice A' m c'] 29)
 have HO1:=Lib.hid (HO.out.alloc (.cells #[.int .i64 4,.bool b,.int .i64 i,.float .f64 f,.string t,.string y,.slice A n c,.slice A' m c'] 29))
 have hk1:=(Lib.OthersKept.refl 5 none w).alloc (.cells #[.int .i64 4,.bool b,.int .i64 i,.float .f64 f,.string t,.string y,.slice A n c,.slice A' m c'] 29)
 have hz1:=hb1.size
 generalize (w.alloc (.cells #[.int .i64 4,.bool b,.int .i64 i,.float .f64 f,.string t,.string y,.slice A n c,.slice A' m c'] 29))=W1 at*
 refine (appendText_any t (by omega) B v l xs W1 HO1.out (by omega) hl).mono ?_
 rintro e w2 ⟨v2,rfl,ho2,hb2,hk2⟩
 have HO2:=Lib.hid ho2
 clear ho2
 go_wp2_with fail
 go_ret
 exact ⟨v2,rfl,HO2.out,hb1.trans hb2,hk1.trans hk2⟩
end
end Go.Proofs.YtjhhdnnblcbdbaaGreatDoor.look
end
section
namespace Go.Proofs.YtjhhdnnblcbdbaaGreatDoor.look
open Go.RowKit mem txt app smap val
attribute [local go_sem] run_store_float
set_option linter.unusedVariables false
theorem kept_box {a w:World} (h:Lib.OthersKept 5 none a w) {k:Nat} {cs:Array Value} {t:TypeId} (hk:a.heap[k]? =some (.cells cs t (0,0))) (ht:t≠5):w.heap[k]? =some (.cells cs t (0,0)):=
 h k _ hk (by simp) (fun c fz e=>by injection e with _ e2;exact ht e2)
theorem row_next {w:World} {B l:Nat} {v:Value} {xs:List Value} {out more:List Int} (h:w.ownsRow B 5 1 v (l+out.length+more.length) (xs++zs out++zs more)):w.ownsRow B 5 1 v (l+(out++more).length) (xs++zs (out++more)):=by
 rw [List.length_append,←Nat.add_assoc,zs_append,←List.append_assoc]
 exact h
theorem pre_len {a b c:List Int} (h:a++b=c):a.length+b.length=c.length:=by rw [←h,List.length_append]
section
variable (b:Bool) (i:Int) (f:Nat) (t y:ByteArray) (A A':Option Addr) (n m c c':Nat) (B:Nat) (v:Value) (l:Nat) (xs:List Value) (w:World) (S:Nat→Prop)
set_option maxRecDepth 100000 in
set_option maxHeartbeats 4000000 in
theorem app_items (M:Nat) (hM:M≤1099511627776) (is:List V) (hn:is.length=n) (hn2:n≤1048576) (hI:IsVs w S is A 0) (hS:Bel S B) (hown:w.ownsRow B 5 1 v l xs) (hB:B≤w.heap.size) (hl:l+((91:Int) :: (txs is++[93])).length≤M)
  (hc:∀(j:Nat) (x:V),is[j]? =some x→∀cs v l xs W,IsV W S x cs→Below B w W→W.ownsRow B 5 1 v l xs→B≤W.heap.size→l+(tx x).length≤M→Calls Tryz.prog 48 #[v,.agg cs.toArray] W (RowPost B l xs (tx x) W)):
  Calls Tryz.prog 48 #[v,.agg #[.int .i64 5,.bool b,.int .i64 i,.float .f64 f,.string t,.string y,.slice A n c,.slice A' m c']] w (RowPost B l xs (91 :: (txs is++[93])) w):=by
 obtain ⟨iv,hiv,hv0,hv1,hv2⟩:=info_parts infoB
 have HO:=Lib.hid hown
 have HI:=Lib.hid hI
 have HS:=Lib.hid hS
 have HC:=Lib.hid hc
 have HN:=Lib.hid hn
 have hlT:l+((txs is).length+2)≤M:=by simp only [List.length_cons,List.length_append,List.length_nil] at hl;omega
 clear hown hI hS hc hn hl
 go_enter Tryz.func48,Tryz.ntmps48
 go_upto_region 1 with (fail)
 have gB:=heap_alloc_new w (.cells #[.int .i64 5,.bool b,.int .i64 i,.float .f64 f,.string t,.string y,.slice A n c,.slice A' m c'] 29)
 have hb0:Below B w (w.alloc (.cells #[.int .i64 5,.bool b,.int .i64 i,.float .f64 f,.string t,.string y,.slice A n c,.slice A' m c'] 29)):=(Below.refl _ _).alloc hB _
 have hk0:Lib.OthersKept 5 none w (w.alloc (.cells #[.int .i64 5,.bool b,.int .i64 i,.float .f64 f,.string t,.string y,.slice A n c,.slice A' m c'] 29)):=(Lib.OthersKept.refl _ _ _).alloc _
 have hz0:w.heap.size+1=(w.alloc (.cells #[.int .i64 5,.bool b,.int .i64 i,.float .f64 f,.string t,.string y,.slice A n c,.slice A' m c'] 29)).heap.size:=by simp
 have HO0:=Lib.hid (HO.out.alloc (.cells #[.int .i64 5,.bool b,.int .i64 i,.float .f64 f,.string t,.string y,.slice A n c,.slice A' m c'] 29))
 generalize (w.alloc (.cells #[.int .i64 5,.bool b,.int .i64 i,.float .f64 f,.string t,.string y,.slice A n c,.slice A' m c'] 29))=W0 at*
 clear HO
 obtain ⟨m0,m1,m2,m3,m4,m5,m6,m7⟩:=blk8 gB
 have GB:=Lib.hid gB
 clear gB
 go_wp2_with (at_builtin;go_must (refine wpList_app _ rfl _ _ _ rfl B 5 iv (.int .u8 0) 1 1 Tryz.underlying22 hiv hv0 hv1 hv2 rfl (by omega) v l xs rfl (HO0.out.alloc _) (W0.heap.size+1) (some ⟨W0.heap.size,0,none⟩) 1 1 [.int .u8 91] rfl rfl (Rd.new W0 [.int .u8 91] 5) (by simp) (by intro u hu;simp at hu;subst hu;rfl) (by unfold maxLen;omega) (by omega) (by simp;omega) ?_;intro v1 w1 hown1 hgrow1 hat1;have HO1:=Lib.hid hown1;have HG1:=Lib.hid hgrow1;have hk1:=kept_app hk0 HO0.out HG1.out;have GB1:=Lib.hid (kept_box (kept_app (Lib.OthersKept.refl 5 none W0) HO0.out HG1.out) GB.out (by decide));clear m0 m1 m2 m3 m4 m5 m6 m7;obtain ⟨m0,m1,m2,m3,m4,m5,m6,m7⟩:=blk8 GB1.out;clear hown1 hgrow1 hat1))
 have hb1:Below B w w1:=below_app1 hb0 HO0.out (Nat.le_refl _) (by omega) HG1.out
 clear m0 m1 m2 m3 m4 m5 m6 m7 hb0 hk0 HO0 HG1
 go_loopw [0,47] (fun v0 v47 wr=>∃(q:Nat) (vv:Value) (done:List Int),q≤n∧v47= .int .i64 (q:Int)∧vv=v0∧Hid (wr.ownsRow B 5 1 vv (l+done.length) (xs++zs done))∧Hid (done++tailS q (is.drop q)=91 :: txs is)∧Below B w wr∧Lib.OthersKept 5 none w wr) (fun _ v _=>n-(intOf v).toNat)
 case atStart=>exact ⟨0,_,[91],Nat.zero_le _,rfl,rfl,HO1,Lib.hid (by simp [tailS]),hb1,hk1⟩
 case round=>
  clear HO1 hb1 hk1 hz0 GB GB1
  obtain ⟨q,vv,done,hq,rfl,rfl,HOr,HAC,hbr,hkr⟩:=hrel
  have hzr:B≤wr.heap.size:=by have:=hbr.size;omega
  have hdl:=pre_len HAC.out
  simp only [List.length_cons] at hdl
  by_cases hlt:q<n
  ·have hil:q<is.length:=by rw [HN.out];exact hlt
   obtain ⟨x,hx⟩:∃p,is[q]? =some p:=⟨_,List.getElem?_eq_getElem hil⟩
   obtain ⟨ad,cs,rfl,hadB,hcs,hvx⟩:=(HI.out.below HS.out hbr).at_ hx
   rw [Nat.zero_add] at hcs
   have HK:=Lib.hid (HC.out q x hx)
   have hdr:is.drop q=x :: is.drop (q+1):=by
    obtain ⟨h1,h2⟩:=List.getElem?_eq_some_iff.1 hx
    rw [List.drop_eq_getElem_cons h1,h2]
   have HST0:Hid (q=0→tailS q (is.drop q)=tx x++tailS (q+1) (is.drop (q+1))):=Lib.hid fun h=>by subst h;rw [hdr,tailS_first]
   have HST1:Hid (0<q→tailS q (is.drop q)=44 :: (tx x++tailS (q+1) (is.drop (q+1)))):=Lib.hid fun h=>by rw [hdr,tailS_more h]
   have hvx2:=Lib.hid hvx
   have hadr:ad.block<wr.heap.size:=Nat.lt_of_lt_of_le (HS.out _ hadB) hzr
   obtain ⟨T,hT⟩:∃T,tx x=T:=⟨_,rfl⟩
   rw [hT] at HK HST0 HST1
   clear hT
   obtain ⟨k2,b2,i2,f2,t2,y2,is2,fs2⟩:=x
   simp only [IsV] at hvx
   obtain ⟨A2,c2,A2',c2',rfl,_⟩:=hvx
   obtain ⟨d0,d1,d2,d3,d4,d5,d6,d7⟩:=hcs.eight
   clear hcs hx hil hdr
   obtain ⟨R,hR⟩:∃R,tailS (q+1) (is.drop (q+1))=R:=⟨_,rfl⟩
   rw [hR] at HST0 HST1
   have HR:=Lib.hid hR
   clear hR
   obtain ⟨R0,hR0⟩:∃R0,tailS q (is.drop q)=R0:=⟨_,rfl⟩
   rw [hR0] at HST0 HST1 HAC hdl
   clear hR0
   have gM:=heap_alloc_new wr (.cells #[.int .i64 k2,.bool b2,.int .i64 i2,.float .f64 f2,.string t2,.string y2,.slice A2 is2.length c2,.slice A2' fs2.length c2'] 29)
   have hbM:Below B w (wr.alloc (.cells #[.int .i64 k2,.bool b2,.int .i64 i2,.float .f64 f2,.string t2,.string y2,.slice A2 is2.length c2,.slice A2' fs2.length c2'] 29)):=hbr.alloc hzr _
   have hkM:Lib.OthersKept 5 none w (wr.alloc (.cells #[.int .i64 k2,.bool b2,.int .i64 i2,.float .f64 f2,.string t2,.string y2,.slice A2 is2.length c2,.slice A2' fs2.length c2'] 29)):=hkr.alloc _
   have hzM:wr.heap.size+1=(wr.alloc (.cells #[.int .i64 k2,.bool b2,.int .i64 i2,.float .f64 f2,.string t2,.string y2,.slice A2 is2.length c2,.slice A2' fs2.length c2'] 29)).heap.size:=by simp
   have HOM:=Lib.hid (HOr.out.alloc (.cells #[.int .i64 k2,.bool b2,.int .i64 i2,.float .f64 f2,.string t2,.string y2,.slice A2 is2.length c2,.slice A2' fs2.length c2'] 29))
   have HVM:=Lib.hid (hvx2.out.below HS.out ((Below.refl B wr).alloc hzr (.cells #[.int .i64 k2,.bool b2,.int .i64 i2,.float .f64 f2,.string t2,.string y2,.slice A2 is2.length c2,.slice A2' fs2.length c2'] 29)))
   go_upto_region 17 with (fail)
   clear d0 d1 d2 d3 d4 d5 d6 d7
   generalize (wr.alloc (.cells #[.int .i64 k2,.bool b2,.int .i64 i2,.float .f64 f2,.string t2,.string y2,.slice A2 is2.length c2,.slice A2' fs2.length c2'] 29))=W1 at*
   obtain ⟨d0,d1,d2,d3,d4,d5,d6,d7⟩:=blk8 gM
   have GM:=Lib.hid gM
   clear gM
   rcases Nat.eq_zero_or_pos q with h0 | h0
   rotate_left
   ·have hgt:decide ((q:Int)>0)=true:=decide_eq_true (by omega)
    have HE:=Lib.hid (HST1.out h0)
    have hdl2:R0.length=T.length+R.length+1:=by rw [HE.out];simp
    go_wp2_with (at_builtin;go_must (refine wpList_app _ rfl _ _ _ rfl B 5 iv (.int .u8 0) 1 1 Tryz.underlying22 hiv hv0 hv1 hv2 rfl (by omega) vv (l+done.length) (xs++zs done) rfl (HOM.out.alloc _) (W1.heap.size+1) (some ⟨W1.heap.size,0,none⟩) 1 1 [.int .u8 44] rfl rfl (Rd.new W1 [.int .u8 44] 5) (by simp) (by intro u hu;simp at hu;subst hu;rfl) (by unfold maxLen;omega) (by omega) (by simp;omega) ?_;intro v2 w2 hown2 hgrow2 hat2;have HG2:=Lib.hid hgrow2;have HO2:=Lib.hid (row_next (out:=done) (more:=[44]) hown2);have hb2:=below_app1 hbM HOM.out (Nat.le_refl _) (by omega) HG2.out;have hk2:=kept_app hkM HOM.out HG2.out;have GM2:=Lib.hid (kept_box (kept_app (Lib.OthersKept.refl 5 none W1) HOM.out HG2.out) GM.out (by decide));have hb21:=below_app1 (Below.refl B W1) HOM.out (Nat.le_refl _) (by omega) HG2.out;clear d0 d1 d2 d3 d4 d5 d6 d7;obtain ⟨d0,d1,d2,d3,d4,d5,d6,d7⟩:=blk8 GM2.out;have hz2:=hb2.size;clear hown2 hgrow2 hat2))
    have HV2:=Lib.hid (HVM.out.below HS.out hb21)
    clear d0 d1 d2 d3 d4 d5 d6 d7 hb21 HVM hvx2
    refine (HK.out _ v2 (l+(done++[44]).length) (xs++zs (done++[44])) w2 HV2.out hb2 HO2.out (by omega) (by simp;omega)).mono ?_
    rintro e w6 ⟨v6,rfl,ho6,hb6,hk6⟩
    have HO6:=Lib.hid (row_next (out:=done++[44]) (more:=T) ho6)
    have hb7:Below B w w6:=hb2.trans hb6
    have hk7:Lib.OthersKept 5 none w w6:=hk2.trans hk6
    have HAC2:Hid ((done++[44]++T)++tailS (q+1) (is.drop (q+1))=91 :: txs is):=Lib.hid (by rw [HR.out,←HAC.out,HE.out];simp)
    clear ho6 hb6 hk6 HO2 HE HAC HST0 HST1 HR HK hdl hdl2
    go_wp2_with fail
    exact ⟨⟨q+1,_,done++[44]++T,by omega,by go_num,rfl,HO6,HAC2,hb7,hk7⟩,by simp [intOf];omega⟩
   ·have hgt:decide ((q:Int)>0)=false:=decide_eq_false (by omega)
    have HE:=Lib.hid (HST0.out h0)
    have hdl2:R0.length=T.length+R.length:=by rw [HE.out];simp
    go_wp2_with fail
    clear d0 d1 d2 d3 d4 d5 d6 d7 hvx2
    refine (HK.out _ vv (l+done.length) (xs++zs done) W1 HVM.out hbM HOM.out (by omega) (by omega)).mono ?_
    rintro e w6 ⟨v6,rfl,ho6,hb6,hk6⟩
    have HO6:=Lib.hid (row_next (out:=done) (more:=T) ho6)
    have hb7:Below B w w6:=hbM.trans hb6
    have hk7:Lib.OthersKept 5 none w w6:=hkM.trans hk6
    have HAC2:Hid ((done++T)++tailS (q+1) (is.drop (q+1))=91 :: txs is):=Lib.hid (by rw [HR.out,←HAC.out,HE.out];simp)
    clear ho6 hb6 hk6 HE HAC HST0 HST1 HR HK hdl hdl2
    go_wp2_with fail
    exact ⟨⟨q+1,_,done++T,by omega,by go_num,rfl,HO6,HAC2,hb7,hk7⟩,by simp [intOf];omega⟩
  ·obtain rfl:q=n:=by omega
   have HE:Hid (done=91 :: txs is):=Lib.hid (by rw [←HAC.out,List.drop_eq_nil_of_le (by rw [HN.out];exact Nat.le_refl _),tailS_nil,List.append_nil])
   have hdl3:done.length=(txs is).length+1:=by rw [HE.out];rfl
   clear HAC hdl
   go_wp2_with (at_builtin;go_must (refine wpList_app _ rfl _ _ _ rfl B 5 iv (.int .u8 0) 1 1 Tryz.underlying22 hiv hv0 hv1 hv2 rfl (by omega) vv (l+done.length) (xs++zs done) rfl (HOr.out.alloc _) (wr.heap.size+1) (some ⟨wr.heap.size,0,none⟩) 1 1 [.int .u8 93] rfl rfl (Rd.new wr [.int .u8 93] 5) (by simp) (by intro u hu;simp at hu;subst hu;rfl) (by unfold maxLen;omega) (by omega) (by simp;omega) ?_;intro v5 w5 hown5 hgrow5 hat5;have HO5:=Lib.hid hown5;have HG5:=Lib.hid hgrow5;clear hown5 hgrow5 hat5))
   go_ret
   exact ⟨v5,rfl,by rw [show (91:Int) :: (txs is++[93])=done++[93] by rw [HE.out];rfl];exact row_next (out:=done) (more:=[93]) HO5.out,below_app1 hbr HOr.out (Nat.le_refl _) (by omega) HG5.out,kept_app hkr HOr.out HG5.out⟩
end
end Go.Proofs.YtjhhdnnblcbdbaaGreatDoor.look
end
section
namespace Go.Proofs.YtjhhdnnblcbdbaaGreatDoor.look
open Go.RowKit mem txt app smap val
attribute [local go_sem] run_store_float
set_option linter.unusedVariables false
theorem blk9 {w:World} {g:Nat} {t:TypeId} {s c0 c1 c2 c3 c4 c5 c6 c7:Value} (h:w.heap[g]? =some (.cells #[s,c0,c1,c2,c3,c4,c5,c6,c7] t (0,0))):
  w.cell? ⟨g,0,none⟩=some s∧w.cell? ⟨g,1,none⟩=some c0∧w.cell? ⟨g,2,none⟩=some c1∧w.cell? ⟨g,3,none⟩=some c2∧w.cell? ⟨g,4,none⟩=some c3∧w.cell? ⟨g,5,none⟩=some c4∧w.cell? ⟨g,6,none⟩=some c5∧w.cell? ⟨g,7,none⟩=some c6∧w.cell? ⟨g,8,none⟩=some c7:=
 ⟨cell_of_row w g 0 _ t (0,0) h,cell_of_row w g 1 _ t (0,0) h,cell_of_row w g 2 _ t (0,0) h,cell_of_row w g 3 _ t (0,0) h,cell_of_row w g 4 _ t (0,0) h,cell_of_row w g 5 _ t (0,0) h,cell_of_row w g 6 _ t (0,0) h,cell_of_row w g 7 _ t (0,0) h,cell_of_row w g 8 _ t (0,0) h⟩
section
variable (b:Bool) (i:Int) (f:Nat) (t y:ByteArray) (A A':Option Addr) (n m c c':Nat) (B:Nat) (v:Value) (l:Nat) (xs:List Value) (w:World) (S:Nat→Prop)
set_option maxRecDepth 100000 in
set_option maxHeartbeats 4000000 in
theorem app_members (M:Nat) (hM:M≤1099511627776) (fs:List (ByteArray×V)) (hn:fs.length=m) (hn2:m≤1048576) (hI:IsFs w S fs A' 0) (hS:Bel S B) (hok:okf fs) (hown:w.ownsRow B 5 1 v l xs) (hB:B≤w.heap.size) (hl:l+((123:Int) :: (txf fs++[125])).length≤M)
  (hc:∀(j:Nat) (s:ByteArray) (x:V),fs[j]? =some (s,x)→∀cs v l xs W,IsV W S x cs→Below B w W→W.ownsRow B 5 1 v l xs→B≤W.heap.size→l+(tx x).length≤M→Calls Tryz.prog 48 #[v,.agg cs.toArray] W (RowPost B l xs (tx x) W)):
  Calls Tryz.prog 48 #[v,.agg #[.int .i64 6,.bool b,.int .i64 i,.float .f64 f,.string t,.string y,.slice A n c,.slice A' m c']] w (RowPost B l xs (123 :: (txf fs++[125])) w):=by
 obtain ⟨iv,hiv,hv0,hv1,hv2⟩:=info_parts infoB
 have HO:=Lib.hid hown
 have HI:=Lib.hid hI
 have HS:=Lib.hid hS
 have HC:=Lib.hid hc
 have HN:=Lib.hid hn
 have HOK:=Lib.hid hok
 have hlT:l+((txf fs).length+2)≤M:=by simp only [List.length_cons,List.length_append,List.length_nil] at hl;omega
 clear hown hI hS hc hn hl hok
 go_enter Tryz.func48,Tryz.ntmps48
 go_upto_region 1 with (fail)
 have gB:=heap_alloc_new w (.cells #[.int .i64 6,.bool b,.int .i64 i,.float .f64 f,.string t,.string y,.slice A n c,.slice A' m c'] 29)
 have hb0:Below B w (w.alloc (.cells #[.int .i64 6,.bool b,.int .i64 i,.float .f64 f,.string t,.string y,.slice A n c,.slice A' m c'] 29)):=(Below.refl _ _).alloc hB _
 have hk0:Lib.OthersKept 5 none w (w.alloc (.cells #[.int .i64 6,.bool b,.int .i64 i,.float .f64 f,.string t,.string y,.slice A n c,.slice A' m c'] 29)):=(Lib.OthersKept.refl _ _ _).alloc _
 have hz0:w.heap.size+1=(w.alloc (.cells #[.int .i64 6,.bool b,.int .i64 i,.float .f64 f,.string t,.string y,.slice A n c,.slice A' m c'] 29)).heap.size:=by simp
 have HO0:=Lib.hid (HO.out.alloc (.cells #[.int .i64 6,.bool b,.int .i64 i,.float .f64 f,.string t,.string y,.slice A n c,.slice A' m c'] 29))
 generalize (w.alloc (.cells #[.int .i64 6,.bool b,.int .i64 i,.float .f64 f,.string t,.string y,.slice A n c,.slice A' m c'] 29))=W0 at*
 clear HO
 obtain ⟨m0,m1,m2,m3,m4,m5,m6,m7⟩:=blk8 gB
 have GB:=Lib.hid gB
 clear gB
 go_wp2_with (at_builtin;go_must (refine wpList_app _ rfl _ _ _ rfl B 5 iv (.int .u8 0) 1 1 Tryz.underlying22 hiv hv0 hv1 hv2 rfl (by omega) v l xs rfl (HO0.out.alloc _) (W0.heap.size+1) (some ⟨W0.heap.size,0,none⟩) 1 1 [.int .u8 123] rfl rfl (Rd.new W0 [.int .u8 123] 5) (by simp) (by intro u hu;simp at hu;subst hu;rfl) (by unfold maxLen;omega) (by omega) (by simp;omega) ?_;intro v1 w1 hown1 hgrow1 hat1;have HO1:=Lib.hid hown1;have HG1:=Lib.hid hgrow1;have hk1:=kept_app hk0 HO0.out HG1.out;have GB1:=Lib.hid (kept_box (kept_app (Lib.OthersKept.refl 5 none W0) HO0.out HG1.out) GB.out (by decide));clear m0 m1 m2 m3 m4 m5 m6 m7;obtain ⟨m0,m1,m2,m3,m4,m5,m6,m7⟩:=blk8 GB1.out;clear hown1 hgrow1 hat1))
 have hb1:Below B w w1:=below_app1 hb0 HO0.out (Nat.le_refl _) (by omega) HG1.out
 clear m0 m1 m2 m3 m4 m5 m6 m7 hb0 hk0 HO0 HG1
 go_loopw [0,72] (fun v0 v47 wr=>∃(q:Nat) (vv:Value) (done:List Int),q≤m∧v47= .int .i64 (q:Int)∧vv=v0∧Hid (wr.ownsRow B 5 1 vv (l+done.length) (xs++zs done))∧Hid (done++tailF q (fs.drop q)=123 :: txf fs)∧Below B w wr∧Lib.OthersKept 5 none w wr) (fun _ v _=>m-(intOf v).toNat)
 case atStart=>exact ⟨0,_,[123],Nat.zero_le _,rfl,rfl,HO1,Lib.hid (by simp [tailF]),hb1,hk1⟩
 case round=>
  clear HO1 hb1 hk1 hz0 GB GB1
  obtain ⟨q,vv,done,hq,rfl,rfl,HOr,HAC,hbr,hkr⟩:=hrel
  have hzr:B≤wr.heap.size:=by have:=hbr.size;omega
  have hdl:=pre_len HAC.out
  simp only [List.length_cons] at hdl
  by_cases hlt:q<m
  ·have hil:q<fs.length:=by rw [HN.out];exact hlt
   obtain ⟨p,hx⟩:∃p,fs[q]? =some p:=⟨_,List.getElem?_eq_getElem hil⟩
   obtain ⟨s,x⟩:=p
   obtain ⟨ad,cs,rfl,hadB,hcs,hvx⟩:=(HI.out.below HS.out hbr).at_ hx
   rw [Nat.zero_add] at hcs
   simp only at hcs hvx
   have hsz:=(okf_get HOK.out hx).1
   simp only at hsz
   have HK:=Lib.hid (HC.out q s x hx)
   have hdr:fs.drop q=(s,x) :: fs.drop (q+1):=by
    obtain ⟨h1,h2⟩:=List.getElem?_eq_some_iff.1 hx
    rw [List.drop_eq_getElem_cons h1,h2]
   have HST0:Hid (q=0→tailF q (fs.drop q)=quoteZ s.data.toList++(58 :: (tx x++tailF (q+1) (fs.drop (q+1))))):=Lib.hid fun h=>by subst h;rw [hdr,tailF_first]
   have HST1:Hid (0<q→tailF q (fs.drop q)=44 :: (quoteZ s.data.toList++(58 :: (tx x++tailF (q+1) (fs.drop (q+1)))))):=Lib.hid fun h=>by rw [hdr,tailF_more h]
   have hvx2:=Lib.hid hvx
   have hadr:ad.block<wr.heap.size:=Nat.lt_of_lt_of_le (HS.out _ hadB) hzr
   obtain ⟨T,hT⟩:∃T,tx x=T:=⟨_,rfl⟩
   rw [hT] at HK HST0 HST1
   clear hT
   obtain ⟨Q,hQ⟩:∃Q,quoteZ s.data.toList=Q:=⟨_,rfl⟩
   have HAT:=Lib.hid (fun v n xs W ho hB hn=>appendText_any s (by omega) B v n xs W ho hB hn)
   rw [hQ] at HST0 HST1 HAT
   clear hQ
   obtain ⟨k2,b2,i2,f2,t2,y2,is2,fs2⟩:=x
   simp only [IsV] at hvx
   obtain ⟨A2,c2,A2',c2',rfl,_⟩:=hvx
   obtain ⟨d0,d1,d2,d3,d4,d5,d6,d7,d8⟩:=hcs.nine
   clear hcs hx hil hdr
   obtain ⟨R,hR⟩:∃R,tailF (q+1) (fs.drop (q+1))=R:=⟨_,rfl⟩
   rw [hR] at HST0 HST1
   have HR:=Lib.hid hR
   clear hR
   obtain ⟨R0,hR0⟩:∃R0,tailF q (fs.drop q)=R0:=⟨_,rfl⟩
   rw [hR0] at HST0 HST1 HAC hdl
   clear hR0
   have gM:=heap_alloc_new wr (.cells #[.string s,.int .i64 k2,.bool b2,.int .i64 i2,.float .f64 f2,.string t2,.string y2,.slice A2 is2.length c2,.slice A2' fs2.length c2'] 54)
   have hbM:Below B w (wr.alloc (.cells #[.string s,.int .i64 k2,.bool b2,.int .i64 i2,.float .f64 f2,.string t2,.string y2,.slice A2 is2.length c2,.slice A2' fs2.length c2'] 54)):=hbr.alloc hzr _
   have hkM:Lib.OthersKept 5 none w (wr.alloc (.cells #[.string s,.int .i64 k2,.bool b2,.int .i64 i2,.float .f64 f2,.string t2,.string y2,.slice A2 is2.length c2,.slice A2' fs2.length c2'] 54)):=hkr.alloc _
   have hzM:wr.heap.size+1=(wr.alloc (.cells #[.string s,.int .i64 k2,.bool b2,.int .i64 i2,.float .f64 f2,.string t2,.string y2,.slice A2 is2.length c2,.slice A2' fs2.length c2'] 54)).heap.size:=by simp
   have HOM:=Lib.hid (HOr.out.alloc (.cells #[.string s,.int .i64 k2,.bool b2,.int .i64 i2,.float .f64 f2,.string t2,.string y2,.slice A2 is2.length c2,.slice A2' fs2.length c2'] 54))
   have HVM:=Lib.hid (hvx2.out.below HS.out ((Below.refl B wr).alloc hzr (.cells #[.string s,.int .i64 k2,.bool b2,.int .i64 i2,.float .f64 f2,.string t2,.string y2,.slice A2 is2.length c2,.slice A2' fs2.length c2'] 54)))
   go_upto_region 27 with (fail)
   clear d0 d1 d2 d3 d4 d5 d6 d7 d8
   generalize (wr.alloc (.cells #[.string s,.int .i64 k2,.bool b2,.int .i64 i2,.float .f64 f2,.string t2,.string y2,.slice A2 is2.length c2,.slice A2' fs2.length c2'] 54))=W1 at*
   obtain ⟨d0,d1,d2,d3,d4,d5,d6,d7,d8⟩:=blk9 gM
   have GM:=Lib.hid gM
   clear gM
   rcases Nat.eq_zero_or_pos q with h0 | h0
   rotate_left
   ·have hgt:decide ((q:Int)>0)=true:=decide_eq_true (by omega)
    have HE:=Lib.hid (HST1.out h0)
    have hdl2:R0.length=Q.length+T.length+R.length+2:=by rw [HE.out];simp;omega
    go_wp2_with (at_builtin;go_must (refine wpList_app _ rfl (.tmp 79) (.tmp 80) _ rfl B 5 iv (.int .u8 0) 1 1 Tryz.underlying22 hiv hv0 hv1 hv2 rfl (by omega) vv (l+done.length) (xs++zs done) rfl (HOM.out.alloc _) (W1.heap.size+1) (some ⟨W1.heap.size,0,none⟩) 1 1 [.int .u8 44] rfl rfl (Rd.new W1 [.int .u8 44] 5) (by simp) (by intro u hu;simp at hu;subst hu;rfl) (by unfold maxLen;omega) (by omega) (by simp;omega) ?_;intro v2 w2 hown2 hgrow2 hat2;have HG2:=Lib.hid hgrow2;have HO2:=Lib.hid (row_next (out:=done) (more:=[44]) hown2);have hb2:=below_app1 hbM HOM.out (Nat.le_refl _) (by omega) HG2.out;have hk2:=kept_app hkM HOM.out HG2.out;have GM2:=Lib.hid (kept_box (kept_app (Lib.OthersKept.refl 5 none W1) HOM.out HG2.out) GM.out (by decide));have hb21:=below_app1 (Below.refl B W1) HOM.out (Nat.le_refl _) (by omega) HG2.out;clear d0 d1 d2 d3 d4 d5 d6 d7 d8;obtain ⟨d0,d1,d2,d3,d4,d5,d6,d7,d8⟩:=blk9 GM2.out;have hz2:=hb2.size;clear hown2 hgrow2 hat2))
    have HV2:=Lib.hid (HVM.out.below HS.out hb21)
    clear hb21 HVM hvx2
    refine (HAT.out v2 (l+(done++[44]).length) (xs++zs (done++[44])) w2 HO2.out (by omega) (by simp;omega)).mono ?_
    rintro e w3 ⟨v3,rfl,ho3,hb3,hk3⟩
    have HO3:=Lib.hid (row_next (out:=done++[44]) (more:=Q) ho3)
    have GM3:=Lib.hid (kept_box hk3 GM2.out (by decide))
    have HV3:=Lib.hid (HV2.out.below HS.out hb3)
    clear d0 d1 d2 d3 d4 d5 d6 d7 d8
    obtain ⟨d0,d1,d2,d3,d4,d5,d6,d7,d8⟩:=blk9 GM3.out
    have hb4:Below B w w3:=hb2.trans hb3
    have hk4:Lib.OthersKept 5 none w w3:=hk2.trans hk3
    have hz3:B≤w3.heap.size:=by have:=hb4.size;omega
    have hl3:(done++[44]++Q).length=done.length+1+Q.length:=by simp;omega
    clear ho3 hb3 hk3 hb2 hk2 HV2 GM2 HO2
    go_wp2_with (at_builtin;go_must (refine wpList_app _ rfl (.tmp 85) (.tmp 86) _ rfl B 5 iv (.int .u8 0) 1 1 Tryz.underlying22 hiv hv0 hv1 hv2 rfl (by omega) v3 (l+(done++[44]++Q).length) (xs++zs (done++[44]++Q)) rfl (HO3.out.alloc _) (w3.heap.size+1) (some ⟨w3.heap.size,0,none⟩) 1 1 [.int .u8 58] rfl rfl (Rd.new w3 [.int .u8 58] 5) (by simp) (by intro u hu;simp at hu;subst hu;rfl) (by unfold maxLen;omega) (by omega) (by simp;omega) ?_;intro v4 w4 hown4 hgrow4 hat4;have HG4:=Lib.hid hgrow4;have HO4:=Lib.hid (row_next (out:=done++[44]++Q) (more:=[58]) hown4);have hb5:=below_app1 hb4 HO3.out (Nat.le_refl _) (by omega) HG4.out;have hk5:=kept_app hk4 HO3.out HG4.out;have GM4:=Lib.hid (kept_box (kept_app (Lib.OthersKept.refl 5 none w3) HO3.out HG4.out) GM3.out (by decide));have hb41:=below_app1 (Below.refl B w3) HO3.out (Nat.le_refl _) (by omega) HG4.out;clear d0 d1 d2 d3 d4 d5 d6 d7 d8;obtain ⟨d0,d1,d2,d3,d4,d5,d6,d7,d8⟩:=blk9 GM4.out;have hz4:B≤w4.heap.size:=Nat.le_trans hB hb5.size;clear hown4 hgrow4 hat4))
    have HV4:=Lib.hid (HV3.out.below HS.out hb41)
    clear d0 d1 d2 d3 d4 d5 d6 d7 d8 hb41 HV3
    refine (HK.out _ v4 (l+(done++[44]++Q++[58]).length) (xs++zs (done++[44]++Q++[58])) w4 HV4.out hb5 HO4.out hz4 (by simp;omega)).mono ?_
    rintro e w6 ⟨v6,rfl,ho6,hb6,hk6⟩
    have HO6:=Lib.hid (row_next (out:=done++[44]++Q++[58]) (more:=T) ho6)
    have hb7:Below B w w6:=hb5.trans hb6
    have hk7:Lib.OthersKept 5 none w w6:=hk5.trans hk6
    have HAC2:Hid ((done++[44]++Q++[58]++T)++tailF (q+1) (fs.drop (q+1))=123 :: txf fs):=Lib.hid (by rw [HR.out,←HAC.out,HE.out];simp)
    clear ho6 hb6 hk6 HO4 HE HAC HST0 HST1 HR HK hdl hdl2 hl3 HAT
    go_wp2_with fail
    exact ⟨⟨q+1,_,done++[44]++Q++[58]++T,by omega,by go_num,rfl,HO6,HAC2,hb7,hk7⟩,by simp [intOf];omega⟩
   ·have hgt:decide ((q:Int)>0)=false:=decide_eq_false (by omega)
    have HE:=Lib.hid (HST0.out h0)
    have hdl2:R0.length=Q.length+T.length+R.length+1:=by rw [HE.out];simp;omega
    go_wp2_with fail
    clear hvx2
    refine (HAT.out vv (l+done.length) (xs++zs done) W1 HOM.out (by omega) (by omega)).mono ?_
    rintro e w3 ⟨v3,rfl,ho3,hb3,hk3⟩
    have HO3:=Lib.hid (row_next (out:=done) (more:=Q) ho3)
    have GM3:=Lib.hid (kept_box hk3 GM.out (by decide))
    have HV3:=Lib.hid (HVM.out.below HS.out hb3)
    clear d0 d1 d2 d3 d4 d5 d6 d7 d8
    obtain ⟨d0,d1,d2,d3,d4,d5,d6,d7,d8⟩:=blk9 GM3.out
    have hb4:Below B w w3:=hbM.trans hb3
    have hk4:Lib.OthersKept 5 none w w3:=hkM.trans hk3
    have hz3:B≤w3.heap.size:=by have:=hb4.size;omega
    have hl3:(done++Q).length=done.length+Q.length:=by simp
    clear ho3 hb3 hk3 hbM hkM HVM GM HOM
    go_wp2_with (at_builtin;go_must (refine wpList_app _ rfl (.tmp 85) (.tmp 86) _ rfl B 5 iv (.int .u8 0) 1 1 Tryz.underlying22 hiv hv0 hv1 hv2 rfl (by omega) v3 (l+(done++Q).length) (xs++zs (done++Q)) rfl (HO3.out.alloc _) (w3.heap.size+1) (some ⟨w3.heap.size,0,none⟩) 1 1 [.int .u8 58] rfl rfl (Rd.new w3 [.int .u8 58] 5) (by simp) (by intro u hu;simp at hu;subst hu;rfl) (by unfold maxLen;omega) (by omega) (by simp;omega) ?_;intro v4 w4 hown4 hgrow4 hat4;have HG4:=Lib.hid hgrow4;have HO4:=Lib.hid (row_next (out:=done++Q) (more:=[58]) hown4);have hb5:=below_app1 hb4 HO3.out (Nat.le_refl _) (by omega) HG4.out;have hk5:=kept_app hk4 HO3.out HG4.out;have GM4:=Lib.hid (kept_box (kept_app (Lib.OthersKept.refl 5 none w3) HO3.out HG4.out) GM3.out (by decide));have hb41:=below_app1 (Below.refl B w3) HO3.out (Nat.le_refl _) (by omega) HG4.out;clear d0 d1 d2 d3 d4 d5 d6 d7 d8;obtain ⟨d0,d1,d2,d3,d4,d5,d6,d7,d8⟩:=blk9 GM4.out;have hz4:B≤w4.heap.size:=Nat.le_trans hB hb5.size;clear hown4 hgrow4 hat4))
    have HV4:=Lib.hid (HV3.out.below HS.out hb41)
    clear d0 d1 d2 d3 d4 d5 d6 d7 d8 hb41 HV3
    refine (HK.out _ v4 (l+(done++Q++[58]).length) (xs++zs (done++Q++[58])) w4 HV4.out hb5 HO4.out hz4 (by simp;omega)).mono ?_
    rintro e w6 ⟨v6,rfl,ho6,hb6,hk6⟩
    have HO6:=Lib.hid (row_next (out:=done++Q++[58]) (more:=T) ho6)
    have hb7:Below B w w6:=hb5.trans hb6
    have hk7:Lib.OthersKept 5 none w w6:=hk5.trans hk6
    have HAC2:Hid ((done++Q++[58]++T)++tailF (q+1) (fs.drop (q+1))=123 :: txf fs):=Lib.hid (by rw [HR.out,←HAC.out,HE.out];simp)
    clear ho6 hb6 hk6 HO4 HE HAC HST0 HST1 HR HK hdl hdl2 hl3 HAT
    go_wp2_with fail
    exact ⟨⟨q+1,_,done++Q++[58]++T,by omega,by go_num,rfl,HO6,HAC2,hb7,hk7⟩,by simp [intOf];omega⟩
  ·obtain rfl:q=m:=by omega
   have HE:Hid (done=123 :: txf fs):=Lib.hid (by rw [←HAC.out,List.drop_eq_nil_of_le (by rw [HN.out];exact Nat.le_refl _),tailF_nil,List.append_nil])
   have hdl3:done.length=(txf fs).length+1:=by rw [HE.out];rfl
   clear HAC hdl
   go_wp2_with (at_builtin;go_must (refine wpList_app _ rfl _ _ _ rfl B 5 iv (.int .u8 0) 1 1 Tryz.underlying22 hiv hv0 hv1 hv2 rfl (by omega) vv (l+done.length) (xs++zs done) rfl (HOr.out.alloc _) (wr.heap.size+1) (some ⟨wr.heap.size,0,none⟩) 1 1 [.int .u8 125] rfl rfl (Rd.new wr [.int .u8 125] 5) (by simp) (by intro u hu;simp at hu;subst hu;rfl) (by unfold maxLen;omega) (by omega) (by simp;omega) ?_;intro v5 w5 hown5 hgrow5 hat5;have HO5:=Lib.hid hown5;have HG5:=Lib.hid hgrow5;clear hown5 hgrow5 hat5))
   go_ret
   exact ⟨v5,rfl,by rw [show (123:Int) :: (txf fs++[125])=done++[125] by rw [HE.out];rfl];exact row_next (out:=done) (more:=[125]) HO5.out,below_app1 hbr HOr.out (Nat.le_refl _) (by omega) HG5.out,kept_app hkr HOr.out HG5.out⟩
end
theorem Env.keep {w w':World} {B:Nat} (h:Env w) (hB:15<B) (hb:Below B w w'):Env w':=by
 obtain ⟨⟨h1,h2⟩,h3,h4,h5⟩:=h
 refine ⟨⟨fun c hc=>(hb.cell (p:=⟨_,c,none⟩) (by show _<B;simp [shelf.laysValid_ren];omega)).trans (h1 c hc),fun i hi=>⟨(hb.cell (p:=⟨_,2*i,none⟩) (by show _<B;simp [shelf.laysValid_ren];omega)).trans (h2 i hi).1,(hb.cell (p:=⟨_,2*i+1,none⟩) (by show _<B;simp [shelf.laysValid_ren];omega)).trans (h2 i hi).2⟩⟩,?_⟩
 refine ⟨fun i hi=>⟨(hb.cell (p:=⟨14,i*2,none⟩) (by show 14<B;omega)).trans (h3 i hi).1,(hb.cell (p:=⟨14,i*2+1,none⟩) (by show 14<B;omega)).trans (h3 i hi).2⟩,Nat.lt_of_lt_of_le h4 hb.size,?_⟩
 unfold Lib.TabIs World.var? at*
 have hg:Tryz.prog.globalNamed "internal/strconv.uint64pow10" =some 5:=by kernel_rfl
 rw [hg] at h5 ⊢
 simp only [Option.bind_some] at h5 ⊢
 rw [hb.block _ (by omega)]
 exact h5
theorem appendValue_any:∀(N:Nat) (x:V),sz x≤N→N≤1048576→ok x→∀(cs:List Value) (B:Nat) (v:Value) (l:Nat) (xs:List Value) (w:World) (S:Nat→Prop),IsV w S x cs→Bel S B→15<B→Env w→w.ownsRow B 5 1 v l xs→B≤w.heap.size→l+(tx x).length≤1099511627776→
  Calls Tryz.prog 48 #[v,.agg cs.toArray] w (RowPost B l xs (tx x) w):=by
 intro N
 induction N with
 | zero=>intro v hv;have:=sz_pos v;omega
 | succ N ih=>
   intro x hv hN hok cs B v l xs w S hV hS hB13 hE hown hB hl
   obtain ⟨k,b,i,f,t,y,is,fs⟩:=x
   simp only [IsV] at hV
   obtain ⟨A,c,A',c',rfl,hA,hA',his,hfs⟩:=hV
   simp only [sz] at hv
   simp only [ok] at hok
   obtain ⟨⟨hi1,hi2,hf,ht,hy⟩,hos,hof⟩:=hok
   have hl1:=szs_len is
   have hl2:=szf_len fs
   have hl0:l≤1099511627776:=by omega
   simp only [tx] at hl ⊢
   by_cases c1:k=1
   ·rw [if_pos c1]
    exact app_bool b i f t y A A' _ _ c c' B v l xs w k c1 hown hB hl0
   rw [if_neg c1] at hl ⊢
   by_cases c2:k=2
   ·rw [if_pos c2]
    exact app_int b i f t y A A' _ _ c c' B v l xs w k c2 hi1 hi2 hE hown hB hl0
   rw [if_neg c2] at hl ⊢
   by_cases c3:k=3
   ·rw [if_pos c3]
    exact app_float b i f t y A A' _ _ c c' B v l xs w k c3 hf hE hown hB hl0
   rw [if_neg c3] at hl ⊢
   by_cases c4:k=4
   ·rw [if_pos c4]
    exact app_string b i f t y A A' _ _ c c' B v l xs w k c4 ht hown hB hl0
   rw [if_neg c4] at hl ⊢
   by_cases c5:k=5
   ·rw [if_pos c5] at hl ⊢
    subst c5
    exact app_items b i f t y A A' _ _ c c' B v l xs w S 1099511627776 (Nat.le_refl _) is rfl (by omega) his hS hown hB hl
     (fun j x hx cs v l xs W hV hW ho hB hl=>ih x (by have:=szs_get hx;omega) (by omega) (oks_get hos hx) cs B v l xs W S hV hS hB13 (hE.keep hB13 hW) ho hB hl)
   rw [if_neg c5] at hl ⊢
   by_cases c6:k=6
   ·rw [if_pos c6] at hl ⊢
    subst c6
    exact app_members b i f t y A A' _ _ c c' B v l xs w S 1099511627776 (Nat.le_refl _) fs rfl (by omega) hfs hS hof hown hB hl
     (fun j s x hx cs v l xs W hV hW ho hB hl=>ih x (by have:=szf_get hx;simp only at this;omega) (by omega) (okf_get hof hx).2 cs B v l xs W S hV hS hB13 (hE.keep hB13 hW) ho hB hl)
   rw [if_neg c6]
   exact app_null b i f t y A A' _ _ c c' B v l xs w k (by omega) hown hB hl0
end Go.Proofs.YtjhhdnnblcbdbaaGreatDoor.look
end
section
namespace Go.Proofs.YtjhhdnnblcbdbaaGreatDoor.look
open Go.RowKit mem txt app smap val
set_option linter.unusedVariables false
def fv (n:Int):Value:= .iface 131 (.agg #[.int .i64 n])
theorem reason_any (n:Int) (w:World):Calls Tryz.prog 46 #[fv n] w fun e w'=>e= .returned (.int .i64 n)∧w'=w.alloc (.cells #[.int .i64 n] 131):=by
 unfold fv
 have hta:∀w:World,(Instr.typeAssert (.iface 131 (.agg #[.int .i64 n])) 20 131 true).run Tryz.prog w= .ok (.tuple #[.agg #[.int .i64 n],.bool true]) w:=fun w=>by kernel_rfl
 go_enter Tryz.func46,Tryz.ntmps46
 go_wp2_with fail
 go_ret
 exact ⟨rfl,rfl⟩
theorem idleW (p q:Addr) (w:World):CallsD Tryz.prog 45 #[.pointer (some p),.pointer (some q)] .returning w fun e u' w'=>e= .returned (.tuple #[])∧u'= .returning∧w'=w:=by
 refine callsD_of_wpS Tryz.func45 rfl fun c₀ cs hu=>?_
 apply wpS_seq
 apply wpS_region
 simp [wpOpsS,go_sem,recoverD,hu,Tryz.ntmps45,Exit.thenS]
 apply wpS_seq
 apply wpS_region
 simp [wpOpsS,go_sem,Exit.thenS]
 refine wpS_cond (t:=false) (by simp [Act.eval,Array.replicate]) ?_
 simp only [Bool.false_eq_true,if_false]
 refine wpS_of_wp (wp_skip ?_)
 cases c₀
 simp_all [bodyPostS,results,Tryz.results45]
def CatchPost (n:Int) (B p q:Nat) (z:Value) (T:TypeId) (w:World) (e:Ending) (u:FrameMode) (w':World):Prop:=
 e= .returned (.tuple #[])∧u= .panicking [{ v:=fv n,recovered:=true}]∧w'.heap[p]? =some (.cells #[z] T (0,0))∧w'.heap[q]? =some (.cells #[.int .i64 n] 30 (0,0))∧Below B w w'
theorem catchW (n:Int) (x:Value) (y:Int) (B p q:Nat) (w:World) (hpq:p≠q) (hBp:B≤p) (hBq:B≤q) (hp:w.heap[p]? =some (.cells #[x] 22 (0,0))) (hq:w.heap[q]? =some (.cells #[.int .i64 y] 30 (0,0))):
  CallsD Tryz.prog 45 #[.pointer (some ⟨p,0,none⟩),.pointer (some ⟨q,0,none⟩)] (.panicking [{ v:=fv n,recovered:=false}]) w (CatchPost n B p q (.slice none 0 0) 22 w):=by
 have hpl:p<w.heap.size:=(Array.getElem?_eq_some_iff.1 hp).1
 have hql:q<w.heap.size:=(Array.getElem?_eq_some_iff.1 hq).1
 have p0:=blk_cell hp (i:=0) (by simp)
 have p1:=blk_frozen hp 0
 have q1:=blk_frozen hq 0
 have gq:(w.setCell ⟨p,0,none⟩ (.slice none 0 0)).heap[q]? =some (.cells #[.int .i64 y] 30 (0,0)):=(Below.heap_setCell _ _ _ _ (by show q≠p;omega)).trans hq
 have gp:(w.setCell ⟨p,0,none⟩ (.slice none 0 0)).heap[p]? =some (.cells #[.slice none 0 0] 22 (0,0)):=by
  have:=blk_set hp 0 (.slice none 0 0)
  simpa using this
 have q0:=blk_cell gq (i:=0) (by simp)
 simp only [List.getElem_toArray,List.getElem_cons_zero] at p0 q0
 have h1:((w.setCell ⟨p,0,none⟩ (.slice none 0 0)).setCell ⟨q,0,none⟩ (.int .i64 n)).heap[p]? =some (.cells #[.slice none 0 0] 22 (0,0)):=(Below.heap_setCell _ _ _ _ (by show p≠q;omega)).trans gp
 have h2:((w.setCell ⟨p,0,none⟩ (.slice none 0 0)).setCell ⟨q,0,none⟩ (.int .i64 n)).heap[q]? =some (.cells #[.int .i64 n] 30 (0,0)):=by
  have:=blk_set gq 0 (.int .i64 n)
  simpa using this
 have h3:Below B w ((w.setCell ⟨p,0,none⟩ (.slice none 0 0)).setCell ⟨q,0,none⟩ (.int .i64 n)):=((Below.refl _ _).setCell (by show B≤p;omega) _).setCell (by show B≤q;omega) _
 have hsz:((w.setCell ⟨p,0,none⟩ (.slice none 0 0)).setCell ⟨q,0,none⟩ (.int .i64 n)).heap.size=w.heap.size:=by simp [World.setCell]
 have HF:=Lib.hid (And.intro h1 (And.intro h2 (And.intro h3 hsz)))
 clear h1 h2 h3 hsz gp gq hp hq
 refine callsD_of_wpS Tryz.func45 rfl fun c₀ cs hu=>?_
 apply wpS_seq
 apply wpS_region
 simp [wpOpsS,go_sem,recoverD,hu,Tryz.ntmps45,Exit.thenS,fv]
 apply wpS_seq
 apply wpS_region
 simp [wpOpsS,go_sem,Exit.thenS]
 refine wpS_cond (t:=true) (by simp [Act.eval,Array.replicate]) ?_
 simp only [if_true]
 refine wpS_of_wp ?_
 go_wp2_with fail
 refine (reason_any n w).mono ?_
 rintro e w' ⟨rfl,rfl⟩
 go_wp2_with fail
 refine ⟨rfl,_,rfl,.tuple #[],by simp [results,Tryz.results45],rfl,rfl,?_,?_,?_⟩
 ·exact (Lib.alloc_old _ _ _ (by rw [HF.out.2.2.2];exact hpl)).trans HF.out.1
 ·exact (Lib.alloc_old _ _ _ (by rw [HF.out.2.2.2];exact hql)).trans HF.out.2.1
 ·exact HF.out.2.2.1.alloc (by rw [HF.out.2.2.2];omega) _
end Go.Proofs.YtjhhdnnblcbdbaaGreatDoor.look
end
section
namespace Go.Proofs.YtjhhdnnblcbdbaaGreatDoor.look
open Go.RowKit mem txt app smap val
attribute [local go_sem] run_store_float
set_option linter.unusedVariables false
theorem heap3 (w:World) (o1 o2 o3:Obj):(((w.alloc o1).alloc o2).alloc o3).heap[w.heap.size]? =some o1∧(((w.alloc o1).alloc o2).alloc o3).heap[w.heap.size+1]? =some o2∧(((w.alloc o1).alloc o2).alloc o3).heap[w.heap.size+1+1]? =some o3:=by
 refine ⟨?_,?_,?_⟩
 ·rw [Lib.alloc_old _ _ _ (by simp;omega),Lib.alloc_old _ _ _ (by simp),heap_alloc_new]
 ·rw [Lib.alloc_old _ _ _ (by simp),heap_alloc_at _ _ _ (by simp)]
 ·exact heap_alloc_at _ _ _ (by simp)
theorem one_cell {w:World} {g:Nat} {v:Value} {t:TypeId} (h:w.heap[g]? =some (.cells #[v] t (0,0))):w.cell? ⟨g,0,none⟩=some v∧w.frozen? ⟨g,0,none⟩=false:=
 ⟨cell_of_row w g 0 _ t (0,0) h,by simp [World.frozen?,h]⟩
def WrPost (r:Int) (T:List Int) (w:World) (e:Ending) (w':World):Prop:=
 (r=0→∃v' B,e= .returned (.tuple #[v',.int .i64 0])∧w'.ownsRow B 5 1 v' T.length (zs T)∧w.heap.size≤B)∧
 (r≠0→e= .returned (.tuple #[.slice none 0 0,.int .i64 r]))∧Below w.heap.size w w'
set_option maxRecDepth 100000 in
set_option maxHeartbeats 4000000 in
theorem write_cells (k:Int) (b:Bool) (i:Int) (f:Nat) (t y:ByteArray) (A A':Option Addr) (n m c c':Nat) (w:World) (r:Int) (T:List Int) (hT:T.length≤1099511627776)
  (hlk:∀W,Below w.heap.size w W→Calls Tryz.prog 47 #[.agg #[.int .i64 k,.bool b,.int .i64 i,.float .f64 f,.string t,.string y,.slice A n c,.slice A' m c']] W (LkPost W r))
  (hap:∀W,Below w.heap.size w W→Calls Tryz.prog 48 #[.slice none 0 0,.agg #[.int .i64 k,.bool b,.int .i64 i,.float .f64 f,.string t,.string y,.slice A n c,.slice A' m c']] W (RowPost W.heap.size 0 [] T W)):
  Calls Tryz.prog 24 #[.agg #[.int .i64 k,.bool b,.int .i64 i,.float .f64 f,.string t,.string y,.slice A n c,.slice A' m c']] w (WrPost r T w):=by
 have HLK:=Lib.hid hlk
 have HAP:=Lib.hid hap
 clear hlk hap
 have hmf:∀(fn:Fn) (first cap:Array Value) (w:World),(Instr.makeFunc fn first cap).run Tryz.prog w= .ok (.func fn first cap) w:=fun _ _ _ _=>rfl
 go_enter_defers Tryz.func24,Tryz.ntmps24
 go_wp2_with fail
 obtain ⟨g0,g1,g2⟩:=heap3 w (.cells #[.int .i64 k,.bool b,.int .i64 i,.float .f64 f,.string t,.string y,.slice A n c,.slice A' m c'] 29) (.cells #[.slice none 0 0] 22) (.cells #[.int .i64 0] 30)
 have hb3:Below w.heap.size w (((w.alloc (.cells #[.int .i64 k,.bool b,.int .i64 i,.float .f64 f,.string t,.string y,.slice A n c,.slice A' m c'] 29)).alloc (.cells #[.slice none 0 0] 22)).alloc (.cells #[.int .i64 0] 30)):=(((Below.refl _ _).alloc (Nat.le_refl _) _).alloc (by simp) _).alloc (by simp;omega) _
 have hz3:w.heap.size+1+1+1=(((w.alloc (.cells #[.int .i64 k,.bool b,.int .i64 i,.float .f64 f,.string t,.string y,.slice A n c,.slice A' m c'] 29)).alloc (.cells #[.slice none 0 0] 22)).alloc (.cells #[.int .i64 0] 30)).heap.size:=by simp
 generalize (((w.alloc (.cells #[.int .i64 k,.bool b,.int .i64 i,.float .f64 f,.string t,.string y,.slice A n c,.slice A' m c'] 29)).alloc (.cells #[.slice none 0 0] 22)).alloc (.cells #[.int .i64 0] 30))=W3 at*
 refine (HLK.out W3 hb3).mono ?_
 rintro e w4 ⟨he1,he2,hb4⟩
 have G0:=Lib.hid ((hb4.block w.heap.size (by omega)).trans g0)
 have G1:=Lib.hid ((hb4.block (w.heap.size+1) (by omega)).trans g1)
 have G2:=Lib.hid ((hb4.block (w.heap.size+1+1) (by omega)).trans g2)
 have hb5:Below w.heap.size w w4:=hb3.trans (hb4.mono (by omega))
 have hz4:w.heap.size+1+1+1≤w4.heap.size:=by have:=hb4.size;omega
 clear hb3 hb4 hz3 g0 g1 g2
 by_cases hr:r=0
 ·obtain rfl:=he1 hr
  clear he1 he2
  have HR:=Lib.hid hr
  clear hr
  obtain ⟨m0,m1,m2,m3,m4,m5,m6,m7⟩:=blk8 G0.out
  go_wp2_with fail
  clear m0 m1 m2 m3 m4 m5 m6 m7
  refine (HAP.out w4 hb5).mono ?_
  rintro e w6 ⟨v',rfl,ho6,hb6,_⟩
  rw [Nat.zero_add] at ho6
  obtain ⟨A6,c6,rfl,_⟩:=own_form ho6
  have hG1:=(hb6.block (w.heap.size+1) (by omega)).trans G1.out
  have hG2:=(hb6.block (w.heap.size+1+1) (by omega)).trans G2.out
  obtain ⟨n1,n2⟩:=one_cell hG1
  obtain ⟨n3,n4⟩:=one_cell hG2
  have hb7:Below w.heap.size w w6:=hb5.trans (hb6.mono (by omega))
  have HO6:=Lib.hid ho6
  clear hG1 hG2 ho6 hb6 hb5
  go_wp2
  refine leaves_cons (f:=45) (args:= #[.pointer (some ⟨w.heap.size+1,0,none⟩),.pointer (some ⟨w.heap.size+1+1,0,none⟩)]) (by simp) (by simp [go_sem]) ?_
  refine (idleW _ _ _).mono ?_
  rintro e u' w'' ⟨rfl,rfl,rfl⟩
  have f1:((w6.setCell ⟨w.heap.size+1,0,none⟩ (.slice A6 T.length c6)).setCell ⟨w.heap.size+1+1,0,none⟩ (.int .i64 0)).cell? ⟨w.heap.size+1,0,none⟩=some (.slice A6 T.length c6):=by
   exact (World.cell?_setCell_other _ _ _ _ (by simp)).trans (World.cell?_setCell_same _ _ _ n1)
  have f2:((w6.setCell ⟨w.heap.size+1,0,none⟩ (.slice A6 T.length c6)).setCell ⟨w.heap.size+1+1,0,none⟩ (.int .i64 0)).cell? ⟨w.heap.size+1+1,0,none⟩=some (.int .i64 0):=by
   exact World.cell?_setCell_same _ _ _ ((World.cell?_setCell_other _ _ _ _ (by simp)).trans n3)
  have hO:((w6.setCell ⟨w.heap.size+1,0,none⟩ (.slice A6 T.length c6)).setCell ⟨w.heap.size+1+1,0,none⟩ (.int .i64 0)).ownsRow w4.heap.size 5 1 (.slice A6 T.length c6) T.length (zs T):=by
   have h0:=HO6.out
   rw [List.nil_append] at h0
   refine own_kept h0 fun g hg=>?_
   have hl:=(h0.lt g hg).1
   rw [Below.heap_setCell _ _ _ _ (by show g≠w.heap.size+1+1;omega),Below.heap_setCell _ _ _ _ (by show g≠w.heap.size+1;omega)]
  have hB:Below w.heap.size w ((w6.setCell ⟨w.heap.size+1,0,none⟩ (.slice A6 T.length c6)).setCell ⟨w.heap.size+1+1,0,none⟩ (.int .i64 0)):=
   (hb7.setCell (by show _≤w.heap.size+1;omega) _).setCell (by show _≤w.heap.size+1+1;omega) _
  have HF:=Lib.hid (And.intro hO hB)
  clear hO hB n1 n2 n3 n4 hb7 HO6
  generalize ((w6.setCell ⟨w.heap.size+1,0,none⟩ (.slice A6 T.length c6)).setCell ⟨w.heap.size+1+1,0,none⟩ (.int .i64 0))=WF at*
  simp [Leaves,settle,results,Tryz.results24,go_sem,f1,f2]
  exact ⟨fun _=>⟨_,_,rfl,HF.out.1,by omega⟩,fun h=>absurd HR.out h,HF.out.2⟩
 ·obtain rfl:=he2 hr
  clear he1 he2
  have HR:=Lib.hid hr
  clear hr
  unfold fault
  go_wp2
  refine leaves_cons (f:=45) (args:= #[.pointer (some ⟨w.heap.size+1,0,none⟩),.pointer (some ⟨w.heap.size+1+1,0,none⟩)]) (by simp) (by simp [go_sem]) ?_
  refine (catchW r _ 0 w.heap.size (w.heap.size+1) (w.heap.size+1+1) _ (by omega) (by omega) (by omega) G1.out G2.out).mono ?_
  rintro e u' w'' ⟨rfl,rfl,k1,k2,hb8⟩
  obtain ⟨f1,_⟩:=one_cell k1
  obtain ⟨f2,_⟩:=one_cell k2
  simp [Leaves,settle,results,Tryz.results24,go_sem,f1,f2]
  exact ⟨fun h=>absurd h HR.out,fun _=>rfl,hb5.trans hb8⟩
theorem write_any (x:V) (cs:List Value) (w:World) (S:Nat→Prop) (hx:wt x≤16777216) (hs:sz x≤1048576) (hok:ok x) (hV:IsV w S x cs) (hS:Bel S w.heap.size) (hE:Env w):
  Calls Tryz.prog 24 #[.agg cs.toArray] w (WrPost (lk x) (tx x) w):=by
 have hlen:=tx_len x hok
 have hsz:=sz_wt x
 have hz:=hE.num.lt
 have H1:=fun W (hW:Below w.heap.size w W)=>look_any (sz x) x (Nat.le_refl _) (by omega) hok cs W S (hV.below hS hW) (hS.mono hW.size) (hE.below hW)
 have H2:=fun W (hW:Below w.heap.size w W)=>appendValue_any (sz x) x (Nat.le_refl _) (by omega) hok cs W.heap.size (.slice none 0 0) 0 [] W S (hV.below hS hW) (hS.mono hW.size) (by have:=hW.size;omega) (hE.below hW) (World.ownsRow_nil _ _ _ _) (Nat.le_refl _) (by omega)
 obtain ⟨k,b,i,f,t,y,is,fs⟩:=x
 simp only [IsV] at hV
 obtain ⟨A,c,A',c',rfl,_⟩:=hV
 exact write_cells k b i f t y A A' _ _ c c' w _ _ (by omega) H1 H2
end Go.Proofs.YtjhhdnnblcbdbaaGreatDoor.look
end
section
namespace Go.Proofs.YtjhhdnnblcbdbaaGreatDoor.look
open Go.RowKit mem txt app smap val
attribute [local go_sem] run_store_float
set_option linter.unusedVariables false
def kd (k:Int):Int:=if k<0∨7<k then 0 else k
section
variable (b:Bool) (i:Int) (f:Nat) (t y:ByteArray) (A A':Option Addr) (n m c c':Nat) (w:World)
set_option maxRecDepth 100000 in
theorem tkind_any (k:Int):Calls Tryz.prog 40 #[.agg #[.int .i64 k,.bool b,.int .i64 i,.float .f64 f,.string t,.string y,.slice A n c,.slice A' m c']] w fun e w'=>e= .returned (.int .i64 (kd k))∧Below w.heap.size w w':=by
 by_cases h:k<0∨7<k
 ·have hk:kd k=0:=if_pos h
  rw [hk]
  clear hk
  rcases h with h | h
  all_goals
   go_enter Tryz.func40,Tryz.ntmps40
   go_wp2_with fail
   first | (exfalso;omega) | skip
   all_goals first
    | (exfalso;omega)
    | (go_ret;exact ⟨rfl,(Below.refl _ _).alloc (Nat.le_refl _) _⟩)
 ·have hk:kd k=k:=if_neg h
  rw [hk]
  clear hk
  have h1:¬k<0:=fun e=>h (.inl e)
  have h2:¬7<k:=fun e=>h (.inr e)
  clear h
  go_enter Tryz.func40,Tryz.ntmps40
  go_wp2_with fail
  go_ret
  exact ⟨rfl,(Below.refl _ _).alloc (Nat.le_refl _) _⟩
end
end Go.Proofs.YtjhhdnnblcbdbaaGreatDoor.look
end
section
namespace Go.Proofs.YtjhhdnnblcbdbaaGreatDoor.look
open Go.RowKit mem txt app smap val
attribute [local go_sem] run_store_float
set_option linter.unusedVariables false
def EqPost (r:Bool) (w:World) (e:Ending) (w':World):Prop:=e= .returned (.bool r)∧Below w.heap.size w w'
theorem fin_half {f:Nat} (hf:f<18446744073709551616) (hi:f % 9223372036854775808<9218868437227405312):∃(s:Bool) (a:Nat),f=a+big.sgn s∧a<9218868437227405312:=by
 obtain ⟨s,a,rfl,ha⟩:=pg.half_of f hf
 have hm:(a+big.sgn s) % 9223372036854775808=a:=by cases s <;> simp [big.sgn] <;> omega
 exact ⟨s,a,rfl,by omega⟩
set_option maxRecDepth 100000 in
theorem nsame_any (f g:Nat) (hf:f<18446744073709551616) (hi:f % 9223372036854775808<9218868437227405312) (hg:g<18446744073709551616) (hj:g % 9223372036854775808<9218868437227405312) (w:World):
  Calls Tryz.prog 18 #[.float .f64 f,.float .f64 g] w (EqPost (decide (f=g)) w):=by
 obtain ⟨s,a,rfl,ha⟩:=fin_half hf hi
 obtain ⟨s',a',rfl,ha'⟩:=fin_half hg hj
 have H1:=Lib.hid (fun w=>pg.isNaN_any s a w (by omega))
 have H2:=Lib.hid (fun w=>pg.isNaN_any s' a' w (by omega))
 rw [decide_eq_false (show ¬9218868437227405312<a by omega)] at H1
 rw [decide_eq_false (show ¬9218868437227405312<a' by omega)] at H2
 clear hf hi hg hj ha ha'
 generalize a+big.sgn s=x at*
 generalize a'+big.sgn s'=z at*
 obtain ⟨r,hr⟩:∃r,decide (x=z)=r:=⟨_,rfl⟩
 have hrr:((x:Int)==(z:Int))=r:=by
  rw [←hr]
  by_cases h:x=z
  ·rw [h];simp
  ·rw [decide_eq_false h];exact beq_false_of_ne (by omega)
 rw [hr]
 clear hr
 go_enter Tryz.func18,Tryz.ntmps18
 go_wp2_with fail
 refine (H1.out _).mono ?_
 rintro e w1 ⟨rfl,rfl⟩
 go_wp2_with fail
 refine (H2.out _).mono ?_
 rintro e w1 ⟨rfl,rfl⟩
 go_wp2_with fail
 rw [pg.run_f64bits]
 go_wp2_with fail
 rw [pg.run_f64bits]
 go_wp2_with fail
 go_ret
 exact ⟨by simp,Below.refl _ _⟩
theorem two_alloc (w:World) (o1 o2:Obj) {W:World} (hW:(w.alloc o1).alloc o2=W):W.heap[w.heap.size]? =some o1∧W.heap[w.heap.size+1]? =some o2∧Below w.heap.size w W∧w.heap.size+2=W.heap.size:=by
 subst hW
 exact ⟨blk_alloc (heap_alloc_new _ _) _,by simpa using heap_alloc_new (w.alloc o1) o2,((Below.refl w.heap.size w).alloc (Nat.le_refl _) _).alloc (by simp) _,by simp⟩
section
variable (b b2:Bool) (i i2:Int) (f f2:Nat) (t y t2 y2:ByteArray) (A A' E E':Option Addr) (n m c c' n2 m2 e e':Nat) (w:World)
set_option maxRecDepth 100000 in
set_option maxHeartbeats 2000000 in
theorem plain_null (k:Int) (hk:k=0):Calls Tryz.prog 49 #[.agg #[.int .i64 k,.bool b,.int .i64 i,.float .f64 f,.string t,.string y,.slice A n c,.slice A' m c'],.agg #[.int .i64 k,.bool b2,.int .i64 i2,.float .f64 f2,.string t2,.string y2,.slice E n2 e,.slice E' m2 e']] w (EqPost (true) w):=by
 have q1:(k==1)=false:=by rw [hk];rfl
 have q2:(k==2)=false:=by rw [hk];rfl
 have q3:(k==3)=false:=by rw [hk];rfl
 have q4:(k==4)=false:=by rw [hk];rfl
 have q7:(k==7)=false:=by rw [hk];rfl
 have hkd:kd k=k:=if_neg (by omega)
 have HK:=Lib.hid (fun W:World=>tkind_any b i f t y A A' n m c c' W k)
 rw [hkd] at HK
 clear hkd hk
 obtain ⟨W2,hW2⟩:∃W2,(w.alloc (.cells #[.int .i64 k,.bool b,.int .i64 i,.float .f64 f,.string t,.string y,.slice A n c,.slice A' m c'] 29)).alloc (.cells #[.int .i64 k,.bool b2,.int .i64 i2,.float .f64 f2,.string t2,.string y2,.slice E n2 e,.slice E' m2 e'] 29)=W2:=⟨_,rfl⟩
 obtain ⟨g1,g2,hb,hz⟩:=two_alloc w _ _ hW2
 have HB:=Lib.hid hb
 have G1:=Lib.hid g1
 have G2:=Lib.hid g2
 obtain ⟨m0,m1,m2',m3,m4,m5,m6,m7⟩:=val.blk8 g1
 clear g1 g2 hb
 go_enter Tryz.func49,Tryz.ntmps49
 go_wp2_with fail
 refine (HK.out W2).mono ?_
 rintro e0 w2 ⟨rfl,hb2⟩
 have hb3:=HB.out.trans (hb2.mono (by omega))
 have g1:=blk_below G1.out hb2 (by omega)
 have g2:=blk_below G2.out hb2 (by omega)
 clear m0 m1 m2' m3 m4 m5 m6 m7 HK hb2 HB hW2
 obtain ⟨m0,m1,m2',m3,m4,m5,m6,m7⟩:=val.blk8 g1
 obtain ⟨n0,n1,n2',n3,n4,n5,n6,n7⟩:=val.blk8 g2
 have HB3:=Lib.hid hb3
 clear g1 g2 hb3
 go_wp2_with fail
 go_ret
 exact ⟨by simp,HB3.out⟩
set_option maxRecDepth 100000 in
set_option maxHeartbeats 2000000 in
theorem plain_bool (k:Int) (hk:k=1):Calls Tryz.prog 49 #[.agg #[.int .i64 k,.bool b,.int .i64 i,.float .f64 f,.string t,.string y,.slice A n c,.slice A' m c'],.agg #[.int .i64 k,.bool b2,.int .i64 i2,.float .f64 f2,.string t2,.string y2,.slice E n2 e,.slice E' m2 e']] w (EqPost (b==b2) w):=by
 have q1:(k==1)=true:=by rw [hk];rfl
 have q2:(k==2)=false:=by rw [hk];rfl
 have q3:(k==3)=false:=by rw [hk];rfl
 have q4:(k==4)=false:=by rw [hk];rfl
 have q7:(k==7)=false:=by rw [hk];rfl
 obtain ⟨r,hr⟩:∃r,(b==b2)=r:=⟨_,rfl⟩
 rw [hr]
 have hkd:kd k=k:=if_neg (by omega)
 have HK:=Lib.hid (fun W:World=>tkind_any b i f t y A A' n m c c' W k)
 rw [hkd] at HK
 clear hkd hk
 obtain ⟨W2,hW2⟩:∃W2,(w.alloc (.cells #[.int .i64 k,.bool b,.int .i64 i,.float .f64 f,.string t,.string y,.slice A n c,.slice A' m c'] 29)).alloc (.cells #[.int .i64 k,.bool b2,.int .i64 i2,.float .f64 f2,.string t2,.string y2,.slice E n2 e,.slice E' m2 e'] 29)=W2:=⟨_,rfl⟩
 obtain ⟨g1,g2,hb,hz⟩:=two_alloc w _ _ hW2
 have HB:=Lib.hid hb
 have G1:=Lib.hid g1
 have G2:=Lib.hid g2
 obtain ⟨m0,m1,m2',m3,m4,m5,m6,m7⟩:=val.blk8 g1
 clear g1 g2 hb
 go_enter Tryz.func49,Tryz.ntmps49
 go_wp2_with fail
 refine (HK.out W2).mono ?_
 rintro e0 w2 ⟨rfl,hb2⟩
 have hb3:=HB.out.trans (hb2.mono (by omega))
 have g1:=blk_below G1.out hb2 (by omega)
 have g2:=blk_below G2.out hb2 (by omega)
 clear m0 m1 m2' m3 m4 m5 m6 m7 HK hb2 HB hW2
 obtain ⟨m0,m1,m2',m3,m4,m5,m6,m7⟩:=val.blk8 g1
 obtain ⟨n0,n1,n2',n3,n4,n5,n6,n7⟩:=val.blk8 g2
 have HB3:=Lib.hid hb3
 clear g1 g2 hb3
 go_wp2_with fail
 go_ret
 exact ⟨by simp,HB3.out⟩
set_option maxRecDepth 100000 in
set_option maxHeartbeats 2000000 in
theorem plain_int (k:Int) (hk:k=2):Calls Tryz.prog 49 #[.agg #[.int .i64 k,.bool b,.int .i64 i,.float .f64 f,.string t,.string y,.slice A n c,.slice A' m c'],.agg #[.int .i64 k,.bool b2,.int .i64 i2,.float .f64 f2,.string t2,.string y2,.slice E n2 e,.slice E' m2 e']] w (EqPost (i==i2) w):=by
 have q1:(k==1)=false:=by rw [hk];rfl
 have q2:(k==2)=true:=by rw [hk];rfl
 have q3:(k==3)=false:=by rw [hk];rfl
 have q4:(k==4)=false:=by rw [hk];rfl
 have q7:(k==7)=false:=by rw [hk];rfl
 obtain ⟨r,hr⟩:∃r,(i==i2)=r:=⟨_,rfl⟩
 rw [hr]
 have hkd:kd k=k:=if_neg (by omega)
 have HK:=Lib.hid (fun W:World=>tkind_any b i f t y A A' n m c c' W k)
 rw [hkd] at HK
 clear hkd hk
 obtain ⟨W2,hW2⟩:∃W2,(w.alloc (.cells #[.int .i64 k,.bool b,.int .i64 i,.float .f64 f,.string t,.string y,.slice A n c,.slice A' m c'] 29)).alloc (.cells #[.int .i64 k,.bool b2,.int .i64 i2,.float .f64 f2,.string t2,.string y2,.slice E n2 e,.slice E' m2 e'] 29)=W2:=⟨_,rfl⟩
 obtain ⟨g1,g2,hb,hz⟩:=two_alloc w _ _ hW2
 have HB:=Lib.hid hb
 have G1:=Lib.hid g1
 have G2:=Lib.hid g2
 obtain ⟨m0,m1,m2',m3,m4,m5,m6,m7⟩:=val.blk8 g1
 clear g1 g2 hb
 go_enter Tryz.func49,Tryz.ntmps49
 go_wp2_with fail
 refine (HK.out W2).mono ?_
 rintro e0 w2 ⟨rfl,hb2⟩
 have hb3:=HB.out.trans (hb2.mono (by omega))
 have g1:=blk_below G1.out hb2 (by omega)
 have g2:=blk_below G2.out hb2 (by omega)
 clear m0 m1 m2' m3 m4 m5 m6 m7 HK hb2 HB hW2
 obtain ⟨m0,m1,m2',m3,m4,m5,m6,m7⟩:=val.blk8 g1
 obtain ⟨n0,n1,n2',n3,n4,n5,n6,n7⟩:=val.blk8 g2
 have HB3:=Lib.hid hb3
 clear g1 g2 hb3
 go_wp2_with fail
 go_ret
 exact ⟨by simp,HB3.out⟩
set_option maxRecDepth 100000 in
set_option maxHeartbeats 2000000 in
theorem plain_float (k:Int) (hk:k=3) (r:Bool) (hS:∀W:World,Calls Tryz.prog 18 #[.float .f64 f,.float .f64 f2] W (EqPost r W)):Calls Tryz.prog 49 #[.agg #[.int .i64 k,.bool b,.int .i64 i,.float .f64 f,.string t,.string y,.slice A n c,.slice A' m c'],.agg #[.int .i64 k,.bool b2,.int .i64 i2,.float .f64 f2,.string t2,.string y2,.slice E n2 e,.slice E' m2 e']] w (EqPost (r) w):=by
 have q1:(k==1)=false:=by rw [hk];rfl
 have q2:(k==2)=false:=by rw [hk];rfl
 have q3:(k==3)=true:=by rw [hk];rfl
 have q4:(k==4)=false:=by rw [hk];rfl
 have q7:(k==7)=false:=by rw [hk];rfl
 have HS:=Lib.hid hS
 clear hS
 have hkd:kd k=k:=if_neg (by omega)
 have HK:=Lib.hid (fun W:World=>tkind_any b i f t y A A' n m c c' W k)
 rw [hkd] at HK
 clear hkd hk
 obtain ⟨W2,hW2⟩:∃W2,(w.alloc (.cells #[.int .i64 k,.bool b,.int .i64 i,.float .f64 f,.string t,.string y,.slice A n c,.slice A' m c'] 29)).alloc (.cells #[.int .i64 k,.bool b2,.int .i64 i2,.float .f64 f2,.string t2,.string y2,.slice E n2 e,.slice E' m2 e'] 29)=W2:=⟨_,rfl⟩
 obtain ⟨g1,g2,hb,hz⟩:=two_alloc w _ _ hW2
 have HB:=Lib.hid hb
 have G1:=Lib.hid g1
 have G2:=Lib.hid g2
 obtain ⟨m0,m1,m2',m3,m4,m5,m6,m7⟩:=val.blk8 g1
 clear g1 g2 hb
 go_enter Tryz.func49,Tryz.ntmps49
 go_wp2_with fail
 refine (HK.out W2).mono ?_
 rintro e0 w2 ⟨rfl,hb2⟩
 have hb3:=HB.out.trans (hb2.mono (by omega))
 have g1:=blk_below G1.out hb2 (by omega)
 have g2:=blk_below G2.out hb2 (by omega)
 clear m0 m1 m2' m3 m4 m5 m6 m7 HK hb2 HB hW2
 obtain ⟨m0,m1,m2',m3,m4,m5,m6,m7⟩:=val.blk8 g1
 obtain ⟨n0,n1,n2',n3,n4,n5,n6,n7⟩:=val.blk8 g2
 have HB3:=Lib.hid hb3
 clear g1 g2 hb3
 go_wp2_with fail
 refine (HS.out _).mono ?_
 rintro e0 w3 ⟨rfl,hb4⟩
 have HB4:=Lib.hid (HB3.out.trans (hb4.mono HB3.out.size))
 clear hb4 m0 m1 m2' m3 m4 m5 m6 m7 n0 n1 n2' n3 n4 n5 n6 n7
 go_wp2_with fail
 go_ret
 exact ⟨by simp,HB4.out⟩
set_option maxRecDepth 100000 in
set_option maxHeartbeats 2000000 in
theorem plain_text (k:Int) (hk:k=4):Calls Tryz.prog 49 #[.agg #[.int .i64 k,.bool b,.int .i64 i,.float .f64 f,.string t,.string y,.slice A n c,.slice A' m c'],.agg #[.int .i64 k,.bool b2,.int .i64 i2,.float .f64 f2,.string t2,.string y2,.slice E n2 e,.slice E' m2 e']] w (EqPost (t.toList==t2.toList) w):=by
 have q1:(k==1)=false:=by rw [hk];rfl
 have q2:(k==2)=false:=by rw [hk];rfl
 have q3:(k==3)=false:=by rw [hk];rfl
 have q4:(k==4)=true:=by rw [hk];rfl
 have q7:(k==7)=false:=by rw [hk];rfl
 obtain ⟨r,hr⟩:∃r,(t.toList==t2.toList)=r:=⟨_,rfl⟩
 rw [hr]
 have hkd:kd k=k:=if_neg (by omega)
 have HK:=Lib.hid (fun W:World=>tkind_any b i f t y A A' n m c c' W k)
 rw [hkd] at HK
 clear hkd hk
 obtain ⟨W2,hW2⟩:∃W2,(w.alloc (.cells #[.int .i64 k,.bool b,.int .i64 i,.float .f64 f,.string t,.string y,.slice A n c,.slice A' m c'] 29)).alloc (.cells #[.int .i64 k,.bool b2,.int .i64 i2,.float .f64 f2,.string t2,.string y2,.slice E n2 e,.slice E' m2 e'] 29)=W2:=⟨_,rfl⟩
 obtain ⟨g1,g2,hb,hz⟩:=two_alloc w _ _ hW2
 have HB:=Lib.hid hb
 have G1:=Lib.hid g1
 have G2:=Lib.hid g2
 obtain ⟨m0,m1,m2',m3,m4,m5,m6,m7⟩:=val.blk8 g1
 clear g1 g2 hb
 go_enter Tryz.func49,Tryz.ntmps49
 go_wp2_with fail
 refine (HK.out W2).mono ?_
 rintro e0 w2 ⟨rfl,hb2⟩
 have hb3:=HB.out.trans (hb2.mono (by omega))
 have g1:=blk_below G1.out hb2 (by omega)
 have g2:=blk_below G2.out hb2 (by omega)
 clear m0 m1 m2' m3 m4 m5 m6 m7 HK hb2 HB hW2
 obtain ⟨m0,m1,m2',m3,m4,m5,m6,m7⟩:=val.blk8 g1
 obtain ⟨n0,n1,n2',n3,n4,n5,n6,n7⟩:=val.blk8 g2
 have HB3:=Lib.hid hb3
 clear g1 g2 hb3
 go_wp2_with fail
 go_ret
 exact ⟨by simp,HB3.out⟩
end
end Go.Proofs.YtjhhdnnblcbdbaaGreatDoor.look
end
section
namespace Go.Proofs.YtjhhdnnblcbdbaaGreatDoor.look
open Go.RowKit mem txt app smap val
attribute [local go_sem] run_store_float
set_option linter.unusedVariables false
theorem str_ne {a b:ByteArray} (h:a≠b):(a.toList==b.toList)=false:=beq_false_of_ne (fun e=>h (by rw [ByteArray.toList_eq,ByteArray.toList_eq] at e;exact ByteArray.ext (Array.toList_inj.mp e)))
theorem below_drewN {B:Nat} {w w':World} (h:Below B w w') (n:Nat):Below B w (w'.drewN n):=⟨h.os,h.tape,h.output,h.size,h.block⟩
structure Bx (w:World) (o1 o2:Obj) (W:World):Prop where
 be:Below w.heap.size w W
 b1:W.heap[w.heap.size]? =some o1
 b2:W.heap[w.heap.size+1]? =some o2
theorem Bx.below {w W W':World} {o1 o2:Obj} (h:Bx w o1 o2 W) (hb:Below W.heap.size W W'):Bx w o1 o2 W':=⟨h.be.trans (hb.mono h.be.size),blk_below h.b1 hb (blk_lt h.b1),blk_below h.b2 hb (blk_lt h.b2)⟩
def EqP (P:Prop) (w:World) (e:Ending) (w':World):Prop:=∃r:Bool,e= .returned (.bool r)∧(r=true↔P)∧Below w.heap.size w w'
section
variable (b b2:Bool) (i i2:Int) (f f2:Nat) (t y t2 y2:ByteArray) (A A' E E':Option Addr) (n m c c' n2 m2 e e':Nat) (w:World) (S S':Nat→Prop)
set_option maxRecDepth 100000 in
set_option maxHeartbeats 8000000 in
theorem equal_plain (k:Int) (hk:0≤k∧k≤6) (h5:k≠5) (h6:k≠6) (r:Bool) (hP:∀W:World,Below w.heap.size w W→Calls Tryz.prog 49 #[.agg #[.int .i64 k,.bool b,.int .i64 i,.float .f64 f,.string t,.string y,.slice A n c,.slice A' m c'],.agg #[.int .i64 k,.bool b2,.int .i64 i2,.float .f64 f2,.string t2,.string y2,.slice E n2 e,.slice E' m2 e']] W (EqPost r W)):Calls Tryz.prog 25 #[.agg #[.int .i64 k,.bool b,.int .i64 i,.float .f64 f,.string t,.string y,.slice A n c,.slice A' m c'],.agg #[.int .i64 k,.bool b2,.int .i64 i2,.float .f64 f2,.string t2,.string y2,.slice E n2 e,.slice E' m2 e']] w (EqPost r w):=by
 have hkd:kd k=k:=if_neg (by omega)
 have HK:=Lib.hid (fun W:World=>tkind_any b i f t y A A' n m c c' W k)
 have HL:=Lib.hid (fun W:World=>tkind_any b2 i2 f2 t2 y2 E E' n2 m2 e e' W k)
 rw [hkd] at HK
 rw [hkd] at HL
 clear hkd hk
 have hq:(k !=k)=false:=by simp
 have q5:(k==5)=false:=beq_false_of_ne h5
 have q6:(k==6)=false:=beq_false_of_ne h6
 have HP:=Lib.hid hP
 clear h5 h6 hP
 obtain ⟨W2,hW2⟩:∃W2,(w.alloc (.cells #[.int .i64 k,.bool b,.int .i64 i,.float .f64 f,.string t,.string y,.slice A n c,.slice A' m c'] 29)).alloc (.cells #[.int .i64 k,.bool b2,.int .i64 i2,.float .f64 f2,.string t2,.string y2,.slice E n2 e,.slice E' m2 e'] 29)=W2:=⟨_,rfl⟩
 obtain ⟨g1,g2,hb,hz⟩:=two_alloc w _ _ hW2
 have HB2:Hid (Bx w (.cells #[.int .i64 k,.bool b,.int .i64 i,.float .f64 f,.string t,.string y,.slice A n c,.slice A' m c'] 29) (.cells #[.int .i64 k,.bool b2,.int .i64 i2,.float .f64 f2,.string t2,.string y2,.slice E n2 e,.slice E' m2 e'] 29) W2):=Lib.hid ⟨hb,g1,g2⟩
 clear g1 g2 hb
 go_enter Tryz.func25,Tryz.ntmps25
 go_upto_region 1 with (fail)
 have hhs:W2.heap.size=w.heap.size+2:=hz.symm
 clear hW2
 go_cut [12] from 8 to 11 (fun s12 wx=>s12= .bool (k !=k)∧Hid (Bx w (.cells #[.int .i64 k,.bool b,.int .i64 i,.float .f64 f,.string t,.string y,.slice A n c,.slice A' m c'] 29) (.cells #[.int .i64 k,.bool b2,.int .i64 i2,.float .f64 f2,.string t2,.string y2,.slice E n2 e,.slice E' m2 e'] 29) wx))
 case first=>
  obtain ⟨m0,m1,m2',m3,m4,m5,m6,m7⟩:=val.blk8 HB2.out.b1
  obtain ⟨n0,n1,n2',n3,n4,n5,n6,n7⟩:=val.blk8 HB2.out.b2
  go_region_held3 (fun w'=>w'.cell? ⟨w.heap.size,0,none⟩=some (.int .i64 k)∧w'.cell? ⟨w.heap.size,1,none⟩=some (.bool b)∧w'.cell? ⟨w.heap.size,2,none⟩=some (.int .i64 i)∧w'.cell? ⟨w.heap.size,3,none⟩=some (.float .f64 f)∧w'.cell? ⟨w.heap.size,4,none⟩=some (.string t)∧w'.cell? ⟨w.heap.size,5,none⟩=some (.string y)∧w'.cell? ⟨w.heap.size,6,none⟩=some (.slice A n c)∧w'.cell? ⟨w.heap.size,7,none⟩=some (.slice A' m c')∧w'.cell? ⟨w.heap.size+1,0,none⟩=some (.int .i64 k)∧w'.cell? ⟨w.heap.size+1,1,none⟩=some (.bool b2)∧w'.cell? ⟨w.heap.size+1,2,none⟩=some (.int .i64 i2)∧w'.cell? ⟨w.heap.size+1,3,none⟩=some (.float .f64 f2)∧w'.cell? ⟨w.heap.size+1,4,none⟩=some (.string t2)∧w'.cell? ⟨w.heap.size+1,5,none⟩=some (.string y2)∧w'.cell? ⟨w.heap.size+1,6,none⟩=some (.slice E n2 e)∧w'.cell? ⟨w.heap.size+1,7,none⟩=some (.slice E' m2 e')∧Below W2.heap.size W2 w')
   (first | assumption | (refine ⟨?_,?_,?_,?_,?_,?_,?_,?_,?_,?_,?_,?_,?_,?_,?_,?_,?_⟩;all_goals first | assumption | exact (Below.refl _ _).drew) | (obtain ⟨h0,h1,h2,h3,h4,h5,h6,h7,h8,h9,h10,h11,h12,h13,h14,h15,h16⟩:= ‹_∧_›;exact ⟨(hb3.cell (World.block_lt_of_cell? _ _ h0)).trans h0,(hb3.cell (World.block_lt_of_cell? _ _ h1)).trans h1,(hb3.cell (World.block_lt_of_cell? _ _ h2)).trans h2,(hb3.cell (World.block_lt_of_cell? _ _ h3)).trans h3,(hb3.cell (World.block_lt_of_cell? _ _ h4)).trans h4,(hb3.cell (World.block_lt_of_cell? _ _ h5)).trans h5,(hb3.cell (World.block_lt_of_cell? _ _ h6)).trans h6,(hb3.cell (World.block_lt_of_cell? _ _ h7)).trans h7,(hb3.cell (World.block_lt_of_cell? _ _ h8)).trans h8,(hb3.cell (World.block_lt_of_cell? _ _ h9)).trans h9,(hb3.cell (World.block_lt_of_cell? _ _ h10)).trans h10,(hb3.cell (World.block_lt_of_cell? _ _ h11)).trans h11,(hb3.cell (World.block_lt_of_cell? _ _ h12)).trans h12,(hb3.cell (World.block_lt_of_cell? _ _ h13)).trans h13,(hb3.cell (World.block_lt_of_cell? _ _ h14)).trans h14,(hb3.cell (World.block_lt_of_cell? _ _ h15)).trans h15,h16.trans (hb3.mono h16.size)⟩))
   (first | (go_simp;go_at_call_of 40 c';refine (HK.out _).mono ?_;rintro e0 wc ⟨rfl,hb3⟩) | (go_simp;go_at_call_of 40 e';refine (HL.out _).mono ?_;rintro e0 wc ⟨rfl,hb3⟩))
  all_goals
   go_wp2_with fail
   go_meet
   case rel=>
    have hend:= ‹(_=_)∧_›
    obtain ⟨_,_,_,_,_,_,_,_,_,_,_,_,_,_,_,_,hbe⟩:=hend
    exact ⟨by first | rfl | simp [*],Lib.hid (HB2.out.below hbe)⟩
 case rest=>
  obtain ⟨rfl,HB3⟩:=hcut
  clear HB2 hz hhs
  obtain ⟨m0,m1,m2',m3,m4,m5,m6,m7⟩:=val.blk8 HB3.out.b1
  go_wp2_with fail
  refine (HK.out _).mono ?_
  rintro e0 wk ⟨rfl,hbk⟩
  have HB4:=Lib.hid (HB3.out.below hbk)
  clear m0 m1 m2' m3 m4 m5 m6 m7 hbk HK HL
  obtain ⟨m0,m1,m2',m3,m4,m5,m6,m7⟩:=val.blk8 HB4.out.b1
  obtain ⟨n0,n1,n2',n3,n4,n5,n6,n7⟩:=val.blk8 HB4.out.b2
  go_wp2_with fail
  refine (HP.out _ HB4.out.be).mono ?_
  rintro e0 w5 ⟨rfl,hb5⟩
  have hbe:=HB4.out.be.trans (hb5.mono HB4.out.be.size)
  clear hb5 m0 m1 m2' m3 m4 m5 m6 m7 n0 n1 n2' n3 n4 n5 n6 n7 HP
  go_wp2_with fail
  go_ret
  exact ⟨by simp,hbe⟩
set_option maxRecDepth 100000 in
set_option maxHeartbeats 8000000 in
theorem equal_list (k:Int) (hk:0≤k∧k≤6) (hk5:k=5) (is is':List V) (hn:is.length=n) (hn':is'.length=n2) (hnn:n≤1048576) (hI:IsVs w S is A 0) (hI':IsVs w S' is' E 0) (hS:Bel S w.heap.size) (hS':Bel S' w.heap.size)
  (hR:∀(W:World) (q:Nat) (x x':V) (cs cs':List Value),Below w.heap.size w W→is[q]? =some x→is'[q]? =some x'→IsV W S x cs→IsV W S' x' cs'→Calls Tryz.prog 25 #[.agg cs.toArray,.agg cs'.toArray] W (EqP (tx x=tx x') W)):Calls Tryz.prog 25 #[.agg #[.int .i64 k,.bool b,.int .i64 i,.float .f64 f,.string t,.string y,.slice A n c,.slice A' m c'],.agg #[.int .i64 k,.bool b2,.int .i64 i2,.float .f64 f2,.string t2,.string y2,.slice E n2 e,.slice E' m2 e']] w (EqP (is.map tx=is'.map tx) w):=by
 have hkd:kd k=k:=if_neg (by omega)
 have HK:=Lib.hid (fun W:World=>tkind_any b i f t y A A' n m c c' W k)
 have HL:=Lib.hid (fun W:World=>tkind_any b2 i2 f2 t2 y2 E E' n2 m2 e e' W k)
 rw [hkd] at HK
 rw [hkd] at HL
 clear hkd hk
 have hq:(k !=k)=false:=by simp
 have q5:(k==5)=true:=by rw [hk5];rfl
 have HI:=Lib.hid hI
 have HI':=Lib.hid hI'
 have HS:=Lib.hid hS
 have HS':=Lib.hid hS'
 have HN:=Lib.hid hn
 have HN':=Lib.hid hn'
 have HR:=Lib.hid hR
 clear hk5 hI hI' hS hS' hR hn hn'
 obtain ⟨W2,hW2⟩:∃W2,(w.alloc (.cells #[.int .i64 k,.bool b,.int .i64 i,.float .f64 f,.string t,.string y,.slice A n c,.slice A' m c'] 29)).alloc (.cells #[.int .i64 k,.bool b2,.int .i64 i2,.float .f64 f2,.string t2,.string y2,.slice E n2 e,.slice E' m2 e'] 29)=W2:=⟨_,rfl⟩
 obtain ⟨g1,g2,hb,hz⟩:=two_alloc w _ _ hW2
 have HB2:Hid (Bx w (.cells #[.int .i64 k,.bool b,.int .i64 i,.float .f64 f,.string t,.string y,.slice A n c,.slice A' m c'] 29) (.cells #[.int .i64 k,.bool b2,.int .i64 i2,.float .f64 f2,.string t2,.string y2,.slice E n2 e,.slice E' m2 e'] 29) W2):=Lib.hid ⟨hb,g1,g2⟩
 clear g1 g2 hb
 go_enter Tryz.func25,Tryz.ntmps25
 go_upto_region 1 with (fail)
 have hhs:W2.heap.size=w.heap.size+2:=hz.symm
 clear hW2
 go_cut [12] from 8 to 11 (fun s12 wx=>s12= .bool (k !=k)∧Hid (Bx w (.cells #[.int .i64 k,.bool b,.int .i64 i,.float .f64 f,.string t,.string y,.slice A n c,.slice A' m c'] 29) (.cells #[.int .i64 k,.bool b2,.int .i64 i2,.float .f64 f2,.string t2,.string y2,.slice E n2 e,.slice E' m2 e'] 29) wx))
 case first=>
  obtain ⟨m0,m1,m2',m3,m4,m5,m6,m7⟩:=val.blk8 HB2.out.b1
  obtain ⟨n0,n1,n2',n3,n4,n5,n6,n7⟩:=val.blk8 HB2.out.b2
  go_region_held3 (fun w'=>w'.cell? ⟨w.heap.size,0,none⟩=some (.int .i64 k)∧w'.cell? ⟨w.heap.size,1,none⟩=some (.bool b)∧w'.cell? ⟨w.heap.size,2,none⟩=some (.int .i64 i)∧w'.cell? ⟨w.heap.size,3,none⟩=some (.float .f64 f)∧w'.cell? ⟨w.heap.size,4,none⟩=some (.string t)∧w'.cell? ⟨w.heap.size,5,none⟩=some (.string y)∧w'.cell? ⟨w.heap.size,6,none⟩=some (.slice A n c)∧w'.cell? ⟨w.heap.size,7,none⟩=some (.slice A' m c')∧w'.cell? ⟨w.heap.size+1,0,none⟩=some (.int .i64 k)∧w'.cell? ⟨w.heap.size+1,1,none⟩=some (.bool b2)∧w'.cell? ⟨w.heap.size+1,2,none⟩=some (.int .i64 i2)∧w'.cell? ⟨w.heap.size+1,3,none⟩=some (.float .f64 f2)∧w'.cell? ⟨w.heap.size+1,4,none⟩=some (.string t2)∧w'.cell? ⟨w.heap.size+1,5,none⟩=some (.string y2)∧w'.cell? ⟨w.heap.size+1,6,none⟩=some (.slice E n2 e)∧w'.cell? ⟨w.heap.size+1,7,none⟩=some (.slice E' m2 e')∧Below W2.heap.size W2 w')
   (first | assumption | (refine ⟨?_,?_,?_,?_,?_,?_,?_,?_,?_,?_,?_,?_,?_,?_,?_,?_,?_⟩;all_goals first | assumption | exact (Below.refl _ _).drew) | (obtain ⟨h0,h1,h2,h3,h4,h5,h6,h7,h8,h9,h10,h11,h12,h13,h14,h15,h16⟩:= ‹_∧_›;exact ⟨(hb3.cell (World.block_lt_of_cell? _ _ h0)).trans h0,(hb3.cell (World.block_lt_of_cell? _ _ h1)).trans h1,(hb3.cell (World.block_lt_of_cell? _ _ h2)).trans h2,(hb3.cell (World.block_lt_of_cell? _ _ h3)).trans h3,(hb3.cell (World.block_lt_of_cell? _ _ h4)).trans h4,(hb3.cell (World.block_lt_of_cell? _ _ h5)).trans h5,(hb3.cell (World.block_lt_of_cell? _ _ h6)).trans h6,(hb3.cell (World.block_lt_of_cell? _ _ h7)).trans h7,(hb3.cell (World.block_lt_of_cell? _ _ h8)).trans h8,(hb3.cell (World.block_lt_of_cell? _ _ h9)).trans h9,(hb3.cell (World.block_lt_of_cell? _ _ h10)).trans h10,(hb3.cell (World.block_lt_of_cell? _ _ h11)).trans h11,(hb3.cell (World.block_lt_of_cell? _ _ h12)).trans h12,(hb3.cell (World.block_lt_of_cell? _ _ h13)).trans h13,(hb3.cell (World.block_lt_of_cell? _ _ h14)).trans h14,(hb3.cell (World.block_lt_of_cell? _ _ h15)).trans h15,h16.trans (hb3.mono h16.size)⟩))
   (first | (go_simp;go_at_call_of 40 c';refine (HK.out _).mono ?_;rintro e0 wc ⟨rfl,hb3⟩) | (go_simp;go_at_call_of 40 e';refine (HL.out _).mono ?_;rintro e0 wc ⟨rfl,hb3⟩))
  all_goals
   go_wp2_with fail
   go_meet
   case rel=>
    have hend:= ‹(_=_)∧_›
    obtain ⟨_,_,_,_,_,_,_,_,_,_,_,_,_,_,_,_,hbe⟩:=hend
    exact ⟨by simp,Lib.hid (HB2.out.below hbe)⟩
 case rest=>
  obtain ⟨rfl,HB3⟩:=hcut
  clear HB2 hz hhs
  obtain ⟨m0,m1,m2',m3,m4,m5,m6,m7⟩:=val.blk8 HB3.out.b1
  go_wp2_with fail
  refine (HK.out _).mono ?_
  rintro e0 wk ⟨rfl,hbk⟩
  have HB4:=Lib.hid (HB3.out.below hbk)
  clear m0 m1 m2' m3 m4 m5 m6 m7 hbk HK HL
  obtain ⟨m0,m1,m2',m3,m4,m5,m6,m7⟩:=val.blk8 HB4.out.b1
  obtain ⟨n0,n1,n2',n3,n4,n5,n6,n7⟩:=val.blk8 HB4.out.b2
  by_cases hnq:n=n2
  ·subst hnq
   have hdd:(((n:Int)) !=(n:Int))=false:=by simp
   go_wp2_with fail
   clear m0 m1 m2' m3 m4 m5 m6 m7 n0 n1 n2' n3 n4 n5 n6 n7 hdd
   go_loopw [27] (fun v27 wr=>∃(q:Nat),q≤n∧v27= .int .i64 (q:Int)∧Hid (Bx w (.cells #[.int .i64 k,.bool b,.int .i64 i,.float .f64 f,.string t,.string y,.slice A n c,.slice A' m c'] 29) (.cells #[.int .i64 k,.bool b2,.int .i64 i2,.float .f64 f2,.string t2,.string y2,.slice E n e,.slice E' m2 e'] 29) wr)∧Hid ((is.take q).map tx=(is'.take q).map tx)) (fun v _=>n-(intOf v).toNat)
   case atStart=>exact ⟨0,Nat.zero_le _,rfl,HB4,Lib.hid rfl⟩
   case round=>
    clear HB4 HB3
    obtain ⟨q,hqn,rfl,HB,HE⟩:=hrel
    have hszr:=HB.out.be.size
    by_cases hlt:q<n
    ·obtain ⟨x,hx⟩:∃p,is[q]? =some p:=⟨_,List.getElem?_eq_getElem (by rw [HN.out];exact hlt)⟩
     obtain ⟨x',hx'⟩:∃p,is'[q]? =some p:=⟨_,List.getElem?_eq_getElem (by rw [HN'.out];exact hlt)⟩
     obtain ⟨ad,cs,rfl,hadB,hcs,hvx⟩:=(HI.out.below HS.out HB.out.be).at_ hx
     obtain ⟨ae,cs',rfl,haeB,hcs',hvx'⟩:=(HI'.out.below HS'.out HB.out.be).at_ hx'
     rw [Nat.zero_add] at hcs hcs'
     have HX:=Lib.hid hx
     have HX':=Lib.hid hx'
     have HC:=Lib.hid (fun (W:World) (hW:Below wr.heap.size wr W)=>HR.out W q x x' cs cs' (HB.out.be.trans (hW.mono hszr)) hx hx' (hvx.below (HS.out.mono hszr) hW) (hvx'.below (HS'.out.mono hszr) hW))
     have HTE:Hid ((is.take (q+1)).map tx=(is'.take (q+1)).map tx↔tx x=tx x'):=Lib.hid (by
      rw [List.take_add_one,List.take_add_one,hx,hx',List.map_append,List.map_append,HE.out]
      simp)
     have HNE:Hid (is.map tx=is'.map tx→tx x=tx x'):=Lib.hid (fun h=>by
      have h1:(is.map tx)[q]? =(is'.map tx)[q]? :=by rw [h]
      rw [List.getElem?_map,List.getElem?_map,hx,hx'] at h1
      simpa using h1)
     obtain ⟨P,hP⟩:∃P,(tx x=tx x')=P:=⟨_,rfl⟩
     rw [hP] at HC HTE HNE
     clear hP hx hx'
     obtain ⟨k3,b3,i3,f3,t3,y3,is3,fs3⟩:=x
     obtain ⟨k4,b4,i4,f4,t4,y4,is4,fs4⟩:=x'
     simp only [IsV] at hvx hvx'
     obtain ⟨A3,c3,A3',c3',rfl,_⟩:=hvx
     obtain ⟨A4,c4,A4',c4',rfl,_⟩:=hvx'
     obtain ⟨d0,d1,d2,d3,d4,d5,d6,d7⟩:=hcs.eight
     obtain ⟨g0,g1,g2,g3,g4,g5,g6,g7⟩:=hcs'.eight
     obtain ⟨_,_,_,_,_,_,m6,_⟩:=val.blk8 HB.out.b1
     obtain ⟨_,_,_,_,_,_,n6,_⟩:=val.blk8 HB.out.b2
     have hq0:(0:Int)≤(q:Int):=by omega
     have hqi:(q:Int)<(n:Int):=by omega
     clear hcs hcs'
     go_upto_region 10 with (fail)
     go_region_held3 (fun w'=>w'.cell? ⟨w.heap.size,6,none⟩=some (.slice (some ad) n c)∧w'.cell? ⟨w.heap.size+1,6,none⟩=some (.slice (some ae) n e)∧w'.cell? (ad.add (q*8))=some (.int .i64 k3)∧w'.cell? ⟨(ad.add (q*8)).block,(ad.add (q*8)).off+1,none⟩=some (.bool b3)∧w'.cell? ⟨(ad.add (q*8)).block,(ad.add (q*8)).off+2,none⟩=some (.int .i64 i3)∧w'.cell? ⟨(ad.add (q*8)).block,(ad.add (q*8)).off+3,none⟩=some (.float .f64 f3)∧w'.cell? ⟨(ad.add (q*8)).block,(ad.add (q*8)).off+4,none⟩=some (.string t3)∧w'.cell? ⟨(ad.add (q*8)).block,(ad.add (q*8)).off+5,none⟩=some (.string y3)∧w'.cell? ⟨(ad.add (q*8)).block,(ad.add (q*8)).off+6,none⟩=some (.slice A3 is3.length c3)∧w'.cell? ⟨(ad.add (q*8)).block,(ad.add (q*8)).off+7,none⟩=some (.slice A3' fs3.length c3')∧w'.cell? (ae.add (q*8))=some (.int .i64 k4)∧w'.cell? ⟨(ae.add (q*8)).block,(ae.add (q*8)).off+1,none⟩=some (.bool b4)∧w'.cell? ⟨(ae.add (q*8)).block,(ae.add (q*8)).off+2,none⟩=some (.int .i64 i4)∧w'.cell? ⟨(ae.add (q*8)).block,(ae.add (q*8)).off+3,none⟩=some (.float .f64 f4)∧w'.cell? ⟨(ae.add (q*8)).block,(ae.add (q*8)).off+4,none⟩=some (.string t4)∧w'.cell? ⟨(ae.add (q*8)).block,(ae.add (q*8)).off+5,none⟩=some (.string y4)∧w'.cell? ⟨(ae.add (q*8)).block,(ae.add (q*8)).off+6,none⟩=some (.slice A4 is4.length c4)∧w'.cell? ⟨(ae.add (q*8)).block,(ae.add (q*8)).off+7,none⟩=some (.slice A4' fs4.length c4')∧Below wr.heap.size wr w')
      (first | assumption | (refine ⟨?_,?_,?_,?_,?_,?_,?_,?_,?_,?_,?_,?_,?_,?_,?_,?_,?_,?_,?_⟩;all_goals first | assumption | exact (Below.refl _ _).drew) | (obtain ⟨h0,h1,h2,h3,h4,h5,h6,h7,h8,h9,h10,h11,h12,h13,h14,h15,h16,h17,h18⟩:= ‹_∧_›;exact ⟨(hb3.cell (World.block_lt_of_cell? _ _ h0)).trans h0,(hb3.cell (World.block_lt_of_cell? _ _ h1)).trans h1,(hb3.cell (World.block_lt_of_cell? _ _ h2)).trans h2,(hb3.cell (World.block_lt_of_cell? _ _ h3)).trans h3,(hb3.cell (World.block_lt_of_cell? _ _ h4)).trans h4,(hb3.cell (World.block_lt_of_cell? _ _ h5)).trans h5,(hb3.cell (World.block_lt_of_cell? _ _ h6)).trans h6,(hb3.cell (World.block_lt_of_cell? _ _ h7)).trans h7,(hb3.cell (World.block_lt_of_cell? _ _ h8)).trans h8,(hb3.cell (World.block_lt_of_cell? _ _ h9)).trans h9,(hb3.cell (World.block_lt_of_cell? _ _ h10)).trans h10,(hb3.cell (World.block_lt_of_cell? _ _ h11)).trans h11,(hb3.cell (World.block_lt_of_cell? _ _ h12)).trans h12,(hb3.cell (World.block_lt_of_cell? _ _ h13)).trans h13,(hb3.cell (World.block_lt_of_cell? _ _ h14)).trans h14,(hb3.cell (World.block_lt_of_cell? _ _ h15)).trans h15,(hb3.cell (World.block_lt_of_cell? _ _ h16)).trans h16,(hb3.cell (World.block_lt_of_cell? _ _ h17)).trans h17,h18.trans (hb3.mono h18.size)⟩))
      ((go_simp;go_at_call 25;refine (HC.out _ ((Below.refl _ _).drew)).mono ?_;rintro e0 wc ⟨rr,rfl,hrr,hb3⟩))
     all_goals
      have HRR:=Lib.hid hrr
      have HBn:=Lib.hid (HB.out.below (((Below.refl _ _).drew).trans (hb3.mono (Nat.le_refl _))))
      clear d0 d1 d2 d3 d4 d5 d6 d7 g0 g1 g2 g3 g4 g5 g6 g7 m6 n6 hrr hb3
      cases rr with
      | true=>
        go_wp2_with fail
        exact ⟨⟨q+1,by omega,by go_num,HBn,Lib.hid (HTE.out.2 (HRR.out.1 rfl))⟩,by simp [intOf];omega⟩
      | false=>
        go_wp2_with fail
        go_ret
        exact ⟨false,rfl,⟨fun h=>(by cases h),fun h=>HRR.out.2 (HNE.out h)⟩,HBn.out.be⟩
    ·obtain rfl:q=n:=by omega
     have hfin:is.map tx=is'.map tx:=by
      have h:=HE.out
      rw [List.take_of_length_le (by rw [HN.out];exact Nat.le_refl _),List.take_of_length_le (by rw [HN'.out];exact Nat.le_refl _)] at h
      exact h
     go_wp2_with fail
     go_ret
     exact ⟨true,rfl,⟨fun _=>hfin,fun _=>rfl⟩,HB.out.be⟩
  ·have hdd:((n:Int) !=(n2:Int))=true:=by simp [bne];omega
   go_wp2_with fail
   go_ret
   exact ⟨false,rfl,⟨fun h=>(by cases h),fun h=>absurd (by rw [←HN.out,←HN'.out,←List.length_map (f:=tx),h,List.length_map]) hnq⟩,HB4.out.be⟩
end
end Go.Proofs.YtjhhdnnblcbdbaaGreatDoor.look
end
section
namespace Go.Proofs.YtjhhdnnblcbdbaaGreatDoor.look
open Go.RowKit mem txt app smap val
attribute [local go_sem] run_store_float
set_option linter.unusedVariables false
section
variable (b b2:Bool) (i i2:Int) (f f2:Nat) (t y t2 y2:ByteArray) (A A' E E':Option Addr) (n m c c' n2 m2 e e':Nat) (w:World) (S S':Nat→Prop)
set_option maxRecDepth 100000 in
set_option maxHeartbeats 8000000 in
theorem equal_obj (k:Int) (hk:0≤k∧k≤6) (hk6:k=6) (fs fs':List (ByteArray×V)) (hn:fs.length=m) (hn':fs'.length=m2) (hnn:m≤1048576) (hI:IsFs w S fs A' 0) (hI':IsFs w S' fs' E' 0) (hS:Bel S w.heap.size) (hS':Bel S' w.heap.size)
  (hR:∀(W:World) (q:Nat) (p p':ByteArray×V) (cs cs':List Value),Below w.heap.size w W→fs[q]? =some p→fs'[q]? =some p'→IsV W S p.2 cs→IsV W S' p'.2 cs'→Calls Tryz.prog 25 #[.agg cs.toArray,.agg cs'.toArray] W (EqP (tx p.2=tx p'.2) W)):Calls Tryz.prog 25 #[.agg #[.int .i64 k,.bool b,.int .i64 i,.float .f64 f,.string t,.string y,.slice A n c,.slice A' m c'],.agg #[.int .i64 k,.bool b2,.int .i64 i2,.float .f64 f2,.string t2,.string y2,.slice E n2 e,.slice E' m2 e']] w (EqP (fs.map (fun p=>(p.1,tx p.2))=fs'.map (fun p=>(p.1,tx p.2))) w):=by
 have hkd:kd k=k:=if_neg (by omega)
 have HK:=Lib.hid (fun W:World=>tkind_any b i f t y A A' n m c c' W k)
 have HL:=Lib.hid (fun W:World=>tkind_any b2 i2 f2 t2 y2 E E' n2 m2 e e' W k)
 rw [hkd] at HK
 rw [hkd] at HL
 clear hkd hk
 have hq:(k !=k)=false:=by simp
 have q5:(k==5)=false:=by rw [hk6];rfl
 have q6:(k==6)=true:=by rw [hk6];rfl
 have HI:=Lib.hid hI
 have HI':=Lib.hid hI'
 have HS:=Lib.hid hS
 have HS':=Lib.hid hS'
 have HN:=Lib.hid hn
 have HN':=Lib.hid hn'
 have HR:=Lib.hid hR
 clear hk6 hI hI' hS hS' hR hn hn'
 obtain ⟨W2,hW2⟩:∃W2,(w.alloc (.cells #[.int .i64 k,.bool b,.int .i64 i,.float .f64 f,.string t,.string y,.slice A n c,.slice A' m c'] 29)).alloc (.cells #[.int .i64 k,.bool b2,.int .i64 i2,.float .f64 f2,.string t2,.string y2,.slice E n2 e,.slice E' m2 e'] 29)=W2:=⟨_,rfl⟩
 obtain ⟨g1,g2,hb,hz⟩:=two_alloc w _ _ hW2
 have HB2:Hid (Bx w (.cells #[.int .i64 k,.bool b,.int .i64 i,.float .f64 f,.string t,.string y,.slice A n c,.slice A' m c'] 29) (.cells #[.int .i64 k,.bool b2,.int .i64 i2,.float .f64 f2,.string t2,.string y2,.slice E n2 e,.slice E' m2 e'] 29) W2):=Lib.hid ⟨hb,g1,g2⟩
 clear g1 g2 hb
 go_enter Tryz.func25,Tryz.ntmps25
 go_upto_region 1 with (fail)
 have hhs:W2.heap.size=w.heap.size+2:=hz.symm
 clear hW2
 go_cut [12] from 8 to 11 (fun s12 wx=>s12= .bool (k !=k)∧Hid (Bx w (.cells #[.int .i64 k,.bool b,.int .i64 i,.float .f64 f,.string t,.string y,.slice A n c,.slice A' m c'] 29) (.cells #[.int .i64 k,.bool b2,.int .i64 i2,.float .f64 f2,.string t2,.string y2,.slice E n2 e,.slice E' m2 e'] 29) wx))
 case first=>
  obtain ⟨m0,m1,m2',m3,m4,m5,m6,m7⟩:=val.blk8 HB2.out.b1
  obtain ⟨n0,n1,n2',n3,n4,n5,n6,n7⟩:=val.blk8 HB2.out.b2
  go_region_held3 (fun w'=>w'.cell? ⟨w.heap.size,0,none⟩=some (.int .i64 k)∧w'.cell? ⟨w.heap.size,1,none⟩=some (.bool b)∧w'.cell? ⟨w.heap.size,2,none⟩=some (.int .i64 i)∧w'.cell? ⟨w.heap.size,3,none⟩=some (.float .f64 f)∧w'.cell? ⟨w.heap.size,4,none⟩=some (.string t)∧w'.cell? ⟨w.heap.size,5,none⟩=some (.string y)∧w'.cell? ⟨w.heap.size,6,none⟩=some (.slice A n c)∧w'.cell? ⟨w.heap.size,7,none⟩=some (.slice A' m c')∧w'.cell? ⟨w.heap.size+1,0,none⟩=some (.int .i64 k)∧w'.cell? ⟨w.heap.size+1,1,none⟩=some (.bool b2)∧w'.cell? ⟨w.heap.size+1,2,none⟩=some (.int .i64 i2)∧w'.cell? ⟨w.heap.size+1,3,none⟩=some (.float .f64 f2)∧w'.cell? ⟨w.heap.size+1,4,none⟩=some (.string t2)∧w'.cell? ⟨w.heap.size+1,5,none⟩=some (.string y2)∧w'.cell? ⟨w.heap.size+1,6,none⟩=some (.slice E n2 e)∧w'.cell? ⟨w.heap.size+1,7,none⟩=some (.slice E' m2 e')∧Below W2.heap.size W2 w')
   (first | assumption | (refine ⟨?_,?_,?_,?_,?_,?_,?_,?_,?_,?_,?_,?_,?_,?_,?_,?_,?_⟩;all_goals first | assumption | exact (Below.refl _ _).drew) | (obtain ⟨h0,h1,h2,h3,h4,h5,h6,h7,h8,h9,h10,h11,h12,h13,h14,h15,h16⟩:= ‹_∧_›;exact ⟨(hb3.cell (World.block_lt_of_cell? _ _ h0)).trans h0,(hb3.cell (World.block_lt_of_cell? _ _ h1)).trans h1,(hb3.cell (World.block_lt_of_cell? _ _ h2)).trans h2,(hb3.cell (World.block_lt_of_cell? _ _ h3)).trans h3,(hb3.cell (World.block_lt_of_cell? _ _ h4)).trans h4,(hb3.cell (World.block_lt_of_cell? _ _ h5)).trans h5,(hb3.cell (World.block_lt_of_cell? _ _ h6)).trans h6,(hb3.cell (World.block_lt_of_cell? _ _ h7)).trans h7,(hb3.cell (World.block_lt_of_cell? _ _ h8)).trans h8,(hb3.cell (World.block_lt_of_cell? _ _ h9)).trans h9,(hb3.cell (World.block_lt_of_cell? _ _ h10)).trans h10,(hb3.cell (World.block_lt_of_cell? _ _ h11)).trans h11,(hb3.cell (World.block_lt_of_cell? _ _ h12)).trans h12,(hb3.cell (World.block_lt_of_cell? _ _ h13)).trans h13,(hb3.cell (World.block_lt_of_cell? _ _ h14)).trans h14,(hb3.cell (World.block_lt_of_cell? _ _ h15)).trans h15,h16.trans (hb3.mono h16.size)⟩))
   (first | (go_simp;go_at_call_of 40 c';refine (HK.out _).mono ?_;rintro e0 wc ⟨rfl,hb3⟩) | (go_simp;go_at_call_of 40 e';refine (HL.out _).mono ?_;rintro e0 wc ⟨rfl,hb3⟩))
  all_goals
   go_wp2_with fail
   go_meet
   case rel=>
    have hend:= ‹(_=_)∧_›
    obtain ⟨_,_,_,_,_,_,_,_,_,_,_,_,_,_,_,_,hbe⟩:=hend
    exact ⟨by simp,Lib.hid (HB2.out.below hbe)⟩
 case rest=>
  obtain ⟨rfl,HB3⟩:=hcut
  clear HB2 hz hhs
  obtain ⟨m0,m1,m2',m3,m4,m5,m6,m7⟩:=val.blk8 HB3.out.b1
  go_wp2_with fail
  refine (HK.out _).mono ?_
  rintro e0 wk ⟨rfl,hbk⟩
  have HB4:=Lib.hid (HB3.out.below hbk)
  clear m0 m1 m2' m3 m4 m5 m6 m7 hbk HK HL
  obtain ⟨m0,m1,m2',m3,m4,m5,m6,m7⟩:=val.blk8 HB4.out.b1
  obtain ⟨n0,n1,n2',n3,n4,n5,n6,n7⟩:=val.blk8 HB4.out.b2
  by_cases hnq:m=m2
  ·subst hnq
   have hdd:(((m:Int)) !=(m:Int))=false:=by simp
   go_wp2_with fail
   clear m0 m1 m2' m3 m4 m5 m6 m7 n0 n1 n2' n3 n4 n5 n6 n7 hdd
   go_loopw [55] (fun v55 wr=>∃(q:Nat),q≤m∧v55= .int .i64 (q:Int)∧Hid (Bx w (.cells #[.int .i64 k,.bool b,.int .i64 i,.float .f64 f,.string t,.string y,.slice A n c,.slice A' m c'] 29) (.cells #[.int .i64 k,.bool b2,.int .i64 i2,.float .f64 f2,.string t2,.string y2,.slice E n2 e,.slice E' m e'] 29) wr)∧Hid ((fs.take q).map (fun p=>(p.1,tx p.2))=(fs'.take q).map fun p=>(p.1,tx p.2))) (fun v _=>m-(intOf v).toNat)
   case atStart=>exact ⟨0,Nat.zero_le _,rfl,HB4,Lib.hid rfl⟩
   case round=>
    clear HB4 HB3
    obtain ⟨q,hqn,rfl,HB,HE⟩:=hrel
    have hszr:=HB.out.be.size
    by_cases hlt:q<m
    ·obtain ⟨p,hx⟩:∃p,fs[q]? =some p:=⟨_,List.getElem?_eq_getElem (by rw [HN.out];exact hlt)⟩
     obtain ⟨p',hx'⟩:∃p,fs'[q]? =some p:=⟨_,List.getElem?_eq_getElem (by rw [HN'.out];exact hlt)⟩
     obtain ⟨s,x⟩:=p
     obtain ⟨s',x'⟩:=p'
     obtain ⟨ad,cs,rfl,hadB,hcs,hvx⟩:=(HI.out.below HS.out HB.out.be).at_ hx
     obtain ⟨ae,cs',rfl,haeB,hcs',hvx'⟩:=(HI'.out.below HS'.out HB.out.be).at_ hx'
     rw [Nat.zero_add] at hcs hcs'
     simp only at hcs hcs' hvx hvx'
     have HC:=Lib.hid (fun (W:World) (hW:Below wr.heap.size wr W)=>HR.out W q (s,x) (s',x') cs cs' (HB.out.be.trans (hW.mono hszr)) hx hx' (hvx.below (HS.out.mono hszr) hW) (hvx'.below (HS'.out.mono hszr) hW))
     have HTE:Hid ((fs.take (q+1)).map (fun p=>(p.1,tx p.2))=(fs'.take (q+1)).map (fun p=>(p.1,tx p.2))↔(s=s'∧tx x=tx x')):=Lib.hid (by
      rw [List.take_add_one,List.take_add_one,hx,hx',List.map_append,List.map_append,HE.out]
      simp)
     have HNE:Hid (fs.map (fun p=>(p.1,tx p.2))=fs'.map (fun p=>(p.1,tx p.2))→s=s'∧tx x=tx x'):=Lib.hid (fun h=>by
      have h1:(fs.map fun p=>(p.1,tx p.2))[q]? =(fs'.map fun p=>(p.1,tx p.2))[q]? :=by rw [h]
      rw [List.getElem?_map,List.getElem?_map,hx,hx'] at h1
      simpa using h1)
     simp only at HC
     obtain ⟨P,hP⟩:∃P,(tx x=tx x')=P:=⟨_,rfl⟩
     rw [hP] at HC HTE HNE
     clear hP hx hx'
     obtain ⟨k3,b3,i3,f3,t3,y3,is3,fs3⟩:=x
     obtain ⟨k4,b4,i4,f4,t4,y4,is4,fs4⟩:=x'
     simp only [IsV] at hvx hvx'
     obtain ⟨A3,c3,A3',c3',rfl,_⟩:=hvx
     obtain ⟨A4,c4,A4',c4',rfl,_⟩:=hvx'
     obtain ⟨d0,d1,d2,d3,d4,d5,d6,d7,d8⟩:=hcs.nine
     have HCS:=Lib.hid hcs'
     have hq0:(0:Int)≤(q:Int):=by omega
     have hqi:(q:Int)<(m:Int):=by omega
     clear hcs hcs'
     obtain ⟨W1,hW1⟩:∃W1,wr.alloc (.cells #[.string s,.int .i64 k3,.bool b3,.int .i64 i3,.float .f64 f3,.string t3,.string y3,.slice A3 is3.length c3,.slice A3' fs3.length c3'] 54)=W1:=⟨_,rfl⟩
     have hbW:Below wr.heap.size wr W1:=by rw [←hW1];exact (Below.refl _ _).alloc (Nat.le_refl _) _
     have gM:W1.heap[wr.heap.size]? =some (.cells #[.string s,.int .i64 k3,.bool b3,.int .i64 i3,.float .f64 f3,.string t3,.string y3,.slice A3 is3.length c3,.slice A3' fs3.length c3'] 54 (0,0)):=by rw [←hW1];exact heap_alloc_new _ _
     have hzW:wr.heap.size+1=W1.heap.size:=by rw [←hW1];simp
     have HB1:=Lib.hid (HB.out.below hbW)
     have haew:ae.block<wr.heap.size:=by have:=HS'.out _ haeB;omega
     obtain ⟨g0,g1,g2,g3,g4,g5,g6,g7,g8⟩:=(HCS.out.keep (S:=fun b=>b<wr.heap.size) (by rw [add_block];exact haew) (fun p hp=>hbW.cell hp)).nine
     obtain ⟨o0,o1,o2,o3,o4,o5,o6,o7,o8⟩:=val.blk9 gM
     obtain ⟨_,_,_,_,_,_,_,n7⟩:=val.blk8 HB1.out.b2
     have HM:=Lib.hid hW1
     have HBW:=Lib.hid hbW
     have HBD:=Lib.hid (HBW.out.trans (((Below.refl W1.heap.size W1).drew).mono (by omega)))
     clear hW1 gM hbW
     by_cases hss:s=s'
     ·subst hss
      go_upto_region 20 with (fail)
      rw [HM.out]
      go_region_held3 (fun w'=>w'.cell? ⟨wr.heap.size,0,none⟩=some (.string s)∧w'.cell? ⟨wr.heap.size,1,none⟩=some (.int .i64 k3)∧w'.cell? ⟨wr.heap.size,2,none⟩=some (.bool b3)∧w'.cell? ⟨wr.heap.size,3,none⟩=some (.int .i64 i3)∧w'.cell? ⟨wr.heap.size,4,none⟩=some (.float .f64 f3)∧w'.cell? ⟨wr.heap.size,5,none⟩=some (.string t3)∧w'.cell? ⟨wr.heap.size,6,none⟩=some (.string y3)∧w'.cell? ⟨wr.heap.size,7,none⟩=some (.slice A3 is3.length c3)∧w'.cell? ⟨wr.heap.size,8,none⟩=some (.slice A3' fs3.length c3')∧w'.cell? ⟨w.heap.size+1,7,none⟩=some (.slice (some ae) m e')∧w'.cell? (ae.add (q*9))=some (.string s)∧w'.cell? ⟨(ae.add (q*9)).block,(ae.add (q*9)).off+1,none⟩=some (.int .i64 k4)∧w'.cell? ⟨(ae.add (q*9)).block,(ae.add (q*9)).off+2,none⟩=some (.bool b4)∧w'.cell? ⟨(ae.add (q*9)).block,(ae.add (q*9)).off+3,none⟩=some (.int .i64 i4)∧w'.cell? ⟨(ae.add (q*9)).block,(ae.add (q*9)).off+4,none⟩=some (.float .f64 f4)∧w'.cell? ⟨(ae.add (q*9)).block,(ae.add (q*9)).off+5,none⟩=some (.string t4)∧w'.cell? ⟨(ae.add (q*9)).block,(ae.add (q*9)).off+6,none⟩=some (.string y4)∧w'.cell? ⟨(ae.add (q*9)).block,(ae.add (q*9)).off+7,none⟩=some (.slice A4 is4.length c4)∧w'.cell? ⟨(ae.add (q*9)).block,(ae.add (q*9)).off+8,none⟩=some (.slice A4' fs4.length c4')∧Below W1.heap.size W1 w')
       (first | assumption | (refine ⟨?_,?_,?_,?_,?_,?_,?_,?_,?_,?_,?_,?_,?_,?_,?_,?_,?_,?_,?_,?_⟩;all_goals first | assumption | exact (Below.refl _ _).drew) | (obtain ⟨h0,h1,h2,h3,h4,h5,h6,h7,h8,h9,h10,h11,h12,h13,h14,h15,h16,h17,h18,h19⟩:= ‹_∧_›;exact ⟨(hb3.cell (World.block_lt_of_cell? _ _ h0)).trans h0,(hb3.cell (World.block_lt_of_cell? _ _ h1)).trans h1,(hb3.cell (World.block_lt_of_cell? _ _ h2)).trans h2,(hb3.cell (World.block_lt_of_cell? _ _ h3)).trans h3,(hb3.cell (World.block_lt_of_cell? _ _ h4)).trans h4,(hb3.cell (World.block_lt_of_cell? _ _ h5)).trans h5,(hb3.cell (World.block_lt_of_cell? _ _ h6)).trans h6,(hb3.cell (World.block_lt_of_cell? _ _ h7)).trans h7,(hb3.cell (World.block_lt_of_cell? _ _ h8)).trans h8,(hb3.cell (World.block_lt_of_cell? _ _ h9)).trans h9,(hb3.cell (World.block_lt_of_cell? _ _ h10)).trans h10,(hb3.cell (World.block_lt_of_cell? _ _ h11)).trans h11,(hb3.cell (World.block_lt_of_cell? _ _ h12)).trans h12,(hb3.cell (World.block_lt_of_cell? _ _ h13)).trans h13,(hb3.cell (World.block_lt_of_cell? _ _ h14)).trans h14,(hb3.cell (World.block_lt_of_cell? _ _ h15)).trans h15,(hb3.cell (World.block_lt_of_cell? _ _ h16)).trans h16,(hb3.cell (World.block_lt_of_cell? _ _ h17)).trans h17,(hb3.cell (World.block_lt_of_cell? _ _ h18)).trans h18,h19.trans (hb3.mono h19.size)⟩))
       ((go_simp;go_at_call 25;refine (HC.out _ HBD.out).mono ?_;rintro e0 wc ⟨rr,rfl,hrr,hb3⟩))
      all_goals
       have HRR:=Lib.hid hrr
       have HBn:=Lib.hid (HB1.out.below (((Below.refl _ _).drew).trans (hb3.mono (Nat.le_refl _))))
       clear d0 d1 d2 d3 d4 d5 d6 d7 d8 g0 g1 g2 g3 g4 g5 g6 g7 g8 o0 o1 o2 o3 o4 o5 o6 o7 o8 n7 hrr hb3
       cases rr with
       | true=>
         go_wp2_with fail
         exact ⟨⟨q+1,by omega,by go_num,HBn,Lib.hid (HTE.out.2 ⟨by trivial,HRR.out.1 rfl⟩)⟩,by simp [intOf];omega⟩
       | false=>
         go_wp2_with fail
         go_ret
         exact ⟨false,rfl,⟨fun h=>(by cases h),fun h=>HRR.out.2 (HNE.out h).2⟩,HBn.out.be⟩
     ·have hs1:(s.toList==s'.toList)=false:=str_ne hss
      have hs2:(s.toList !=s'.toList)=true:=by simp [bne,hs1]
      go_upto_region 20 with (fail)
      rw [HM.out]
      go_quiet (fail)
      all_goals
       have HBn:=Lib.hid (HB1.out.below (below_drewN (Below.refl W1.heap.size W1) nq))
       clear d0 d1 d2 d3 d4 d5 d6 d7 d8 g0 g1 g2 g3 g4 g5 g6 g7 g8 o0 o1 o2 o3 o4 o5 o6 o7 o8 n7
       go_wp2_with fail
       go_ret
       exact ⟨false,rfl,⟨fun h=>(by cases h),fun h=>absurd (HNE.out h).1 hss⟩,HBn.out.be⟩
    ·obtain rfl:q=m:=by omega
     have hfin:fs.map (fun p=>(p.1,tx p.2))=fs'.map (fun p=>(p.1,tx p.2)):=by
      have h:=HE.out
      rw [List.take_of_length_le (by rw [HN.out];exact Nat.le_refl _),List.take_of_length_le (by rw [HN'.out];exact Nat.le_refl _)] at h
      exact h
     go_wp2_with fail
     go_ret
     exact ⟨true,rfl,⟨fun _=>hfin,fun _=>rfl⟩,HB.out.be⟩
  ·have hdd:((m:Int) !=(m2:Int))=true:=by simp [bne];omega
   go_wp2_with fail
   go_ret
   exact ⟨false,rfl,⟨fun h=>(by cases h),fun h=>absurd (by rw [←HN.out,←HN'.out,←List.length_map (f:=fun p:ByteArray×V=>(p.1,tx p.2)),h,List.length_map]) hnq⟩,HB4.out.be⟩
end
end Go.Proofs.YtjhhdnnblcbdbaaGreatDoor.look
end
section
namespace Go.Proofs.YtjhhdnnblcbdbaaGreatDoor.look
open Go.RowKit mem txt app smap val
attribute [local go_sem] run_store_float
set_option linter.unusedVariables false
theorem EqPost.eqP {P:Prop} {w:World} {e:Ending} {w':World} (h:EqPost true w e w') (hp:P):EqP P w e w':=⟨true,h.1,⟨fun _=>hp,fun _=>rfl⟩,h.2⟩
theorem EqP.post {P:Prop} {w:World} {e:Ending} {w':World} (h:EqP P w e w') (hp:P):EqPost true w e w':=by
 obtain ⟨r,h1,h2,h3⟩:=h
 rw [h2.2 hp] at h1
 exact ⟨h1,h3⟩
theorem equal_flat (k:Int) (b:Bool) (i:Int) (f:Nat) (t y:ByteArray) (is:List V) (fs:List (ByteArray×V)) (hk:0≤k∧k≤4) (hf:k=3→f<18446744073709551616∧f % 9223372036854775808<9218868437227405312) {cs cs':List Value} {w:World} {S S':Nat→Prop}
  (hV:IsV w S (.mk k b i f t y is fs) cs) (hV':IsV w S' (.mk k b i f t y is fs) cs'):Calls Tryz.prog 25 #[.agg cs.toArray,.agg cs'.toArray] w (EqPost true w):=by
 simp only [IsV] at hV hV'
 obtain ⟨A,c,A',c',rfl,_⟩:=hV
 obtain ⟨E,e,E',e',rfl,_⟩:=hV'
 refine equal_plain b b i i f f t y t y A A' E E' _ _ c c' _ _ e e' w k ⟨hk.1,by omega⟩ (by omega) (by omega) true fun W hW=>?_
 by_cases h0:k=0
 ·exact plain_null b b i i f f t y t y A A' E E' _ _ c c' _ _ e e' W k h0
 by_cases h1:k=1
 ·have h:=plain_bool b b i i f f t y t y A A' E E' is.length fs.length c c' is.length fs.length e e' W k h1
  rwa [beq_self_eq_true] at h
 by_cases h2:k=2
 ·have h:=plain_int b b i i f f t y t y A A' E E' is.length fs.length c c' is.length fs.length e e' W k h2
  rwa [beq_self_eq_true] at h
 by_cases h3:k=3
 ·obtain ⟨p1,p2⟩:=hf h3
  have h:=fun W'=>nsame_any f f p1 p2 p1 p2 W'
  rw [decide_eq_true rfl] at h
  exact plain_float b b i i f f t y t y A A' E E' _ _ c c' _ _ e e' W k h3 true h
 ·have h:=plain_text b b i i f f t y t y A A' E E' is.length fs.length c c' is.length fs.length e e' W k (by omega)
  rwa [beq_self_eq_true] at h
theorem equal_refl {P:Nat} {v:V} (hg:jp.Good (jw.Fn P) v):sz v≤1048576→∀(cs cs':List Value) (w:World) (S S':Nat→Prop),IsV w S v cs→IsV w S' v cs'→Bel S w.heap.size→Bel S' w.heap.size→
  Calls Tryz.prog 25 #[.agg cs.toArray,.agg cs'.toArray] w (EqPost true w):=by
 induction hg with
 | nul=>exact fun _ cs cs' w S S' hV hV' _ _=>equal_flat 0 _ _ _ _ _ _ _ (by omega) (by omega) hV hV'
 | boo b=>exact fun _ cs cs' w S S' hV hV' _ _=>equal_flat 1 _ _ _ _ _ _ _ (by omega) (by omega) hV hV'
 | str l hl=>exact fun _ cs cs' w S S' hV hV' _ _=>equal_flat 4 _ _ _ _ _ _ _ (by omega) (by omega) hV hV'
 | num l h1 h2=>
   intro _ cs cs' w S S' hV hV' _ _
   rcases jw.fn_cases h1 h2 with ⟨i,h3,h4,hF⟩ | ⟨f,h3,h4,hF⟩
   ·rw [jw.nv_int hF] at hV hV'
    exact equal_flat 2 _ _ _ _ _ _ _ (by omega) (by omega) hV hV'
   ·rw [jw.nv_flt hF] at hV hV'
    exact equal_flat 3 _ _ _ _ _ _ _ (by omega) (fun _=>⟨h3,h4⟩) hV hV'
 | list is hi ih=>
   intro hz cs cs' w S S' hV hV' hS hS'
   unfold jp.listV at hV hV' hz
   simp only [sz,szf] at hz
   simp only [IsV] at hV hV'
   obtain ⟨A,c,A',c',rfl,_,_,hI,_⟩:=hV
   obtain ⟨E,e,E',e',rfl,_,_,hI',_⟩:=hV'
   have hl:=szs_len is
   refine (equal_list false false 0 0 0 0 ByteArray.empty ByteArray.empty ByteArray.empty ByteArray.empty A A' E E' is.length 0 c c' is.length 0 e e' w S S' 5 (by omega) rfl is is rfl rfl (by omega) hI hI' hS hS' (fun W q z z' ds ds' hW hz1 hz2 hZ hZ'=>?_)).mono fun en w' h=>h.post rfl
   rw [hz1] at hz2
   injection hz2 with hz2
   subst hz2
   exact (ih z (List.mem_of_getElem? hz1) (by have:=szs_get hz1;omega) ds ds' W S S' hZ hZ' (hS.mono hW.size) (hS'.mono hW.size)).mono fun en w' h=>h.eqP rfl
 | obj fs h1 h2 h3 ih=>
   intro hz cs cs' w S S' hV hV' hS hS'
   unfold jp.objV at hV hV' hz
   simp only [sz,szs] at hz
   simp only [IsV] at hV hV'
   obtain ⟨A,c,A',c',rfl,_,_,_,hF⟩:=hV
   obtain ⟨E,e,E',e',rfl,_,_,_,hF'⟩:=hV'
   have hl:=szf_len fs
   refine (equal_obj false false 0 0 0 0 ByteArray.empty ByteArray.empty ByteArray.empty ByteArray.empty A A' E E' 0 fs.length c c' 0 fs.length e e' w S S' 6 (by omega) rfl fs fs rfl rfl (by omega) hF hF' hS hS' (fun W q z z' ds ds' hW hz1 hz2 hZ hZ'=>?_)).mono fun en w' h=>h.post rfl
   rw [hz1] at hz2
   injection hz2 with hz2
   subst hz2
   exact (ih z.1 z.2 (List.mem_of_getElem? hz1) (by have:=szf_get hz1;omega) ds ds' W S S' hZ hZ' (hS.mono hW.size) (hS'.mono hW.size)).mono fun en w' h=>h.eqP rfl
end Go.Proofs.YtjhhdnnblcbdbaaGreatDoor.look
end
section
namespace Go.Proofs.YtjhhdnnblcbdbaaGreatDoor.val
open Go.RowKit mem txt
set_option linter.unusedVariables false
theorem tx_byte_bz (s:ByteArray):∀x∈bz s,0≤x∧x<256:=by
 intro x hx
 unfold bz at hx
 obtain ⟨c,_,rfl⟩:=List.mem_map.1 hx
 have:=c.toNat_lt
 omega
mutual
theorem tx_byte:∀v:V,∀x∈tx v,0≤x∧x<256
 | .mk k b i f t y is fs=>by
   intro x hx
   simp only [tx] at hx
   split at hx
   ·unfold tfz at hx;split at hx <;> simp at hx <;> omega
   split at hx
   ·exact tx_byte_bz _ x hx
   split at hx
   ·exact tx_byte_bz _ x hx
   split at hx
   ·exact quoteZ_byte _ x hx
   split at hx
   ·rcases List.mem_cons.1 hx with rfl | hx
    ·omega
    rcases List.mem_append.1 hx with hx | hx
    ·exact (txs_byte is).1 x hx
    ·simp at hx;omega
   split at hx
   ·rcases List.mem_cons.1 hx with rfl | hx
    ·omega
    rcases List.mem_append.1 hx with hx | hx
    ·exact (txf_byte fs).1 x hx
    ·simp at hx;omega
   ·simp at hx;omega
theorem txs_byte:∀l:List V,(∀x∈txs l,0≤x∧x<256)∧(∀x∈txr l,0≤x∧x<256)
 | []=>by simp [txs,txr]
 | v :: r=>by
   have h1:=tx_byte v
   have h2:=(txs_byte r).2
   simp only [txs,txr]
   refine ⟨fun x hx=>?_,fun x hx=>?_⟩
   ·rcases List.mem_append.1 hx with hx | hx
    ·exact h1 x hx
    ·exact h2 x hx
   ·rcases List.mem_cons.1 hx with rfl | hx
    ·omega
    rcases List.mem_append.1 hx with hx | hx
    ·exact h1 x hx
    ·exact h2 x hx
theorem txf_byte:∀l:List (ByteArray×V),(∀x∈txf l,0≤x∧x<256)∧(∀x∈txg l,0≤x∧x<256)
 | []=>by simp [txf,txg]
 | (s,v) :: r=>by
   have h1:=tx_byte v
   have h2:=(txf_byte r).2
   have h3:=quoteZ_byte s.data.toList
   simp only [txf,txg]
   refine ⟨fun x hx=>?_,fun x hx=>?_⟩
   ·rcases List.mem_append.1 hx with hx | hx
    ·exact h3 x hx
    rcases List.mem_cons.1 hx with rfl | hx
    ·omega
    rcases List.mem_append.1 hx with hx | hx
    ·exact h1 x hx
    ·exact h2 x hx
   ·rcases List.mem_cons.1 hx with rfl | hx
    ·omega
    rcases List.mem_append.1 hx with hx | hx
    ·exact h3 x hx
    rcases List.mem_cons.1 hx with rfl | hx
    ·omega
    rcases List.mem_append.1 hx with hx | hx
    ·exact h1 x hx
    ·exact h2 x hx
end
end Go.Proofs.YtjhhdnnblcbdbaaGreatDoor.val
namespace Go.Proofs.YtjhhdnnblcbdbaaGreatDoor.jw
open Go.RowKit mem val jp
open _root_.Go.Proofs.YtjhhdnnblcbdbaaGreatDoor.look (Env WrPost EqPost write_any equal_refl)
set_option linter.unusedVariables false
attribute [local go_sem] run_store_float
theorem nxw {w a b:World} (h:Hid (Below w.heap.size w a)) (k:Below a.heap.size a b):Hid (Below w.heap.size w b):=Lib.hid (h.out.trans (k.mono h.out.size))
theorem bbw {a b:World} {g:Nat} {o:Obj} (h:a.heap[g]? =some o) (k:Below a.heap.size a b):b.heap[g]? =some o:=(k.block g (Array.getElem?_eq_some_iff.1 h).1).trans h
theorem vbw {a b:World} {S:Nat→Prop} {v:V} {cs:List Value} (h:Hid (IsV a S v cs)) (hS:Bel S a.heap.size) (k:Below a.heap.size a b):Hid (IsV b S v cs):=Lib.hid (h.out.below hS k)
theorem us_zs {T:List Int} (h:∀x∈T,0≤x∧x<256):us (nts T)=app.zs T:=by
 unfold us nts app.zs
 rw [List.map_map,List.map_map]
 refine List.map_congr_left fun x hx=>?_
 have:=h x hx
 simp only [Function.comp]
 congr 1
 omega
theorem conv_all {W:World} {A:Option Addr} {l:List Nat} {n c:Nat} (hl:l.length=n) (h:Rd W W.heap.size A (us l)) (hA:A=none→n=0):(convert 22 9 (.slice A n c)).run Tryz.prog W= .ok (.string (bt l)) W:=by
 have:=conv_take (c:=c) hl h n (Nat.le_refl _) hA W (Below.refl _ _)
 rwa [List.take_of_length_le (by omega)] at this
set_option maxRecDepth 100000 in
set_option maxHeartbeats 4000000 in
theorem jwrites_any {P z:Nat} (hz:z=1074) (hP:P=2^z) (A:Option Addr) (n c:Nat) (s:List Nat) (d:Int) (w:World) (hl:s.length=n) (hn:n≤1048576) (hby:∀x∈s,x<256) (hrd:Rd w w.heap.size A (us s)) (hnc:n≤c) (hcm:c≤maxLen)
  (hE:Env w) (hnum:NumOf (Fn P) w)
  (hfix:Calls Tryz.prog 12 #[] w fun e w'=>e= .returned (.bool true)∧Below w.heap.size w w'):
  Calls Tryz.prog 11 #[.slice A n c,.int .i64 d] w fun e w'=>e= .returned (.bool true)∧Below w.heap.size w w':=by
 have HFx:=Lib.hid hfix
 have HNt:=Lib.hid (numT hz hP hE.num)
 have HEn:=Lib.hid (fun (W:World) (hW:Below w.heap.size w W)=>hE.below hW)
 obtain ⟨N,hN⟩:∃N,N=2*n+1:=⟨_,rfl⟩
 have HR:=Lib.hid (fun (W:World) (hW:Below w.heap.size w W)=>read_any (F:=Fn P) A n c s d N W hl (by omega) (tok_le (by omega)) hby ((hrd.below hW).more hW.size) (fun s hs W' hW'=>hnum s hs W' (hW.trans (hW'.mono hW.size))) (fn_nf P) hnc hcm (by omega))
 have HRr:=Lib.hid (fun (W:World) (A':Option Addr) (c' m N:Nat) (src:List Nat) (hW:Below w.heap.size w W) (h1:src.length=m) (h2:m≤1099511627776) (h3:∀p,pE (src.drop p)≤1100000) (h4:∀x∈src,x<256) (h5:Rd W W.heap.size A' (us src)) (h6:m≤c') (h7:c'≤maxLen) (h8:2*m<N)=>read_any (F:=Fn P) A' m c' src d N W h1 h2 h3 h4 h5 (fun s hs W' hW'=>hnum s hs W' (hW.trans (hW'.mono hW.size))) (fn_nf P) h6 h7 h8)
 clear hfix hE hrd hby hnum
 go_enter Tryz.func11,Tryz.ntmps11
 go_wp2_with fail
 refine HFx.out.mono ?_
 rintro e w1 ⟨rfl,hb1⟩
 have HB1:=Lib.hid hb1
 clear hb1 HFx
 go_wp2_with fail
 refine (HR.out w1 HB1.out).mono ?_
 rintro e w2 hQ
 clear HR
 cases hD:rd (Fn P) N (dep d) s with
 | er k e0=>
   rw [hD] at hQ
   obtain ⟨hb2,rfl⟩:=hQ
   have hne:(e0 !=0)=true:=by have:=rd_nz hD;simp [this]
   have HB2:=nxw HB1 hb2
   clear hD hb2 HB1 HRr HEn HNt
   go_wp2_with fail
   go_ret
   exact ⟨rfl,HB2.out.alloc HB2.out.size _⟩
 | ok v k=>
   rw [hD] at hQ
   obtain ⟨hb2,cs,rfl,hv2⟩:=hQ
   have hg:=rd_good hD
   have hwt:wt v≤1048576:=by
    have h1:=rd_wt hD
    have h2:=rd_len (fn_nf P) hD
    omega
   have hsz:=sz_wt v
   have hdp:=(rd_depth (fn_kd P) hD).1
   have hok:=good_ok hg hwt
   have hlk:=good_lk fn_lk hg
   have hlen:=tx_len v hok
   have hbyt:=tx_byte v
   obtain ⟨M,hM⟩:∃M,M=2*(tx v).length+4*wt v+1:=⟨_,rfl⟩
   obtain ⟨k',hrt⟩:=rd_tx HNt.out hg (n:=M) (d:=dep d) (by omega) hdp
   have htok:=tok_tx HNt.out hg (by omega)
   have HWr:Hid (∀(W:World) (cs:List Value) (S:Nat→Prop),Below w.heap.size w W→IsV W S v cs→Bel S W.heap.size→Calls Tryz.prog 24 #[.agg cs.toArray] W (WrPost 0 (tx v) W)):=Lib.hid fun W cs S hW hV hS=>by
    have h:=write_any v cs W S (by omega) (by omega) hok hV hS (HEn.out W hW)
    rw [hlk] at h
    exact h
   have HEq:Hid (∀(W:World) (cs cs':List Value) (S S':Nat→Prop),IsV W S v cs→IsV W S' v cs'→Bel S W.heap.size→Bel S' W.heap.size→Calls Tryz.prog 25 #[.agg cs.toArray,.agg cs'.toArray] W (EqPost true W)):=Lib.hid fun W cs cs' S S' h1 h2 h3 h4=>equal_refl hg (by omega) cs cs' W S S' h1 h2 h3 h4
   have HUs:=Lib.hid (us_zs hbyt)
   have HNl:=Lib.hid (nts_len (tx v))
   have hnl:(nts (tx v)).length=(tx v).length:=nts_len _
   have HBy:Hid (∀x∈nts (tx v),x<256):=Lib.hid (fun x hx=>by
    obtain ⟨y,hy,rfl⟩:=List.mem_map.1 hx
    have:=hbyt y hy
    omega)
   have HR2:Hid (∀(W:World) (A':Option Addr) (c':Nat),Below w.heap.size w W→Rd W W.heap.size A' (us (nts (tx v)))→(tx v).length≤c'→c'≤maxLen→Calls Tryz.prog 13 #[.slice A' (tx v).length c',.int .i64 d] W fun e w'=>Below W.heap.size W w'∧∃cs,e= .returned (.tuple #[.agg cs.toArray,.int .i64 0,.int .i64 0])∧IsV w' (New W.heap.size w') v cs):=Lib.hid fun W A' c' hW h1 h2 h3=>by
    have h:=HRr.out W A' c' (tx v).length M (nts (tx v)) hW hnl (by omega) htok HBy.out h1 h2 h3 (by omega)
    rw [hrt] at h
    exact h
   obtain ⟨k2,b2,i2,f2,t2,y2,n2,m2,hcl⟩:∃(k2:Int) (b2:Bool) (i2:Int) (f2:Nat) (t2 y2:ByteArray) (n2 m2:Nat),∀(W:World) (S:Nat→Prop) (cs:List Value),IsV W S v cs→∃(A:Option Addr) (c:Nat) (A':Option Addr) (c':Nat),cs=[.int .i64 k2,.bool b2,.int .i64 i2,.float .f64 f2,.string t2,.string y2,.slice A n2 c,.slice A' m2 c']:=by
    obtain ⟨k2,b2,i2,f2,t2,y2,is2,fs2⟩:=v
    exact ⟨k2,b2,i2,f2,t2,y2,is2.length,fs2.length,fun W S cs h=>by simp only [IsV] at h;obtain ⟨A,c,A',c',h,_⟩:=h;exact ⟨A,c,A',c',h⟩⟩
   have HCl:=Lib.hid hcl
   obtain ⟨A3,c3,A3',c3',rfl⟩:=hcl _ _ _ hv2
   have hT:(tx v).length≤1099511627776:=by omega
   clear hcl hD hg hok hlk hlen hbyt hdp hrt htok hwt hsz hM hnl HRr HNt HEn
   generalize tx v=T at*
   have HB2:=nxw HB1 hb2
   have g3:(w2.alloc (.cells #[.int .i64 k2,.bool b2,.int .i64 i2,.float .f64 f2,.string t2,.string y2,.slice A3 n2 c3,.slice A3' m2 c3'] 29)).heap[w2.heap.size]? =some (.cells #[.int .i64 k2,.bool b2,.int .i64 i2,.float .f64 f2,.string t2,.string y2,.slice A3 n2 c3,.slice A3' m2 c3'] 29):=heap_alloc_new _ _
   have hb3:Below w2.heap.size w2 (w2.alloc (.cells #[.int .i64 k2,.bool b2,.int .i64 i2,.float .f64 f2,.string t2,.string y2,.slice A3 n2 c3,.slice A3' m2 c3'] 29)):=(Below.refl _ _).alloc (Nat.le_refl _) _
   have HV3:Hid (IsV (w2.alloc (.cells #[.int .i64 k2,.bool b2,.int .i64 i2,.float .f64 f2,.string t2,.string y2,.slice A3 n2 c3,.slice A3' m2 c3'] 29)) (fun b=>b<w2.heap.size) v [.int .i64 k2,.bool b2,.int .i64 i2,.float .f64 f2,.string t2,.string y2,.slice A3 n2 c3,.slice A3' m2 c3']):=Lib.hid ((hv2.more (fun b h=>h.2)).below (fun _ h=>h) hb3)
   clear hb2 hv2
   go_upto_region 4 with fail
   generalize (w2.alloc (.cells #[.int .i64 k2,.bool b2,.int .i64 i2,.float .f64 f2,.string t2,.string y2,.slice A3 n2 c3,.slice A3' m2 c3'] 29))=w3 at*
   have HB3:=nxw HB2 hb3
   have hs3:=hb3.size
   obtain ⟨a0,a1,a2,a3,a4,a5,a6,a7⟩:=blk8 g3
   go_wp2_with fail
   refine (HWr.out w3 [.int .i64 k2,.bool b2,.int .i64 i2,.float .f64 f2,.string t2,.string y2,.slice A3 n2 c3,.slice A3' m2 c3'] _ HB3.out HV3.out (fun b h=>Nat.lt_of_lt_of_le h hs3)).mono ?_
   rintro e w4 ⟨hw0,_,hb4⟩
   obtain ⟨v4,B4,rfl,hO4,hB4⟩:=hw0 rfl
   have HB4:=nxw HB3 hb4
   have g4:=bbw g3 hb4
   have HV4:=vbw HV3 (fun b h=>Nat.lt_of_lt_of_le h hs3) hb4
   have hs4:=Nat.le_trans hs3 hb4.size
   obtain ⟨A4,c4,rfl,hA4,hc4,hm4⟩:=own_form hO4
   have HR4:=Lib.hid (HR2.out w4 A4 c4 HB4.out (by rw [HUs.out];exact Rd.of_own hO4) hc4 hm4)
   have HO4:=Lib.hid hO4
   clear a0 a1 a2 a3 a4 a5 a6 a7 g3 HB3 HV3 hb4 hw0 hO4 HB2 hB4 hs3 hb3
   go_wp2_with fail
   refine HR4.out.mono ?_
   rintro e w5 ⟨hb5,cs,rfl,hv5⟩
   obtain ⟨A5,c5,A5',c5',rfl⟩:=HCl.out _ _ _ hv5
   have HB5:=nxw HB4 hb5
   have g5:=bbw g4 hb5
   have HV5:=vbw HV4 (fun b h=>Nat.lt_of_lt_of_le h hs4) hb5
   have hs5:=Nat.le_trans hs4 hb5.size
   have HO5:=Lib.hid (own_below HO4.out hb5)
   have e6:(w5.alloc (.cells #[.int .i64 k2,.bool b2,.int .i64 i2,.float .f64 f2,.string t2,.string y2,.slice A5 n2 c5,.slice A5' m2 c5'] 29)).heap[w5.heap.size]? =some (.cells #[.int .i64 k2,.bool b2,.int .i64 i2,.float .f64 f2,.string t2,.string y2,.slice A5 n2 c5,.slice A5' m2 c5'] 29):=heap_alloc_new _ _
   have hb6:Below w5.heap.size w5 (w5.alloc (.cells #[.int .i64 k2,.bool b2,.int .i64 i2,.float .f64 f2,.string t2,.string y2,.slice A5 n2 c5,.slice A5' m2 c5'] 29)):=(Below.refl _ _).alloc (Nat.le_refl _) _
   have HW6:Hid (IsV (w5.alloc (.cells #[.int .i64 k2,.bool b2,.int .i64 i2,.float .f64 f2,.string t2,.string y2,.slice A5 n2 c5,.slice A5' m2 c5'] 29)) (fun b=>b<w5.heap.size) v [.int .i64 k2,.bool b2,.int .i64 i2,.float .f64 f2,.string t2,.string y2,.slice A5 n2 c5,.slice A5' m2 c5']):=Lib.hid ((hv5.more (fun b h=>h.2)).below (fun _ h=>h) hb6)
   clear hb5 hv5 g4 HV4 HO4 HB4 HR4 hs4
   go_upto_region 10 with fail
   generalize (w5.alloc (.cells #[.int .i64 k2,.bool b2,.int .i64 i2,.float .f64 f2,.string t2,.string y2,.slice A5 n2 c5,.slice A5' m2 c5'] 29))=w6 at*
   have HB6:=nxw HB5 hb6
   have g6:=bbw g5 hb6
   have HV6:=vbw HV5 (fun b h=>Nat.lt_of_lt_of_le h hs5) hb6
   have hs6:=hb6.size
   have HO6:=Lib.hid (own_below HO5.out hb6)
   obtain ⟨a0,a1,a2,a3,a4,a5,a6,a7⟩:=blk8 g6
   obtain ⟨q0,q1,q2,q3,q4,q5,q6,q7⟩:=blk8 e6
   clear g5 HV5 HO5 HB5 hb6
   have hEq:=Lib.hid (fun (W:World) (hW:Below w6.heap.size w6 W)=>HEq.out W [.int .i64 k2,.bool b2,.int .i64 i2,.float .f64 f2,.string t2,.string y2,.slice A3 n2 c3,.slice A3' m2 c3'] [.int .i64 k2,.bool b2,.int .i64 i2,.float .f64 f2,.string t2,.string y2,.slice A5 n2 c5,.slice A5' m2 c5'] _ _ (HV6.out.below (fun _ h=>Nat.lt_of_lt_of_le h (Nat.le_trans hs5 hs6)) hW) (HW6.out.below (fun _ h=>Nat.lt_of_lt_of_le h hs6) hW) (fun b h=>Nat.lt_of_lt_of_le h (Nat.le_trans hs5 (Nat.le_trans hs6 hW.size))) (fun b h=>Nat.lt_of_lt_of_le h (Nat.le_trans hs6 hW.size)))
   go_wp2_with fail
   refine (hEq.out w6 (Below.refl _ _)).mono ?_
   rintro e w7 ⟨rfl,hb7⟩
   have HB7:=nxw HB6 hb7
   have HW7:=vbw HW6 (fun b h=>Nat.lt_of_lt_of_le h hs6) hb7
   have hs7:=Nat.le_trans hs6 hb7.size
   have HO7:=Lib.hid (own_below HO6.out hb7)
   have e7:=bbw e6 hb7
   clear a0 a1 a2 a3 a4 a5 a6 a7 q0 q1 q2 q3 q4 q5 q6 q7 g6 e6 HV6 HW6 HO6 HB6 hb7 hEq
   obtain ⟨q0,q1,q2,q3,q4,q5,q6,q7⟩:=blk8 e7
   go_wp2_with fail
   refine (HWr.out w7 [.int .i64 k2,.bool b2,.int .i64 i2,.float .f64 f2,.string t2,.string y2,.slice A5 n2 c5,.slice A5' m2 c5'] _ HB7.out HW7.out (fun b h=>Nat.lt_of_lt_of_le h hs7)).mono ?_
   rintro e w8 ⟨hw0,_,hb8⟩
   obtain ⟨v8,B8,rfl,hO8,hB8⟩:=hw0 rfl
   have HB8:=nxw HB7 hb8
   obtain ⟨A8,c8,rfl,hA8,hc8,hm8⟩:=own_form hO8
   have x1:=conv_all (c:=c4) HNl.out (by rw [HUs.out];exact Rd.of_own (own_below HO7.out hb8)) hA4
   have x2:=conv_all (c:=c8) HNl.out (by rw [HUs.out];exact Rd.of_own hO8) hA8
   clear q0 q1 q2 q3 q4 q5 q6 q7 e7 HW7 HO7 HB7 hb8 hw0 hO8 hB8
   go_wp2_with fail
   go_ret
   exact ⟨by simp,HB8.out⟩
end Go.Proofs.YtjhhdnnblcbdbaaGreatDoor.jw
end
