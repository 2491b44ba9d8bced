/- The tables that the listed variables' readings give; a world that lays them; the witness. -/
import Derived.Test.YtjhhdnnblcbdbaaGreatDoorCards
import Derived.Test.YtjhhdnnblcbdbaaGreatDoorTie
import Derived.Test.YtjhhdnnblcbdbaaGreatDoorYNr
import Derived.ChangeArms
import Derived.SliceStrings
import Derived.ProofKit
import Derived.OpenShut
import Derived.Deep.DeepHandedRow
import Derived.Lib.LaidTab
import Derived.Lib.LaidU8
import GoSem.PinnedTables
import Derived.KernelRfl
import Derived.Lay
import Derived.LaidOnce
import Derived.LaidMore
import Derived.SevenTiedAt
import Derived.JoinedCond
import Derived.Carry
namespace Go.Proofs.YtjhhdnnblcbdbaaGreatDoor.upN
open Go.ChangeShapes Go.WideShapes Go.ChangeAt Go.RowKit Go.Lib Go.Shelf us uw pg dcm
set_option linter.unusedVariables false
theorem own:ownKnob Tryz.prog.godebug=none:=by kernel_rfl
def laidN:List (String×DataW Unit):=Rows.jsoninStaysRow.laid
theorem uHL:Tryz.prog.underlying 282=some (.struct #[{ name:= "hi",type:=91,offset:=0,embedded:=false,tag:= "",pkgPath:= "internal/strconv",byteOffset:=0},{ name:= "lo",type:=91,offset:=1,embedded:=false,tag:= "",pkgPath:= "internal/strconv",byteOffset:=8}]):=by kernel_rfl
theorem uTab:Tryz.prog.underlying 283=some (.array 696 282):=by kernel_rfl
theorem uU:Tryz.prog.underlying 91=some (.int .u64):=by kernel_rfl
theorem cU:Tryz.prog.cellsOf 91=1:=by kernel_rfl
theorem cHL:Tryz.prog.cellsOf 282=2:=by kernel_rfl
theorem rows_eq:(Go.Pinned.pow10Rows.length=696)∧∀i,i<696→Go.Pinned.pow10Rows[i]? =some (tabH i,tabL i):=by
 have h:Go.Pinned.pow10Rows=(List.range 696).map fun i=>(tabH i,tabL i):=by decide+kernel
 refine ⟨by rw [h];simp,fun i hi=>?_⟩
 rw [h,List.getElem?_map,List.getElem?_range hi]
 rfl
theorem pow_of {W:World} (h:VarReads Tryz.prog W "internal/strconv.pow10Tab" Go.Pinned.pow10Tab):PowAt W:=by
 obtain ⟨g,t,cs,fuel,p,hg,hty,hvar,hd⟩:=h
 obtain rfl:=Option.some.inj ((show Tryz.prog.globalNamed "internal/strconv.pow10Tab" =some 14 by kernel_rfl).symm.trans hg)
 obtain rfl:=Option.some.inj ((show (Tryz.prog.globals[14]?).map (·.type)=some 283 by kernel_rfl).symm.trans hty)
 intro i hi
 obtain ⟨fuel',d,q,hdi,he⟩:=array_elem uTab hd i hi
 simp only [List.getElem?_map,rows_eq.2 i hi,Option.map_some,Option.some.injEq] at hdi
 subst hdi
 rw [cHL] at he
 have hcs:=ints_of_struct (zs:=[(tabH i:Int),(tabL i:Int)]) uHL (fun j f hj=>by
   match j,hj with
   | 0,hj=>simp at hj;subst hj;exact ⟨uU,rfl,cU⟩
   | 1,hj=>simp at hj;subst hj;exact ⟨uU,rfl,cU⟩
   | j+2,hj=>simp at hj) (by rw [cHL];rfl) he
 have e0:=congrArg (·[0]?) hcs
 have e1:=congrArg (·[1]?) hcs
 simp only [List.getElem?_take,List.getElem?_drop] at e0 e1
 constructor
 ·rw [World.var?_cell hg hvar (i*2),←Array.getElem?_toList]
  simpa using e0
 ·rw [World.var?_cell hg hvar (i*2+1),←Array.getElem?_toList]
  simpa using e1
theorem tab_of {W:World} (h:VarReads Tryz.prog W "internal/strconv.uint64pow10" Rows.laid_internal_strconv_uint64pow10):Lib.TabIs Tryz.prog W "internal/strconv.uint64pow10" .u64 Lib.pow10Tab:=by
 obtain ⟨g,t,cs,fuel,p,hg,hty,hvar,hd⟩:=h
 obtain rfl:=Option.some.inj ((show Tryz.prog.globalNamed "internal/strconv.uint64pow10" =some 5 by kernel_rfl).symm.trans hg)
 obtain rfl:=Option.some.inj ((show (Tryz.prog.globals[5]?).map (·.type)=some 188 by kernel_rfl).symm.trans hty)
 rw [show (Rows.laid_internal_strconv_uint64pow10:DataW Unit)=tabData .u64 Lib.pow10Tab by kernel_rfl] at hd
 unfold TabIs
 rw [hvar,←cells_of_tab (t:=188) (e:=91) (n:=20) (by kernel_rfl) uU cU (by kernel_rfl) hd]
theorem uB:Tryz.prog.underlying 4=some .bool:=by kernel_rfl
theorem uUI:Tryz.prog.underlying 129=some (.int .u64):=by kernel_rfl
theorem uFI:Tryz.prog.underlying 223=some (.struct #[{ name:= "mantbits",type:=129,offset:=0,embedded:=false,tag:= "",pkgPath:= "internal/strconv",byteOffset:=0},{ name:= "expbits",type:=129,offset:=1,embedded:=false,tag:= "",pkgPath:= "internal/strconv",byteOffset:=8},{ name:= "bias",type:=3,offset:=2,embedded:=false,tag:= "",pkgPath:= "internal/strconv",byteOffset:=16}]):=by kernel_rfl
theorem opt_of {W:World} (h:VarReads Tryz.prog W "internal/strconv.optimize" Rows.laid_internal_strconv_optimize):OptAt W:=by
 obtain ⟨g,t,cs,fuel,p,hg,hty,hvar,hd⟩:=h
 obtain rfl:=Option.some.inj ((show Tryz.prog.globalNamed "internal/strconv.optimize" =some 7 by kernel_rfl).symm.trans hg)
 obtain rfl:=Option.some.inj ((show (Tryz.prog.globals[7]?).map (·.type)=some 4 by kernel_rfl).symm.trans hty)
 obtain ⟨b,hc,hx⟩:=DataW.trod_bool uB hd
 have hb:b=true:=by
  have:=congrArg Prod.fst hx
  simp [Rows.laid_internal_strconv_optimize] at this
  exact this
 subst hb
 unfold OptAt
 rw [World.var?_cell hg hvar 0,←Array.getElem?_toList,hc]
 rfl
theorem info_of {W:World} (h:VarReads Tryz.prog W "internal/strconv.float64info" Rows.laid_internal_strconv_float64info):InfoAt W:=by
 obtain ⟨g,t,cs,fuel,p,hg,hty,hvar,hd⟩:=h
 obtain rfl:=Option.some.inj ((show Tryz.prog.globalNamed "internal/strconv.float64info" =some 8 by kernel_rfl).symm.trans hg)
 obtain rfl:=Option.some.inj ((show (Tryz.prog.globals[8]?).map (·.type)=some 223 by kernel_rfl).symm.trans hty)
 obtain ⟨xs,n,rfl,hx,hl,hxl,hall⟩:=DataW.trod_struct uFI hd
 have h0:=hall 0 _ rfl
 have hxs:=congrArg Prod.fst hx
 simp only [Rows.laid_internal_strconv_float64info,DataW.agg.injEq] at hxs
 match xs,hxl,hxs,h0 with
 | b :: r,_,hxs,h0=>
   simp only [List.map_cons,List.cons.injEq] at hxs
   simp only [List.getElem?_cons_zero] at h0
   obtain ⟨z,hcz,rfl,_⟩:=DataW.trod_int uUI h0
   have hz:z=52:=by
    have:=hxs.1
    simp at this
    exact this.symm
   subst hz
   have h2:=congrArg (·[0]?) hcz
   unfold InfoAt
   rw [World.var?_cell hg hvar 0,←Array.getElem?_toList]
   have h3:0<Tryz.prog.cellsOf 129∧cs[0]? =some (Value.int IntKind.u64 52):=by simpa [List.getElem?_take,List.getElem?_drop] using h2
   simpa using h3.2
theorem uSF:Tryz.prog.underlying 269=some (.slice 25):=by kernel_rfl
theorem uF:Tryz.prog.underlying 25=some (.float .f64):=by kernel_rfl
theorem cF:Tryz.prog.cellsOf 25=1:=by kernel_rfl
theorem float_of {P:Program} {w:World} {base:Nat} {sp:Nat→Bool} {fuel:Nat} {t:TypeId} {v:Value} {b:Nat} {q:List MemPlace} (ht:P.underlying t=some (.float .f64)) (h:DataW.trod (H:=Unit) (fun _=>()) P w base sp false fuel t [v]=some (.lit (.float .f64 b),q)):v= .float .f64 b:=by
 cases fuel with
 | zero=>simp [DataW.trod] at h
 | succ n=>
   unfold DataW.trod at h
   rw [ht] at h
   split at h <;> simp_all
theorem p10_of {W:World} (h:VarReads Tryz.prog W "internal/strconv.float64pow10" Rows.laid_internal_strconv_float64pow10):P10At W∧13<W.heap.size:=by
 obtain ⟨g,t,cs,fuel,p,hg,hty,hvar,hd⟩:=h
 obtain rfl:=Option.some.inj ((show Tryz.prog.globalNamed "internal/strconv.float64pow10" =some 13 by kernel_rfl).symm.trans hg)
 obtain rfl:=Option.some.inj ((show (Tryz.prog.globals[13]?).map (·.type)=some 269 by kernel_rfl).symm.trans hty)
 have hlen:13<W.heap.size:=by
  have hv:=hvar
  unfold World.var? at hv
  simp only [hg,Option.bind_some] at hv
  rcases Nat.lt_or_ge 13 W.heap.size with h' | h'
  ·exact h'
  ·rw [Array.getElem?_eq_none h'] at hv
   simp at hv
 refine ⟨?_,hlen⟩
 have he:(Rows.laid_internal_strconv_float64pow10:DataW Unit)= .slice (big.p10.map fun x=> .lit (.float .f64 x)) []:=by kernel_rfl
 rw [he] at hd
 obtain ⟨a,cap,hcs,hcap,hel⟩:=open_row uSF cF hd
 have hl:big.p10.length=23:=by decide
 rw [List.length_map,hl] at hcs
 have hk:∀k,k≤22→W.cell? (a.add k)=some (.float .f64 (big.p10.getD k 0)):=fun k hk=>by
  have hk2:k<big.p10.length:=by omega
  obtain ⟨v,n,q,h1,h2⟩:=hel k (.lit (.float .f64 (big.p10.getD k 0))) (by
   rw [List.getElem?_map,List.getElem?_eq_getElem hk2,List.getD_eq_getElem?_getD,List.getElem?_eq_getElem hk2]
   rfl)
  rw [float_of uF h2] at h1
  exact h1
 have h0:=hk 0 (by omega)
 have hsp:a.spot=none:=by
  rw [show a.add 0=a from rfl] at h0
  unfold World.cell? at h0
  split at h0
  ·split at h0
   ·cases h0
   ·rename_i h
    simpa using h
  ·cases h0
 refine ⟨a,cap,?_,hsp,by have:=World.block_lt_of_cell? W _ h0;simpa [mem.add_block] using this,fun k hk2=>?_⟩
 ·rw [World.var?_cell hg hvar 0,←Array.getElem?_toList,hcs]
  rfl
 ·have h1:=hk k hk2
  obtain ⟨gb,go,gs⟩:=a
  simp only at hsp
  subst hsp
  rw [show (⟨gb,go,none⟩:Addr).add k=⟨gb,go+k,none⟩ from by unfold Addr.add;split <;> simp_all] at h1
  exact h1
theorem uSI:Tryz.prog.underlying 268=some (.slice 3):=by kernel_rfl
theorem uI:Tryz.prog.underlying 3=some (.int .i64):=by kernel_rfl
theorem cI:Tryz.prog.cellsOf 3=1:=by kernel_rfl
theorem spot_none {W:World} {a:Addr} {v:Value} (h:W.cell? a=some v):a.spot=none:=by
 unfold World.cell? at h
 split at h
 ·split at h
  ·cases h
  ·rename_i h'
   simpa using h'
 ·cases h
theorem add_flat (b o k:Nat):(⟨b,o,none⟩:Addr).add k=⟨b,o+k,none⟩:=by unfold Addr.add;split <;> simp_all
theorem pt_of {W:World} (h:VarReads Tryz.prog W "internal/strconv.powtab" Rows.laid_internal_strconv_powtab):PtAt W:=by
 obtain ⟨g,t,cs,fuel,p,hg,hty,hvar,hd⟩:=h
 obtain rfl:=Option.some.inj ((show Tryz.prog.globalNamed "internal/strconv.powtab" =some 12 by kernel_rfl).symm.trans hg)
 obtain rfl:=Option.some.inj ((show (Tryz.prog.globals[12]?).map (·.type)=some 268 by kernel_rfl).symm.trans hty)
 have he:(Rows.laid_internal_strconv_powtab:DataW Unit)= .slice (dcm.ptv.map fun x:Nat=> .lit (.int .i64 (x:Int))) []:=by kernel_rfl
 rw [he] at hd
 obtain ⟨a,cap,hcs,hcap,hel⟩:=open_row uSI cI hd
 have hl:dcm.ptv.length=9:=by decide
 rw [List.length_map,hl] at hcs
 have hk:∀k,k≤8→W.cell? (a.add k)=some (.int .i64 (dcm.ptv.getD k 0:Int)):=fun k hk=>by
  have hk2:k<dcm.ptv.length:=by omega
  obtain ⟨v,n,q,h1,h2⟩:=hel k (.lit (.int .i64 (dcm.ptv.getD k 0:Int))) (by
   rw [List.getElem?_map,List.getElem?_eq_getElem hk2,List.getD_eq_getElem?_getD,List.getElem?_eq_getElem hk2]
   rfl)
  obtain ⟨z,hz,hx,_⟩:=DataW.trod_int uI h2
  have hz2:v= .int .i64 z:=by simpa using hz
  have hz3:z=(dcm.ptv.getD k 0:Int):=by
   have:=congrArg Prod.fst hx
   simpa using this.symm
  rw [h1,hz2,hz3]
 have h0:=hk 0 (by omega)
 have hsp:a.spot=none:=by
  rw [show a.add 0=a from rfl] at h0
  exact spot_none h0
 refine ⟨a,cap,?_,hsp,by have:=World.block_lt_of_cell? W _ h0;simpa [mem.add_block] using this,fun k hk2=>?_⟩
 ·rw [World.var?_cell hg hvar 0,←Array.getElem?_toList,hcs]
  rfl
 ·have h1:=hk k hk2
  obtain ⟨gb,go,gs⟩:=a
  simp only at hsp
  subst hsp
  rw [add_flat] at h1
  exact h1
theorem uSL:Tryz.prog.underlying 289=some (.slice 288):=by kernel_rfl
theorem cL:Tryz.prog.cellsOf 288=2:=by kernel_rfl
theorem uL:Tryz.prog.underlying 288=some (.struct #[{ name:= "delta",type:=3,offset:=0,embedded:=false,tag:= "",pkgPath:= "internal/strconv",byteOffset:=0},{ name:= "cutoff",type:=9,offset:=1,embedded:=false,tag:= "",pkgPath:= "internal/strconv",byteOffset:=8}]):=by kernel_rfl
theorem uS:Tryz.prog.underlying 9=some .string:=by kernel_rfl
theorem cS:Tryz.prog.cellsOf 9=1:=by kernel_rfl
theorem lc_of {W:World} (h:VarReads Tryz.prog W "internal/strconv.leftcheats" Go.Pinned.leftcheats):LcAt W:=by
 obtain ⟨g,t,cs,fuel,p,hg,hty,hvar,hd⟩:=h
 obtain rfl:=Option.some.inj ((show Tryz.prog.globalNamed "internal/strconv.leftcheats" =some 15 by kernel_rfl).symm.trans hg)
 obtain rfl:=Option.some.inj ((show (Tryz.prog.globals[15]?).map (·.type)=some 289 by kernel_rfl).symm.trans hty)
 have hl:Go.Pinned.cheatRows.length=61:=by decide
 unfold Go.Pinned.leftcheats at hd
 rcases DataW.trod_slice uSL hd with ⟨_,hx⟩ | ⟨a,len,cap,elems,rest,n,_,hcs,hx,_,hlc,_,hlen,hel,_⟩
 ·simp at hx
 ·simp only [Prod.mk.injEq,DataW.slice.injEq] at hx
  obtain ⟨⟨hE,_⟩,_⟩:=hx
  have h61:len=61:=by
   have:=congrArg List.length hE
   simp only [List.length_map] at this
   omega
  subst h61
  have hk:∀k,k≤60→W.cell? (a.add (k*2))=some (.int .i64 ((cht k).1:Int))∧W.cell? ((a.add (k*2)).add 1)=some (.string ⟨(cht k).2.toArray⟩):=fun k hk=>by
   have h1:=hel k (by omega)
   rw [cL] at h1
   obtain ⟨y,hy⟩:∃y,elems[k]? =some y:=⟨elems[k]'(by omega),List.getElem?_eq_getElem (by omega)⟩
   rw [hy] at h1
   obtain ⟨ce,hce,hte⟩:=Option.bind_eq_some_iff.1 h1
   have hy1:y.1= .agg [.lit (.int .i64 ((cht k).1:Int)),.lit (.string (cht k).2)]:=by
    have h2:=congrArg (·[k]?) hE
    simp only [List.getElem?_map,hy,Option.map_some] at h2
    have h3:Go.Pinned.cheatRows[k]? =some (cht k):=by
     unfold cht
     rw [List.getD_eq_getElem?_getD,List.getElem?_eq_getElem (by omega)]
     rfl
    rw [h3] at h2
    simpa using h2.symm
   obtain ⟨xs,m,rfl,hxx,hcl,hxl,hall⟩:=DataW.trod_struct uL hte
   rw [hxx] at hy1
   simp only [DataW.agg.injEq] at hy1
   have f0:=hall 0 _ rfl
   have f1:=hall 1 _ rfl
   match xs,hxl,hy1,f0,f1 with
   | x0 :: x1 :: [],_,hy1,f0,f1=>
     simp only [List.map_cons,List.map_nil,List.cons.injEq,and_true] at hy1
     simp only [List.getElem?_cons_zero,List.getElem?_cons_succ] at f0 f1
     obtain ⟨z,hz,rfl,_⟩:=DataW.trod_int uI f0
     obtain ⟨st,hs,rfl,_⟩:=DataW.trod_string uS f1
     have hz1:z=((cht k).1:Int):=by have:=hy1.1;simpa using this
     have hs1:st.data.toList=(cht k).2:=by have:=hy1.2;simpa using this
     obtain ⟨_,hcel,hcc⟩:=World.cells?_some hce
     have e0:ce[0]? =some (.int .i64 z):=by have:=congrArg (·[0]?) hz;simpa [List.getElem?_take,List.getElem?_drop,cI] using this
     have e1:ce[1]? =some (.string st):=by have:=congrArg (·[0]?) hs;simpa [List.getElem?_take,List.getElem?_drop,cS] using this
     have c0:=hcc 0 (by omega)
     have c1:=hcc 1 (by omega)
     constructor
     ·rw [show (a.add (k*2)).add 0=a.add (k*2) by simp [Addr.add]] at c0
      rw [c0]
      rw [e0,hz1]
     ·rw [c1]
      have:st=⟨(cht k).2.toArray⟩:=by
       apply ByteArray.ext
       apply Array.toList_inj.1
       rw [hs1]
      rw [e1,this]
  have h0:=(hk 0 (by omega)).1
  have hsp:a.spot=none:=by
   rw [show a.add (0*2)=a by simp [Addr.add]] at h0
   exact spot_none h0
  refine ⟨a,cap,?_,hsp,by have:=World.block_lt_of_cell? W _ h0;simpa [mem.add_block] using this,fun k hk2=>?_⟩
  ·rw [World.var?_cell hg hvar 0,←Array.getElem?_toList,hcs]
   rfl
  ·have h1:=hk k hk2
   obtain ⟨gb,go,gs⟩:=a
   simp only at hsp
   subst hsp
   rw [add_flat,add_flat] at h1
   exact h1
theorem info3_of {W:World} (h:VarReads Tryz.prog W "internal/strconv.float64info" Rows.laid_internal_strconv_float64info):W.cell? ⟨8,0,none⟩=some (.int .u64 52)∧W.cell? ⟨8,1,none⟩=some (.int .u64 11)∧W.cell? ⟨8,2,none⟩=some (.int .i64 (-1023)):=by
 obtain ⟨g,t,cs,fuel,p,hg,hty,hvar,hd⟩:=h
 obtain rfl:=Option.some.inj ((show Tryz.prog.globalNamed "internal/strconv.float64info" =some 8 by kernel_rfl).symm.trans hg)
 obtain rfl:=Option.some.inj ((show (Tryz.prog.globals[8]?).map (·.type)=some 223 by kernel_rfl).symm.trans hty)
 obtain ⟨xs,n,rfl,hx,hl,hxl,hall⟩:=DataW.trod_struct uFI hd
 have f0:=hall 0 _ rfl
 have f1:=hall 1 _ rfl
 have f2:=hall 2 _ rfl
 have hxs:=congrArg Prod.fst hx
 simp only [Rows.laid_internal_strconv_float64info,DataW.agg.injEq] at hxs
 have cU:Tryz.prog.cellsOf 129=1:=by kernel_rfl
 match xs,hxl,hxs,f0,f1,f2 with
 | x0 :: x1 :: x2 :: [],_,hxs,f0,f1,f2=>
   simp only [List.map_cons,List.map_nil,List.cons.injEq,and_true] at hxs
   simp only [List.getElem?_cons_zero,List.getElem?_cons_succ] at f0 f1 f2
   obtain ⟨z0,hz0,rfl,_⟩:=DataW.trod_int uUI f0
   obtain ⟨z1,hz1,rfl,_⟩:=DataW.trod_int uUI f1
   obtain ⟨z2,hz2,rfl,_⟩:=DataW.trod_int uI f2
   have g0:z0=52:=by have:=hxs.1;simpa using this.symm
   have g1:z1=11:=by have:=hxs.2.1;simpa using this.symm
   have g2:z2= -1023:=by have:=hxs.2.2;simpa using this.symm
   subst g0 g1 g2
   have e0:cs[0]? =some (.int .u64 52):=by have:=congrArg (·[0]?) hz0;simpa [List.getElem?_take,List.getElem?_drop,cU] using this
   have e1:cs[1]? =some (.int .u64 11):=by have:=congrArg (·[0]?) hz1;simpa [List.getElem?_take,List.getElem?_drop,cU] using this
   have e2:cs[2]? =some (.int .i64 (-1023)):=by have:=congrArg (·[0]?) hz2;simpa [List.getElem?_take,List.getElem?_drop,cI] using this
   refine ⟨?_,?_,?_⟩
   ·rw [World.var?_cell hg hvar 0]
    exact e0
   ·rw [World.var?_cell hg hvar 1]
    exact e1
   ·rw [World.var?_cell hg hvar 2]
    exact e2
set_option maxRecDepth 100000 in
theorem er_of {W:World} (h:VarReads Tryz.prog W "strconv.ErrRange" Rows.laid_strconv_ErrRange):ErAt W:=by
 obtain ⟨g,t,cs,fuel,p,hg,hty,hvar,hd⟩:=h
 obtain rfl:=Option.some.inj (glob_er.symm.trans hg)
 obtain rfl:=Option.some.inj ((show (Tryz.prog.globals[4]?).map (·.type)=some 85 by kernel_rfl).symm.trans hty)
 have hcs:∃tp pv,cs.toList=[.iface tp pv]:=by
  cases fuel with
  | zero=>simp [DataW.trod] at hd
  | succ n=>
    unfold DataW.trod at hd
    rw [Tryz.underlying85] at hd
    unfold Rows.laid_strconv_ErrRange at hd
    generalize cs.toList=l at hd ⊢
    split at hd
    all_goals first
     | exact ⟨_,_,rfl⟩
     | (exfalso;simp at hd;done)
     | (exfalso;simp_all;done)
 obtain ⟨tp,pv,hcs⟩:=hcs
 unfold World.var? at hvar
 rw [hg] at hvar
 simp only [Option.bind_some] at hvar
 split at hvar
 ·rename_i c t' fr hh
  have:c= #[.iface tp pv]:=by
   apply Array.toList_inj.1
   have h2:c=cs:=by simpa using hvar
   rw [h2,hcs]
  subst this
  exact ⟨tp,pv,_,_,hh⟩
 ·cases hvar
theorem big15 {W:World} (h:VarReads Tryz.prog W "internal/strconv.leftcheats" Rows.laid_internal_strconv_leftcheats):15<W.heap.size:=by
 obtain ⟨g,t,cs,fuel,p,hg,hty,hvar,hd⟩:=h
 obtain rfl:=Option.some.inj ((show Tryz.prog.globalNamed "internal/strconv.leftcheats" =some 15 by kernel_rfl).symm.trans hg)
 have hv:=hvar
 unfold World.var? at hv
 simp only [hg,Option.bind_some] at hv
 rcases Nat.lt_or_ge 15 W.heap.size with h' | h'
 ·exact h'
 ·rw [Array.getElem?_eq_none h'] at hv
  simp at hv
noncomputable abbrev wL (os:Os):World:=World.laidAll Tryz.prog os laidN
set_option maxRecDepth 100000 in
theorem fits (os:Os):(World.holding Tryz.prog os ⟨#[],#[],[]⟩).layFits Tryz.prog laidN []=true:=by kernel_rfl
set_option maxRecDepth 100000 in
theorem rest (os:Os) (args:Array Value):(((wL os).forCall (fun _ _=>0) ⟨#[],args,[]⟩).heap.toList.drop Tryz.checked.prog.globals.size).take ((begin Tryz.checked.prog (fun _ _=>0) default).world.heap.size-Tryz.checked.prog.globals.size)=(begin Tryz.checked.prog (fun _ _=>0) default).world.heap.toList.drop Tryz.checked.prog.globals.size:=by kernel_rfl
end Go.Proofs.YtjhhdnnblcbdbaaGreatDoor.upN
