/- JsoninWrites, as a card: called with any bytes and any depth, of bulk at most 1048576, the Go function returns true and writes nothing that was there. Condition: that bound alone ('Upto'), and the package variables as the program's text lays them (tied). -/
import Derived.Test.YtjhhdnnblcbdbaaGreatDoorGWw
import Derived.Test.YtjhhdnnblcbdbaaGreatDoorGJw
import Derived.Test.YtjhhdnnblcbdbaaGreatDoorBulk
import Derived.ChangeMaps5
import Derived.Deep.Slices
import Derived.ProofKit
namespace Go.Proofs.YtjhhdnnblcbdbaaGreatDoor.upWw
open Go.ChangeShapes Go.WideShapes Go.ChangeAt Go.RowKit Go.Lib
open Go.Deep mem val
set_option linter.unusedVariables false
section
variable {H:Type} {enc:TypeId×Value→H}
theorem wf_u8 {z:Int} (h:(Lit.int .u8 z).wf=true):0≤z∧z≤255:=by
 have:IntKind.u8.min≤z∧z≤IntKind.u8.max:=by simpa [Lit.wf] using h
 have e1:IntKind.u8.min=0:=by decide
 have e2:IntKind.u8.max=255:=by decide
 rw [e1,e2] at this
 exact this
theorem laidOut:laidOutB Tryz.prog=true:=by kernel_rfl
theorem bytes {P:Program} {w:World} {base:Nat} {sp:Nat→Bool} {held:Bool} {t e:TypeId} {fuel:Nat} {v:Value} {x:DataW H×List MemPlace} (ht:P.underlying t=some (.slice e)) (he:P.underlying e=some (.int .u8)) (hc:P.cellsOf e=1)
  (h:DataW.trod enc P w base sp held fuel t [v]=some x):
  ∃(A:Option Addr) (c:Nat) (l:List Nat),v= .slice A l.length c∧Rd w w.heap.size A (jw.us l)∧(A=none→l.length=0)∧(∀n∈l,n<256)∧l.length≤c∧c≤maxLen∧l.length<Rows.uptoBulk x.1:=by
 rcases open_ints ht he hc h with ⟨hcs,rfl⟩ | ⟨a,len,cap,zs,hcs,_,hl,hm,hz,rfl,hcell,hwz⟩
 ·obtain rfl:v= .slice none 0 0:=by simpa using hcs
  exact ⟨none,0,[],rfl,Rd.nil,fun _=>rfl,by simp,Nat.le_refl _,by unfold maxLen;omega,by simp [Rows.uptoBulk]⟩
 ·obtain rfl:v= .slice (some a) len cap:=by simpa using hcs
  have hlz:len≤zs.length:=by rw [hz];split <;> omega
  have hlen:((zs.take len).map Int.toNat).length=len:=by rw [List.length_map,List.length_take];omega
  have hus:jw.us ((zs.take len).map Int.toNat)=(zs.take len).map (Value.int .u8):=by
   unfold jw.us
   rw [List.map_map,List.map_map]
   refine List.map_congr_left fun z hz=>?_
   have:=wf_u8 (hwz z (List.mem_of_mem_take hz))
   show Value.int .u8 ((z.toNat:Nat):Int)=_
   rw [show ((z.toNat:Nat):Int)=z by omega]
  refine ⟨some a,cap,(zs.take len).map Int.toNat,by rw [hlen],?_,(by intro h;cases h),fun n hn=>?_,by omega,hm,?_⟩
  ·rw [hus]
   intro j u hu
   rw [List.getElem?_map,List.getElem?_take] at hu
   by_cases hj:j<len
   ·rw [if_pos hj] at hu
    have hjz:j<zs.length:=by omega
    have h1:=hcell j hjz
    have h2:zs[j]? =some zs[j]:=List.getElem?_eq_getElem hjz
    rw [h2] at hu
    simp only [Option.map_some,Option.some.injEq] at hu
    subst hu
    have h3:zs.getD j 0=zs[j]:=by simp [hjz]
    rw [h3] at h1
    have hb:=World.block_lt_of_cell? w _ h1
    rw [add_block] at hb
    exact ⟨a,rfl,hb,h1⟩
   ·rw [if_neg hj] at hu
    simp at hu
  ·obtain ⟨z,hz,rfl⟩:=List.mem_map.1 hn
   have:=wf_u8 (hwz z (List.mem_of_mem_take hz))
   omega
  ·have h1:=bulks.slice_le (H:=H) (lits .u8 (zs.take len)) (lits .u8 (zs.drop len))
   have h2:(lits (H:=H) .u8 (zs.take len)).length=len:=by simp [lits];omega
   rw [hlen]
   show len<Rows.uptoBulk (DataW.slice _ _)
   omega
set_option maxRecDepth 100000 in
set_option maxHeartbeats 1600000 in
theorem contract (W:World) (base:Nat) (args:Array Value) (ds gs:List (DataW H)) (before:List MemPlace)
  (hval:∀(j:Nat) t v,Tryz.f11.params[j]? =some t→args[j]? =some v→Value.okWide Tryz.prog W .any base t v)
  (hW:DataW.Whole enc Tryz.prog Tryz.f11.params.toList Rows.jsoninWritesSpec.vars false W args.toList ds gs before) (hk:Rows.uptoSmall H (ds++gs)=true) (hL:laidMetH Tryz.prog upT.laidT W):
  Calls Tryz.prog 11 args W fun e W'=>∃v,e= .returned v∧Rows.jsoninWritesSpec.post enc Tryz.prog Tryz.f11 false true false false W args v W':=by
 have hW':=hW
 obtain ⟨p,q,hA0,hV,rfl,hfz,hnd⟩:=hW
 have hA:DataW.TrodAll enc Tryz.prog W 0 (fun _=>true) true Tryz.f11.params.toList args.toList ds p:=hA0
 rw [Tryz.params11] at hA hval
 obtain ⟨v0,vs0,d0,ds0,p0,q0,hargs,rfl,rfl,h0,r0⟩:=trodAll_cons hA
 obtain ⟨v1,vs1,d1,ds1,p1,q1,rfl,rfl,rfl,h1,r1⟩:=trodAll_cons r0
 obtain ⟨rfl,rfl,rfl⟩:=trodAll_nil r1
 obtain rfl:args= #[v0,v1]:=by cases args;simp_all
 obtain ⟨rfl,rfl⟩:=trodVars_none hV
 obtain ⟨n1,rfl,rfl,rfl,hwn1⟩:=open_int Tryz.underlying3 (hval 1 3 v1 rfl rfl) h1
 have hbk:=bulks.bound hk
 simp only [List.append_nil,Rows.uptoBulkAll,Rows.uptoBulk] at hbk
 obtain ⟨a0,len0,cap0,rfl⟩:=okWide_slice Tryz.underlying22 (hval 0 22 v0 rfl rfl)
 have k0:=h0
 have lt0:∀x∈p0,x.block<W.heap.size:=by obtain ⟨m,hm⟩:=k0;exact DataW.trod_lt m _ _ _ hm
 obtain ⟨m0,hm0⟩:=h0
 obtain ⟨A,c,l,hv,hr,hA1,hby,hlc,hcm,hb0⟩:=bytes Tryz.underlying22 Tryz.underlying5 (show Tryz.prog.cellsOf 5=1 by kernel_rfl) hm0
 injection hv with u1 u2 u3
 subst u1 u2 u3
 simp only at hb0
 obtain ⟨z,hz⟩:∃z:Nat,z=1074:=⟨_,rfl⟩
 obtain ⟨P,hP⟩:∃P:Nat,P=2^z:=⟨_,rfl⟩
 have hnum:=jw.num_of hz hP (upT.envT hL)
 have hE:=upT.envT hL
 refine (jw.jwrites_any (P:=P) hz hP a0 l.length cap0 l n1 W rfl (by omega) hby hr hlc hcm ⟨upT.tabs hL,⟨hE.ne.pow,hE.ne.lt,hE.ne.tab⟩⟩ hnum (jw.fixed_all W hnum (fun l=>jw.fn_nf P l) (jw.fn15 hz hP) (jw.fn1 P))).mono fun e W' ⟨he,bel⟩=>?_
 subst he
 exact ⟨_,rfl,_,_,_,[],_,[],hW',trodAll_mk1 (shut_bool Tryz.underlying4 _),(trodAll_cons_mk (Below.trod laidOut (by kernel_rfl) (of_decide_eq_true (by kernel_rfl)) k0 bel lt0) (trodAll_cons_mk (shut_int Tryz.underlying3 hwn1) trodAll_mk0)),rfl,bel.frame _,fun h=>by cases h⟩
end
set_option maxRecDepth 100000 in
theorem lifted (os:Os) (started:os.Started) (H:Type) (enc:TypeId×Value→H) (F:Stop.Interp):
  ReturnsInHanded {} Tryz.checked os 11 .any ((Rows.OpenSpec.upto Rows.jsoninWritesSpec).preRow enc Tryz.prog Tryz.f11 Rows.jsoninWritesUptoRow.domain false Rows.jsoninWritesUptoRow.laid) (((Rows.OpenSpec.upto Rows.jsoninWritesSpec).at F).post enc Tryz.prog Tryz.f11 false true false false):=by
 refine returnsInHanded_of_row (C:=Tryz.checked) (s:=Rows.OpenSpec.upto Rows.jsoninWritesSpec) upN.own started (by kernel_rfl) Tryz.func11
  (upT.witnessT (enc:=enc) os #[.slice none 0 0,.int .i64 0] (by kernel_rfl)
   (OpenSpec.preRow_of_cond 8 (x:=([.nil,.lit (.int .i64 0)],[],[])) (by kernel_rfl) (by kernel_rfl) (fun k hk=>by cases hk;kernel_rfl) (by kernel_rfl) (by rw [MakeChecks.laidMetH_plain _ _ _ (by kernel_rfl)];exact upT.laid_metT os _))) ?_
 intro W base args ds gs before hval hW _ hcond _ hL _ _
 exact contract W base args ds gs before hval hW (hcond _ rfl) hL
theorem over:Rows.JsoninWritesUptoSaid:=
 OpenClaim.holds_of_cond 11 Tryz.f11 rfl rfl rfl rfl rfl rfl rfl ⟨rfl,rfl,rfl,rfl,rfl⟩ rfl rfl rfl rfl rfl (by kernel_rfl) Tryz.func11 (by kernel_rfl)
  (of_decide_eq_true (by kernel_rfl)) (by unfold Func.isWrapper;first | (rw [if_pos (by decide+kernel)];kernel_rfl) | (rw [if_neg (by decide+kernel)];exact ⟨rfl,rfl⟩))
  (fun os started H enc _ F=>by rw [OpenClaim.pre_eq_preRow];exact lifted os started H enc F)
theorem plain (f:FuncId) (fn:Func) (hf:Tryz.pinned.checked.prog.funcNamed "pergola/pergolalaw05.JsoninWrites" =some f) (hfn:Tryz.pinned.checked.prog.funcs[f]? =some fn):
  true=Tryz.pinned.checked.prog.looks []∧∀(j:Nat) t,fn.params[j]? =some t→Tryz.pinned.checked.prog.wantsStandIn t=false:=by
 obtain rfl:f=11:=Option.some.inj ((show Tryz.prog.funcNamed "pergola/pergolalaw05.JsoninWrites" =some 11 by kernel_rfl).symm.trans hf) |>.symm
 obtain rfl:fn=Tryz.f11:=(Option.some.inj (Tryz.func11.symm.trans hfn)).symm
 refine ⟨by kernel_rfl,fun j t ht=>?_⟩
 rw [Tryz.params11] at ht
 have hm:t∈[22,3]:=by simpa using Array.mem_of_getElem? ht
 have hall:([22,3].all fun u=>!Tryz.prog.wantsStandIn u)=true:=by kernel_rfl
 exact (show Tryz.prog.wantsStandIn t=false by simpa using List.all_eq_true.1 hall t hm)
theorem proved:Rows.JsoninWritesUptoCardSaid:=
 Claim7.holds_tied_plain_at .later [] _ _ _ _ over (fun _ h=>by cases h) (by kernel_rfl) (fun _ h=>by cases h) jsoninWritesUpto_row_tie rfl ⟨rfl,rfl⟩ (by kernel_rfl) rfl plain (by kernel_rfl)
end Go.Proofs.YtjhhdnnblcbdbaaGreatDoor.upWw
