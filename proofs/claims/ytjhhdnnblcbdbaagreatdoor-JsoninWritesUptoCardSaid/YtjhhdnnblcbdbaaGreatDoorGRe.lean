/- number.Read, walked at the texts that 'fixed' reads. number.Read, walked: of a number text of either form. number.Read at the text that FloatText gives of a finite float, and at a whole number's text. -/
import Derived.Test.YtjhhdnnblcbdbaaGreatDoorGTf
import Derived.Test.YtjhhdnnblcbdbaaGreatDoorGPfp
import Derived.Test.YtjhhdnnblcbdbaaGreatDoorYTfh
import Derived.Test.YtjhhdnnblcbdbaaGreatDoorGShp
import Derived.Test.YtjhhdnnblcbdbaaGreatDoorGRb
import Derived.Test.YtjhhdnnblcbdbaaGreatDoorGSg
import Derived.Test.YtjhhdnnblcbdbaaGreatDoorGEt
import Derived.Test.YtjhhdnnblcbdbaaGreatDoorGLa
import Derived.Test.YtjhhdnnblcbdbaaGreatDoorGFlt
section
namespace Go.Proofs.YtjhhdnnblcbdbaaGreatDoor.pg
open Go.RowKit mem fl big us uw
set_option linter.unusedVariables false
attribute [local go_sem] run_store_float
def intsOf (s:ByteArray):List Int:=(nats s).map fun n:Nat=>(n:Int)
theorem below_bytes (w:World) (e:TypeId) (s:ByteArray):Below w.heap.size w (Lib.bytesWorld w e s):=
 ⟨rfl,rfl,rfl,by rw [Lib.bytesWorld_size];omega,fun k hk=>Lib.bytesWorld_at_old w e s k hk⟩
theorem bytes_rd (w:World) (e:TypeId) (s:ByteArray):Rd (Lib.bytesWorld w e s) (w.heap.size+1) (some ⟨w.heap.size,0,none⟩) ((intsOf s).map (.int .u8)):=by
 intro j u hu
 refine ⟨_,rfl,by simp,?_⟩
 rw [add_zero_off]
 simp only [intsOf,nats,List.map_map,List.getElem?_map,Option.map_eq_some_iff] at hu
 obtain ⟨b,hb,rfl⟩:=hu
 have hj:j<s.data.toList.length:=(List.getElem?_eq_some_iff.1 hb).1
 rw [Lib.bytesWorld_cell w e s j (by rw [Lib.size_eq];exact hj),List.getD_eq_getElem?_getD,hb]
 rfl
theorem prefix_text (s:ByteArray) (w:World) (hn:s.size≤1100000) (c:Nat):Calls Tryz.prog 34 #[.slice (some ⟨w.heap.size,0,none⟩) s.size c,.int .i64 0] (Lib.bytesWorld w 5 s)
  fun e w'=>e= .returned (.tuple #[.int .i64 (pfx.pf (intsOf s) 0).1,.int .i64 (pfx.pf (intsOf s) 0).2.1,.int .i64 (pfx.pf (intsOf s) 0).2.2])∧Lib.bytesWorld w 5 s=w':=by
 have h:=pfx.prefix_any (some ⟨w.heap.size,0,none⟩) c (intsOf s) 0 _ _ (bytes_rd w 5 s) (by simp [intsOf,nats_length];omega) (by
  intro x hx
  simp only [intsOf,nats,List.map_map,List.mem_map,Function.comp] at hx
  obtain ⟨b,_,rfl⟩:=hx
  have:=b.toNat_lt
  omega) (by omega)
 rwa [show (intsOf s).length=s.size by simp [intsOf,nats_length]] at h
theorem num_cells {wr:World} {g:Nat} {v0 v1 v2:Value} (h:wr.heap[g]? =some (.cells #[.int .i64 0,.int .i64 0,.float .f64 0] 41 (0,0))):
  (((wr.setCell ⟨g,0,none⟩ v0).setCell ⟨g,1,none⟩ v1).setCell ⟨g,2,none⟩ v2).heap[g]? =some (.cells #[v0,v1,v2] 41 (0,0)):=by
 have:=blk_set (blk_set (blk_set h 0 v0) 1 v1) 2 v2
 simpa using this
end Go.Proofs.YtjhhdnnblcbdbaaGreatDoor.pg
end
section
namespace Go.Proofs.YtjhhdnnblcbdbaaGreatDoor.pg
open Go.RowKit mem fl big us uw
set_option linter.unusedVariables false
attribute [local go_sem] run_store_float
set_option maxRecDepth 100000 in
set_option maxHeartbeats 4000000 in
theorem read_whole (T:ByteArray) (n:Nat) (v:Int) (hsz:T.size=n) (hn:n≤1100000) (hpf:pfx.pf (intsOf T) 0=((n:Int),(n:Int),1))
  (hT:∀w:World,Calls Tryz.prog 35 #[.string T,.int .i64 10,.int .i64 64] w fun e w'=>e= .returned (.tuple #[.int .i64 v,.nilIface])∧(w'=w∨∃t,w'=Lib.bytesWorld w 5 t)) (w:World):
  Calls Tryz.prog 17 #[.string T] w fun e w'=>e= .returned (.tuple #[.agg #[.int .i64 2,.int .i64 v,.float .f64 0],.int .i64 0])∧Below w.heap.size w w':=by
 have HT:=Lib.hid hT
 have hp:=prefix_text T (w.alloc (.cells #[.int .i64 0,.int .i64 0,.float .f64 0] 41)) (by omega)
 rw [hpf] at hp
 have HP:=Lib.hid hp
 clear hp hT hpf
 have hcv:∀w:World,(convert 9 22 (.string T)).run Tryz.prog w=_:=fun w=>Lib.run_convert_string_bytes w 9 22 5 T Tryz.underlying9 Tryz.underlying22 Tryz.underlying5
 rw [hsz] at hcv
 have HB:=Lib.hid (fun w=>below_bytes w 5 T)
 have HB5:=Lib.hid (fun w t=>below_bytes w 5 t)
 have hnn:((n:Int) !=n)=false:=by simp
 have hnn2:((n:Int)==n)=true:=by simp
 rw [hsz,show (w.alloc (.cells #[.int .i64 0,.int .i64 0,.float .f64 0] 41)).heap.size=w.heap.size+1 by simp] at HP
 go_enter Tryz.func17,Tryz.ntmps17
 go_wp2_with fail
 refine (HP.out _).mono ?_
 rintro e w1 ⟨rfl,rfl⟩
 have hg1:(Lib.bytesWorld (w.alloc (.cells #[.int .i64 0,.int .i64 0,.float .f64 0] 41)) 5 T).heap[w.heap.size]? =some (.cells #[.int .i64 0,.int .i64 0,.float .f64 0] 41):=(Lib.bytesWorld_at_old _ _ _ _ (by simp)).trans (heap_alloc_new w _)
 have hb1:Below w.heap.size w (Lib.bytesWorld (w.alloc (.cells #[.int .i64 0,.int .i64 0,.float .f64 0] 41)) 5 T):=((Below.refl _ _).alloc (Nat.le_refl _) _).trans ((HB.out _).mono (by simp))
 have hs1:w.heap.size<(Lib.bytesWorld (w.alloc (.cells #[.int .i64 0,.int .i64 0,.float .f64 0] 41)) 5 T).heap.size:=by rw [Lib.bytesWorld_size];simp;omega
 clear hcv HP HB
 generalize Lib.bytesWorld (w.alloc (.cells #[.int .i64 0,.int .i64 0,.float .f64 0] 41)) 5 T=w1 at*
 have HB1:=Lib.hid hb1
 have HG1:=Lib.hid hg1
 clear hb1 hg1
 go_wp2_with fail
 refine (HT.out w1).mono ?_
 rintro e w2 ⟨rfl,hw2⟩
 have hb2:Below w1.heap.size w1 w2:=by
  rcases hw2 with rfl | ⟨t,rfl⟩
  ·exact Below.refl _ _
  ·exact HB5.out _ _
 clear hw2
 have hg2:=(hb2.block _ hs1).trans HG1.out
 have HB2:=Lib.hid (HB1.out.trans (hb2.mono (Nat.le_of_lt hs1)))
 clear hb2 HG1 HB1
 have z0:=blk_frozen hg2 0
 have z1:=blk_frozen hg2 1
 have z2:=blk_frozen hg2 2
 have y0:=blk_cell hg2 (i:=0) (by simp)
 have y1:=blk_cell hg2 (i:=1) (by simp)
 have y2:=blk_cell hg2 (i:=2) (by simp)
 simp at y0 y1 y2
 have HG2:=Lib.hid hg2
 clear hg2
 go_wp2_with fail
 have hfc:=num_cells (v0:= .int .i64 2) (v1:= .int .i64 v) (v2:= .float .f64 0) HG2.out
 have r0:=blk_cell hfc (i:=0) (by simp)
 have r1:=blk_cell hfc (i:=1) (by simp)
 have r2:=blk_cell hfc (i:=2) (by simp)
 simp only [List.getElem_toArray,List.getElem_cons_zero,List.getElem_cons_succ] at r0 r1 r2
 refine bodyPost_ret (v:= .tuple #[.agg #[.int .i64 2,.int .i64 v,.float .f64 0],.int .i64 0]) (by simp [results,Tryz.results17,go_sem,r0,r1,r2]) rfl ⟨rfl,?_⟩
 exact ((HB2.out.setCell (by simp) _).setCell (by simp) _).setCell (by simp) _
end Go.Proofs.YtjhhdnnblcbdbaaGreatDoor.pg
end
section
namespace Go.Proofs.YtjhhdnnblcbdbaaGreatDoor.pg
open Go.RowKit mem fl big us uw sh pfx
set_option linter.unusedVariables false
theorem nx_e (s:Int) (c:Nat) (hc:isE c=true):fm (nx s (c:Int))=0:=by
 have h:c=101∨c=69:=by
  unfold isE at hc
  simp at hc
  exact hc
 rcases h with rfl | rfl
 ·unfold nx fm dig
  simp
  repeat' split
  all_goals first | rfl | simp_all
 ·unfold nx fm dig
  simp
  repeat' split
  all_goals first | rfl | simp_all
theorem e_last {st:Int} {T:List Nat} (h:fm (adv st T)≠0):∀k,k<T.length→isE (T.getD k 0)=true→k+1<T.length:=by
 intro k hk hE
 rcases Nat.lt_or_ge (k+1) T.length with h1 | h1
 ·exact h1
 ·exfalso
  have e:T=T.take k++[T.getD k 0]:=by
   rw [List.getD_eq_getElem?_getD,List.getElem?_eq_getElem hk,Option.getD_some,List.take_append_getElem hk,List.take_of_length_le (by omega)]
  rw [e,adv_app] at h
  exact h (nx_e _ _ hE)
theorem pf_text {s:ByteArray} {T:List Nat} (hT:nats s=T) (hne:T≠[]) (h:fm (adv 0 T)≠0):pfx.pf (intsOf s) 0=((s.size:Int),(s.size:Int),fm (adv 0 T)):=by
 have hl:s.size=T.length:=by rw [←hT,nats_length]
 unfold intsOf
 rw [hT,hl]
 exact pf_all T hne h
end Go.Proofs.YtjhhdnnblcbdbaaGreatDoor.pg
end
