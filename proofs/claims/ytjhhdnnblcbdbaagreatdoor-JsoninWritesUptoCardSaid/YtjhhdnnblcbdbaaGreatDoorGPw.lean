/- prescale, pack64, parseFloat64, walked. parseFloat64, walked. parseFloat64: what it computes is the nearest float (plain). special, on a text that begins with '0'. -/
import Derived.Test.YtjhhdnnblcbdbaaGreatDoorYUw
import Derived.Test.YtjhhdnnblcbdbaaGreatDoorGPow
section
namespace Go.Proofs.YtjhhdnnblcbdbaaGreatDoor.uw
open Go.RowKit mem fl big us
set_option linter.unusedVariables false
def PowAt (w:World):Prop:=∀i,i<696→w.cell? ⟨14,i*2,none⟩=some (.int .u64 (tabH i:Int))∧w.cell? ⟨14,i*2+1,none⟩=some (.int .u64 (tabL i:Int))
def preW (g i:Nat) (s:Int) (w:World):World:=((w.setCell ⟨g,0,none⟩ (.int .u64 (tabH i:Int))).setCell ⟨g,1,none⟩ (.int .u64 (tabL i:Int))).setCell ⟨g,2,none⟩ (.int .i64 s)
def PrPost (g i:Nat) (s:Int) (w:World) (r:Ending) (w':World):Prop:=r= .returned (.tuple #[])∧w'=preW g i s w
set_option maxRecDepth 100000 in
theorem prescale_any (g i:Nat) (e p lp:Int) (w:World) (hg:g<w.heap.size) (hp:p=(i:Int)-348) (hi:i<696) (h7:PowAt w) (he: -100000≤e) (he2:e≤100000) (hl: -100000≤lp) (hl2:lp≤100000) (h0:g≠14)
  (k0:w.cell? ⟨g,0,none⟩=some (.int .u64 0)) (k1:w.cell? ⟨g,1,none⟩=some (.int .u64 0)) (k2:w.cell? ⟨g,2,none⟩=some (.int .i64 0))
  (z0:w.frozen? ⟨g,0,none⟩=false) (z1:w.frozen? ⟨g,1,none⟩=false) (z2:w.frozen? ⟨g,2,none⟩=false):
  Calls Tryz.prog 181 #[.pointer (some ⟨g,0,none⟩),.int .i64 e,.int .i64 p,.int .i64 lp] w (PrPost g i (-(e+lp+3)) w):=by
 unfold PrPost
 obtain ⟨hH,hL⟩:=h7 i hi
 have hHb:=(bounds i hi)
 have hpi:p- -348=(i:Int):=by omega
 go_enter Tryz.func181,Tryz.ntmps181
 go_wp2_with fail
 refine bodyPost_end (results_none rfl _ _ _) rfl ?_
 exact ⟨rfl,rfl⟩
def erng:Value:= .iface 147 (.int .i64 1)
def PkPost (m j:Nat) (w:World) (e:Ending) (w':World):Prop:=e= .returned (.tuple #[.float .f64 (min (j*4503599627370496+m) 9218868437227405312),if j<2046∨m<4503599627370496 then .nilIface else erng])∧w=w'
theorem run_ffb (x:Nat) (w:World):(callFunc 157 #[.int .u64 (x:Int)]).run Tryz.prog w= .ok (.value (.float .f64 x)) w:=by kernel_rfl
theorem run_ffbi (w:World):(callFunc 157 #[.int .u64 9218868437227405312]).run Tryz.prog w= .ok (.value (.float .f64 9218868437227405312)) w:=by kernel_rfl
theorem bit52_lo (m:Nat) (h:m<4503599627370496):bits .and .u64 (m:Int) 4503599627370496=0:=by
 have h52:(2:Nat)^52=4503599627370496:=by decide
 have h1:=u64_and_nat m 4503599627370496 (by omega) (by decide)
 rw [←h52,nat_bit 52,h52] at h1
 have e:m/4503599627370496=0:=by omega
 rw [e] at h1
 exact h1
theorem bit52_hi (m:Nat) (h:4503599627370496≤m) (h2:m<9007199254740992):bits .and .u64 (m:Int) 4503599627370496=4503599627370496:=by
 have h52:(2:Nat)^52=4503599627370496:=by decide
 have h1:=u64_and_nat m 4503599627370496 (by omega) (by decide)
 rw [←h52,nat_bit 52,h52] at h1
 have e:m/4503599627370496=1:=by omega
 rw [e] at h1
 exact h1
theorem bit63_lo (m:Nat) (h:m<9223372036854775808):bits .and .u64 (m:Int) 9223372036854775808=0:=by
 have h52:(2:Nat)^63=9223372036854775808:=by decide
 have h1:=u64_and_nat m 9223372036854775808 (by omega) (by decide)
 rw [←h52,nat_bit 63,h52] at h1
 have e:m/9223372036854775808=0:=by omega
 rw [e] at h1
 exact h1
set_option maxRecDepth 100000 in
theorem not52 (m:Nat) (h:4503599627370496≤m) (h2:m<9007199254740992):bits .andNot .u64 (m:Int) 4503599627370496=((m-4503599627370496:Nat):Int):=by
 have h1:=u64_andNot_nat m 4503599627370496 (by omega) (by decide)
 have h53:m&&& (2^53-1)=m:=by
  rw [Nat.and_two_pow_sub_one_eq_mod]
  exact Nat.mod_eq_of_lt (by have:(2:Nat)^53=9007199254740992:=by decide
                             omega)
 have h3:m&&& (18446744073709551615-4503599627370496)=m-4503599627370496:=by
  conv=>lhs;rw [←h53]
  rw [Nat.and_assoc,show (2^53-1)&&& (18446744073709551615-4503599627370496)=2^52-1 by decide,Nat.and_two_pow_sub_one_eq_mod]
  have:(2:Nat)^52=4503599627370496:=by decide
  rw [this]
  omega
 rw [h3] at h1
 exact h1
set_option maxRecDepth 100000 in
theorem pack_or (m j:Nat) (h:4503599627370496≤m) (h2:m<9007199254740992) (hj:j<2046):bits .or .u64 ((m-4503599627370496:Nat):Int) ((1075+((j:Int)-1074))*4503599627370496)=((j*4503599627370496+m:Nat):Int):=by
 have h52:(2:Nat)^52=4503599627370496:=by decide
 have h1:=or_join' ((j+1)*4503599627370496) (m-4503599627370496) 52 (by omega) (by omega) (by rw [h52];omega) (by rw [h52];omega)
 have e:(1075+((j:Int)-1074))*4503599627370496=(((j+1)*4503599627370496:Nat):Int):=by omega
 have e3:(m-4503599627370496)+(j+1)*4503599627370496=j*4503599627370496+m:=by omega
 obtain ⟨q,hq⟩:∃q,(1075+((j:Int)-1074))*4503599627370496=q:=⟨_,rfl⟩
 obtain ⟨q2,hq2⟩:∃q2,(j+1)*4503599627370496=q2:=⟨_,rfl⟩
 rw [hq] at e ⊢
 rw [hq2] at e e3 h1
 rw [←e3,e]
 exact h1
set_option maxRecDepth 100000 in
theorem pack_any (m j:Nat) (w:World) (hm:m<9007199254740992) (hj:4503599627370496≤m∨j=0) (hj2:j≤100000):
  Calls Tryz.prog 187 #[.int .u64 (m:Int),.int .i64 ((j:Int)-1074)] w (PkPost m j w):=by
 unfold PkPost
 have HR:=Lib.hid (run_ffb)
 by_cases h1:m<4503599627370496
 ·have hj0:j=0:=by omega
  subst hj0
  have ha:=bit52_lo m h1
  have hv:min (0*4503599627370496+m) 9218868437227405312=m:=by omega
  have HV:=Lib.hid hv
  have hc:((0:Nat)<2046∨m<4503599627370496):= .inl (by omega)
  rw [if_pos hc]
  clear hv hc
  go_enter Tryz.func187,Tryz.ntmps187
  go_wp2_with fail
  rw [HR.out m w]
  go_wp2_with fail
  go_ret2
  exact ⟨by rw [HV.out];rfl,rfl⟩
 ·have ha:=bit52_hi m (by omega) hm
  by_cases h2:2046≤j
  ·have hd:decide ((j:Int)-1074≥972)=true:=decide_eq_true (by omega)
   have hd2:decide ((972:Int)≤(j:Int)-1074)=true:=decide_eq_true (by omega)
   have ha3:=bit63_lo m (by omega)
   have ho:bits .or .u64 0 9218868437227405312=9218868437227405312:=by decide
   have hv:min (j*4503599627370496+m) 9218868437227405312=9218868437227405312:=by omega
   have HV:=Lib.hid hv
   have hc:¬(j<2046∨m<4503599627370496):=by omega
   rw [if_neg hc]
   clear hv hc
   go_enter Tryz.func187,Tryz.ntmps187
   go_wp2_with fail
   rw [run_ffbi w]
   go_wp2_with fail
   go_ret2
   exact ⟨by rw [HV.out];rfl,rfl⟩
  ·have hd:decide ((j:Int)-1074≥972)=false:=decide_eq_false (by omega)
   have hd2:decide ((972:Int)≤(j:Int)-1074)=false:=decide_eq_false (by omega)
   have hn:=not52 m (by omega) hm
   have hc:(j<2046∨m<4503599627370496):= .inl (by omega)
   rw [if_pos hc]
   have ho:=pack_or m j (by omega) hm (by omega)
   obtain ⟨r,hr⟩:∃r,j*4503599627370496+m=r:=⟨_,rfl⟩
   have hv:min r 9218868437227405312=r:=by omega
   have HV:=Lib.hid hv
   rw [hr] at ho ⊢
   clear hc hv hr
   go_enter Tryz.func187,Tryz.ntmps187
   go_wp2_with fail
   rw [HR.out r w]
   go_wp2_with fail
   go_ret2
   exact ⟨by rw [HV.out];rfl,rfl⟩
end Go.Proofs.YtjhhdnnblcbdbaaGreatDoor.uw
end
section
namespace Go.Proofs.YtjhhdnnblcbdbaaGreatDoor.uw
open Go.RowKit mem fl big us
set_option linter.unusedVariables false
theorem bits_shape (w:World) (o:Obj):Below w.heap.size w (w.alloc o):=(Below.refl _ _).alloc (Nat.le_refl _) _
theorem PowAt.below {w w':World} (h:PowAt w) (hb:Below w.heap.size w w') (hz:14<w.heap.size):PowAt w':=fun i hi=>by
 obtain ⟨h1,h2⟩:=h i hi
 exact ⟨by rw [hb.cell hz];exact h1,by rw [hb.cell hz];exact h2⟩
theorem set_cells {w:World} {b j:Nat} {cs:Array Value} {u:Value} {t:TypeId} (h:w.heap[b]? =some (.cells cs t (0,0))):(w.setCell ⟨b,j,none⟩ u).heap[b]? =some (.cells (cs.setIfInBounds j u) t (0,0)):=by
 have hlt:=lt_of_block h
 have h':w.heap[b]= .cells cs t (0,0):=by simpa [Array.getElem?_eq_getElem hlt] using h
 show (w.heap.modify b _)[b]? =_
 rw [Array.getElem?_eq_getElem (by simpa using hlt),Array.getElem_modify_self,h']
 rfl
theorem preW_cells (g i:Nat) (s:Int) (w:World) (T:TypeId) (h:w.heap[g]? =some (.cells #[.int .u64 0,.int .u64 0,.int .i64 0] T (0,0))):
  (preW g i s w).heap[g]? =some (.cells #[.int .u64 (tabH i:Int),.int .u64 (tabL i:Int),.int .i64 s] T (0,0)):=by
 unfold preW
 exact set_cells (set_cells (set_cells h))
theorem preW_below (g i:Nat) (s:Int) (w:World) (B:Nat) (hB:B≤g):Below B w (preW g i s w):=(((Below.refl B w).setCell hB _).setCell hB _).setCell hB _
theorem b2i_any (b:Bool) (w:World):Calls Tryz.prog 125 #[.bool b] w fun e w'=>e= .returned (.int .i64 (if b then 1 else 0))∧w=w':=by
 cases b
 all_goals
  go_enter Tryz.func125,Tryz.ntmps125
  go_wp2_with fail
  go_ret
  exact ⟨rfl,rfl⟩
theorem us_pos (x h:Nat) (hx:9223372036854775808≤x) (hh:9223372036854775808≤h):0<x*h/18446744073709551616:=by
 have:=Nat.mul_le_mul hx hh
 omega
def hlf (u:Nat):Nat:=if u % 2=0 then u/2 else odd1 (u/2)
theorem and_one (u:Nat) (h:u<18446744073709551616):bits .and .u64 (u:Int) 1=((u % 2:Nat):Int):=by
 have:=and_low u 1 h (by decide)
 simpa using this
theorem or_hlf (u:Nat) (h:u<18446744073709551616):bits .or .u64 ((u:Int)/2) ((u % 2:Nat):Int)=((hlf u:Nat):Int):=by
 have e:(u:Int)/2=((u/2:Nat):Int):=by simp
 rw [e]
 unfold hlf
 rcases Nat.mod_two_eq_zero_or_one u with h0 | h0
 ·rw [h0,if_pos rfl]
  have:=u64_or_nat (u/2) 0 (by omega) (by omega)
  rw [Nat.or_zero] at this
  exact this
 ·rw [h0,if_neg (by omega)]
  exact or_one (u/2) (by omega)
theorem or_low (u:Nat) (h:u<18446744073709551616):bits .or .u64 (u:Int) ((u % 2:Nat):Int)=(u:Int):=by
 rcases Nat.mod_two_eq_zero_or_one u with h0 | h0
 ·rw [h0]
  have:=u64_or_nat u 0 (by omega) (by omega)
  rw [Nat.or_zero] at this
  exact this
 ·rw [h0]
  have:=or_one u h
  have e:odd1 u=u:=by unfold odd1;omega
  rw [e] at this
  exact this
theorem or_zero_l (r:Nat) (h:r<18446744073709551616):bits .or .u64 0 (r:Int)=(r:Int):=by
 have:=u64_or_nat 0 r (by omega) h
 rw [Nat.zero_or] at this
 exact this
theorem b2i_t (w:World):Calls Tryz.prog 125 #[.bool true] w fun e w'=>e= .returned (.int .i64 1)∧w'=w:=(b2i_any true w).mono fun _ _ h=>⟨h.1,h.2.symm⟩
theorem b2i_f (w:World):Calls Tryz.prog 125 #[.bool false] w fun e w'=>e= .returned (.int .i64 0)∧w'=w:=(b2i_any false w).mono fun _ _ h=>⟨h.1,h.2.symm⟩
theorem run_ffb0 (w:World):(callFunc 157 #[.int .u64 0]).run Tryz.prog w= .ok (.value (.float .f64 0)) w:=by kernel_rfl
set_option maxRecDepth 100000 in
set_option maxHeartbeats 2000000 in
theorem pf_walk (d i c:Nat) (e s lp:Int) (w:World) (hd0:0<d) (hd:d<18446744073709551616) (hi:i<696) (hb:Lib.bitLen d=64-(c:Int)) (hc:c<64)
  (hx1:9223372036854775808≤d*2^c) (hx2:d*2^c<18446744073709551616) (h7:PowAt w) (hsz:14<w.heap.size)
  (hlp:lpN i=lp) (he:e=min 1074 ((c:Int)-11-lp)) (hs:s=(c:Int)-3-e-lp) (hlpb: -1200≤lp∧lp≤1200) (hs64:64≤s):
  Calls Tryz.prog 159 #[.int .u64 (d:Int),.int .i64 ((i:Int)-348),.int .u64 0] w fun r w'=>r= .returned (.tuple #[.float .f64 0,.nilIface])∧Below w.heap.size w w':=by
 have HL:=Lib.hid (fun w=>shelf.bits_Len64 (d:Int) w (by omega) (by omega))
 have HG:=Lib.hid (fun w=>lg_any ((i:Int)-348) w (by omega) (by omega))
 have hbe:((Lib.bitLen ((d:Int)).toNat:Nat):Int)=64-(c:Int):=by rw [←hb];simp
 have hle:((i:Int)-348)*108853/32768=lp:=hlp
 have h64:(64:Int)-(64-(c:Int))=c:=by omega
 have hee:min 1074 (53-(64-(c:Int))-lp)=e:=by rw [he];congr 1;omega
 have heb: -1300≤e∧e≤1074:=by omega
 have hss: -(e-(c:Int)+lp+3)=s:=by omega
 have hsb:s≤100000:=by omega
 have hdg:decide (s≥64)=true:=decide_eq_true hs64
 have hdg2:decide (64≤s)=true:=decide_eq_true hs64
 have h7w:=Lib.hid h7
 have hor:bits .or .u64 0 0=0:=by decide
 clear he hs hlp hx1 hx2 hb h7
 go_enter Tryz.func159,Tryz.ntmps159
 go_wp2_with fail
 refine (HL.out w).mono ?_
 rintro e1 w1 ⟨rfl,rfl⟩
 rw [hbe]
 go_wp2_with fail
 refine (HG.out _).mono ?_
 rintro e1 w2 ⟨rfl,rfl⟩
 rw [hle]
 go_wp2_with fail
 have hba:Below w1.heap.size w1 (w1.alloc (.cells #[.int .u64 0,.int .u64 0,.int .i64 0] 260)):=bits_shape _ _
 have hza:(w1.alloc (.cells #[.int .u64 0,.int .u64 0,.int .i64 0] 260)).heap.size=w1.heap.size+1:=by simp
 have hca:(w1.alloc (.cells #[.int .u64 0,.int .u64 0,.int .i64 0] 260)).heap[w1.heap.size]? =some (.cells #[.int .u64 0,.int .u64 0,.int .i64 0] 260 (0,0)):=heap_alloc_new w1 _
 generalize (w1.alloc (.cells #[.int .u64 0,.int .u64 0,.int .i64 0] 260))=wa at*
 have h7a:=h7w.out.below hba hsz
 refine (prescale_any w1.heap.size i (e-(c:Int)) _ lp wa (by omega) rfl hi h7a (by omega) (by omega) (by omega) (by omega) (by omega) ?_ ?_ ?_ ?_ ?_ ?_).mono ?_
 case refine_7=>
  rintro e1 w2 ⟨rfl,rfl⟩
  rw [hss]
  have hcb:=preW_cells w1.heap.size i s wa _ hca
  have hbb:=preW_below w1.heap.size i s wa w1.heap.size (Nat.le_refl _)
  generalize preW w1.heap.size i s wa=wb at*
  have c2:wb.cell? ⟨w1.heap.size,2,none⟩=some (.int .i64 s):=by simp [World.cell?,hcb]
  go_wp2_with fail
  rw [run_ffb0 wb]
  go_wp2_with fail
  go_ret2
  exact ⟨rfl,hba.trans hbb⟩
 all_goals simp [World.cell?,World.frozen?,hca]
set_option maxRecDepth 100000 in
set_option maxHeartbeats 2000000 in
theorem pf_walk2 (d i c:Nat) (e s lp:Int) (w:World) (hd0:0<d) (hd:d<18446744073709551616) (hi:i<696) (hb:Lib.bitLen d=64-(c:Int)) (hc:c<64)
  (hx1:9223372036854775808≤d*2^c) (hx2:d*2^c<18446744073709551616) (h7:PowAt w) (hsz:14<w.heap.size)
  (hlp:lpN i=lp) (he:e=min 1074 ((c:Int)-11-lp)) (hs:s=(c:Int)-3-e-lp) (hlpb: -1200≤lp∧lp≤1200) (hs8:8≤s) (hs64:s<64)
  (U J:Nat) (hJ:(J:Int)=1074-e) (hU:usc (d*2^c) (tabH i) (tabL i) (2^s.toNat)=U) (hU1:18014398509481984≤U∨J=0) (hU2:U<72057594033733632):
  Calls Tryz.prog 159 #[.int .u64 (d:Int),.int .i64 ((i:Int)-348),.int .u64 0] w fun r w'=>r= .returned (.tuple #[.float .f64 (min (pfR J U) 9218868437227405312),if pfR J U<9218868437227405312 then .nilIface else erng])∧Below w.heap.size w w':=by
 obtain ⟨er,hER⟩:∃er,(if pfR J U<9218868437227405312 then Value.nilIface else erng)=er:=⟨_,rfl⟩
 obtain ⟨R,hR⟩:∃R,min (pfR J U) 9218868437227405312=R:=⟨_,rfl⟩
 rw [hER,hR]
 have HER:=Lib.hid hER
 have HR:=Lib.hid hR
 clear hER hR
 obtain ⟨S,hS⟩:∃S:Nat,s=S:=⟨s.toNat,by omega⟩
 obtain ⟨x,hx⟩:∃x,d*2^c=x:=⟨_,rfl⟩
 rw [hx] at hx1 hx2 hU
 rw [hS,Int.toNat_natCast] at hU
 have hpos:=us_pos x (tabH i) hx1 (bounds i hi).2.2.1
 have HT:=bounds i hi
 have hTH:=HT.2.2.2.1
 have hTL:=HT.2.2.2.2
 clear HT
 have hsh:(d:Int)*2^c=(x:Int):=by rw [←hx];simp
 have HL:=Lib.hid (fun w=>shelf.bits_Len64 (d:Int) w (by omega) (by omega))
 have HG:=Lib.hid (fun w=>lg_any ((i:Int)-348) w (by omega) (by omega))
 have hbe:((Lib.bitLen ((d:Int)).toNat:Nat):Int)=64-(c:Int):=by rw [←hb];simp
 have hle:((i:Int)-348)*108853/32768=lp:=hlp
 have h64:(64:Int)-(64-(c:Int))=c:=by omega
 have hee:min 1074 (53-(64-(c:Int))-lp)=e:=by rw [he];congr 1;omega
 have heb: -1300≤e∧e≤1074:=by omega
 have hss: -(e-(c:Int)+lp+3)=s:=by omega
 have hsb:s≤100000:=by omega
 have hdg:decide (s≥64)=false:=decide_eq_false (by omega)
 have hdg2:decide (64≤s)=false:=decide_eq_false (by omega)
 have h7w:=Lib.hid h7
 have hor:bits .or .u64 0 0=0:=by decide
 clear he hs hlp hb h7 hx
 go_enter Tryz.func159,Tryz.ntmps159
 go_wp2_with fail
 refine (HL.out w).mono ?_
 rintro e1 w1 ⟨rfl,rfl⟩
 rw [hbe]
 go_wp2_with fail
 refine (HG.out _).mono ?_
 rintro e1 w2 ⟨rfl,rfl⟩
 rw [hle]
 go_wp2_with fail
 have hba:Below w1.heap.size w1 (w1.alloc (.cells #[.int .u64 0,.int .u64 0,.int .i64 0] 260)):=bits_shape _ _
 have hza:(w1.alloc (.cells #[.int .u64 0,.int .u64 0,.int .i64 0] 260)).heap.size=w1.heap.size+1:=by simp
 have hca:(w1.alloc (.cells #[.int .u64 0,.int .u64 0,.int .i64 0] 260)).heap[w1.heap.size]? =some (.cells #[.int .u64 0,.int .u64 0,.int .i64 0] 260 (0,0)):=heap_alloc_new w1 _
 generalize (w1.alloc (.cells #[.int .u64 0,.int .u64 0,.int .i64 0] 260))=wa at*
 have h7a:=h7w.out.below hba hsz
 refine (prescale_any w1.heap.size i (e-(c:Int)) _ lp wa (by omega) rfl hi h7a (by omega) (by omega) (by omega) (by omega) (by omega) ?_ ?_ ?_ ?_ ?_ ?_).mono ?_
 case refine_7=>
  rintro e1 w2 ⟨rfl,rfl⟩
  rw [hss]
  have hcb:=preW_cells w1.heap.size i s wa _ hca
  have hbb:=preW_below w1.heap.size i s wa w1.heap.size (Nat.le_refl _)
  generalize preW w1.heap.size i s wa=wb at*
  have c0:wb.cell? ⟨w1.heap.size,0,none⟩=some (.int .u64 (tabH i:Int)):=by simp [World.cell?,hcb]
  have c1:wb.cell? ⟨w1.heap.size,1,none⟩=some (.int .u64 (tabL i:Int)):=by simp [World.cell?,hcb]
  have c2:wb.cell? ⟨w1.heap.size,2,none⟩=some (.int .i64 s):=by simp [World.cell?,hcb]
  go_wp2_with fail
  refine (uscale_any x (tabH i) (tabL i) S w1.heap.size wb hx2 hTH hTL (by omega) c0 c1 (by rw [←hS];exact c2) hpos).mono ?_
  rintro e1 w3 ⟨rfl,n,rfl⟩
  rw [hU]
  have hbd:Below w1.heap.size w1 (wb.drewN n):=below_drewN (hba.trans hbb) n
  generalize wb.drewN n=wd at*
  go_wp2_with fail
  refine (unmin_any _).mono ?_
  rintro e1 w4 ⟨rfl,rfl⟩
  have ha1:=and_one U (by omega)
  rw [show ((U % 2:Nat):Int)=(U:Int) % 2 by simp] at ha1
  clear hle hbe h64 hee hss hpos hTH hTL HL HG hdg hdg2 hor hca hcb h7a h7w hU hsh hx1 hx2 c0 c1 c2
  by_cases hsp:36028797018963966≤U
  ·have d1:decide ((U:Int)≥36028797018963966)=true:=decide_eq_true (by omega)
   have d2:decide ((36028797018963966:Int)≤U)=true:=decide_eq_true (by omega)
   have ho:=or_hlf U (by omega)
   rw [show ((U % 2:Nat):Int)=(U:Int) % 2 by simp] at ho
   have hpf:pfR J U=(J+1)*4503599627370496+us.rnd (hlf U):=by unfold pfR hlf;rw [if_pos hsp]
   have hhl:18014398509481982≤hlf U∧hlf U<36028797016866816:=by unfold hlf odd1;split <;> omega
   have hrb:4503599627370496≤uw.rnd (hlf U)∧uw.rnd (hlf U)<9007199254740992:=by unfold uw.rnd;omega
   have hru:us.rnd (hlf U)=uw.rnd (hlf U):=rfl
   rw [hru] at hpf
   obtain ⟨h2,hh2⟩:∃h2,hlf U=h2:=⟨_,rfl⟩
   rw [hh2] at hpf hrb ho hhl
   go_wp2_with fail
   refine (b2i_t _).mono ?_
   rintro e1 w5 ⟨rfl,rfl⟩
   go_wp2_with fail
   refine (round_any h2 _ (by omega)).mono ?_
   rintro e1 w6 ⟨rfl,rfl⟩
   have ho2:=or_zero_l (uw.rnd h2) (by omega)
   obtain ⟨m,hm⟩:∃m,uw.rnd h2=m:=⟨_,rfl⟩
   rw [hm] at ho2 hpf hrb ⊢
   go_wp2_with fail
   rw [show-(e-1)=((J+1:Nat):Int)-1074 by omega]
   have hpk:∀e w w',PkPost m (J+1) w e w'→e= .returned (.tuple #[.float .f64 R,er])∧w=w':=by
    rintro e w w' ⟨rfl,rfl⟩
    have hc1:(J+1<2046∨m<4503599627370496)↔(J+1)*4503599627370496+m<9218868437227405312:=by omega
    rw [←HER.out,←HR.out,hpf]
    simp only [hc1,and_self]
   refine ((pack_any m (J+1) _ hrb.2 (.inl hrb.1) (by omega)).mono fun e w' h=>hpk e _ w' h).mono ?_
   rintro e1 w7 ⟨rfl,rfl⟩
   go_wp2_with fail
   go_ret2
   exact ⟨rfl,hbd⟩
  ·have d1:decide ((U:Int)≥36028797018963966)=false:=decide_eq_false (by omega)
   have d2:decide ((36028797018963966:Int)≤U)=false:=decide_eq_false (by omega)
   have ho:=or_low U (by omega)
   rw [show ((U % 2:Nat):Int)=(U:Int) % 2 by simp] at ho
   have hpf:pfR J U=J*4503599627370496+us.rnd U:=by unfold pfR;rw [if_neg hsp]
   have hrb:(4503599627370496≤uw.rnd U∨J=0)∧uw.rnd U<9007199254740992:=by unfold uw.rnd;omega
   have hru:us.rnd U=uw.rnd U:=rfl
   rw [hru] at hpf
   go_wp2_with fail
   refine (b2i_f _).mono ?_
   rintro e1 w5 ⟨rfl,rfl⟩
   go_wp2_with fail
   refine (round_any U _ (by omega)).mono ?_
   rintro e1 w6 ⟨rfl,rfl⟩
   have ho2:=or_zero_l (uw.rnd U) (by omega)
   obtain ⟨m,hm⟩:∃m,uw.rnd U=m:=⟨_,rfl⟩
   rw [hm] at ho2 hpf hrb ⊢
   go_wp2_with fail
   rw [show-e=(J:Int)-1074 by omega]
   have hpk:∀e w w',PkPost m J w e w'→e= .returned (.tuple #[.float .f64 R,er])∧w=w':=by
    rintro e w w' ⟨rfl,rfl⟩
    have hc1:(J<2046∨m<4503599627370496)↔J*4503599627370496+m<9218868437227405312:=by omega
    rw [←HER.out,←HR.out,hpf]
    simp only [hc1,and_self]
   refine ((pack_any m J _ hrb.2 hrb.1 (by omega)).mono fun e w' h=>hpk e _ w' h).mono ?_
   rintro e1 w7 ⟨rfl,rfl⟩
   go_wp2_with fail
   go_ret2
   exact ⟨rfl,hbd⟩
 all_goals simp [World.cell?,World.frozen?,hca]
end Go.Proofs.YtjhhdnnblcbdbaaGreatDoor.uw
end
section
namespace Go.Proofs.YtjhhdnnblcbdbaaGreatDoor.uw
open Go.RowKit mem fl big us
set_option linter.unusedVariables false
theorem bla_spec:∀f x:Nat,0<x→x<2^f→0<Lib.bitLenAux f x∧Lib.bitLenAux f x≤f∧2^(Lib.bitLenAux f x)≤2*x∧x<2^(Lib.bitLenAux f x)
 | 0,x,h0,h=>by simp at h;omega
 | f+1,x,h0,h=>by
   have hne:x≠0:=by omega
   simp only [Lib.bitLenAux,if_neg hne]
   rw [Nat.pow_succ] at h
   by_cases h1:x/2=0
   ·have hx:x=1:=by omega
    subst hx
    have e:Lib.bitLenAux f (1/2)=0:=by cases f <;> simp [Lib.bitLenAux]
    rw [e]
    exact ⟨by omega,by omega,by decide,by decide⟩
   ·obtain ⟨a,b,c,d⟩:=bla_spec f (x/2) (by omega) (by omega)
    generalize Lib.bitLenAux f (x/2)=n at*
    rw [Nat.add_comm 1 n,Nat.pow_succ]
    exact ⟨by omega,by omega,by omega,by omega⟩
theorem bl_spec (d:Nat) (h0:0<d) (h:d<18446744073709551616):∃c:Nat,c<64∧(Lib.bitLen d:Int)=64-(c:Int)∧9223372036854775808≤d*2^c∧d*2^c<18446744073709551616:=by
 have h64:(2:Nat)^64=18446744073709551616:=by decide
 obtain ⟨a,b,c,e⟩:=bla_spec 64 d h0 (by rw [h64];exact h)
 have hd:Lib.bitLenAux 64 d=Lib.bitLen d:=rfl
 rw [hd] at a b c e
 generalize Lib.bitLen d=n at*
 have hp:2^n*2^(64-n)=18446744073709551616:=by rw [←Nat.pow_add,←h64];congr 1;omega
 have h1:=Nat.mul_le_mul_right (2^(64-n)) c
 have h2:=Nat.mul_lt_mul_of_pos_right e (Nat.two_pow_pos (64-n))
 rw [hp] at h1 h2
 rw [Nat.mul_assoc] at h1
 exact ⟨64-n,by omega,by omega,by omega,h2⟩
theorem alg1 (n d c t1 J K a:Nat) (h:c+t1+J=n+K):d*2^c*(a*2^t1)*2^J=d*a*2^n*2^K:=by
 have e:2^c*2^t1*2^J=2^n*2^K:=by rw [←Nat.pow_add,←Nat.pow_add,←Nat.pow_add,h]
 calc d*2^c*(a*2^t1)*2^J=d*a*(2^c*2^t1*2^J):=by ac_rfl
  _=_:=by rw [e];ac_rfl
theorem alg2 (s t2 K b Q q:Nat) (hQ:Q=2^q) (h:2+s+q+t2=K):4*(2^s*Q*(b*2^t2))=b*2^K:=by
 have e:2^2*2^s*2^q*2^t2=2^K:=by rw [←Nat.pow_add,←Nat.pow_add,←Nat.pow_add,h]
 rw [hQ,←e,show (2:Nat)^2=4 by decide]
 ac_rfl
theorem Q128:(340282366920938463463374607431768211456:Nat)=2^128:=by decide
theorem pf_bd (x A B z Y D:Nat) (hx1:9223372036854775808≤x) (hx2:x<18446744073709551616) (hA1:170141183460469231731687303715884105728*B≤A) (hA2:A<340282365653287863235145205935065006080*B)
  (hY:x*A=Y) (hD:256*2^z*340282366920938463463374607431768211456*B=D) (hB:0<B):
  0<D∧Y<72057593769492480*D∧(z=0→18014398509481984*D≤Y)∧(0<z→Y<36028797018963968*D)∧(56≤z→Y<D):=by
 have h1:=Nat.mul_le_mul hx1 hA1
 have h2:=Nat.mul_lt_mul_of_lt_of_lt hx2 hA2
 rw [hY] at h1 h2
 have hT:=Nat.two_pow_pos z
 have hD2:D=256*(340282366920938463463374607431768211456*(2^z*B)):=by rw [←hD];ac_rfl
 have hz0:z=0→2^z*B=B:=by rintro rfl;rw [Nat.pow_zero,Nat.one_mul]
 have hz1:0<z→2*B≤2^z*B:=fun h=>Nat.mul_le_mul_right B (by
  have:=Nat.pow_le_pow_right (show 0<2 by decide) (show 1≤z from h)
  simpa using this)
 have hz2:56≤z→72057594037927936*B≤2^z*B:=fun h=>Nat.mul_le_mul_right B (by
  have:=Nat.pow_le_pow_right (show 0<2 by decide) h
  rw [show (2:Nat)^56=72057594037927936 by decide] at this
  exact this)
 have hz3:B≤2^z*B:=Nat.le_mul_of_pos_left B hT
 generalize 2^z*B=t at*
 exact ⟨by omega,by omega,fun h=>by have:=hz0 h;omega,fun h=>by have:=hz1 h;omega,fun h=>by have:=hz2 h;omega⟩
def P64Post (d i:Nat) (w:World) (r:Ending) (w':World):Prop:=
 ∃R,Near (d*10^(i-348)*2^1074) (10^(348-i)) R∧r= .returned (.tuple #[.float .f64 R,if R<9218868437227405312 then .nilIface else erng])∧Below w.heap.size w w'
theorem unr_bd (Y D m:Nat) (hD:0<D) (h:Y<m*D) (hm:m % 2=0):unr Y D<m:=by
 have h1:Y/D<m:=(Nat.div_lt_iff_lt_mul hD).2 h
 unfold unr odd1
 split <;> omega
theorem unr_ge (Y D m:Nat) (hD:0<D) (h:m*D≤Y) (hm:m % 2=0):m≤unr Y D:=by
 have h1:m≤Y/D:=(Nat.le_div_iff_mul_le hD).2 h
 unfold unr odd1
 split <;> omega
theorem unr_small (Y D:Nat) (hD:0<D) (h:Y<D):unr Y D≤1:=by
 have h1:Y/D=0:=Nat.div_eq_of_lt h
 unfold unr odd1
 rw [h1]
 split <;> omega
theorem parse64_any (d i:Nat) (w:World) (hd0:0<d) (hd:d<18446744073709551616) (hi:i<696) (h7:PowAt w) (hsz:14<w.heap.size):
  Calls Tryz.prog 159 #[.int .u64 (d:Int),.int .i64 ((i:Int)-348),.int .u64 0] w (P64Post d i w):=by
 obtain ⟨c,hc,hb,hx1,hx2⟩:=bl_spec d hd0 hd
 obtain ⟨lp,hlp⟩:∃lp,lpN i=lp:=⟨_,rfl⟩
 have hlpb: -1200≤lp∧lp≤1200:=by rw [←hlp];unfold lpN;omega
 obtain ⟨e,he⟩:∃e,e=min 1074 ((c:Int)-11-lp):=⟨_,rfl⟩
 obtain ⟨s,hs⟩:∃s,s=(c:Int)-3-e-lp:=⟨_,rfl⟩
 have hs8:8≤s:=by omega
 obtain ⟨z,hz⟩:∃z:Nat,s=8+(z:Int):=⟨(s-8).toNat,by omega⟩
 obtain ⟨J,hJ⟩:∃J:Nat,(J:Int)=1074-e:=⟨(1074-e).toNat,by omega⟩
 obtain ⟨A,hA⟩:∃A,tabA i=A:=⟨_,rfl⟩
 obtain ⟨B,hB⟩:∃B,tabB i=B:=⟨_,rfl⟩
 have hB0:0<B:=by rw [←hB];exact tabB_pos i
 have hbd:=bounds i hi
 rw [hA,hB] at hbd
 obtain ⟨x,hx⟩:∃x,d*2^c=x:=⟨_,rfl⟩
 rw [hx] at hx1 hx2
 obtain ⟨Y,hY⟩:∃Y,x*A=Y:=⟨_,rfl⟩
 obtain ⟨D,hD⟩:∃D,256*2^z*340282366920938463463374607431768211456*B=D:=⟨_,rfl⟩
 obtain ⟨b1,b2,b3,b4,b5⟩:=pf_bd x A B z Y D hx1 hx2 hbd.1 hbd.2.1 hY hD hB0
 have h54:J=0∨18014398509481984*D≤Y:=by
  by_cases h:z=0
  ·exact .inr (b3 h)
  ·exact .inl (by omega)
 have hN:=pf_near Y D J b1 (by
  rcases h54 with h | h
  ·by_cases h0:z=0
   ·have:=b3 h0;exact .inl (by omega)
   ·have:=b4 (by omega);exact .inr ⟨h,by omega⟩
  ·exact .inl (by omega)) (by omega)
 have hs2:(2:Nat)^s.toNat=256*2^z:=by
  rw [show s.toNat=8+z by omega,Nat.pow_add]
 obtain ⟨K,hK⟩:∃K:Nat,2+s.toNat+128+(lp-127).toNat=K:=⟨_,rfl⟩
 have e1:x*A*2^J=d*10^(i-348)*2^1074*2^K:=by
  rw [←hx,←hA]
  unfold tabA
  rw [hlp]
  exact alg1 1074 d c _ J K _ (by omega)
 have e2:4*D=10^(348-i)*2^K:=by
  rw [←hD,←hs2,←hB]
  unfold tabB
  rw [hlp]
  exact alg2 s.toNat _ K _ _ 128 Q128 hK
 rw [←hY,e1,e2] at hN
 have hN2:=hN.unscale (Nat.two_pow_pos K)
 rw [hY] at hN2
 by_cases hs64:64≤s
 ·have hu:=unr_small Y D b1 (b5 (by omega))
  have hJ0:J=0:=by omega
  have hR:min (pfR J (unr Y D)) 9218868437227405312=0:=by
   subst hJ0
   unfold pfR us.rnd
   rw [if_neg (by omega)]
   omega
  rw [hR] at hN2
  refine (pf_walk d i c e s lp w hd0 hd hi hb hc (by rw [hx];exact hx1) (by rw [hx];exact hx2) h7 hsz hlp he hs hlpb hs64).mono ?_
  rintro r w' ⟨rfl,h⟩
  exact ⟨0,hN2,rfl,h⟩
 ·have hU:usc (d*2^c) (tabH i) (tabL i) (2^s.toNat)=unr Y D:=by
   rw [hx,usc_parse i x s.toNat hi hx1 hx2 (by omega) (us_pos x _ hx1 hbd.2.2.1),hA,hY,hs2,hB,hD]
  refine (pf_walk2 d i c e s lp w hd0 hd hi hb hc (by rw [hx];exact hx1) (by rw [hx];exact hx2) h7 hsz hlp he hs hlpb hs8 (by omega) (unr Y D) J hJ hU
   (by rcases h54 with h | h
       ·exact .inr h
       ·exact .inl (unr_ge Y D _ b1 h (by decide)))
   (Nat.lt_of_lt_of_le (unr_bd Y D _ b1 b2 (by decide)) (by decide))).mono ?_
  rintro r w' ⟨rfl,h⟩
  refine ⟨_,hN2,?_,h⟩
  have hc1:min (pfR J (unr Y D)) 9218868437227405312<9218868437227405312↔pfR J (unr Y D)<9218868437227405312:=by omega
  simp only [hc1]
end Go.Proofs.YtjhhdnnblcbdbaaGreatDoor.uw
end
section
namespace Go.Proofs.YtjhhdnnblcbdbaaGreatDoor.uw
open Go.RowKit mem fl big us
set_option linter.unusedVariables false
theorem special_any (s:ByteArray) (w:World) (h0:0<s.size) (h1:(s[0]'h0).toNat=48):Calls Tryz.prog 147 #[.string s] w fun e w'=>e= .returned (.tuple #[.float .f64 0,.int .i64 0,.bool false])∧w=w':=by
 have hz:((s.size:Int)==0)=false:=beq_false_of_ne (by omega)
 go_enter Tryz.func147,Tryz.ntmps147
 go_wp2_with fail
 go_ret3
 exact ⟨rfl,rfl⟩
end Go.Proofs.YtjhhdnnblcbdbaaGreatDoor.uw
end
