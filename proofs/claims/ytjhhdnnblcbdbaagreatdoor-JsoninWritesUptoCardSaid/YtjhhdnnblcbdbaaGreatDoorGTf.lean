/- toFloat, walked at '-12.5e1'; Copysign. toFloat, walked: of a number text of which no digit is cut off. -/
import Derived.Test.YtjhhdnnblcbdbaaGreatDoorGAp
import Derived.Test.YtjhhdnnblcbdbaaGreatDoorGSq
import Derived.Test.YtjhhdnnblcbdbaaGreatDoorGEt
import Derived.Deep.QuietTactic
import Derived.BigQuiet
import Derived.Deep.RegionLaw
section
namespace Go.Proofs.YtjhhdnnblcbdbaaGreatDoor.pg
open Go.RowKit mem fl big us uw
set_option linter.unusedVariables false
theorem sign_lit:bits .and .u64 13830554455654793216 9223372036854775808=9223372036854775808:=by decide
theorem or_sign (a:Nat) (ha:a<9223372036854775808):bits .or .u64 (a:Int) 9223372036854775808=((a+9223372036854775808:Nat):Int):=by
 have:=or_join' 9223372036854775808 a 63 (by decide) (by omega) (by decide) (by omega)
 exact this
set_option maxRecDepth 100000 in
theorem copysign_neg (a:Nat) (w:World) (ha:a<9223372036854775808):Calls Tryz.prog 68 #[.float .f64 a,.float .f64 13830554455654793216] w fun e w'=>e= .returned (.float .f64 (a+sgn true))∧w=w':=by
 have h1:=clear_sign false a ha
 rw [show a+sgn false=a from rfl] at h1
 have h2:=or_sign a ha
 obtain ⟨Z,hZ⟩:∃Z:Int,Z=9223372036854775808:=⟨_,rfl⟩
 have h3:=sign_lit
 obtain ⟨W,hW⟩:∃W:Nat,a+9223372036854775808=W:=⟨_,rfl⟩
 rw [hW] at h2
 have HW:=Lib.hid hW
 clear hW ha hZ
 go_enter Tryz.func68,Tryz.ntmps68
 go_wp2_with fail
 rw [run_f64bits]
 go_wp2_with fail
 rw [run_f64bits]
 go_wp2_with fail
 rw [run_f64from]
 go_wp2_with fail
 go_ret
 refine ⟨?_,rfl⟩
 rw [show a+sgn true=W from HW.out]
 rfl
end Go.Proofs.YtjhhdnnblcbdbaaGreatDoor.pg
end
section
namespace Go.Proofs.YtjhhdnnblcbdbaaGreatDoor.pg
open Go.RowKit mem fl big us uw
set_option linter.unusedVariables false
theorem wtx_nat (E:Nat):wtx (E:Int)=dgs E:=by unfold wtx;rw [if_neg (by omega)];simp
theorem wtx_neg (E:Nat) (h:0<E):wtx (-(E:Int))=45 :: dgs E:=by unfold wtx;rw [if_pos (by omega)];simp
theorem wtx_chars (x:Int):∀c∈wtx x,45≤c∧c≤57:=by
 intro c hc
 unfold wtx at hc
 split at hc
 ·rcases List.mem_cons.1 hc with rfl | hc
  ·omega
  ·have:=dgs_bytes _ c hc;omega
 ·have:=dgs_bytes _ c hc;omega
theorem strN_lit48:(⟨#[48,46]⟩:ByteArray)=strN [48,46]:=rfl
theorem strN_lit101:(⟨#[101]⟩:ByteArray)=strN [101]:=rfl
def tfT (D:List Nat) (x:Int):ByteArray:=strN (rfT D (wtx x))
theorem tfT_eq (D:List Nat) (x:Int):(⟨#[48,46]⟩++strN D++⟨#[101]⟩++strN (wtx x):ByteArray)=tfT D x:=by
 rw [strN_lit48,strN_lit101,strN_app,strN_app,strN_app]
 unfold tfT rfT
 simp
theorem nats_strN (l:List Nat) (h:∀c∈l,c<256):nats (strN l)=l:=by
 unfold nats strN
 simp only [List.map_map]
 conv=>rhs;rw [←List.map_id l]
 refine List.map_congr_left fun c hc=>?_
 have:=h c hc
 simp [Nat.mod_eq_of_lt this]
structure Tf (P:Nat) (D:List Nat) (x:Int) (r:Nat):Prop where
 dig:∀c∈D,48≤c∧c≤57
 ne:0<D.length
 le:D.length≤1100000
 head:D.getD 0 0≠48
 cut:rfTr D=false
 lo: -326≤x
 hi:x≤310
 near:Dec P (rfM D) (x-(min D.length 19:Nat)) r
 fin:r<9218868437227405312
theorem size_strN_rfT (D X:List Nat):(strN (rfT D X)).size=D.length+X.length+3:=by rw [strN_size,rfT_len]
end Go.Proofs.YtjhhdnnblcbdbaaGreatDoor.pg
end
