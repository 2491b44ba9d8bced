/- The library's contracts that these texts use, laid at this dump (plain text that the kit's tools lay-shelf.mjs and lay-plain.mjs printed). -/
import Derived.Shelf.Strconv.Itoa0
import Derived.Shelf.Strconv.Itoa1
import Derived.Shelf.LaysM
import Derived.Shelf.Strconv.Itoa2
import Derived.Shelf.Strconv.Itoa3
import Derived.Shelf.Strconv.Itoa4
import Derived.Shelf.Strconv.ParseIntEmpty
import Derived.Shelf.Strconv.Clone
import Derived.Shelf.Strconv.SyntaxError
import Derived.Shelf.LaysC
import Derived.Shelf.Strconv.ToError
import Derived.Shelf.Strconv.Lower
import Derived.Shelf.Strconv.ParseUint10
import Derived.Shelf.Strconv.ParseUint10Empty
import Derived.Shelf.Strconv.ParseUint10Any
import Derived.Shelf.Strconv.ParseInt10
import Derived.Shelf.Strconv.RangeError
import Derived.Shelf.Strconv.ToErrorRange
import Derived.Shelf.Strconv.ParseUintEmpty
import Derived.Shelf.Strconv.ParseUint10b64
import Derived.Shelf.Strconv.ParseUint10b32
import Derived.Shelf.Strconv.ParseUint10b16
import Derived.Shelf.Strconv.ParseUint10b8
import Derived.Shelf.Strconv.ParseUint10At
import Derived.Shelf.Strconv.ParseInt10At64
import Derived.Shelf.Strconv.ParseInt10At32
import Derived.Shelf.Strconv.ParseInt10At16
import Derived.Shelf.Strconv.ParseInt10At8
import Derived.Shelf.Strconv.ParseInt10All
import Derived.Shelf.Strconv.ParseIntPublic10
import Derived.Shelf.Strconv.ErrVarParseInt
import Derived.Shelf.Strconv.AppendUint10
import Derived.Shelf.Strconv.AppendInt10
import Derived.Shelf.Bits.Mul64
import Derived.Test.YtjciflgnlldgbaaGreatDoorProg
namespace Go.Proofs.YtjciflgnlldgbaaGreatDoor.shelfe
open Go.Shelf
def laysC245_ren : Go.Shelf.Ren := ⟨fun | 245 => 35 | 279 => 52 | 280 => 53 | 281 => 54 | 282 => 55 | 316 => 71 | 171 => 37 | 205 => 72 | 243 => 57 | 246 => 49 | 283 => 65 | 284 => 66 | 285 => 67 | 286 => 68 | 129 => 83 | 317 => 86 | 318 => 92 | 319 => 93 | 320 => 94 | 337 => 116 | 338 => 117 | n => n, fun | 9 => 9 | 3 => 3 | 75 => 53 | 167 => 90 | 4 => 4 | 168 => 94 | 210 => 115 | 37 => 45 | 0 => 0 | 127 => 143 | 145 => 146 | 143 => 144 | 2 => 2 | 171 => 107 | 53 => 31 | 5 => 5 | 173 => 110 | 212 => 139 | 51 => 100 | 20 => 20 | 213 => 140 | 46 => 93 | 232 => 127 | 233 => 194 | 80 => 202 | n => n, fun | 15 => 1 | 16 => 2 | 17 => 4 | 18 => 9 | 19 => 10 | n => n⟩
theorem laysC245 : Go.Proofs.LaysC.n245 Tryz.prog laysC245_ren := {
  mixed := by kernel_rfl
  f129 := Tryz.func83.trans (congrArg some (by kernel_rfl))
  f171 := Tryz.func37.trans (congrArg some (by kernel_rfl))
  f205 := Tryz.func72.trans (congrArg some (by kernel_rfl))
  f243 := Tryz.func57.trans (congrArg some (by kernel_rfl))
  f245 := Tryz.func35.trans (congrArg some (by kernel_rfl))
  f246 := Tryz.func49.trans (congrArg some (by kernel_rfl))
  f279 := Tryz.func52.trans (congrArg some (by kernel_rfl))
  f280 := Tryz.func53.trans (congrArg some (by kernel_rfl))
  f281 := Tryz.func54.trans (congrArg some (by kernel_rfl))
  f282 := Tryz.func55.trans (congrArg some (by kernel_rfl))
  f283 := Tryz.func65.trans (congrArg some (by kernel_rfl))
  f284 := Tryz.func66.trans (congrArg some (by kernel_rfl))
  f285 := Tryz.func67.trans (congrArg some (by kernel_rfl))
  f286 := Tryz.func68.trans (congrArg some (by kernel_rfl))
  f316 := Tryz.func71.trans (congrArg some (by kernel_rfl))
  f317 := Tryz.func86.trans (congrArg some (by kernel_rfl))
  f318 := Tryz.func92.trans (congrArg some (by kernel_rfl))
  f319 := Tryz.func93.trans (congrArg some (by kernel_rfl))
  f320 := Tryz.func94.trans (congrArg some (by kernel_rfl))
  f337 := Tryz.func116.trans (congrArg some (by kernel_rfl))
  f338 := Tryz.func117.trans (congrArg some (by kernel_rfl))
  t0 := Tryz.underlying0
  a0 := Tryz.isAgg0
  z0 := Tryz.sizeOf0
  v0 := Tryz.zeroValue0
  t2 := Tryz.underlying2
  a2 := Tryz.isAgg2
  z2 := Tryz.sizeOf2
  v2 := Tryz.zeroValue2
  t3 := Tryz.underlying3
  a3 := Tryz.isAgg3
  z3 := Tryz.sizeOf3
  v3 := Tryz.zeroValue3
  t4 := Tryz.underlying4
  a4 := Tryz.isAgg4
  z4 := Tryz.sizeOf4
  v4 := Tryz.zeroValue4
  t5 := Tryz.underlying5
  a5 := Tryz.isAgg5
  z5 := Tryz.sizeOf5
  v5 := Tryz.zeroValue5
  t9 := Tryz.underlying9
  a9 := Tryz.isAgg9
  z9 := Tryz.sizeOf9
  v9 := Tryz.zeroValue9
  t20 := Tryz.underlying20
  a20 := Tryz.isAgg20
  z20 := Tryz.sizeOf20
  v20 := Tryz.zeroValue20
  t37 := Tryz.underlying45
  a37 := Tryz.isAgg45
  z37 := Tryz.sizeOf45
  v37 := Tryz.zeroValue45
  t46 := Tryz.underlying93
  a46 := Tryz.isAgg93
  z46 := Tryz.sizeOf93
  v46 := Tryz.zeroValue93
  t51 := Tryz.underlying100
  a51 := Tryz.isAgg100
  z51 := Tryz.sizeOf100
  v51 := Tryz.zeroValue100
  t53 := Tryz.underlying31
  a53 := Tryz.isAgg31
  z53 := Tryz.sizeOf31
  v53 := Tryz.zeroValue31
  t75 := Tryz.underlying53
  a75 := Tryz.isAgg53
  z75 := Tryz.sizeOf53
  v75 := Tryz.zeroValue53
  t127 := Tryz.underlying143
  a127 := Tryz.isAgg143
  z127 := Tryz.sizeOf143
  v127 := Tryz.zeroValue143
  t143 := Tryz.underlying144
  a143 := Tryz.isAgg144
  z143 := Tryz.sizeOf144
  v143 := Tryz.zeroValue144
  t145 := Tryz.underlying146
  a145 := Tryz.isAgg146
  z145 := Tryz.sizeOf146
  v145 := Tryz.zeroValue146
  t167 := Tryz.underlying90
  a167 := Tryz.isAgg90
  z167 := Tryz.sizeOf90
  v167 := Tryz.zeroValue90
  t168 := Tryz.underlying94
  a168 := Tryz.isAgg94
  z168 := Tryz.sizeOf94
  v168 := Tryz.zeroValue94
  t171 := Tryz.underlying107
  a171 := Tryz.isAgg107
  z171 := Tryz.sizeOf107
  v171 := Tryz.zeroValue107
  t173 := Tryz.underlying110
  a173 := Tryz.isAgg110
  z173 := Tryz.sizeOf110
  v173 := Tryz.zeroValue110
  t210 := Tryz.underlying115
  a210 := Tryz.isAgg115
  z210 := Tryz.sizeOf115
  v210 := Tryz.zeroValue115
  t212 := Tryz.underlying139
  a212 := Tryz.isAgg139
  z212 := Tryz.sizeOf139
  v212 := Tryz.zeroValue139
  t213 := Tryz.underlying140
  a213 := Tryz.isAgg140
  z213 := Tryz.sizeOf140
  t232 := Tryz.underlying127
  a232 := Tryz.isAgg127
  z232 := Tryz.sizeOf127
  v232 := Tryz.zeroValue127
  t233 := Tryz.underlying194
  a233 := Tryz.isAgg194
  z233 := Tryz.sizeOf194
  v233 := Tryz.zeroValue194
  g15 := by kernel_rfl
  g16 := by kernel_rfl
  g17 := by kernel_rfl
  g18 := by kernel_rfl
  g19 := by kernel_rfl
  t80 := Tryz.underlying202
  a80 := Tryz.isAgg202
  z80 := Tryz.sizeOf202
  v80 := Tryz.zeroValue202
  i0 := by kernel_rfl
  i2 := by kernel_rfl
  i3 := by kernel_rfl
  i4 := by kernel_rfl
  i5 := by kernel_rfl
  i9 := by kernel_rfl
  i20 := by kernel_rfl
  i37 := by kernel_rfl
  i46 := by kernel_rfl
  i51 := by kernel_rfl
  i53 := by kernel_rfl
  i75 := by kernel_rfl
  i80 := by kernel_rfl
  i127 := by kernel_rfl
  i143 := by kernel_rfl
  i145 := by kernel_rfl
  i167 := by kernel_rfl
  i168 := by kernel_rfl
  i171 := by kernel_rfl
  i173 := by kernel_rfl
  i210 := by kernel_rfl
  i212 := by kernel_rfl
  i232 := by kernel_rfl
  i233 := by kernel_rfl
  m15 := by kernel_rfl
  m16 := by kernel_rfl
  m17 := by kernel_rfl
  m18 := by kernel_rfl
  m19 := by kernel_rfl
  c0 := by kernel_rfl
  c2 := by kernel_rfl
  c3 := by kernel_rfl
  c4 := by kernel_rfl
  c5 := by kernel_rfl
  c9 := by kernel_rfl
  c20 := by kernel_rfl
  c37 := by kernel_rfl
  c46 := by kernel_rfl
  c51 := by kernel_rfl
  c53 := by kernel_rfl
  c75 := by kernel_rfl
  c80 := by kernel_rfl
  c127 := by kernel_rfl
  c143 := by kernel_rfl
  c145 := by kernel_rfl
  c167 := by kernel_rfl
  c168 := by kernel_rfl
  c171 := by kernel_rfl
  c173 := by kernel_rfl
  c210 := by kernel_rfl
  c212 := by kernel_rfl
  c213 := by kernel_rfl
  c232 := by kernel_rfl
  c233 := by kernel_rfl }
open Go.RowKit in
/-- strconv.toError, at the inner package's ErrRange: 'rangeError(fn, s)' as an error: A *NumError IN A NEW BLOCK. (LAID: no walk: one application.) -/
theorem strconv_toError_range (fn s : ByteArray) (base bits : Int) (ev : Value) (w : World) (hlim : s.size ≤ 281474976710656) (hv : w.cell? ⟨2, 0, none⟩ = some ev) (hev : ev = .nilIface ∨ ∃ te pe, ev = .iface te pe) :
    Calls Tryz.prog 35 #[.string fn, .string s, .int .i64 base, .int .i64 bits, .iface 90 (.int .i64 1)] w fun e w' => ∃ N, e = .returned (.iface 94 (.pointer (some ⟨N, 0, none⟩))) ∧ w.heap.size ≤ N ∧ w'.heap[N]? = some (.cells #[.string fn, .string s, ev] 115 (0, 0)) ∧ Below w.heap.size w w' := Any.strconv_toError_range laysC245 fn s base bits ev w hlim hv hev
end Go.Proofs.YtjciflgnlldgbaaGreatDoor.shelfe
