/- Paths' texts: what they are; tree.marked, the reference's guarded. The library's contracts that these texts use, laid at this dump (plain text that the kit's tools lay-shelf.mjs and lay-plain.mjs printed). The reference's stepText. The reference's PathText. strings.Builder: copyCheck, WriteByte, WriteString, walked in this seat (String is the shelf's). -/
import Derived.Test.YthlncdcfppehcaaGreatDoorProg
import Derived.Test.YthlncdcfppehcaaGreatDoorGArr
import Derived.Handy
import Derived.WalkSpells
import Derived.Deep.DeepMust
import Derived.Lib.Builder
import Derived.Lib.UnsafeStr
import Derived.KernelRfl
import Derived.Shelf.Strings.Builder1
import Derived.Shelf.Strings.BuilderF
import Derived.Shelf.Strings.BuilderK
import Derived.Shelf.Utf8.AppendRune
import Derived.Shelf.Utf8.AppendRunePlain
import Derived.Shelf.Strconv.Itoa0
import Derived.Shelf.Strconv.Itoa1
import Derived.Shelf.LaysM
import Derived.Shelf.Strconv.Itoa2
import Derived.Shelf.Strconv.Itoa3
import Derived.Shelf.Strconv.Itoa4
import Derived.Shelf.Strconv.Lower
import Derived.Shelf.Strconv.AppendUint10
import Derived.Shelf.Strconv.AppendInt10
import Derived.Shelf.Bits.Mul64
import Derived.Test.YthlncdcfppehcaaGreatDoorGLkq
import Derived.Test.YthlncdcfppehcaaGreatDoorGAvq
import Derived.Lib.AppendStr
import Derived.Laws.Externs
section
namespace Go.Proofs.YthlncdcfppehcaaGreatDoor.pth
open Go.RowKit mem
set_option linter.unusedVariables false

/-- must a name bear a mark? -/
def markB : List UInt8 → Bool
  | [] => true
  | c :: _ => decide (c.toNat = 45 ∨ (48 ≤ c.toNat ∧ c.toNat ≤ 57))
theorem idx_of {s : ByteArray} {j : Nat} {c : UInt8} (h : s.data.toList[j]? = some c) : ∃ hl : j < s.size, (s[j]'hl).toNat = c.toNat := by
  have hl : j < s.size := by
    have := (List.getElem?_eq_some_iff.1 h).1
    rw [Lib.size_eq s]; exact this
  refine ⟨hl, ?_⟩
  have e : s[j]'hl = c := by
    have h2 := h
    rw [List.getElem?_eq_getElem (by have := Lib.size_eq s; omega)] at h2
    injection h2
  rw [e]
theorem toList_ne {s : ByteArray} {c : UInt8} {r : List UInt8} (h : s.data.toList = c :: r) : (s.toList == ([] : List UInt8)) = false := by
  rw [ByteArray.toList_eq, h]
  rfl
set_option maxRecDepth 100000 in
theorem guarded_any (s : ByteArray) (w : World) : Calls Tryz.prog 76 #[.string s] w fun e w' => e = .returned (.bool (markB s.data.toList)) ∧ w' = w := by
  cases hs : s.data.toList with
  | nil =>
    obtain rfl : s = ⟨#[]⟩ := ByteArray.ext (by simpa using hs)
    clear hs
    go_enter Tryz.func76, Tryz.ntmps76
    go_wp2_with fail
    go_ret
    exact ⟨rfl, rfl⟩
  | cons c r =>
    have h1 := toList_ne hs
    obtain ⟨hl, h2⟩ := idx_of (s := s) (j := 0) (c := c) (by rw [hs]; rfl)
    clear hs
    obtain ⟨x, hx⟩ : ∃ x, c.toNat = x := ⟨_, rfl⟩
    simp only [markB]
    rw [hx] at h2 ⊢
    clear hx
    by_cases h45 : x = 45
    · subst h45
      go_enter Tryz.func76, Tryz.ntmps76
      go_wp2_with fail
      all_goals
        go_ret
        exact ⟨by simp, rfl⟩
    · have hb : ((x : Int) == 45) = false := beq_false_of_ne (by omega)
      by_cases h48 : 48 ≤ x
      · have hd : decide ((x : Int) ≥ 48) = true := decide_eq_true (by omega)
        by_cases h57 : x ≤ 57
        · have hd2 : decide ((x : Int) ≤ 57) = true := decide_eq_true (by omega)
          have hR : decide (x = 45 ∨ 48 ≤ x ∧ x ≤ 57) = true := decide_eq_true (by omega)
          rw [hR]
          clear hR
          go_enter Tryz.func76, Tryz.ntmps76
          go_wp2_with fail
          go_ret
          exact ⟨by simp, rfl⟩
        · have hd2 : decide ((x : Int) ≤ 57) = false := decide_eq_false (by omega)
          have hR : decide (x = 45 ∨ 48 ≤ x ∧ x ≤ 57) = false := decide_eq_false (by omega)
          rw [hR]
          clear hR
          go_enter Tryz.func76, Tryz.ntmps76
          go_wp2_with fail
          go_ret
          exact ⟨by simp, rfl⟩
      · have hd : decide ((x : Int) ≥ 48) = false := decide_eq_false (by omega)
        have hR : decide (x = 45 ∨ 48 ≤ x ∧ x ≤ 57) = false := decide_eq_false (by omega)
        rw [hR]
        clear hR
        go_enter Tryz.func76, Tryz.ntmps76
        go_wp2_with fail
        go_ret
        exact ⟨by simp, rfl⟩
set_option maxRecDepth 100000 in
theorem marked_any (s : ByteArray) (w : World) : Calls Tryz.prog 54 #[.string s] w fun e w' => e = .returned (.bool (markB s.data.toList)) ∧ w' = w := by
  cases hs : s.data.toList with
  | nil =>
    obtain rfl : s = ⟨#[]⟩ := ByteArray.ext (by simpa using hs)
    clear hs
    go_enter Tryz.func54, Tryz.ntmps54
    go_wp2_with fail
    go_ret
    exact ⟨rfl, rfl⟩
  | cons c r =>
    have h1 := toList_ne hs
    obtain ⟨hl, h2⟩ := idx_of (s := s) (j := 0) (c := c) (by rw [hs]; rfl)
    clear hs
    obtain ⟨x, hx⟩ : ∃ x, c.toNat = x := ⟨_, rfl⟩
    simp only [markB]
    rw [hx] at h2 ⊢
    clear hx
    by_cases h45 : x = 45
    · subst h45
      go_enter Tryz.func54, Tryz.ntmps54
      go_wp2_with fail
      all_goals
        go_ret
        exact ⟨by simp, rfl⟩
    · have hb : ((x : Int) == 45) = false := beq_false_of_ne (by omega)
      by_cases h48 : 48 ≤ x
      · have hd : decide ((x : Int) ≥ 48) = true := decide_eq_true (by omega)
        by_cases h57 : x ≤ 57
        · have hd2 : decide ((x : Int) ≤ 57) = true := decide_eq_true (by omega)
          have hR : decide (x = 45 ∨ 48 ≤ x ∧ x ≤ 57) = true := decide_eq_true (by omega)
          rw [hR]
          clear hR
          go_enter Tryz.func54, Tryz.ntmps54
          go_wp2_with fail
          go_ret
          exact ⟨by simp, rfl⟩
        · have hd2 : decide ((x : Int) ≤ 57) = false := decide_eq_false (by omega)
          have hR : decide (x = 45 ∨ 48 ≤ x ∧ x ≤ 57) = false := decide_eq_false (by omega)
          rw [hR]
          clear hR
          go_enter Tryz.func54, Tryz.ntmps54
          go_wp2_with fail
          go_ret
          exact ⟨by simp, rfl⟩
      · have hd : decide ((x : Int) ≥ 48) = false := decide_eq_false (by omega)
        have hR : decide (x = 45 ∨ 48 ≤ x ∧ x ≤ 57) = false := decide_eq_false (by omega)
        rw [hR]
        clear hR
        go_enter Tryz.func54, Tryz.ntmps54
        go_wp2_with fail
        go_ret
        exact ⟨by simp, rfl⟩
end Go.Proofs.YthlncdcfppehcaaGreatDoor.pth
end
section
set_option linter.unusedVariables false
namespace Go.Proofs.YthlncdcfppehcaaGreatDoor.shelfb
open Go.Shelf
def lays169_ren : Go.Shelf.Ren := ⟨fun | 169 => 55 | n => n, fun | 70 => 83 | 9 => 9 | 0 => 0 | 72 => 85 | 37 => 36 | 127 => 116 | 3 => 3 | 5 => 5 | n => n, fun | n => n⟩
theorem lays169 : Go.Proofs.Lays.n169 Tryz.prog lays169_ren := {
  mixed := by kernel_rfl
  f169 := Tryz.func55.trans (congrArg some (by kernel_rfl))
  t0 := Tryz.underlying0
  a0 := Tryz.isAgg0
  z0 := Tryz.sizeOf0
  v0 := Tryz.zeroValue0
  t3 := Tryz.underlying3
  a3 := Tryz.isAgg3
  z3 := Tryz.sizeOf3
  v3 := Tryz.zeroValue3
  t9 := Tryz.underlying9
  a9 := Tryz.isAgg9
  z9 := Tryz.sizeOf9
  v9 := Tryz.zeroValue9
  t37 := Tryz.underlying36
  a37 := Tryz.isAgg36
  z37 := Tryz.sizeOf36
  v37 := Tryz.zeroValue36
  t70 := Tryz.underlying83
  a70 := Tryz.isAgg83
  z70 := Tryz.sizeOf83
  v70 := Tryz.zeroValue83
  t72 := Tryz.underlying85
  a72 := Tryz.isAgg85
  z72 := Tryz.sizeOf85
  v72 := Tryz.zeroValue85
  t127 := Tryz.underlying116
  a127 := Tryz.isAgg116
  z127 := Tryz.sizeOf116
  v127 := Tryz.zeroValue116 }
theorem Builder_Extra_169 : Builder.Extra Tryz.prog lays169_ren := {
  sizeBuilder := by kernel_rfl
  liesBuilder := by kernel_rfl
  t5 := Tryz.underlying5
  a5 := Tryz.isAgg5
  z5 := Tryz.sizeOf5
  v5 := Tryz.zeroValue5
  infoByte := by kernel_rfl
  cellsByte := by kernel_rfl
  sizeByte := by kernel_rfl
  neB5 := by decide }
open Go.RowKit in
/-- (*strings.Builder).String: "String returns the accumulated string.": WHATEVER THE BUILDER HOLDS. (LAID: no walk: one application.) -/
theorem Builder_String_any (B b : Nat) (l : List UInt8) (w : World) (h : Lib.IsBuilder 85 5 B b (Lib.byteCells l) w) (hBw : B ≤ w.heap.size) :
    Calls Tryz.prog 55 #[.pointer (some ⟨b, 0, none⟩)] w fun e w' => e = .returned (.string ⟨l.toArray⟩) ∧ Below B w w' := Any.Builder_String_any lays169 Builder_Extra_169 B b l w h hBw
def laysM171_ren : Go.Shelf.Ren := ⟨fun | 171 => 53 | 243 => 75 | 246 => 89 | 283 => 106 | 284 => 107 | 285 => 108 | 286 => 109 | 129 => 115 | 317 => 118 | 318 => 131 | 319 => 132 | 320 => 133 | 337 => 155 | 338 => 156 | n => n, fun | 3 => 3 | 9 => 9 | 2 => 2 | 4 => 4 | 171 => 153 | 0 => 0 | 53 => 108 | 37 => 36 | 5 => 5 | 173 => 155 | 212 => 182 | 51 => 123 | 20 => 20 | 213 => 183 | 46 => 96 | 232 => 122 | 233 => 215 | n => n, fun | 17 => 4 | 18 => 7 | 19 => 8 | n => n⟩
theorem laysM171 : Go.Proofs.LaysM.n171 Tryz.prog laysM171_ren := {
  mixed := by kernel_rfl
  f129 := Tryz.func115.trans (congrArg some (by kernel_rfl))
  f171 := Tryz.func53.trans (congrArg some (by kernel_rfl))
  f243 := Tryz.func75.trans (congrArg some (by kernel_rfl))
  f246 := Tryz.func89.trans (congrArg some (by kernel_rfl))
  f283 := Tryz.func106.trans (congrArg some (by kernel_rfl))
  f284 := Tryz.func107.trans (congrArg some (by kernel_rfl))
  f285 := Tryz.func108.trans (congrArg some (by kernel_rfl))
  f286 := Tryz.func109.trans (congrArg some (by kernel_rfl))
  f317 := Tryz.func118.trans (congrArg some (by kernel_rfl))
  f318 := Tryz.func131.trans (congrArg some (by kernel_rfl))
  f319 := Tryz.func132.trans (congrArg some (by kernel_rfl))
  f320 := Tryz.func133.trans (congrArg some (by kernel_rfl))
  f337 := Tryz.func155.trans (congrArg some (by kernel_rfl))
  f338 := Tryz.func156.trans (congrArg some (by kernel_rfl))
  t0 := Tryz.underlying0
  a0 := Tryz.isAgg0
  z0 := Tryz.sizeOf0
  v0 := Tryz.zeroValue0
  t2 := Tryz.underlying2
  a2 := Tryz.isAgg2
  z2 := Tryz.sizeOf2
  v2 := Tryz.zeroValue2
  t3 := Tryz.underlying3
  a3 := Tryz.isAgg3
  z3 := Tryz.sizeOf3
  v3 := Tryz.zeroValue3
  t4 := Tryz.underlying4
  a4 := Tryz.isAgg4
  z4 := Tryz.sizeOf4
  v4 := Tryz.zeroValue4
  t5 := Tryz.underlying5
  a5 := Tryz.isAgg5
  z5 := Tryz.sizeOf5
  v5 := Tryz.zeroValue5
  t9 := Tryz.underlying9
  a9 := Tryz.isAgg9
  z9 := Tryz.sizeOf9
  v9 := Tryz.zeroValue9
  t20 := Tryz.underlying20
  a20 := Tryz.isAgg20
  z20 := Tryz.sizeOf20
  v20 := Tryz.zeroValue20
  t37 := Tryz.underlying36
  a37 := Tryz.isAgg36
  z37 := Tryz.sizeOf36
  v37 := Tryz.zeroValue36
  t46 := Tryz.underlying96
  a46 := Tryz.isAgg96
  z46 := Tryz.sizeOf96
  v46 := Tryz.zeroValue96
  t51 := Tryz.underlying123
  a51 := Tryz.isAgg123
  z51 := Tryz.sizeOf123
  v51 := Tryz.zeroValue123
  t53 := Tryz.underlying108
  a53 := Tryz.isAgg108
  z53 := Tryz.sizeOf108
  v53 := Tryz.zeroValue108
  t171 := Tryz.underlying153
  a171 := Tryz.isAgg153
  z171 := Tryz.sizeOf153
  v171 := Tryz.zeroValue153
  t173 := Tryz.underlying155
  a173 := Tryz.isAgg155
  z173 := Tryz.sizeOf155
  v173 := Tryz.zeroValue155
  t212 := Tryz.underlying182
  a212 := Tryz.isAgg182
  z212 := Tryz.sizeOf182
  v212 := Tryz.zeroValue182
  t213 := Tryz.underlying183
  a213 := Tryz.isAgg183
  z213 := Tryz.sizeOf183
  t232 := Tryz.underlying122
  a232 := Tryz.isAgg122
  z232 := Tryz.sizeOf122
  v232 := Tryz.zeroValue122
  t233 := Tryz.underlying215
  a233 := Tryz.isAgg215
  z233 := Tryz.sizeOf215
  v233 := Tryz.zeroValue215
  g17 := by kernel_rfl
  g18 := by kernel_rfl
  g19 := by kernel_rfl
  i0 := by kernel_rfl
  i2 := by kernel_rfl
  i3 := by kernel_rfl
  i4 := by kernel_rfl
  i5 := by kernel_rfl
  i9 := by kernel_rfl
  i20 := by kernel_rfl
  i37 := by kernel_rfl
  i46 := by kernel_rfl
  i51 := by kernel_rfl
  i53 := by kernel_rfl
  i171 := by kernel_rfl
  i173 := by kernel_rfl
  i212 := by kernel_rfl
  i232 := by kernel_rfl
  i233 := by kernel_rfl
  m17 := by kernel_rfl
  m18 := by kernel_rfl
  m19 := by kernel_rfl }
open Go.RowKit Go.Sort Go.Lib in
/-- strconv.Itoa: "Itoa is equivalent to FormatInt(int64(i), 10).": i's DECIMAL NUMERAL ('Lib.itoa': a '-' where i is negative, then the digits), FOR EVERY int. The world behind the call: the world before it, new blocks behind the heap (the library's 'var a [24]byte'), draws. (LAID: no walk: one application.) -/
theorem strconv_Itoa (n : Int) (h0 : -9223372036854775808 ≤ n) (h1 : n ≤ 9223372036854775807) (w : World) (htab : Lib.TabIs Tryz.prog w "internal/strconv.uint64pow10" .u64 Lib.pow10Tab) :
    Calls Tryz.prog 53 #[.int .i64 n] w fun e w' => e = .returned (.string ⟨(Lib.itoa n).toArray⟩) ∧ ∃ k os, w' = grow (w.drewN k) os := Any.strconv_Itoa laysM171 n h0 h1 w htab
end Go.Proofs.YthlncdcfppehcaaGreatDoor.shelfb
end
section
namespace Go.Proofs.YthlncdcfppehcaaGreatDoor.pth
open Go.RowKit mem
set_option linter.unusedVariables false

/-- a byte of a name as a path writes it -/
def escP (c : UInt8) : List UInt8 := if c.toNat = 126 then [126, 48] else if c.toNat = 47 then [126, 49] else [c]
def escs (l : List UInt8) : List UInt8 := l.flatMap escP
/-- a step -/
def stepB : ByteArray × Int × Bool → List UInt8
  | (n, i, it) => if it = true then Lib.itoa i else (if markB n.data.toList = true then [126, 50] else []) ++ escs n.data.toList
def pthB (l : List (ByteArray × Int × Bool)) : List UInt8 := l.flatMap fun s => 47 :: stepB s
theorem escs_next {l : List UInt8} {q : Nat} {c : UInt8} (h : l[q]? = some c) : escs (l.take (q + 1)) = escs (l.take q) ++ escP c := by
  rw [List.take_add_one, h]
  simp [escs]
theorem pthB_next {l : List (ByteArray × Int × Bool)} {q : Nat} {s : ByteArray × Int × Bool} (h : l[q]? = some s) : pthB (l.take (q + 1)) = pthB (l.take q) ++ (47 :: stepB s) := by
  rw [List.take_add_one, h]
  simp [pthB]
theorem escP_len (c : UInt8) : (escP c).length ≤ 2 := by unfold escP; split; · simp
                                                         split <;> simp
theorem escs_len (l : List UInt8) : (escs l).length ≤ 2 * l.length := by
  induction l with
  | nil => simp [escs]
  | cons c r ih =>
    have h1 := escP_len c
    have : escs (c :: r) = escP c ++ escs r := by simp [escs]
    rw [this, List.length_append, List.length_cons]
    omega
theorem cat_mk (x y : List UInt8) : (⟨x.toArray⟩ : ByteArray) ++ ⟨y.toArray⟩ = ⟨(x ++ y).toArray⟩ := ByteArray.mk_append_mk x y
theorem piece_of {s : ByteArray} {q : Nat} {c : UInt8} (h : s.data.toList[q]? = some c) : s.extract q (q + 1) = ⟨#[c]⟩ := by
  obtain ⟨hl, he⟩ := List.getElem?_eq_some_iff.1 h
  apply ByteArray.ext
  rw [ByteArray.data_extract]
  apply Array.ext
  · simp at hl ⊢; omega
  · intro i h1 h2
    simp at h2
    subst h2
    simpa using he
def StPost (l : List UInt8) (w : World) (e : Ending) (w' : World) : Prop := e = .returned (.string ⟨l.toArray⟩) ∧ Below w.heap.size w w'
theorem itoa_any (i : Int) (h0 : -9223372036854775808 ≤ i) (h1 : i ≤ 9223372036854775807) (w : World) (hE : look.Env w) : Calls Tryz.prog 53 #[.int .i64 i] w (StPost (Lib.itoa i) w) := by
  refine (shelfb.strconv_Itoa i h0 h1 w hE.num.tab).mono ?_
  rintro e w' ⟨rfl, k, os, rfl⟩
  exact ⟨rfl, Lib.below_grow _ w (Nat.le_refl _) k os⟩
set_option maxRecDepth 100000 in
set_option maxHeartbeats 4000000 in
theorem step_any (n : ByteArray) (i : Int) (it : Bool) (hn : n.size ≤ 1048576) (h0 : -9223372036854775808 ≤ i) (h1 : i ≤ 9223372036854775807) (w : World) (hE : look.Env w) :
    Calls Tryz.prog 56 #[.agg #[.string n, .int .i64 i, .bool it]] w (StPost (stepB (n, i, it)) w) := by
  have gB := heap_alloc_new w (.cells #[.string n, .int .i64 i, .bool it] 52)
  have hb : Below w.heap.size w (w.alloc (.cells #[.string n, .int .i64 i, .bool it] 52)) := (Below.refl _ _).alloc (Nat.le_refl _) _
  obtain ⟨w1, hw1⟩ : ∃ w1, w.alloc (.cells #[.string n, .int .i64 i, .bool it] 52) = w1 := ⟨_, rfl⟩
  rw [hw1] at gB hb
  have HI := Lib.hid (itoa_any i h0 h1 w1 (hE.below hb))
  have HG := Lib.hid (guarded_any n w1)
  have GB := Lib.hid gB
  have c0 := cell_of_row w1 w.heap.size 0 _ 52 (0, 0) gB
  have c1 := cell_of_row w1 w.heap.size 1 _ 52 (0, 0) gB
  have c2 := cell_of_row w1 w.heap.size 2 _ 52 (0, 0) gB
  simp only [List.getElem?_toArray, List.getElem?_cons_zero, List.getElem?_cons_succ] at c0 c1 c2
  have HB := Lib.hid hb
  clear gB hE hb
  cases it with
  | true =>
    simp only [stepB, if_true]
    go_enter Tryz.func56, Tryz.ntmps56
    go_wp2_with fail
    refine HI.out.mono ?_
    rintro e w2 ⟨rfl, hb2⟩
    have hbz := HB.out.trans (hb2.mono HB.out.size)
    clear HI HG GB
    go_wp2_with fail
    go_ret
    exact ⟨rfl, hbz⟩
  | false =>
    have hst : stepB (n, i, false) = (if markB n.data.toList = true then [126, 50] else []) ++ escs n.data.toList := by simp [stepB]
    have hlen := escs_len n.data.toList
    have hsz := Lib.size_eq n
    have HS := Lib.hid hst
    have C0 := Lib.hid c0
    clear HI hst
    go_enter Tryz.func56, Tryz.ntmps56
    go_wp2_with fail
    refine HG.out.mono ?_
    rintro e w2 ⟨rfl, rfl⟩
    clear HG
    obtain ⟨mb, hmb⟩ : ∃ mb, markB n.data.toList = mb := ⟨_, rfl⟩
    rw [hmb] at HS ⊢
    obtain ⟨pre, hpre⟩ : ∃ pre : List UInt8, (if mb = true then [126, 50] else []) = pre := ⟨_, rfl⟩
    rw [hpre] at HS
    have hpl : pre.length ≤ 2 := by rw [← hpre]; split <;> simp
    have HP := Lib.hid hpre
    obtain ⟨l, hl⟩ : ∃ l, n.data.toList = l := ⟨_, rfl⟩
    rw [hl] at HS hlen hsz
    have HL := Lib.hid hl
    rw [HS.out]
    clear hmb hpre hl hw1
    cases mb
    all_goals
      go_wp2_with fail
      go_loopw [3, 4] (fun v3 v4 W => ∃ q : Nat, q ≤ l.length ∧ W = w2 ∧ v3 = .string ⟨(pre ++ escs (l.take q)).toArray⟩ ∧ v4 = .int .i64 (q : Int)) (fun _ i _ => l.length - (intOf i).toNat)
      case atStart =>
        refine ⟨0, Nat.zero_le _, rfl, ?_, rfl⟩
        have h := HP.out
        simp at h
        subst h
        rfl
      case round =>
        obtain ⟨q, hq, rfl, rfl, rfl⟩ := hrel
        by_cases hlt : q < l.length
        · obtain ⟨c, hc⟩ : ∃ x, l[q]? = some x := ⟨_, List.getElem?_eq_getElem hlt⟩
          have hc2 : n.data.toList[q]? = some c := by rw [HL.out]; exact hc
          obtain ⟨hqs, hx⟩ := idx_of hc2
          have hpc := piece_of hc2
          have hcl := escs_len (l.take q)
          have hcl2 : (l.take q).length ≤ q := by simp; omega
          obtain ⟨o, ho⟩ : ∃ o : ByteArray, ⟨(pre ++ escs (l.take q)).toArray⟩ = o := ⟨_, rfl⟩
          have hos : o.size ≤ 4194304 := by rw [← ho]; show (pre ++ escs (l.take q)).length ≤ _; rw [List.length_append]; omega
          have hnx : ∀ y : ByteArray, y = ⟨(escP c).toArray⟩ → ∀ W : World, (Op.stringOp .add o y).run Tryz.prog W = .ok (.string ⟨(pre ++ escs (l.take (q + 1))).toArray⟩) W := fun y hy W => by
            subst hy
            have hle := escP_len c
            rw [run_string_add_sum W _ _ (by show o.size + (escP c).length ≤ _; omega), ← ho, cat_mk, escs_next hc, List.append_assoc]
          rw [ho]
          have HNX := Lib.hid hnx
          have HPC := Lib.hid hpc
          obtain ⟨x, hxx⟩ : ∃ x, c.toNat = x := ⟨_, rfl⟩
          rw [hxx] at hx
          clear hcl hcl2 hnx hc hc2 ho hpc
          by_cases h126 : x = 126
          · subst h126
            have hu := HNX.out ⟨#[126, 48]⟩ (by unfold escP; rw [if_pos hxx])
            go_wp2_with fail
            exact ⟨⟨q + 1, by omega, trivial, rfl, by go_num⟩, by simp [intOf]; omega⟩
          · have hb1 : ((x : Int) == 126) = false := beq_false_of_ne (by omega)
            by_cases h47 : x = 47
            · subst h47
              have hu := HNX.out ⟨#[126, 49]⟩ (by unfold escP; rw [if_neg (by omega), if_pos hxx])
              go_wp2_with fail
              exact ⟨⟨q + 1, by omega, trivial, rfl, by go_num⟩, by simp [intOf]; omega⟩
            · have hb2 : ((x : Int) == 47) = false := beq_false_of_ne (by omega)
              have hu := HNX.out (n.extract q (q + 1)) (by rw [HPC.out]; unfold escP; rw [if_neg (by omega), if_neg (by omega)])
              go_wp2_with fail
              exact ⟨⟨q + 1, by omega, trivial, rfl, by go_num⟩, by simp [intOf]; omega⟩
        · obtain rfl : q = l.length := by omega
          have hfin := HB.out
          rw [List.take_length] 
          go_wp2_with fail
          go_ret
          rw [HS.out]
          exact ⟨rfl, hfin⟩
end Go.Proofs.YthlncdcfppehcaaGreatDoor.pth
end
section
namespace Go.Proofs.YthlncdcfppehcaaGreatDoor.pth
open Go.RowKit mem val
set_option linter.unusedVariables false

abbrev StepT := ByteArray × Int × Bool
def okS (s : StepT) : Prop := s.1.size ≤ 1048576 ∧ -9223372036854775808 ≤ s.2.1 ∧ s.2.1 ≤ 9223372036854775807
/-- a list of steps lies from A on -/
def IsP (w : World) (S : Nat → Prop) (A : Option Addr) (l : List StepT) : Prop :=
  ∀ (j : Nat) (s : StepT), l[j]? = some s → okS s ∧ ∃ ad : Addr, A = some ad ∧ S ad.block ∧ CellsAt w (ad.add (j * 3)) [.string s.1, .int .i64 s.2.1, .bool s.2.2]
theorem IsP.below {w w' : World} {S : Nat → Prop} {A : Option Addr} {l : List StepT} {B : Nat} (h : IsP w S A l) (hS : Bel S B) (hb : Below B w w') : IsP w' S A l := fun j s hs => by
  obtain ⟨h1, ad, h2, h3, h4⟩ := h j s hs
  exact ⟨h1, ad, h2, h3, h4.keep (S := S) (by rw [add_block]; exact h3) (fun p hp => hb.cell (hS _ hp))⟩
theorem three {w : World} {a : Addr} {c0 c1 c2 : Value} (h : CellsAt w a [c0, c1, c2]) :
    w.cell? a = some c0 ∧ w.cell? ⟨a.block, a.off + 1, none⟩ = some c1 ∧ w.cell? ⟨a.block, a.off + 2, none⟩ = some c2 :=
  ⟨by simpa [Addr.add] using h 0 c0 rfl, h 1 c1 rfl, h 2 c2 rfl⟩
theorem pthB_take {l : List StepT} (q : Nat) : (pthB (l.take q)).length ≤ (pthB l).length := by
  have h : pthB l = pthB (l.take q) ++ pthB (l.drop q) := by
    unfold pthB
    rw [← List.flatMap_append, List.take_append_drop]
  rw [h, List.length_append]
  omega
set_option maxRecDepth 100000 in
set_option maxHeartbeats 4000000 in
theorem rpath_any (l : List StepT) (A : Option Addr) (c : Nat) (S : Nat → Prop) (w : World) (hl : l.length ≤ 1048576) (ht : (pthB l).length ≤ 4398046511104) (hP : IsP w S A l) (hS : Bel S w.heap.size) (hE : look.Env w) :
    Calls Tryz.prog 36 #[.slice A l.length c] w (StPost (pthB l) w) := by
  have HP := Lib.hid hP
  have HS := Lib.hid hS
  have HE := Lib.hid hE
  clear hP hS hE
  go_enter Tryz.func36, Tryz.ntmps36
  go_wp2_with fail
  go_loopw [3, 4, 5] (fun v3 v4 v5 W => ∃ q : Nat, q ≤ l.length ∧ v3 = .string ⟨(pthB (l.take q)).toArray⟩ ∧ v4 = .int .i64 (q : Int) ∧ v5 = v5 ∧ Below w.heap.size w W) (fun _ i _ _ => l.length - (intOf i).toNat)
  case atStart => exact ⟨0, Nat.zero_le _, rfl, rfl, rfl, Below.refl _ _⟩
  case round =>
    obtain ⟨q, hq, rfl, rfl, _, hb⟩ := hrel
    by_cases hlt : q < l.length
    · obtain ⟨s, hs⟩ : ∃ x, l[q]? = some x := ⟨_, List.getElem?_eq_getElem hlt⟩
      obtain ⟨hok, ad, rfl, hadB, hcs⟩ := HP.out.below HS.out hb q s hs
      have hnx := pthB_next hs
      have htk := pthB_take (l := l) (q + 1)
      obtain ⟨n, i, it⟩ := s
      obtain ⟨c0, c1, c2⟩ := three hcs
      have HC := Lib.hid (step_any n i it hok.1 hok.2.1 hok.2.2 wr (HE.out.below hb))
      rw [hnx, List.length_append, List.length_cons] at htk
      obtain ⟨o, ho⟩ : ∃ o : ByteArray, ⟨(pthB (l.take q)).toArray⟩ = o := ⟨_, rfl⟩
      have hos : o.size = (pthB (l.take q)).length := by rw [← ho]; rfl
      have hu1 : ∀ W : World, (Op.stringOp .add o ⟨#[47]⟩).run Tryz.prog W = .ok (.string (o ++ ⟨#[47]⟩)) W := fun W => run_string_add_sum W _ _ (by show o.size + 1 ≤ _; omega)
      have hu2 : ∀ W : World, (Op.stringOp .add (o ++ ⟨#[47]⟩) ⟨(stepB (n, i, it)).toArray⟩).run Tryz.prog W = .ok (.string ⟨(pthB (l.take (q + 1))).toArray⟩) W := fun W => by
        rw [run_string_add_sum W _ _ (by rw [ByteArray.size_append, hos]; show _ + 1 + (stepB (n, i, it)).length ≤ _; omega), ← ho, hnx]
        have e47 : (⟨#[47]⟩ : ByteArray) = ⟨[47].toArray⟩ := rfl
        rw [e47, cat_mk, cat_mk, List.append_assoc]
        rfl
      rw [ho]
      have HHB := Lib.hid hb
      clear hcs hs hnx htk ho hos hok
      go_wp2_with fail
      refine HC.out.mono ?_
      rintro e w2 ⟨rfl, hb2⟩
      have hb3 := HHB.out.trans (hb2.mono HHB.out.size)
      clear c0 c1 c2 HC hb2
      go_wp2_with fail
      exact ⟨⟨q + 1, by omega, rfl, by go_num, trivial, hb3⟩, by simp [intOf]; omega⟩
    · obtain rfl : q = l.length := by omega
      rw [List.take_length]
      go_wp2_with fail
      go_ret
      exact ⟨rfl, hb⟩
end Go.Proofs.YthlncdcfppehcaaGreatDoor.pth
end
section
namespace Go.Proofs.YthlncdcfppehcaaGreatDoor.sbd
open Go.RowKit mem
set_option linter.unusedVariables false

theorem sizeB : (Tryz.prog.info? 85).map (·.size) = some 2 := by kernel_rfl
theorem liesB : liesAt Tryz.prog Tryz.prog.depth 85 (2 / Tryz.prog.cellsOf 85) 0 85 1 = true := by kernel_rfl
theorem infoU : (Tryz.prog.info? 5).map (fun i => (i.zero, i.size, i.bytes)) = some (some (.int .u8 0), 1, 1) := by kernel_rfl
set_option maxRecDepth 100000 in
theorem cc_used (b : Nat) (w : World) (h0 : w.cell? ⟨b, 0, none⟩ = some (.pointer (some ⟨b, 0, none⟩))) :
    Calls Tryz.prog 74 #[.pointer (some ⟨b, 0, none⟩)] w fun e w' => e = .returned (.tuple #[]) ∧ w' = w := by
  obtain ⟨j, hj, _⟩ := Option.map_eq_some_iff.1 sizeB
  have hn := Lib.run_neq_ptr_same w ⟨b, 0, none⟩ Tryz.underlying83 hj
  go_enter Tryz.func74, Tryz.ntmps74
  go_wp2_with fail
  go_end0
  exact ⟨rfl, rfl⟩
set_option maxRecDepth 100000 in
theorem cc_fresh (b : Nat) (w : World) (h0 : w.cell? ⟨b, 0, none⟩ = some (.pointer none)) (hsh : w.shape? b = some (85, 2)) (hfz : w.frozen? ⟨b, 0, none⟩ = false) :
    Calls Tryz.prog 74 #[.pointer (some ⟨b, 0, none⟩)] w fun e w' => e = .returned (.tuple #[]) ∧ w' = w.setCell ⟨b, 0, none⟩ (.pointer (some ⟨b, 0, none⟩)) := by
  obtain ⟨j, hj, hjs⟩ := Option.map_eq_some_iff.1 sizeB
  have h1 := Lib.run_to_unsafe w ⟨b, 0, none⟩ Tryz.underlying83 Tryz.underlying132 hj (by rw [hjs]; decide) hsh (Nat.zero_lt_succ 1)
  have h2 := Lib.run_from_unsafe w ⟨b, 0, none⟩ Tryz.underlying132 Tryz.underlying83 hj hsh liesB
  go_enter Tryz.func74, Tryz.ntmps74
  go_wp2_with fail
  rw [run_callFunc_extern Tryz.func90 (by kernel_rfl) (by kernel_rfl) (by kernel_rfl) (e := Extern.AbiNoEscape.same) (by kernel_rfl)]
  rw [Lib.run_noEscape]
  simp only [Result.andThen]
  rw [Oper.upon_value]
  go_wp2_with fail
  go_end0
  exact ⟨rfl, rfl⟩
/-- rows of other types stay -/
def Kp (b : Nat) (w w' : World) : Prop := ∀ (g : Nat) (cs : Array Value) (T : TypeId) (fr : Nat × Nat), w.heap[g]? = some (.cells cs T fr) → T ≠ 5 → g ≠ b → w'.heap[g]? = some (.cells cs T fr)
theorem Kp.trans {b : Nat} {w w1 w2 : World} (h : Kp b w w1) (k : Kp b w1 w2) : Kp b w w2 := fun g cs T fr hg hT hb => k g cs T fr (h g cs T fr hg hT hb) hT hb
theorem Kp.set {b : Nat} (w : World) (o : Nat) (v : Value) : Kp b w (w.setCell ⟨b, o, none⟩ v) := fun g cs T fr hg hT hb => (Below.heap_setCell _ _ _ _ hb).trans hg
theorem Kp.of_below {b : Nat} {w w' : World} (h : Below w.heap.size w w') : Kp b w w' := fun g cs T fr hg hT hb => (h.block g (Array.getElem?_eq_some_iff.1 hg).1).trans hg
theorem cc_any (B b : Nat) (bs : List Value) (w : World) (h : Lib.IsBuilder 85 5 B b bs w) :
    Calls Tryz.prog 74 #[.pointer (some ⟨b, 0, none⟩)] w fun e w' => e = .returned (.tuple #[]) ∧ (Lib.BuilderAt 85 5 B b (.pointer (some ⟨b, 0, none⟩)) bs w' ∧ Below B w w' ∧ Kp b w w') := by
  rcases h with h | h
  · refine (cc_fresh b w h.cell0 h.shape h.frozen0).mono ?_
    rintro e w' ⟨rfl, rfl⟩
    exact ⟨rfl, h.used _, (Below.refl B w).setCell (p := ⟨b, 0, none⟩) h.1 _, Kp.set w 0 _⟩
  · refine (cc_used b w h.cell0).mono ?_
    rintro e w' ⟨rfl, rfl⟩
    exact ⟨rfl, h, Below.refl B _, fun g cs T fr hg _ _ => hg⟩
set_option maxRecDepth 100000 in
theorem byte_any (B b : Nat) (bs : List Value) (c : Int) (w : World) (h : Lib.IsBuilder 85 5 B b bs w) (hlen : bs.length + 1 ≤ 140737488355328) (hBw : B ≤ w.heap.size) :
    Calls Tryz.prog 51 #[.pointer (some ⟨b, 0, none⟩), .int .u8 c] w fun e w' => e = .returned .nilIface ∧ (Lib.BuilderAt 85 5 B b (.pointer (some ⟨b, 0, none⟩)) (bs ++ [.int .u8 c]) w' ∧ Below B w w' ∧ Kp b w w') := by
  obtain ⟨i0, hi, hz0, hz1, hz2⟩ := info_parts infoU
  have hcc := cc_any B b bs w h
  go_enter Tryz.func51, Tryz.ntmps51
  go_wp2_with fail
  refine hcc.mono ?_
  rintro e w1 ⟨rfl, h1, hb1, hk1⟩
  obtain ⟨hB, v, hbk, hown, hne⟩ := h1
  have c0 : w1.cell? ⟨b, 0, none⟩ = some (.pointer (some ⟨b, 0, none⟩)) := by rw [Lib.cell_of_heap hbk]; rfl
  have c1 : w1.cell? ⟨b, 1, none⟩ = some v := by rw [Lib.cell_of_heap hbk]; rfl
  have hz := hb1.size
  go_wp2_with (at_builtin; refine wpList_append_own _ rfl _ _ 36 rfl B 5 i0 (.int .u8 0) 1 1 Tryz.underlying36 hi hz0 hz1 hz2 rfl (by decide) _ _ _ rfl (hown.alloc _) ⟨w1.heap.size, 0, none⟩ 1 1 [.int .u8 c] rfl rfl ?c1 ?c2 ?c3 ?c4 ?c5 ?_)
  case c1 =>
    intro j u hj
    match j, hj with
    | 0, hj => simp at hj; subst hj; simp [Addr.add]
  case c2 => intro u hu; simp at hu; subst hu; rfl
  case c3 => unfold maxLen; omega
  case c4 => omega
  case c5 => simp; omega
  intro v' w2 hown' hgrow _
  have hlt : b < w1.heap.size := by
    rcases Nat.lt_or_ge b w1.heap.size with h' | h'
    · exact h'
    · simp [Array.getElem?_eq_none h'] at hbk
  have hb2 : w2.heap[b]? = some (.cells #[.pointer (some ⟨b, 0, none⟩), v] 85 (0, 0)) := by
    rw [hgrow.block b (by simp; omega) (fun e => hne e.symm), Lib.alloc_old w1 _ b hlt]
    exact hbk
  have d0 : w2.cell? ⟨b, 0, none⟩ = some (.pointer (some ⟨b, 0, none⟩)) := by rw [Lib.cell_of_heap hb2]; rfl
  have d1 : w2.cell? ⟨b, 1, none⟩ = some v := by rw [Lib.cell_of_heap hb2]; rfl
  have f1 : w2.frozen? ⟨b, 1, none⟩ = false := Lib.frozen_of_heap hb2 1
  have hk2 : Kp b w1 w2 := fun k cs T fr hk hT hkb => by
    rw [hgrow.block k (by have := (Array.getElem?_eq_some_iff.1 hk).1; simp; omega) (fun e => Lib.ownBlock_ne hown hk hT e.symm), Lib.alloc_old w1 _ k (Array.getElem?_eq_some_iff.1 hk).1]
    exact hk
  obtain ⟨g, cap, rfl⟩ : ∃ g cap, v' = .slice (some ⟨g, 0, none⟩) (bs.length + 1) cap := by
    rcases hown'.2 with ⟨_, h0⟩ | ⟨g, cap, cur, hv, _⟩
    · omega
    · exact ⟨g, cap, hv⟩
  go_wp2_with fail
  go_ret
  refine ⟨rfl, ?_, ?_, (hk1.trans hk2).trans (Kp.set _ 1 _)⟩
  · exact Lib.BuilderAt.put (T := 85) (e := 5) hB hb2 (bs' := bs ++ [.int .u8 c]) (by simpa using hown') (by decide)
  · exact ((hb1.alloc (by omega) _).grown hgrow (by simp; omega) (fun k hk => (hown.lt k hk).1)).setCell (p := ⟨b, 1, none⟩) hB _
set_option maxRecDepth 100000 in
theorem str_any (B b : Nat) (bs : List Value) (s : ByteArray) (w : World) (h : Lib.IsBuilder 85 5 B b bs w) (hlen : bs.length + s.size ≤ 140737488355328) (hBw : B ≤ w.heap.size) :
    Calls Tryz.prog 52 #[.pointer (some ⟨b, 0, none⟩), .string s] w fun e w' => e = .returned (.tuple #[.int .i64 s.size, .nilIface]) ∧ (Lib.BuilderAt 85 5 B b (.pointer (some ⟨b, 0, none⟩)) (bs ++ Lib.strCells s) w' ∧ Below B w w' ∧ Kp b w w') := by
  obtain ⟨i0, hi, hz0, hz1, hz2⟩ := info_parts infoU
  have hcc := cc_any B b bs w h
  go_enter Tryz.func52, Tryz.ntmps52
  go_wp2_with fail
  refine hcc.mono ?_
  rintro e w1 ⟨rfl, h1, hb1, hk1⟩
  obtain ⟨hB, v, hbk, hown, hne⟩ := h1
  have c0 : w1.cell? ⟨b, 0, none⟩ = some (.pointer (some ⟨b, 0, none⟩)) := by rw [Lib.cell_of_heap hbk]; rfl
  have c1 : w1.cell? ⟨b, 1, none⟩ = some v := by rw [Lib.cell_of_heap hbk]; rfl
  have hz := hb1.size
  go_wp2_with (at_builtin; refine Lib.wpList_append_own_string _ rfl _ _ 36 9 rfl B 5 i0 Tryz.underlying36 Tryz.underlying9 hi hz0 hz1 hz2 _ _ _ rfl hown s rfl ?c3 ?c4 ?c5 ?_)
  case c3 => unfold maxLen; omega
  case c4 => omega
  case c5 => omega
  intro v' w2 hown' hgrow _
  have hlt : b < w1.heap.size := by
    rcases Nat.lt_or_ge b w1.heap.size with h' | h'
    · exact h'
    · simp [Array.getElem?_eq_none h'] at hbk
  have hb2 : w2.heap[b]? = some (.cells #[.pointer (some ⟨b, 0, none⟩), v] 85 (0, 0)) := by
    rw [hgrow.block b hlt (fun e => hne e.symm)]
    exact hbk
  have d0 : w2.cell? ⟨b, 0, none⟩ = some (.pointer (some ⟨b, 0, none⟩)) := by rw [Lib.cell_of_heap hb2]; rfl
  have d1 : w2.cell? ⟨b, 1, none⟩ = some v := by rw [Lib.cell_of_heap hb2]; rfl
  have f1 : w2.frozen? ⟨b, 1, none⟩ = false := Lib.frozen_of_heap hb2 1
  have hk2 : Kp b w1 w2 := fun k cs T fr hk hT hkb => by
    rw [hgrow.block k (Array.getElem?_eq_some_iff.1 hk).1 (fun e => Lib.ownBlock_ne hown hk hT e.symm)]
    exact hk
  obtain ⟨ao, n', cap, rfl⟩ : ∃ ao n' cap, v' = .slice ao n' cap := by
    rcases hown'.2 with ⟨hv, _⟩ | ⟨g, cap, cur, hv, _⟩
    · exact ⟨_, _, _, hv⟩
    · exact ⟨_, _, _, hv⟩
  go_wp2_with fail
  go_ret2
  refine ⟨rfl, ?_, ?_, (hk1.trans hk2).trans (Kp.set _ 1 _)⟩
  · exact Lib.BuilderAt.put (T := 85) (e := 5) hB hb2 (bs' := bs ++ Lib.strCells s) (by simpa [Lib.strCells_length] using hown') (by decide)
  · exact (hb1.grown hgrow (by omega) (fun k hk => (hown.lt k hk).1)).setCell (p := ⟨b, 1, none⟩) hB _
theorem bld_below {B b : Nat} {p : Value} {bs : List Value} {w w' : World} (h : Lib.BuilderAt 85 5 B b p bs w) (hb : Below w.heap.size w w') : Lib.BuilderAt 85 5 B b p bs w' := by
  have hlt := h.lt
  obtain ⟨hB, v, h1, h2, h3⟩ := h
  exact ⟨hB, v, (hb.block b hlt).trans h1, look.own_below h2 hb, h3⟩
theorem isb_below {B b : Nat} {bs : List Value} {w w' : World} (h : Lib.IsBuilder 85 5 B b bs w) (hb : Below w.heap.size w w') : Lib.IsBuilder 85 5 B b bs w' := by
  rcases h with h | h
  · exact Or.inl (bld_below h hb)
  · exact Or.inr (bld_below h hb)
end Go.Proofs.YthlncdcfppehcaaGreatDoor.sbd
end
