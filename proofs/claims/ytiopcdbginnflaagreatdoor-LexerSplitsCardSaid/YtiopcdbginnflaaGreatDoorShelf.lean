/-
  DERIVED: THE SHELF's CONTRACTS AT THIS DUMP, IN PLAIN WORDS (tools/lay-plain.mjs out of 'TryzShelf.lean', which tools/lay-shelf.mjs wrote): THE SAME DECLARATIONS UNDER THE SAME NAMES: 'import', 'namespace', 'open', 'def', 'theorem' AND NOTHING ELSE: no command of the shelf's: FOR A HAND-IN. Each laying: the table of numbers ('.._ren') and one theorem, a field a fact of the dump's own or the kernel's comparison; each contract: ONE APPLICATION.
-/
import Derived.Shelf.Small.Utf8
import Derived.Shelf.Small.Strs
import Derived.Shelf.LaysM
import Derived.Shelf.Strconv.Clone
import Derived.Shelf.Strconv.RangeError
import Derived.Shelf.LaysC
import Derived.Shelf.Strconv.ToErrorRange
import Derived.Shelf.Strings.Search1
import Derived.Shelf.Strings.Search2
import Derived.Shelf.Strings.Search3
import Derived.Shelf.Strings.Shaped
import Derived.Shelf.Strings.Prefix
import Derived.Shelf.Strings.Runes
import Derived.Shelf.Strings.IndexAny
import Derived.Shelf.Strings.AsciiSet
import Derived.Shelf.Strings.IndexAnyAll
import Derived.Test.YtiopcdbginnflaaGreatDoorProg
namespace Go.Proofs
open Go.Shelf
def Tryz.lays119_ren : Go.Shelf.Ren := ⟨fun | 119 => 69 | n => n, fun | 21 => 21 | 4 => 4 | n => n, fun | n => n⟩
theorem Tryz.lays119 : Go.Proofs.Lays.n119 Tryz.prog Tryz.lays119_ren := {
  mixed := by kernel_rfl
  f119 := Tryz.func69.trans (congrArg some (by kernel_rfl))
  t4 := Tryz.underlying4
  a4 := Tryz.isAgg4
  z4 := Tryz.sizeOf4
  v4 := Tryz.zeroValue4
  t21 := Tryz.underlying21
  a21 := Tryz.isAgg21
  z21 := Tryz.sizeOf21
  v21 := Tryz.zeroValue21 }
/-- utf8.ValidRune: "ValidRune reports whether r can be legally encoded as UTF-8. Code points that are out of range or a surrogate half are illegal.": IT RETURNS 'Lib.validRune r'; the world is as it was. (LAID: no walk: one application.) -/
theorem Tryz.utf8_ValidRune (r : Int) (w : World) :
    Calls Tryz.prog 69 #[.int .i32 r] w fun e w' => e = .returned (.bool (Lib.validRune r)) ∧ w' = w := Any.utf8_ValidRune Tryz.lays119 r w
def Tryz.lays137_ren : Go.Shelf.Ren := ⟨fun | 137 => 24 | 217 => 33 | 266 => 44 | n => n, fun | 9 => 9 | 5 => 5 | 3 => 3 | n => n, fun | n => n⟩
theorem Tryz.lays137 : Go.Proofs.Lays.n137 Tryz.prog Tryz.lays137_ren := {
  mixed := by kernel_rfl
  f137 := Tryz.func24.trans (congrArg some (by kernel_rfl))
  f217 := Tryz.func33.trans (congrArg some (by kernel_rfl))
  f266 := Tryz.func44.trans (congrArg some (by kernel_rfl))
  t3 := Tryz.underlying3
  a3 := Tryz.isAgg3
  z3 := Tryz.sizeOf3
  v3 := Tryz.zeroValue3
  t5 := Tryz.underlying5
  a5 := Tryz.isAgg5
  z5 := Tryz.sizeOf5
  v5 := Tryz.zeroValue5
  t9 := Tryz.underlying9
  a9 := Tryz.isAgg9
  z9 := Tryz.sizeOf9
  v9 := Tryz.zeroValue9 }
open Go.RowKit in
/-- strings.IndexByte: "IndexByte returns the index of the first instance of c in s, or -1 if c is not present in s.": IT RETURNS 'Lib.indexByte s c'; the world is as it was. (LAID: no walk: one application.) -/
theorem Tryz.strings_IndexByte (s : ByteArray) (c : Int) (w : World) :
    Calls Tryz.prog 24 #[.string s, .int .u8 c] w fun e w' => e = .returned (.int .i64 (Lib.indexByte s.data.toList c.toNat.toUInt8)) ∧ w' = w := Any.strings_IndexByte Tryz.lays137 s c w
def Tryz.laysC245_ren : Go.Shelf.Ren := ⟨fun | 245 => 57 | 279 => 65 | 280 => 66 | 281 => 67 | 282 => 68 | 316 => 70 | 171 => 72 | 205 => 71 | 243 => 73 | 246 => 74 | 283 => 75 | 284 => 76 | 285 => 77 | 286 => 78 | 129 => 80 | 317 => 79 | 318 => 81 | 319 => 82 | 320 => 83 | 337 => 84 | 338 => 85 | n => n, fun | 9 => 9 | 3 => 3 | 75 => 25 | 167 => 112 | 4 => 4 | 168 => 114 | 210 => 121 | 37 => 51 | 0 => 0 | 127 => 124 | 145 => 127 | 143 => 125 | 2 => 2 | 171 => 129 | 53 => 83 | 5 => 5 | 173 => 132 | 212 => 135 | 51 => 109 | 20 => 20 | 213 => 136 | 46 => 101 | 232 => 139 | 233 => 140 | 80 => 141 | n => n, fun | 15 => 21 | 16 => 22 | 17 => 23 | 18 => 24 | 19 => 25 | n => n⟩
theorem Tryz.laysC245 : Go.Proofs.LaysC.n245 Tryz.prog Tryz.laysC245_ren := {
  mixed := by kernel_rfl
  f129 := Tryz.func80.trans (congrArg some (by kernel_rfl))
  f171 := Tryz.func72.trans (congrArg some (by kernel_rfl))
  f205 := Tryz.func71.trans (congrArg some (by kernel_rfl))
  f243 := Tryz.func73.trans (congrArg some (by kernel_rfl))
  f245 := Tryz.func57.trans (congrArg some (by kernel_rfl))
  f246 := Tryz.func74.trans (congrArg some (by kernel_rfl))
  f279 := Tryz.func65.trans (congrArg some (by kernel_rfl))
  f280 := Tryz.func66.trans (congrArg some (by kernel_rfl))
  f281 := Tryz.func67.trans (congrArg some (by kernel_rfl))
  f282 := Tryz.func68.trans (congrArg some (by kernel_rfl))
  f283 := Tryz.func75.trans (congrArg some (by kernel_rfl))
  f284 := Tryz.func76.trans (congrArg some (by kernel_rfl))
  f285 := Tryz.func77.trans (congrArg some (by kernel_rfl))
  f286 := Tryz.func78.trans (congrArg some (by kernel_rfl))
  f316 := Tryz.func70.trans (congrArg some (by kernel_rfl))
  f317 := Tryz.func79.trans (congrArg some (by kernel_rfl))
  f318 := Tryz.func81.trans (congrArg some (by kernel_rfl))
  f319 := Tryz.func82.trans (congrArg some (by kernel_rfl))
  f320 := Tryz.func83.trans (congrArg some (by kernel_rfl))
  f337 := Tryz.func84.trans (congrArg some (by kernel_rfl))
  f338 := Tryz.func85.trans (congrArg some (by kernel_rfl))
  t0 := Tryz.underlying0
  a0 := Tryz.isAgg0
  z0 := Tryz.sizeOf0
  v0 := Tryz.zeroValue0
  t2 := Tryz.underlying2
  a2 := Tryz.isAgg2
  z2 := Tryz.sizeOf2
  v2 := Tryz.zeroValue2
  t3 := Tryz.underlying3
  a3 := Tryz.isAgg3
  z3 := Tryz.sizeOf3
  v3 := Tryz.zeroValue3
  t4 := Tryz.underlying4
  a4 := Tryz.isAgg4
  z4 := Tryz.sizeOf4
  v4 := Tryz.zeroValue4
  t5 := Tryz.underlying5
  a5 := Tryz.isAgg5
  z5 := Tryz.sizeOf5
  v5 := Tryz.zeroValue5
  t9 := Tryz.underlying9
  a9 := Tryz.isAgg9
  z9 := Tryz.sizeOf9
  v9 := Tryz.zeroValue9
  t20 := Tryz.underlying20
  a20 := Tryz.isAgg20
  z20 := Tryz.sizeOf20
  v20 := Tryz.zeroValue20
  t37 := Tryz.underlying51
  a37 := Tryz.isAgg51
  z37 := Tryz.sizeOf51
  v37 := Tryz.zeroValue51
  t46 := Tryz.underlying101
  a46 := Tryz.isAgg101
  z46 := Tryz.sizeOf101
  v46 := Tryz.zeroValue101
  t51 := Tryz.underlying109
  a51 := Tryz.isAgg109
  z51 := Tryz.sizeOf109
  v51 := Tryz.zeroValue109
  t53 := Tryz.underlying83
  a53 := Tryz.isAgg83
  z53 := Tryz.sizeOf83
  v53 := Tryz.zeroValue83
  t75 := Tryz.underlying25
  a75 := Tryz.isAgg25
  z75 := Tryz.sizeOf25
  v75 := Tryz.zeroValue25
  t127 := Tryz.underlying124
  a127 := Tryz.isAgg124
  z127 := Tryz.sizeOf124
  v127 := Tryz.zeroValue124
  t143 := Tryz.underlying125
  a143 := Tryz.isAgg125
  z143 := Tryz.sizeOf125
  v143 := Tryz.zeroValue125
  t145 := Tryz.underlying127
  a145 := Tryz.isAgg127
  z145 := Tryz.sizeOf127
  v145 := Tryz.zeroValue127
  t167 := Tryz.underlying112
  a167 := Tryz.isAgg112
  z167 := Tryz.sizeOf112
  v167 := Tryz.zeroValue112
  t168 := Tryz.underlying114
  a168 := Tryz.isAgg114
  z168 := Tryz.sizeOf114
  v168 := Tryz.zeroValue114
  t171 := Tryz.underlying129
  a171 := Tryz.isAgg129
  z171 := Tryz.sizeOf129
  v171 := Tryz.zeroValue129
  t173 := Tryz.underlying132
  a173 := Tryz.isAgg132
  z173 := Tryz.sizeOf132
  v173 := Tryz.zeroValue132
  t210 := Tryz.underlying121
  a210 := Tryz.isAgg121
  z210 := Tryz.sizeOf121
  v210 := Tryz.zeroValue121
  t212 := Tryz.underlying135
  a212 := Tryz.isAgg135
  z212 := Tryz.sizeOf135
  v212 := Tryz.zeroValue135
  t213 := Tryz.underlying136
  a213 := Tryz.isAgg136
  z213 := Tryz.sizeOf136
  t232 := Tryz.underlying139
  a232 := Tryz.isAgg139
  z232 := Tryz.sizeOf139
  v232 := Tryz.zeroValue139
  t233 := Tryz.underlying140
  a233 := Tryz.isAgg140
  z233 := Tryz.sizeOf140
  v233 := Tryz.zeroValue140
  g15 := by kernel_rfl
  g16 := by kernel_rfl
  g17 := by kernel_rfl
  g18 := by kernel_rfl
  g19 := by kernel_rfl
  t80 := Tryz.underlying141
  a80 := Tryz.isAgg141
  z80 := Tryz.sizeOf141
  v80 := Tryz.zeroValue141
  i0 := by kernel_rfl
  i2 := by kernel_rfl
  i3 := by kernel_rfl
  i4 := by kernel_rfl
  i5 := by kernel_rfl
  i9 := by kernel_rfl
  i20 := by kernel_rfl
  i37 := by kernel_rfl
  i46 := by kernel_rfl
  i51 := by kernel_rfl
  i53 := by kernel_rfl
  i75 := by kernel_rfl
  i80 := by kernel_rfl
  i127 := by kernel_rfl
  i143 := by kernel_rfl
  i145 := by kernel_rfl
  i167 := by kernel_rfl
  i168 := by kernel_rfl
  i171 := by kernel_rfl
  i173 := by kernel_rfl
  i210 := by kernel_rfl
  i212 := by kernel_rfl
  i232 := by kernel_rfl
  i233 := by kernel_rfl
  m15 := by kernel_rfl
  m16 := by kernel_rfl
  m17 := by kernel_rfl
  m18 := by kernel_rfl
  m19 := by kernel_rfl
  c0 := by kernel_rfl
  c2 := by kernel_rfl
  c3 := by kernel_rfl
  c4 := by kernel_rfl
  c5 := by kernel_rfl
  c9 := by kernel_rfl
  c20 := by kernel_rfl
  c37 := by kernel_rfl
  c46 := by kernel_rfl
  c51 := by kernel_rfl
  c53 := by kernel_rfl
  c75 := by kernel_rfl
  c80 := by kernel_rfl
  c127 := by kernel_rfl
  c143 := by kernel_rfl
  c145 := by kernel_rfl
  c167 := by kernel_rfl
  c168 := by kernel_rfl
  c171 := by kernel_rfl
  c173 := by kernel_rfl
  c210 := by kernel_rfl
  c212 := by kernel_rfl
  c213 := by kernel_rfl
  c232 := by kernel_rfl
  c233 := by kernel_rfl }
open Go.RowKit in
/-- strconv.toError, at the inner package's ErrRange: 'rangeError(fn, s)' as an error: A *NumError IN A NEW BLOCK. (LAID: no walk: one application.) -/
theorem Tryz.strconv_toError_range (fn s : ByteArray) (base bits : Int) (ev : Value) (w : World) (hlim : s.size ≤ 281474976710656) (hv : w.cell? ⟨22, 0, none⟩ = some ev) (hev : ev = .nilIface ∨ ∃ te pe, ev = .iface te pe) :
    Calls Tryz.prog 57 #[.string fn, .string s, .int .i64 base, .int .i64 bits, .iface 112 (.int .i64 1)] w fun e w' => ∃ N, e = .returned (.iface 114 (.pointer (some ⟨N, 0, none⟩))) ∧ w.heap.size ≤ N ∧ w'.heap[N]? = some (.cells #[.string fn, .string s, ev] 121 (0, 0)) ∧ Below w.heap.size w w' := Any.strconv_toError_range Tryz.laysC245 fn s base bits ev w hlim hv hev
def Tryz.lays143_ren : Go.Shelf.Ren := ⟨fun | 143 => 35 | 219 => 46 | 217 => 33 | 225 => 53 | 224 => 54 | 267 => 55 | 266 => 44 | 314 => 62 | n => n, fun | 9 => 9 | 3 => 3 | 4 => 4 | 5 => 5 | 46 => 101 | 146 => 110 | 51 => 109 | n => n, fun | 1 => 20 | n => n⟩
theorem Tryz.lays143 : Go.Proofs.Lays.n143 Tryz.prog Tryz.lays143_ren := {
  mixed := by kernel_rfl
  f143 := Tryz.func35.trans (congrArg some (by kernel_rfl))
  f217 := Tryz.func33.trans (congrArg some (by kernel_rfl))
  f219 := Tryz.func46.trans (congrArg some (by kernel_rfl))
  f224 := Tryz.func54.trans (congrArg some (by kernel_rfl))
  f225 := Tryz.func53.trans (congrArg some (by kernel_rfl))
  f266 := Tryz.func44.trans (congrArg some (by kernel_rfl))
  f267 := Tryz.func55.trans (congrArg some (by kernel_rfl))
  f314 := Tryz.func62.trans (congrArg some (by kernel_rfl))
  t3 := Tryz.underlying3
  a3 := Tryz.isAgg3
  z3 := Tryz.sizeOf3
  v3 := Tryz.zeroValue3
  t4 := Tryz.underlying4
  a4 := Tryz.isAgg4
  z4 := Tryz.sizeOf4
  v4 := Tryz.zeroValue4
  t5 := Tryz.underlying5
  a5 := Tryz.isAgg5
  z5 := Tryz.sizeOf5
  v5 := Tryz.zeroValue5
  t9 := Tryz.underlying9
  a9 := Tryz.isAgg9
  z9 := Tryz.sizeOf9
  v9 := Tryz.zeroValue9
  t46 := Tryz.underlying101
  a46 := Tryz.isAgg101
  z46 := Tryz.sizeOf101
  v46 := Tryz.zeroValue101
  t51 := Tryz.underlying109
  a51 := Tryz.isAgg109
  z51 := Tryz.sizeOf109
  v51 := Tryz.zeroValue109
  t146 := Tryz.underlying110
  a146 := Tryz.isAgg110
  z146 := Tryz.sizeOf110
  v146 := Tryz.zeroValue110
  g1 := by kernel_rfl }
open Go.RowKit Go.Lib in
/-- strings.Index: "Index returns the index of the first instance of substr in s, or -1 if substr is not present in s.": IT RETURNS 'Lib.index s substr'; the world is as it was. (LAID: no walk: one application.) -/
theorem Tryz.strings_Index (s sub : ByteArray) (m : Int) (w : World) (hs : s.size < 4294967281) (hm : w.cell? ⟨20, 0, none⟩ = some (.int .i64 m)) :
    Calls Tryz.prog 35 #[.string s, .string sub] w fun e w' => e = .returned (.int .i64 (Lib.index s.data.toList sub.data.toList)) ∧ w' = w := Any.strings_Index Tryz.lays143 s sub m w hs hm
def Tryz.laysM143_ren : Go.Shelf.Ren := ⟨fun | 143 => 35 | 219 => 46 | 217 => 33 | 225 => 53 | 224 => 54 | 267 => 55 | 266 => 44 | 314 => 62 | n => n, fun | 9 => 9 | 3 => 3 | 4 => 4 | 5 => 5 | 46 => 101 | 146 => 110 | 51 => 109 | n => n, fun | 1 => 20 | n => n⟩
theorem Tryz.laysM143 : Go.Proofs.LaysM.n143 Tryz.prog Tryz.laysM143_ren := {
  mixed := by kernel_rfl
  f143 := Tryz.func35.trans (congrArg some (by kernel_rfl))
  f217 := Tryz.func33.trans (congrArg some (by kernel_rfl))
  f219 := Tryz.func46.trans (congrArg some (by kernel_rfl))
  f224 := Tryz.func54.trans (congrArg some (by kernel_rfl))
  f225 := Tryz.func53.trans (congrArg some (by kernel_rfl))
  f266 := Tryz.func44.trans (congrArg some (by kernel_rfl))
  f267 := Tryz.func55.trans (congrArg some (by kernel_rfl))
  f314 := Tryz.func62.trans (congrArg some (by kernel_rfl))
  t3 := Tryz.underlying3
  a3 := Tryz.isAgg3
  z3 := Tryz.sizeOf3
  v3 := Tryz.zeroValue3
  t4 := Tryz.underlying4
  a4 := Tryz.isAgg4
  z4 := Tryz.sizeOf4
  v4 := Tryz.zeroValue4
  t5 := Tryz.underlying5
  a5 := Tryz.isAgg5
  z5 := Tryz.sizeOf5
  v5 := Tryz.zeroValue5
  t9 := Tryz.underlying9
  a9 := Tryz.isAgg9
  z9 := Tryz.sizeOf9
  v9 := Tryz.zeroValue9
  t46 := Tryz.underlying101
  a46 := Tryz.isAgg101
  z46 := Tryz.sizeOf101
  v46 := Tryz.zeroValue101
  t51 := Tryz.underlying109
  a51 := Tryz.isAgg109
  z51 := Tryz.sizeOf109
  v51 := Tryz.zeroValue109
  t146 := Tryz.underlying110
  a146 := Tryz.isAgg110
  z146 := Tryz.sizeOf110
  v146 := Tryz.zeroValue110
  g1 := by kernel_rfl
  i3 := by kernel_rfl
  i4 := by kernel_rfl
  i5 := by kernel_rfl
  i9 := by kernel_rfl
  i46 := by kernel_rfl
  i51 := by kernel_rfl
  i146 := by kernel_rfl
  m1 := by kernel_rfl
  s1_3 := fun w h => Go.Proofs.cell_of_shapedOpen_int (zero := #[.int .i64 0]) (t := 3) h (of_decide_eq_true (by kernel_rfl)) (by kernel_rfl) rfl (by kernel_rfl) (by kernel_rfl) Tryz.underlying3 }
def Tryz.lays99_ren : Go.Shelf.Ren := ⟨fun | 99 => 34 | 206 => 45 | n => n, fun | 9 => 9 | 4 => 4 | 3 => 3 | n => n, fun | n => n⟩
theorem Tryz.lays99 : Go.Proofs.Lays.n99 Tryz.prog Tryz.lays99_ren := {
  mixed := by kernel_rfl
  f99 := Tryz.func34.trans (congrArg some (by kernel_rfl))
  f206 := Tryz.func45.trans (congrArg some (by kernel_rfl))
  t3 := Tryz.underlying3
  a3 := Tryz.isAgg3
  z3 := Tryz.sizeOf3
  v3 := Tryz.zeroValue3
  t4 := Tryz.underlying4
  a4 := Tryz.isAgg4
  z4 := Tryz.sizeOf4
  v4 := Tryz.zeroValue4
  t9 := Tryz.underlying9
  a9 := Tryz.isAgg9
  z9 := Tryz.sizeOf9
  v9 := Tryz.zeroValue9 }
open Go.RowKit Go.Lib in
/-- strings.HasPrefix: "HasPrefix reports whether the string s begins with prefix.": IT RETURNS 'Lib.hasPrefix s prefix'; the world is as it was. (LAID: no walk: one application.) -/
theorem Tryz.strings_HasPrefix (s p : ByteArray) (w : World) :
    Calls Tryz.prog 34 #[.string s, .string p] w fun e w' => e = .returned (.bool (Lib.hasPrefix s.data.toList p.data.toList)) ∧ w' = w := Any.strings_HasPrefix Tryz.lays99 s p w
def Tryz.lays152_ren : Go.Shelf.Ren := ⟨fun | 152 => 58 | 137 => 24 | 119 => 69 | 224 => 54 | 225 => 53 | 217 => 33 | 266 => 44 | n => n, fun | 9 => 9 | 21 => 21 | 3 => 3 | 4 => 4 | 5 => 5 | 0 => 0 | 46 => 101 | n => n, fun | n => n⟩
theorem Tryz.lays152 : Go.Proofs.Lays.n152 Tryz.prog Tryz.lays152_ren := {
  mixed := by kernel_rfl
  f119 := Tryz.func69.trans (congrArg some (by kernel_rfl))
  f137 := Tryz.func24.trans (congrArg some (by kernel_rfl))
  f152 := Tryz.func58.trans (congrArg some (by kernel_rfl))
  f217 := Tryz.func33.trans (congrArg some (by kernel_rfl))
  f224 := Tryz.func54.trans (congrArg some (by kernel_rfl))
  f225 := Tryz.func53.trans (congrArg some (by kernel_rfl))
  f266 := Tryz.func44.trans (congrArg some (by kernel_rfl))
  t0 := Tryz.underlying0
  a0 := Tryz.isAgg0
  z0 := Tryz.sizeOf0
  v0 := Tryz.zeroValue0
  t3 := Tryz.underlying3
  a3 := Tryz.isAgg3
  z3 := Tryz.sizeOf3
  v3 := Tryz.zeroValue3
  t4 := Tryz.underlying4
  a4 := Tryz.isAgg4
  z4 := Tryz.sizeOf4
  v4 := Tryz.zeroValue4
  t5 := Tryz.underlying5
  a5 := Tryz.isAgg5
  z5 := Tryz.sizeOf5
  v5 := Tryz.zeroValue5
  t9 := Tryz.underlying9
  a9 := Tryz.isAgg9
  z9 := Tryz.sizeOf9
  v9 := Tryz.zeroValue9
  t21 := Tryz.underlying21
  a21 := Tryz.isAgg21
  z21 := Tryz.sizeOf21
  v21 := Tryz.zeroValue21
  t46 := Tryz.underlying101
  a46 := Tryz.isAgg101
  z46 := Tryz.sizeOf101
  v46 := Tryz.zeroValue101 }
open Go.RowKit Go.Lib in
theorem Tryz.strings_IndexRune_ascii (s : ByteArray) (r : Int) (w : World) (h0 : 0 ≤ r) (h1 : r < 128) :
    Calls Tryz.prog 58 #[.string s, .int .i32 r] w fun e w' => e = .returned (.int .i64 (Lib.indexByte s.data.toList r.toNat.toUInt8)) ∧ w' = w := Any.strings_IndexRune_ascii Tryz.lays152 s r w h0 h1
def Tryz.lays226_ren : Go.Shelf.Ren := ⟨fun | 226 => 59 | n => n, fun | 3 => 3 | 4 => 4 | n => n, fun | n => n⟩
theorem Tryz.lays226 : Go.Proofs.Lays.n226 Tryz.prog Tryz.lays226_ren := {
  mixed := by kernel_rfl
  f226 := Tryz.func59.trans (congrArg some (by kernel_rfl))
  t3 := Tryz.underlying3
  a3 := Tryz.isAgg3
  z3 := Tryz.sizeOf3
  v3 := Tryz.zeroValue3
  t4 := Tryz.underlying4
  a4 := Tryz.isAgg4
  z4 := Tryz.sizeOf4
  v4 := Tryz.zeroValue4 }
open Go.RowKit Go.Lib in
theorem Tryz.strings_shouldUseASCIISet (n : Int) (w : World) :
    Calls Tryz.prog 59 #[.int .i64 n] w fun e w' => e = .returned (.bool (decide (8 < n))) ∧ w' = w := Any.strings_shouldUseASCIISet Tryz.lays226 n w
def Tryz.lays153_ren : Go.Shelf.Ren := ⟨fun | 153 => 50 | 152 => 58 | 226 => 59 | 227 => 60 | 228 => 61 | 137 => 24 | 119 => 69 | 224 => 54 | 225 => 53 | 217 => 33 | 266 => 44 | n => n, fun | 9 => 9 | 3 => 3 | 4 => 4 | 5 => 5 | 21 => 21 | 117 => 107 | 116 => 106 | 0 => 0 | 46 => 101 | 124 => 118 | n => n, fun | n => n⟩
theorem Tryz.lays153 : Go.Proofs.Lays.n153 Tryz.prog Tryz.lays153_ren := {
  mixed := by kernel_rfl
  f119 := Tryz.func69.trans (congrArg some (by kernel_rfl))
  f137 := Tryz.func24.trans (congrArg some (by kernel_rfl))
  f152 := Tryz.func58.trans (congrArg some (by kernel_rfl))
  f153 := Tryz.func50.trans (congrArg some (by kernel_rfl))
  f217 := Tryz.func33.trans (congrArg some (by kernel_rfl))
  f224 := Tryz.func54.trans (congrArg some (by kernel_rfl))
  f225 := Tryz.func53.trans (congrArg some (by kernel_rfl))
  f226 := Tryz.func59.trans (congrArg some (by kernel_rfl))
  f227 := Tryz.func60.trans (congrArg some (by kernel_rfl))
  f228 := Tryz.func61.trans (congrArg some (by kernel_rfl))
  f266 := Tryz.func44.trans (congrArg some (by kernel_rfl))
  t0 := Tryz.underlying0
  a0 := Tryz.isAgg0
  z0 := Tryz.sizeOf0
  v0 := Tryz.zeroValue0
  t3 := Tryz.underlying3
  a3 := Tryz.isAgg3
  z3 := Tryz.sizeOf3
  v3 := Tryz.zeroValue3
  t4 := Tryz.underlying4
  a4 := Tryz.isAgg4
  z4 := Tryz.sizeOf4
  v4 := Tryz.zeroValue4
  t5 := Tryz.underlying5
  a5 := Tryz.isAgg5
  z5 := Tryz.sizeOf5
  v5 := Tryz.zeroValue5
  t9 := Tryz.underlying9
  a9 := Tryz.isAgg9
  z9 := Tryz.sizeOf9
  v9 := Tryz.zeroValue9
  t21 := Tryz.underlying21
  a21 := Tryz.isAgg21
  z21 := Tryz.sizeOf21
  v21 := Tryz.zeroValue21
  t46 := Tryz.underlying101
  a46 := Tryz.isAgg101
  z46 := Tryz.sizeOf101
  v46 := Tryz.zeroValue101
  t116 := Tryz.underlying106
  a116 := Tryz.isAgg106
  z116 := Tryz.sizeOf106
  t117 := Tryz.underlying107
  a117 := Tryz.isAgg107
  z117 := Tryz.sizeOf107
  v117 := Tryz.zeroValue107
  t124 := Tryz.underlying118
  a124 := Tryz.isAgg118
  z124 := Tryz.sizeOf118
  v124 := Tryz.zeroValue118 }
open Go.RowKit Go.Lib in
/-- chars is empty. (LAID: no walk: one application.) -/
theorem Tryz.strings_IndexAny_none (s chars : ByteArray) (w : World) (h0 : chars.size = 0) :
    Calls Tryz.prog 50 #[.string s, .string chars] w fun e w' => e = .returned (.int .i64 (Lib.indexAny s.data.toList chars.data.toList)) ∧ w' = w := Any.strings_IndexAny_none Tryz.lays153 s chars w h0
open Go.RowKit Go.Lib in
theorem Tryz.strings_IndexAny_long (hv116 : ∀ w, (zeroValue 106).run Tryz.prog w = .ok (.agg (Array.replicate 256 (.bool false))) w) (s chars : ByteArray) (w : World) (h2 : 2 ≤ chars.size) (h8 : 8 < s.size) (hs : s.size < 4294967281) (hcs : chars.size < 4294967281) (hascii : ∀ (j : Nat) b, chars.data.toList[j]? = some b → b.toNat < 128) :
    Calls Tryz.prog 50 #[.string s, .string chars] w fun e w' => e = .returned (.int .i64 (Lib.indexAny s.data.toList chars.data.toList)) ∧ w' = ((w.alloc (.cells (Lib.setCells chars.data.toList) 106)).alloc (.cells (Lib.setCells chars.data.toList) 106)) := Any.strings_IndexAny_long Tryz.lays153 hv116 (by kernel_rfl) s chars w h2 h8 hs hcs hascii
end Go.Proofs
