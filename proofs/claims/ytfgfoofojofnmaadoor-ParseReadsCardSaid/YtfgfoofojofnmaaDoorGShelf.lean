/-
  DERIVED: THE SHELF's CONTRACTS AT THIS DUMP, IN PLAIN WORDS (tools/lay-plain.mjs out of 'TrydShelf.lean', which tools/lay-shelf.mjs wrote): THE SAME DECLARATIONS UNDER THE SAME NAMES: 'import', 'namespace', 'open', 'def', 'theorem' AND NOTHING ELSE: no command of the shelf's: FOR A HAND-IN. Each laying: the table of numbers ('.._ren') and one theorem, a field a fact of the dump's own or the kernel's comparison; each contract: ONE APPLICATION.
-/
import Derived.Shelf.Strings.Builder1
import Derived.Shelf.Strings.Builder2
import Derived.Shelf.Strings.OnBuilder
import Derived.Shelf.Small.Strs
import Derived.Shelf.Strconv.Atoi
import Derived.Shelf.Strconv.Itoa0
import Derived.Shelf.Strconv.Itoa1
import Derived.Shelf.LaysM
import Derived.Shelf.Strconv.Itoa2
import Derived.Shelf.Strconv.Itoa3
import Derived.Shelf.Strconv.AtoiErrFast
import Derived.Shelf.Strconv.ParseIntEmpty
import Derived.Shelf.Strconv.AtoiFail
import Derived.Shelf.Strconv.Clone
import Derived.Shelf.Strconv.SyntaxError
import Derived.Shelf.LaysC
import Derived.Shelf.Strconv.ToError
import Derived.Shelf.Strconv.Lower
import Derived.Shelf.Strconv.ParseUint10
import Derived.Shelf.Strconv.ParseUint10Empty
import Derived.Shelf.Strconv.ParseUint10Any
import Derived.Shelf.Strconv.ParseInt10
import Derived.Shelf.Strconv.AtoiLong
import Derived.Shelf.Strconv.AtoiInnerAll
import Derived.Shelf.Strconv.RangeError
import Derived.Shelf.Strconv.ToErrorRange
import Derived.Shelf.Strconv.AtoiAll
import Derived.Shelf.Strconv.ErrVarAll
import Derived.Shelf.Strings.Search1
import Derived.Shelf.Strings.Search2
import Derived.Shelf.Strings.Search3
import Derived.Shelf.Strings.Cut
import Derived.Shelf.Strings.Shaped
import Derived.Test.YtfgfoofojofnmaaDoorProg
set_option linter.unusedVariables false
set_option linter.unusedSimpArgs false
namespace Go.Proofs
open Go.Shelf
def Tryd.lays156_ren : Go.Shelf.Ren := ⟨fun | 156 => 45 | 165 => 79 | 166 => 80 | 169 => 81 | 240 => 94 | 241 => 95 | 276 => 119 | 277 => 120 | n => n, fun | 31 => 69 | 9 => 9 | 3 => 3 | 4 => 4 | 0 => 0 | 20 => 20 | 72 => 130 | 76 => 117 | 70 => 128 | 37 => 127 | 75 => 116 | 127 => 141 | 164 => 162 | 5 => 5 | 80 => 132 | n => n, fun | n => n⟩
theorem Tryd.lays156 : Go.Proofs.Lays.n156 Tryd.prog Tryd.lays156_ren := {
  mixed := by kernel_rfl
  f156 := Tryd.func45.trans (congrArg some (by kernel_rfl))
  f165 := Tryd.func79.trans (congrArg some (by kernel_rfl))
  f166 := Tryd.func80.trans (congrArg some (by kernel_rfl))
  f169 := Tryd.func81.trans (congrArg some (by kernel_rfl))
  f240 := Tryd.func94.trans (congrArg some (by kernel_rfl))
  f241 := Tryd.func95.trans (congrArg some (by kernel_rfl))
  f276 := Tryd.func119.trans (congrArg some (by kernel_rfl))
  f277 := Tryd.func120.trans (congrArg some (by kernel_rfl))
  t0 := Tryd.underlying0
  a0 := Tryd.isAgg0
  z0 := Tryd.sizeOf0
  v0 := Tryd.zeroValue0
  t3 := Tryd.underlying3
  a3 := Tryd.isAgg3
  z3 := Tryd.sizeOf3
  v3 := Tryd.zeroValue3
  t4 := Tryd.underlying4
  a4 := Tryd.isAgg4
  z4 := Tryd.sizeOf4
  v4 := Tryd.zeroValue4
  t9 := Tryd.underlying9
  a9 := Tryd.isAgg9
  z9 := Tryd.sizeOf9
  v9 := Tryd.zeroValue9
  t20 := Tryd.underlying20
  a20 := Tryd.isAgg20
  z20 := Tryd.sizeOf20
  v20 := Tryd.zeroValue20
  t31 := Tryd.underlying69
  a31 := Tryd.isAgg69
  z31 := Tryd.sizeOf69
  v31 := Tryd.zeroValue69
  t37 := Tryd.underlying127
  a37 := Tryd.isAgg127
  z37 := Tryd.sizeOf127
  v37 := Tryd.zeroValue127
  t70 := Tryd.underlying128
  a70 := Tryd.isAgg128
  z70 := Tryd.sizeOf128
  v70 := Tryd.zeroValue128
  t72 := Tryd.underlying130
  a72 := Tryd.isAgg130
  z72 := Tryd.sizeOf130
  v72 := Tryd.zeroValue130
  t75 := Tryd.underlying116
  a75 := Tryd.isAgg116
  z75 := Tryd.sizeOf116
  v75 := Tryd.zeroValue116
  t76 := Tryd.underlying117
  a76 := Tryd.isAgg117
  z76 := Tryd.sizeOf117
  v76 := Tryd.zeroValue117
  t127 := Tryd.underlying141
  a127 := Tryd.isAgg141
  z127 := Tryd.sizeOf141
  v127 := Tryd.zeroValue141
  t164 := Tryd.underlying162
  a164 := Tryd.isAgg162
  z164 := Tryd.sizeOf162
  v164 := Tryd.zeroValue162 }
theorem Tryd.Builder_Extra_156 : Builder.Extra Tryd.prog Tryd.lays156_ren := {
  sizeBuilder := by kernel_rfl
  liesBuilder := by kernel_rfl
  t5 := Tryd.underlying5
  a5 := Tryd.isAgg5
  z5 := Tryd.sizeOf5
  v5 := Tryd.zeroValue5
  infoByte := by kernel_rfl
  cellsByte := by kernel_rfl
  sizeByte := by kernel_rfl
  neB5 := by decide }
open Go.RowKit in
/-- No element: the empty string; the world is as it was. (Whatever the slice's address and capacity: a nil slice too.) (LAID: no walk: one application.) -/
theorem Tryd.strings_Join_none (a : Option Addr) (c : Nat) (sep : ByteArray) (w : World) :
    Calls Tryd.prog 45 #[.slice a 0 c, .string sep] w fun e w' => e = .returned (.string ⟨#[]⟩) ∧ w' = w := Any.strings_Join_none Tryd.lays156 Tryd.Builder_Extra_156 a c sep w
open Go.RowKit in
/-- strings.Join: "Join concatenates the elements of its first argument to create a single string. The separator string sep is placed between elements in the resulting string.": HOWEVER MANY ELEMENTS. Below the heap's end the world is as it was. (LAID: no walk: one application.) -/
theorem Tryd.strings_Join (bk o c : Nat) (xs : List ByteArray) (sep : ByteArray) (w : World) (hcells : ∀ (j : Nat) x, xs[j]? = some x → w.cell? ⟨bk, o + j, none⟩ = some (.string x)) (hbk : bk < w.heap.size) (hN : xs.length ≤ 140737488355328) (hcap : xs.length ≤ c) (hlen : (Lib.join (xs.map (·.data.toList)) sep.data.toList).length ≤ 140737488355328) :
    Calls Tryd.prog 45 #[.slice (some ⟨bk, o, none⟩) xs.length c, .string sep] w fun e w' => e = .returned (.string ⟨(Lib.join (xs.map (·.data.toList)) sep.data.toList).toArray⟩) ∧ Below w.heap.size w w' := Any.strings_Join Tryd.lays156 Tryd.Builder_Extra_156 bk o c xs sep w hcells hbk hN hcap hlen
def Tryd.lays137_ren : Go.Shelf.Ren := ⟨fun | 137 => 75 | 217 => 92 | 266 => 114 | n => n, fun | 9 => 9 | 5 => 5 | 3 => 3 | n => n, fun | n => n⟩
theorem Tryd.lays137 : Go.Proofs.Lays.n137 Tryd.prog Tryd.lays137_ren := {
  mixed := by kernel_rfl
  f137 := Tryd.func75.trans (congrArg some (by kernel_rfl))
  f217 := Tryd.func92.trans (congrArg some (by kernel_rfl))
  f266 := Tryd.func114.trans (congrArg some (by kernel_rfl))
  t3 := Tryd.underlying3
  a3 := Tryd.isAgg3
  z3 := Tryd.sizeOf3
  v3 := Tryd.zeroValue3
  t5 := Tryd.underlying5
  a5 := Tryd.isAgg5
  z5 := Tryd.sizeOf5
  v5 := Tryd.zeroValue5
  t9 := Tryd.underlying9
  a9 := Tryd.isAgg9
  z9 := Tryd.sizeOf9
  v9 := Tryd.zeroValue9 }
open Go.RowKit in
/-- strings.IndexByte: "IndexByte returns the index of the first instance of c in s, or -1 if c is not present in s.": IT RETURNS 'Lib.indexByte s c'; the world is as it was. (LAID: no walk: one application.) -/
theorem Tryd.strings_IndexByte (s : ByteArray) (c : Int) (w : World) :
    Calls Tryd.prog 75 #[.string s, .int .u8 c] w fun e w' => e = .returned (.int .i64 (Lib.indexByte s.data.toList c.toNat.toUInt8)) ∧ w' = w := Any.strings_IndexByte Tryd.lays137 s c w
def Tryd.lays172_ren : Go.Shelf.Ren := ⟨fun | 172 => 70 | 244 => 87 | 245 => 88 | 247 => 108 | 279 => 109 | 280 => 110 | 281 => 111 | 282 => 112 | 287 => 128 | 316 => 129 | 171 => 43 | 205 => 130 | 321 => 140 | 322 => 141 | 243 => 77 | 246 => 93 | 283 => 115 | 284 => 116 | 285 => 117 | 286 => 118 | 129 => 107 | 317 => 134 | 318 => 135 | 319 => 136 | 320 => 137 | 337 => 143 | 338 => 144 | n => n, fun | 9 => 9 | 3 => 3 | 75 => 116 | 76 => 117 | 4 => 4 | 5 => 5 | 167 => 152 | 37 => 127 | 0 => 0 | 85 => 153 | 2 => 2 | 168 => 155 | 53 => 36 | 175 => 171 | 46 => 57 | 210 => 175 | 127 => 141 | 145 => 187 | 143 => 185 | 21 => 21 | 171 => 158 | 173 => 160 | 212 => 178 | 51 => 150 | 20 => 20 | 213 => 179 | 232 => 191 | 233 => 192 | 80 => 132 | n => n, fun | 15 => 0 | 16 => 1 | 17 => 3 | 18 => 4 | 19 => 5 | n => n⟩
theorem Tryd.lays172 : Go.Proofs.Lays.n172 Tryd.prog Tryd.lays172_ren := {
  mixed := by kernel_rfl
  f129 := Tryd.func107.trans (congrArg some (by kernel_rfl))
  f171 := Tryd.func43.trans (congrArg some (by kernel_rfl))
  f172 := Tryd.func70.trans (congrArg some (by kernel_rfl))
  f205 := Tryd.func130.trans (congrArg some (by kernel_rfl))
  f243 := Tryd.func77.trans (congrArg some (by kernel_rfl))
  f244 := Tryd.func87.trans (congrArg some (by kernel_rfl))
  f245 := Tryd.func88.trans (congrArg some (by kernel_rfl))
  f246 := Tryd.func93.trans (congrArg some (by kernel_rfl))
  f247 := Tryd.func108.trans (congrArg some (by kernel_rfl))
  f279 := Tryd.func109.trans (congrArg some (by kernel_rfl))
  f280 := Tryd.func110.trans (congrArg some (by kernel_rfl))
  f281 := Tryd.func111.trans (congrArg some (by kernel_rfl))
  f282 := Tryd.func112.trans (congrArg some (by kernel_rfl))
  f283 := Tryd.func115.trans (congrArg some (by kernel_rfl))
  f284 := Tryd.func116.trans (congrArg some (by kernel_rfl))
  f285 := Tryd.func117.trans (congrArg some (by kernel_rfl))
  f286 := Tryd.func118.trans (congrArg some (by kernel_rfl))
  f287 := Tryd.func128.trans (congrArg some (by kernel_rfl))
  f316 := Tryd.func129.trans (congrArg some (by kernel_rfl))
  f317 := Tryd.func134.trans (congrArg some (by kernel_rfl))
  f318 := Tryd.func135.trans (congrArg some (by kernel_rfl))
  f319 := Tryd.func136.trans (congrArg some (by kernel_rfl))
  f320 := Tryd.func137.trans (congrArg some (by kernel_rfl))
  f321 := Tryd.func140.trans (congrArg some (by kernel_rfl))
  f322 := Tryd.func141.trans (congrArg some (by kernel_rfl))
  f337 := Tryd.func143.trans (congrArg some (by kernel_rfl))
  f338 := Tryd.func144.trans (congrArg some (by kernel_rfl))
  t0 := Tryd.underlying0
  a0 := Tryd.isAgg0
  z0 := Tryd.sizeOf0
  v0 := Tryd.zeroValue0
  t2 := Tryd.underlying2
  a2 := Tryd.isAgg2
  z2 := Tryd.sizeOf2
  v2 := Tryd.zeroValue2
  t3 := Tryd.underlying3
  a3 := Tryd.isAgg3
  z3 := Tryd.sizeOf3
  v3 := Tryd.zeroValue3
  t4 := Tryd.underlying4
  a4 := Tryd.isAgg4
  z4 := Tryd.sizeOf4
  v4 := Tryd.zeroValue4
  t5 := Tryd.underlying5
  a5 := Tryd.isAgg5
  z5 := Tryd.sizeOf5
  v5 := Tryd.zeroValue5
  t9 := Tryd.underlying9
  a9 := Tryd.isAgg9
  z9 := Tryd.sizeOf9
  v9 := Tryd.zeroValue9
  t20 := Tryd.underlying20
  a20 := Tryd.isAgg20
  z20 := Tryd.sizeOf20
  v20 := Tryd.zeroValue20
  t21 := Tryd.underlying21
  a21 := Tryd.isAgg21
  z21 := Tryd.sizeOf21
  v21 := Tryd.zeroValue21
  t37 := Tryd.underlying127
  a37 := Tryd.isAgg127
  z37 := Tryd.sizeOf127
  v37 := Tryd.zeroValue127
  t46 := Tryd.underlying57
  a46 := Tryd.isAgg57
  z46 := Tryd.sizeOf57
  v46 := Tryd.zeroValue57
  t51 := Tryd.underlying150
  a51 := Tryd.isAgg150
  z51 := Tryd.sizeOf150
  v51 := Tryd.zeroValue150
  t53 := Tryd.underlying36
  a53 := Tryd.isAgg36
  z53 := Tryd.sizeOf36
  v53 := Tryd.zeroValue36
  t75 := Tryd.underlying116
  a75 := Tryd.isAgg116
  z75 := Tryd.sizeOf116
  v75 := Tryd.zeroValue116
  t76 := Tryd.underlying117
  a76 := Tryd.isAgg117
  z76 := Tryd.sizeOf117
  v76 := Tryd.zeroValue117
  t85 := Tryd.underlying153
  a85 := Tryd.isAgg153
  z85 := Tryd.sizeOf153
  v85 := Tryd.zeroValue153
  t127 := Tryd.underlying141
  a127 := Tryd.isAgg141
  z127 := Tryd.sizeOf141
  v127 := Tryd.zeroValue141
  t143 := Tryd.underlying185
  a143 := Tryd.isAgg185
  z143 := Tryd.sizeOf185
  v143 := Tryd.zeroValue185
  t145 := Tryd.underlying187
  a145 := Tryd.isAgg187
  z145 := Tryd.sizeOf187
  v145 := Tryd.zeroValue187
  t167 := Tryd.underlying152
  a167 := Tryd.isAgg152
  z167 := Tryd.sizeOf152
  v167 := Tryd.zeroValue152
  t168 := Tryd.underlying155
  a168 := Tryd.isAgg155
  z168 := Tryd.sizeOf155
  v168 := Tryd.zeroValue155
  t171 := Tryd.underlying158
  a171 := Tryd.isAgg158
  z171 := Tryd.sizeOf158
  v171 := Tryd.zeroValue158
  t173 := Tryd.underlying160
  a173 := Tryd.isAgg160
  z173 := Tryd.sizeOf160
  v173 := Tryd.zeroValue160
  t175 := Tryd.underlying171
  a175 := Tryd.isAgg171
  z175 := Tryd.sizeOf171
  v175 := Tryd.zeroValue171
  t210 := Tryd.underlying175
  a210 := Tryd.isAgg175
  z210 := Tryd.sizeOf175
  v210 := Tryd.zeroValue175
  t212 := Tryd.underlying178
  a212 := Tryd.isAgg178
  z212 := Tryd.sizeOf178
  v212 := Tryd.zeroValue178
  t213 := Tryd.underlying179
  a213 := Tryd.isAgg179
  z213 := Tryd.sizeOf179
  t232 := Tryd.underlying191
  a232 := Tryd.isAgg191
  z232 := Tryd.sizeOf191
  v232 := Tryd.zeroValue191
  t233 := Tryd.underlying192
  a233 := Tryd.isAgg192
  z233 := Tryd.sizeOf192
  v233 := Tryd.zeroValue192
  g15 := by kernel_rfl
  g16 := by kernel_rfl
  g17 := by kernel_rfl
  g18 := by kernel_rfl
  g19 := by kernel_rfl }
open Go.RowKit in
/-- strconv.Atoi: "Atoi is equivalent to ParseInt(s, 10, 0), converted to type int.": AT A DECIMAL NUMERAL OF AT MOST 18 BYTES: its value, and a nil error. The world behind the call: the one new row that the library's '[]byte(s)' lays. (LAID: no walk: one application.) -/
theorem Tryd.strconv_Atoi (s : ByteArray) (n : Int) (hl : s.size ≤ 18) (h : Lib.atoi s.data.toList = some n) (w : World) :
    Calls Tryd.prog 70 #[.string s] w fun e w' => e = .returned (.tuple #[.int .i64 n, .nilIface]) ∧ ∃ t, w' = Lib.bytesWorld w 5 t := Any.strconv_Atoi Tryd.lays172 s n hl h w
def Tryd.laysM171_ren : Go.Shelf.Ren := ⟨fun | 171 => 43 | 243 => 77 | 246 => 93 | 283 => 115 | 284 => 116 | 285 => 117 | 286 => 118 | 129 => 107 | 317 => 134 | 318 => 135 | 319 => 136 | 320 => 137 | 337 => 143 | 338 => 144 | n => n, fun | 3 => 3 | 9 => 9 | 2 => 2 | 4 => 4 | 171 => 158 | 0 => 0 | 53 => 36 | 37 => 127 | 5 => 5 | 173 => 160 | 212 => 178 | 51 => 150 | 20 => 20 | 213 => 179 | 46 => 57 | 232 => 191 | 233 => 192 | n => n, fun | 17 => 3 | 18 => 4 | 19 => 5 | n => n⟩
theorem Tryd.laysM171 : Go.Proofs.LaysM.n171 Tryd.prog Tryd.laysM171_ren := {
  mixed := by kernel_rfl
  f129 := Tryd.func107.trans (congrArg some (by kernel_rfl))
  f171 := Tryd.func43.trans (congrArg some (by kernel_rfl))
  f243 := Tryd.func77.trans (congrArg some (by kernel_rfl))
  f246 := Tryd.func93.trans (congrArg some (by kernel_rfl))
  f283 := Tryd.func115.trans (congrArg some (by kernel_rfl))
  f284 := Tryd.func116.trans (congrArg some (by kernel_rfl))
  f285 := Tryd.func117.trans (congrArg some (by kernel_rfl))
  f286 := Tryd.func118.trans (congrArg some (by kernel_rfl))
  f317 := Tryd.func134.trans (congrArg some (by kernel_rfl))
  f318 := Tryd.func135.trans (congrArg some (by kernel_rfl))
  f319 := Tryd.func136.trans (congrArg some (by kernel_rfl))
  f320 := Tryd.func137.trans (congrArg some (by kernel_rfl))
  f337 := Tryd.func143.trans (congrArg some (by kernel_rfl))
  f338 := Tryd.func144.trans (congrArg some (by kernel_rfl))
  t0 := Tryd.underlying0
  a0 := Tryd.isAgg0
  z0 := Tryd.sizeOf0
  v0 := Tryd.zeroValue0
  t2 := Tryd.underlying2
  a2 := Tryd.isAgg2
  z2 := Tryd.sizeOf2
  v2 := Tryd.zeroValue2
  t3 := Tryd.underlying3
  a3 := Tryd.isAgg3
  z3 := Tryd.sizeOf3
  v3 := Tryd.zeroValue3
  t4 := Tryd.underlying4
  a4 := Tryd.isAgg4
  z4 := Tryd.sizeOf4
  v4 := Tryd.zeroValue4
  t5 := Tryd.underlying5
  a5 := Tryd.isAgg5
  z5 := Tryd.sizeOf5
  v5 := Tryd.zeroValue5
  t9 := Tryd.underlying9
  a9 := Tryd.isAgg9
  z9 := Tryd.sizeOf9
  v9 := Tryd.zeroValue9
  t20 := Tryd.underlying20
  a20 := Tryd.isAgg20
  z20 := Tryd.sizeOf20
  v20 := Tryd.zeroValue20
  t37 := Tryd.underlying127
  a37 := Tryd.isAgg127
  z37 := Tryd.sizeOf127
  v37 := Tryd.zeroValue127
  t46 := Tryd.underlying57
  a46 := Tryd.isAgg57
  z46 := Tryd.sizeOf57
  v46 := Tryd.zeroValue57
  t51 := Tryd.underlying150
  a51 := Tryd.isAgg150
  z51 := Tryd.sizeOf150
  v51 := Tryd.zeroValue150
  t53 := Tryd.underlying36
  a53 := Tryd.isAgg36
  z53 := Tryd.sizeOf36
  v53 := Tryd.zeroValue36
  t171 := Tryd.underlying158
  a171 := Tryd.isAgg158
  z171 := Tryd.sizeOf158
  v171 := Tryd.zeroValue158
  t173 := Tryd.underlying160
  a173 := Tryd.isAgg160
  z173 := Tryd.sizeOf160
  v173 := Tryd.zeroValue160
  t212 := Tryd.underlying178
  a212 := Tryd.isAgg178
  z212 := Tryd.sizeOf178
  v212 := Tryd.zeroValue178
  t213 := Tryd.underlying179
  a213 := Tryd.isAgg179
  z213 := Tryd.sizeOf179
  t232 := Tryd.underlying191
  a232 := Tryd.isAgg191
  z232 := Tryd.sizeOf191
  v232 := Tryd.zeroValue191
  t233 := Tryd.underlying192
  a233 := Tryd.isAgg192
  z233 := Tryd.sizeOf192
  v233 := Tryd.zeroValue192
  g17 := by kernel_rfl
  g18 := by kernel_rfl
  g19 := by kernel_rfl
  i0 := by kernel_rfl
  i2 := by kernel_rfl
  i3 := by kernel_rfl
  i4 := by kernel_rfl
  i5 := by kernel_rfl
  i9 := by kernel_rfl
  i20 := by kernel_rfl
  i37 := by kernel_rfl
  i46 := by kernel_rfl
  i51 := by kernel_rfl
  i53 := by kernel_rfl
  i171 := by kernel_rfl
  i173 := by kernel_rfl
  i212 := by kernel_rfl
  i232 := by kernel_rfl
  i233 := by kernel_rfl
  m17 := by kernel_rfl
  m18 := by kernel_rfl
  m19 := by kernel_rfl }
open Go.RowKit Go.Sort Go.Lib in
/-- strconv.Itoa: "Itoa is equivalent to FormatInt(int64(i), 10).": i's DECIMAL NUMERAL ('Lib.itoa': a '-' where i is negative, then the digits), FOR EVERY int. The world behind the call: the world before it, new blocks behind the heap (the library's 'var a [24]byte'), draws. (LAID: no walk: one application.) -/
theorem Tryd.strconv_Itoa (n : Int) (h0 : -9223372036854775808 ≤ n) (h1 : n ≤ 9223372036854775807) (w : World) (htab : Lib.TabIs Tryd.prog w "internal/strconv.uint64pow10" .u64 Lib.pow10Tab) :
    Calls Tryd.prog 43 #[.int .i64 n] w fun e w' => e = .returned (.string ⟨(Lib.itoa n).toArray⟩) ∧ ∃ k os, w' = grow (w.drewN k) os := Any.strconv_Itoa Tryd.laysM171 n h0 h1 w htab
def Tryd.lays171_ren : Go.Shelf.Ren := ⟨fun | 171 => 43 | 243 => 77 | 246 => 93 | 283 => 115 | 284 => 116 | 285 => 117 | 286 => 118 | 129 => 107 | 317 => 134 | 318 => 135 | 319 => 136 | 320 => 137 | 337 => 143 | 338 => 144 | n => n, fun | 3 => 3 | 9 => 9 | 2 => 2 | 4 => 4 | 171 => 158 | 0 => 0 | 53 => 36 | 37 => 127 | 5 => 5 | 173 => 160 | 212 => 178 | 51 => 150 | 20 => 20 | 213 => 179 | 46 => 57 | 232 => 191 | 233 => 192 | n => n, fun | 17 => 3 | 18 => 4 | 19 => 5 | n => n⟩
theorem Tryd.lays171 : Go.Proofs.Lays.n171 Tryd.prog Tryd.lays171_ren := {
  mixed := by kernel_rfl
  f129 := Tryd.func107.trans (congrArg some (by kernel_rfl))
  f171 := Tryd.func43.trans (congrArg some (by kernel_rfl))
  f243 := Tryd.func77.trans (congrArg some (by kernel_rfl))
  f246 := Tryd.func93.trans (congrArg some (by kernel_rfl))
  f283 := Tryd.func115.trans (congrArg some (by kernel_rfl))
  f284 := Tryd.func116.trans (congrArg some (by kernel_rfl))
  f285 := Tryd.func117.trans (congrArg some (by kernel_rfl))
  f286 := Tryd.func118.trans (congrArg some (by kernel_rfl))
  f317 := Tryd.func134.trans (congrArg some (by kernel_rfl))
  f318 := Tryd.func135.trans (congrArg some (by kernel_rfl))
  f319 := Tryd.func136.trans (congrArg some (by kernel_rfl))
  f320 := Tryd.func137.trans (congrArg some (by kernel_rfl))
  f337 := Tryd.func143.trans (congrArg some (by kernel_rfl))
  f338 := Tryd.func144.trans (congrArg some (by kernel_rfl))
  t0 := Tryd.underlying0
  a0 := Tryd.isAgg0
  z0 := Tryd.sizeOf0
  v0 := Tryd.zeroValue0
  t2 := Tryd.underlying2
  a2 := Tryd.isAgg2
  z2 := Tryd.sizeOf2
  v2 := Tryd.zeroValue2
  t3 := Tryd.underlying3
  a3 := Tryd.isAgg3
  z3 := Tryd.sizeOf3
  v3 := Tryd.zeroValue3
  t4 := Tryd.underlying4
  a4 := Tryd.isAgg4
  z4 := Tryd.sizeOf4
  v4 := Tryd.zeroValue4
  t5 := Tryd.underlying5
  a5 := Tryd.isAgg5
  z5 := Tryd.sizeOf5
  v5 := Tryd.zeroValue5
  t9 := Tryd.underlying9
  a9 := Tryd.isAgg9
  z9 := Tryd.sizeOf9
  v9 := Tryd.zeroValue9
  t20 := Tryd.underlying20
  a20 := Tryd.isAgg20
  z20 := Tryd.sizeOf20
  v20 := Tryd.zeroValue20
  t37 := Tryd.underlying127
  a37 := Tryd.isAgg127
  z37 := Tryd.sizeOf127
  v37 := Tryd.zeroValue127
  t46 := Tryd.underlying57
  a46 := Tryd.isAgg57
  z46 := Tryd.sizeOf57
  v46 := Tryd.zeroValue57
  t51 := Tryd.underlying150
  a51 := Tryd.isAgg150
  z51 := Tryd.sizeOf150
  v51 := Tryd.zeroValue150
  t53 := Tryd.underlying36
  a53 := Tryd.isAgg36
  z53 := Tryd.sizeOf36
  v53 := Tryd.zeroValue36
  t171 := Tryd.underlying158
  a171 := Tryd.isAgg158
  z171 := Tryd.sizeOf158
  v171 := Tryd.zeroValue158
  t173 := Tryd.underlying160
  a173 := Tryd.isAgg160
  z173 := Tryd.sizeOf160
  v173 := Tryd.zeroValue160
  t212 := Tryd.underlying178
  a212 := Tryd.isAgg178
  z212 := Tryd.sizeOf178
  v212 := Tryd.zeroValue178
  t213 := Tryd.underlying179
  a213 := Tryd.isAgg179
  z213 := Tryd.sizeOf179
  t232 := Tryd.underlying191
  a232 := Tryd.isAgg191
  z232 := Tryd.sizeOf191
  v232 := Tryd.zeroValue191
  t233 := Tryd.underlying192
  a233 := Tryd.isAgg192
  z233 := Tryd.sizeOf192
  v233 := Tryd.zeroValue192
  g17 := by kernel_rfl
  g18 := by kernel_rfl
  g19 := by kernel_rfl }
open Go.RowKit Go.Sort Go.Lib in
/-- THE ROAD WITHOUT THE TABLE: 0 <= i < 100: NO PREMISE ON THE WORLD, AND THE WORLD IS AS IT WAS: a row that keeps its argument in that range need list no table ('laid = []'). (LAID: no walk: one application.) -/
theorem Tryd.strconv_Itoa_small (i : Nat) (hi : i < 100) (w : World) :
    Calls Tryd.prog 43 #[.int .i64 i] w fun e w' => e = .returned (.string ⟨(Lib.decDigits i).toArray⟩) ∧ w' = w := Any.strconv_Itoa_small Tryd.lays171 i hi w
def Tryd.lays219_ren : Go.Shelf.Ren := ⟨fun | 219 => 113 | 217 => 92 | 225 => 131 | 224 => 132 | 267 => 133 | 266 => 114 | 314 => 142 | n => n, fun | 9 => 9 | 3 => 3 | 4 => 4 | 5 => 5 | 46 => 57 | 146 => 188 | 51 => 150 | n => n, fun | 1 => 2 | n => n⟩
theorem Tryd.lays219 : Go.Proofs.Lays.n219 Tryd.prog Tryd.lays219_ren := {
  mixed := by kernel_rfl
  f217 := Tryd.func92.trans (congrArg some (by kernel_rfl))
  f219 := Tryd.func113.trans (congrArg some (by kernel_rfl))
  f224 := Tryd.func132.trans (congrArg some (by kernel_rfl))
  f225 := Tryd.func131.trans (congrArg some (by kernel_rfl))
  f266 := Tryd.func114.trans (congrArg some (by kernel_rfl))
  f267 := Tryd.func133.trans (congrArg some (by kernel_rfl))
  f314 := Tryd.func142.trans (congrArg some (by kernel_rfl))
  t3 := Tryd.underlying3
  a3 := Tryd.isAgg3
  z3 := Tryd.sizeOf3
  v3 := Tryd.zeroValue3
  t4 := Tryd.underlying4
  a4 := Tryd.isAgg4
  z4 := Tryd.sizeOf4
  v4 := Tryd.zeroValue4
  t5 := Tryd.underlying5
  a5 := Tryd.isAgg5
  z5 := Tryd.sizeOf5
  v5 := Tryd.zeroValue5
  t9 := Tryd.underlying9
  a9 := Tryd.isAgg9
  z9 := Tryd.sizeOf9
  v9 := Tryd.zeroValue9
  t46 := Tryd.underlying57
  a46 := Tryd.isAgg57
  z46 := Tryd.sizeOf57
  v46 := Tryd.zeroValue57
  t51 := Tryd.underlying150
  a51 := Tryd.isAgg150
  z51 := Tryd.sizeOf150
  v51 := Tryd.zeroValue150
  t146 := Tryd.underlying188
  a146 := Tryd.isAgg188
  z146 := Tryd.sizeOf188
  v146 := Tryd.zeroValue188
  g1 := by kernel_rfl }
open Go.RowKit Go.Lib in
/-- internal/stringslite.Index (what strings.Index calls) AT A substr OF ONE BYTE c: IT RETURNS 'Lib.indexByte s c'; the world is as it was. (LAID: no walk: one application.) -/
theorem Tryd.stringslite_Index_one (s : ByteArray) (c : UInt8) (w : World) :
    Calls Tryd.prog 113 #[.string s, .string ⟨#[c]⟩] w fun e w' => e = .returned (.int .i64 (Lib.indexByte s.data.toList c)) ∧ w' = w := Any.stringslite_Index_one Tryd.lays219 s c w
def Tryd.lays144_ren : Go.Shelf.Ren := ⟨fun | 144 => 72 | 143 => 90 | 219 => 113 | 217 => 92 | 225 => 131 | 224 => 132 | 267 => 133 | 266 => 114 | 314 => 142 | n => n, fun | 9 => 9 | 4 => 4 | 3 => 3 | 5 => 5 | 46 => 57 | 146 => 188 | 51 => 150 | n => n, fun | 1 => 2 | n => n⟩
theorem Tryd.lays144 : Go.Proofs.Lays.n144 Tryd.prog Tryd.lays144_ren := {
  mixed := by kernel_rfl
  f143 := Tryd.func90.trans (congrArg some (by kernel_rfl))
  f144 := Tryd.func72.trans (congrArg some (by kernel_rfl))
  f217 := Tryd.func92.trans (congrArg some (by kernel_rfl))
  f219 := Tryd.func113.trans (congrArg some (by kernel_rfl))
  f224 := Tryd.func132.trans (congrArg some (by kernel_rfl))
  f225 := Tryd.func131.trans (congrArg some (by kernel_rfl))
  f266 := Tryd.func114.trans (congrArg some (by kernel_rfl))
  f267 := Tryd.func133.trans (congrArg some (by kernel_rfl))
  f314 := Tryd.func142.trans (congrArg some (by kernel_rfl))
  t3 := Tryd.underlying3
  a3 := Tryd.isAgg3
  z3 := Tryd.sizeOf3
  v3 := Tryd.zeroValue3
  t4 := Tryd.underlying4
  a4 := Tryd.isAgg4
  z4 := Tryd.sizeOf4
  v4 := Tryd.zeroValue4
  t5 := Tryd.underlying5
  a5 := Tryd.isAgg5
  z5 := Tryd.sizeOf5
  v5 := Tryd.zeroValue5
  t9 := Tryd.underlying9
  a9 := Tryd.isAgg9
  z9 := Tryd.sizeOf9
  v9 := Tryd.zeroValue9
  t46 := Tryd.underlying57
  a46 := Tryd.isAgg57
  z46 := Tryd.sizeOf57
  v46 := Tryd.zeroValue57
  t51 := Tryd.underlying150
  a51 := Tryd.isAgg150
  z51 := Tryd.sizeOf150
  v51 := Tryd.zeroValue150
  t146 := Tryd.underlying188
  a146 := Tryd.isAgg188
  z146 := Tryd.sizeOf188
  v146 := Tryd.zeroValue188
  g1 := by kernel_rfl }
open Go.RowKit Go.Lib in
/-- strings.Contains: "Contains reports whether substr is within s.": AT A substr OF ONE BYTE c: IT RETURNS 'decide (0 ≤ Lib.indexByte s c)'; the world is as it was. (LAID: no walk: one application.) -/
theorem Tryd.strings_Contains_one (s : ByteArray) (c : UInt8) (w : World) :
    Calls Tryd.prog 72 #[.string s, .string ⟨#[c]⟩] w fun e w' => e = .returned (.bool (decide (0 ≤ Lib.indexByte s.data.toList c))) ∧ w' = w := Any.strings_Contains_one Tryd.lays144 s c w
end Go.Proofs
