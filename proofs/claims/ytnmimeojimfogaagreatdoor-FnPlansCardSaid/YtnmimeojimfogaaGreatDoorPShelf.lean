/-
  DERIVED: THE SHELF's CONTRACTS AT THIS DUMP, IN PLAIN WORDS (tools/lay-plain.mjs out of 'YtnmimeojimfogaaGreatDoorTLib.lean', which tools/lay-shelf.mjs wrote): THE SAME DECLARATIONS UNDER THE SAME NAMES: 'import', 'namespace', 'open', 'def', 'theorem' AND NOTHING ELSE: no command of the shelf's: FOR A HAND-IN. Each laying: the table of numbers ('.._ren') and one theorem, a field a fact of the dump's own or the kernel's comparison; each contract: ONE APPLICATION.
-/
import Derived.Shelf.Strconv.Itoa3
import Derived.Shelf.Strings.Cut
import Derived.Shelf.Strings.OnBuilder
import Derived.Shelf.Strings.Search3
import Derived.Shelf.Strings.Split
import Derived.Test.YtnmimeojimfogaaGreatDoorProg
namespace Go.Proofs
open Go.Shelf
def Tryz.lays156_ren : Go.Shelf.Ren := ⟨fun | 156 => 68 | 165 => 112 | 166 => 113 | 169 => 114 | 240 => 137 | 241 => 138 | 276 => 153 | 277 => 154 | n => n, fun | 31 => 80 | 9 => 9 | 3 => 3 | 4 => 4 | 0 => 0 | 20 => 20 | 72 => 131 | 76 => 135 | 70 => 129 | 37 => 22 | 75 => 134 | 127 => 156 | 164 => 168 | 5 => 5 | 80 => 107 | n => n, fun | n => n⟩
theorem Tryz.lays156 : Go.Proofs.Lays.n156 Tryz.prog Tryz.lays156_ren := {
  mixed := by kernel_rfl
  f156 := Tryz.func68.trans (congrArg some (by kernel_rfl))
  f165 := Tryz.func112.trans (congrArg some (by kernel_rfl))
  f166 := Tryz.func113.trans (congrArg some (by kernel_rfl))
  f169 := Tryz.func114.trans (congrArg some (by kernel_rfl))
  f240 := Tryz.func137.trans (congrArg some (by kernel_rfl))
  f241 := Tryz.func138.trans (congrArg some (by kernel_rfl))
  f276 := Tryz.func153.trans (congrArg some (by kernel_rfl))
  f277 := Tryz.func154.trans (congrArg some (by kernel_rfl))
  t0 := Tryz.underlying0
  a0 := Tryz.isAgg0
  z0 := Tryz.sizeOf0
  v0 := Tryz.zeroValue0
  t3 := Tryz.underlying3
  a3 := Tryz.isAgg3
  z3 := Tryz.sizeOf3
  v3 := Tryz.zeroValue3
  t4 := Tryz.underlying4
  a4 := Tryz.isAgg4
  z4 := Tryz.sizeOf4
  v4 := Tryz.zeroValue4
  t9 := Tryz.underlying9
  a9 := Tryz.isAgg9
  z9 := Tryz.sizeOf9
  v9 := Tryz.zeroValue9
  t20 := Tryz.underlying20
  a20 := Tryz.isAgg20
  z20 := Tryz.sizeOf20
  v20 := Tryz.zeroValue20
  t31 := Tryz.underlying80
  a31 := Tryz.isAgg80
  z31 := Tryz.sizeOf80
  v31 := Tryz.zeroValue80
  t37 := Tryz.underlying22
  a37 := Tryz.isAgg22
  z37 := Tryz.sizeOf22
  v37 := Tryz.zeroValue22
  t70 := Tryz.underlying129
  a70 := Tryz.isAgg129
  z70 := Tryz.sizeOf129
  v70 := Tryz.zeroValue129
  t72 := Tryz.underlying131
  a72 := Tryz.isAgg131
  z72 := Tryz.sizeOf131
  v72 := Tryz.zeroValue131
  t75 := Tryz.underlying134
  a75 := Tryz.isAgg134
  z75 := Tryz.sizeOf134
  v75 := Tryz.zeroValue134
  t76 := Tryz.underlying135
  a76 := Tryz.isAgg135
  z76 := Tryz.sizeOf135
  v76 := Tryz.zeroValue135
  t127 := Tryz.underlying156
  a127 := Tryz.isAgg156
  z127 := Tryz.sizeOf156
  v127 := Tryz.zeroValue156
  t164 := Tryz.underlying168
  a164 := Tryz.isAgg168
  z164 := Tryz.sizeOf168
  v164 := Tryz.zeroValue168 }
theorem Tryz.Builder_Extra_156 : Builder.Extra Tryz.prog Tryz.lays156_ren := {
  sizeBuilder := by kernel_rfl
  liesBuilder := by kernel_rfl
  t5 := Tryz.underlying5
  a5 := Tryz.isAgg5
  z5 := Tryz.sizeOf5
  v5 := Tryz.zeroValue5
  infoByte := by kernel_rfl
  cellsByte := by kernel_rfl
  sizeByte := by kernel_rfl
  neB5 := by decide }
open Go.RowKit in
/-- No element: the empty string; the world is as it was. (Whatever the slice's address and capacity: a nil slice too.) (LAID: no walk: one application.) -/
theorem Tryz.strings_Join_none (a : Option Addr) (c : Nat) (sep : ByteArray) (w : World) :
    Calls Tryz.prog 68 #[.slice a 0 c, .string sep] w fun e w' => e = .returned (.string ⟨#[]⟩) ∧ w' = w := Any.strings_Join_none Tryz.lays156 Tryz.Builder_Extra_156 a c sep w
open Go.RowKit in
/-- strings.Join: "Join concatenates the elements of its first argument to create a single string. The separator string sep is placed between elements in the resulting string.": HOWEVER MANY ELEMENTS. Below the heap's end the world is as it was. (LAID: no walk: one application.) -/
theorem Tryz.strings_Join (bk o c : Nat) (xs : List ByteArray) (sep : ByteArray) (w : World) (hcells : ∀ (j : Nat) x, xs[j]? = some x → w.cell? ⟨bk, o + j, none⟩ = some (.string x)) (hbk : bk < w.heap.size) (hN : xs.length ≤ 140737488355328) (hcap : xs.length ≤ c) (hlen : (Lib.join (xs.map (·.data.toList)) sep.data.toList).length ≤ 140737488355328) :
    Calls Tryz.prog 68 #[.slice (some ⟨bk, o, none⟩) xs.length c, .string sep] w fun e w' => e = .returned (.string ⟨(Lib.join (xs.map (·.data.toList)) sep.data.toList).toArray⟩) ∧ Below w.heap.size w w' := Any.strings_Join Tryz.lays156 Tryz.Builder_Extra_156 bk o c xs sep w hcells hbk hN hcap hlen
def Tryz.laysM171_ren : Go.Shelf.Ren := ⟨fun | 171 => 67 | 243 => 111 | 246 => 136 | 283 => 149 | 284 => 150 | 285 => 151 | 286 => 152 | 129 => 161 | 317 => 160 | 318 => 162 | 319 => 163 | 320 => 164 | 337 => 165 | 338 => 166 | n => n, fun | 3 => 3 | 9 => 9 | 2 => 2 | 4 => 4 | 171 => 163 | 0 => 0 | 53 => 57 | 37 => 22 | 5 => 5 | 173 => 166 | 212 => 175 | 51 => 171 | 20 => 20 | 213 => 176 | 46 => 137 | 232 => 183 | 233 => 184 | n => n, fun | 17 => 1 | 18 => 4 | 19 => 5 | n => n⟩
theorem Tryz.laysM171 : Go.Proofs.LaysM.n171 Tryz.prog Tryz.laysM171_ren := {
  mixed := by kernel_rfl
  f129 := Tryz.func161.trans (congrArg some (by kernel_rfl))
  f171 := Tryz.func67.trans (congrArg some (by kernel_rfl))
  f243 := Tryz.func111.trans (congrArg some (by kernel_rfl))
  f246 := Tryz.func136.trans (congrArg some (by kernel_rfl))
  f283 := Tryz.func149.trans (congrArg some (by kernel_rfl))
  f284 := Tryz.func150.trans (congrArg some (by kernel_rfl))
  f285 := Tryz.func151.trans (congrArg some (by kernel_rfl))
  f286 := Tryz.func152.trans (congrArg some (by kernel_rfl))
  f317 := Tryz.func160.trans (congrArg some (by kernel_rfl))
  f318 := Tryz.func162.trans (congrArg some (by kernel_rfl))
  f319 := Tryz.func163.trans (congrArg some (by kernel_rfl))
  f320 := Tryz.func164.trans (congrArg some (by kernel_rfl))
  f337 := Tryz.func165.trans (congrArg some (by kernel_rfl))
  f338 := Tryz.func166.trans (congrArg some (by kernel_rfl))
  t0 := Tryz.underlying0
  a0 := Tryz.isAgg0
  z0 := Tryz.sizeOf0
  v0 := Tryz.zeroValue0
  t2 := Tryz.underlying2
  a2 := Tryz.isAgg2
  z2 := Tryz.sizeOf2
  v2 := Tryz.zeroValue2
  t3 := Tryz.underlying3
  a3 := Tryz.isAgg3
  z3 := Tryz.sizeOf3
  v3 := Tryz.zeroValue3
  t4 := Tryz.underlying4
  a4 := Tryz.isAgg4
  z4 := Tryz.sizeOf4
  v4 := Tryz.zeroValue4
  t5 := Tryz.underlying5
  a5 := Tryz.isAgg5
  z5 := Tryz.sizeOf5
  v5 := Tryz.zeroValue5
  t9 := Tryz.underlying9
  a9 := Tryz.isAgg9
  z9 := Tryz.sizeOf9
  v9 := Tryz.zeroValue9
  t20 := Tryz.underlying20
  a20 := Tryz.isAgg20
  z20 := Tryz.sizeOf20
  v20 := Tryz.zeroValue20
  t37 := Tryz.underlying22
  a37 := Tryz.isAgg22
  z37 := Tryz.sizeOf22
  v37 := Tryz.zeroValue22
  t46 := Tryz.underlying137
  a46 := Tryz.isAgg137
  z46 := Tryz.sizeOf137
  v46 := Tryz.zeroValue137
  t51 := Tryz.underlying171
  a51 := Tryz.isAgg171
  z51 := Tryz.sizeOf171
  v51 := Tryz.zeroValue171
  t53 := Tryz.underlying57
  a53 := Tryz.isAgg57
  z53 := Tryz.sizeOf57
  v53 := Tryz.zeroValue57
  t171 := Tryz.underlying163
  a171 := Tryz.isAgg163
  z171 := Tryz.sizeOf163
  v171 := Tryz.zeroValue163
  t173 := Tryz.underlying166
  a173 := Tryz.isAgg166
  z173 := Tryz.sizeOf166
  v173 := Tryz.zeroValue166
  t212 := Tryz.underlying175
  a212 := Tryz.isAgg175
  z212 := Tryz.sizeOf175
  v212 := Tryz.zeroValue175
  t213 := Tryz.underlying176
  a213 := Tryz.isAgg176
  z213 := Tryz.sizeOf176
  t232 := Tryz.underlying183
  a232 := Tryz.isAgg183
  z232 := Tryz.sizeOf183
  v232 := Tryz.zeroValue183
  t233 := Tryz.underlying184
  a233 := Tryz.isAgg184
  z233 := Tryz.sizeOf184
  v233 := Tryz.zeroValue184
  g17 := by kernel_rfl
  g18 := by kernel_rfl
  g19 := by kernel_rfl
  i0 := by kernel_rfl
  i2 := by kernel_rfl
  i3 := by kernel_rfl
  i4 := by kernel_rfl
  i5 := by kernel_rfl
  i9 := by kernel_rfl
  i20 := by kernel_rfl
  i37 := by kernel_rfl
  i46 := by kernel_rfl
  i51 := by kernel_rfl
  i53 := by kernel_rfl
  i171 := by kernel_rfl
  i173 := by kernel_rfl
  i212 := by kernel_rfl
  i232 := by kernel_rfl
  i233 := by kernel_rfl
  m17 := by kernel_rfl
  m18 := by kernel_rfl
  m19 := by kernel_rfl }
open Go.RowKit Go.Sort Go.Lib in
/-- strconv.Itoa: "Itoa is equivalent to FormatInt(int64(i), 10).": i's DECIMAL NUMERAL ('Lib.itoa': a '-' where i is negative, then the digits), FOR EVERY int. The world behind the call: the world before it, new blocks behind the heap (the library's 'var a [24]byte'), draws. (LAID: no walk: one application.) -/
theorem Tryz.strconv_Itoa (n : Int) (h0 : -9223372036854775808 ≤ n) (h1 : n ≤ 9223372036854775807) (w : World) (htab : Lib.TabIs Tryz.prog w "internal/strconv.uint64pow10" .u64 Lib.pow10Tab) :
    Calls Tryz.prog 67 #[.int .i64 n] w fun e w' => e = .returned (.string ⟨(Lib.itoa n).toArray⟩) ∧ ∃ k os, w' = grow (w.drewN k) os := Any.strconv_Itoa Tryz.laysM171 n h0 h1 w htab
def Tryz.lays143_ren : Go.Shelf.Ren := ⟨fun | 143 => 141 | 219 => 130 | 217 => 145 | 225 => 146 | 224 => 147 | 267 => 148 | 266 => 158 | 314 => 159 | n => n, fun | 9 => 9 | 3 => 3 | 4 => 4 | 5 => 5 | 46 => 137 | 146 => 172 | 51 => 171 | n => n, fun | 1 => 0 | n => n⟩
theorem Tryz.lays143 : Go.Proofs.Lays.n143 Tryz.prog Tryz.lays143_ren := {
  mixed := by kernel_rfl
  f143 := Tryz.func141.trans (congrArg some (by kernel_rfl))
  f217 := Tryz.func145.trans (congrArg some (by kernel_rfl))
  f219 := Tryz.func130.trans (congrArg some (by kernel_rfl))
  f224 := Tryz.func147.trans (congrArg some (by kernel_rfl))
  f225 := Tryz.func146.trans (congrArg some (by kernel_rfl))
  f266 := Tryz.func158.trans (congrArg some (by kernel_rfl))
  f267 := Tryz.func148.trans (congrArg some (by kernel_rfl))
  f314 := Tryz.func159.trans (congrArg some (by kernel_rfl))
  t3 := Tryz.underlying3
  a3 := Tryz.isAgg3
  z3 := Tryz.sizeOf3
  v3 := Tryz.zeroValue3
  t4 := Tryz.underlying4
  a4 := Tryz.isAgg4
  z4 := Tryz.sizeOf4
  v4 := Tryz.zeroValue4
  t5 := Tryz.underlying5
  a5 := Tryz.isAgg5
  z5 := Tryz.sizeOf5
  v5 := Tryz.zeroValue5
  t9 := Tryz.underlying9
  a9 := Tryz.isAgg9
  z9 := Tryz.sizeOf9
  v9 := Tryz.zeroValue9
  t46 := Tryz.underlying137
  a46 := Tryz.isAgg137
  z46 := Tryz.sizeOf137
  v46 := Tryz.zeroValue137
  t51 := Tryz.underlying171
  a51 := Tryz.isAgg171
  z51 := Tryz.sizeOf171
  v51 := Tryz.zeroValue171
  t146 := Tryz.underlying172
  a146 := Tryz.isAgg172
  z146 := Tryz.sizeOf172
  v146 := Tryz.zeroValue172
  g1 := by kernel_rfl }
open Go.RowKit Go.Lib in
/-- strings.Index: "Index returns the index of the first instance of substr in s, or -1 if substr is not present in s.": AT A substr OF ONE BYTE c: IT RETURNS 'Lib.indexByte s c'; the world is as it was. (LAID: no walk: one application.) -/
theorem Tryz.strings_Index_one (s : ByteArray) (c : UInt8) (w : World) :
    Calls Tryz.prog 141 #[.string s, .string ⟨#[c]⟩] w fun e w' => e = .returned (.int .i64 (Lib.indexByte s.data.toList c)) ∧ w' = w := Any.strings_Index_one Tryz.lays143 s c w
def Tryz.lays145_ren : Go.Shelf.Ren := ⟨fun | 145 => 52 | 220 => 96 | 219 => 130 | 217 => 145 | 225 => 146 | 224 => 147 | 267 => 148 | 266 => 158 | 314 => 159 | n => n, fun | 9 => 9 | 4 => 4 | 59 => 78 | 3 => 3 | 5 => 5 | 46 => 137 | 146 => 172 | 51 => 171 | n => n, fun | 1 => 0 | n => n⟩
theorem Tryz.lays145 : Go.Proofs.Lays.n145 Tryz.prog Tryz.lays145_ren := {
  mixed := by kernel_rfl
  f145 := Tryz.func52.trans (congrArg some (by kernel_rfl))
  f217 := Tryz.func145.trans (congrArg some (by kernel_rfl))
  f219 := Tryz.func130.trans (congrArg some (by kernel_rfl))
  f220 := Tryz.func96.trans (congrArg some (by kernel_rfl))
  f224 := Tryz.func147.trans (congrArg some (by kernel_rfl))
  f225 := Tryz.func146.trans (congrArg some (by kernel_rfl))
  f266 := Tryz.func158.trans (congrArg some (by kernel_rfl))
  f267 := Tryz.func148.trans (congrArg some (by kernel_rfl))
  f314 := Tryz.func159.trans (congrArg some (by kernel_rfl))
  t3 := Tryz.underlying3
  a3 := Tryz.isAgg3
  z3 := Tryz.sizeOf3
  v3 := Tryz.zeroValue3
  t4 := Tryz.underlying4
  a4 := Tryz.isAgg4
  z4 := Tryz.sizeOf4
  v4 := Tryz.zeroValue4
  t5 := Tryz.underlying5
  a5 := Tryz.isAgg5
  z5 := Tryz.sizeOf5
  v5 := Tryz.zeroValue5
  t9 := Tryz.underlying9
  a9 := Tryz.isAgg9
  z9 := Tryz.sizeOf9
  v9 := Tryz.zeroValue9
  t46 := Tryz.underlying137
  a46 := Tryz.isAgg137
  z46 := Tryz.sizeOf137
  v46 := Tryz.zeroValue137
  t51 := Tryz.underlying171
  a51 := Tryz.isAgg171
  z51 := Tryz.sizeOf171
  v51 := Tryz.zeroValue171
  t59 := Tryz.underlying78
  a59 := Tryz.isAgg78
  z59 := Tryz.sizeOf78
  v59 := Tryz.zeroValue78
  t146 := Tryz.underlying172
  a146 := Tryz.isAgg172
  z146 := Tryz.sizeOf172
  v146 := Tryz.zeroValue172
  g1 := by kernel_rfl }
open Go.RowKit Go.Lib in
/-- strings.Cut: "Cut slices s around the first instance of sep, returning the text before and after sep. The found result reports whether sep appears in s. If sep does not appear in s, cut returns s, "", false.": IT RETURNS 'Lib.cut s sep'; the world is as it was but for the count of draws. (LAID: no walk: one application.) -/
theorem Tryz.strings_Cut (s sep : ByteArray) (m : Int) (w : World) (hs : s.size < 4294967281) (hm : w.cell? ⟨0, 0, none⟩ = some (.int .i64 m)) :
    Calls Tryz.prog 52 #[.string s, .string sep] w fun e w' => e = .returned (.tuple #[.string ⟨(Lib.cut s.data.toList sep.data.toList).1.toArray⟩, .string ⟨(Lib.cut s.data.toList sep.data.toList).2.1.toArray⟩, .bool (Lib.cut s.data.toList sep.data.toList).2.2]) ∧ ∃ n, w' = w.drewN n := Any.strings_Cut Tryz.lays145 s sep m w hs hm
def Tryz.lays146_ren : Go.Shelf.Ren := ⟨fun | 146 => 81 | 221 => 120 | 268 => 139 | 138 => 140 | 143 => 141 | 195 => 155 | 197 => 144 | 218 => 156 | 219 => 130 | 260 => 157 | 217 => 145 | 225 => 146 | 224 => 147 | 267 => 148 | 266 => 158 | 314 => 159 | n => n, fun | 9 => 9 | 31 => 80 | 3 => 3 | 4 => 4 | 0 => 0 | 105 => 160 | 21 => 21 | 5 => 5 | 46 => 137 | 119 => 178 | 139 => 181 | 138 => 180 | 146 => 172 | 51 => 171 | n => n, fun | 1 => 0 | 3 => 2 | 4 => 3 | n => n⟩
theorem Tryz.lays146 : Go.Proofs.Lays.n146 Tryz.prog Tryz.lays146_ren := {
  mixed := by kernel_rfl
  f138 := Tryz.func140.trans (congrArg some (by kernel_rfl))
  f143 := Tryz.func141.trans (congrArg some (by kernel_rfl))
  f146 := Tryz.func81.trans (congrArg some (by kernel_rfl))
  f195 := Tryz.func155.trans (congrArg some (by kernel_rfl))
  f197 := Tryz.func144.trans (congrArg some (by kernel_rfl))
  f217 := Tryz.func145.trans (congrArg some (by kernel_rfl))
  f218 := Tryz.func156.trans (congrArg some (by kernel_rfl))
  f219 := Tryz.func130.trans (congrArg some (by kernel_rfl))
  f221 := Tryz.func120.trans (congrArg some (by kernel_rfl))
  f224 := Tryz.func147.trans (congrArg some (by kernel_rfl))
  f225 := Tryz.func146.trans (congrArg some (by kernel_rfl))
  f260 := Tryz.func157.trans (congrArg some (by kernel_rfl))
  f266 := Tryz.func158.trans (congrArg some (by kernel_rfl))
  f267 := Tryz.func148.trans (congrArg some (by kernel_rfl))
  f268 := Tryz.func139.trans (congrArg some (by kernel_rfl))
  f314 := Tryz.func159.trans (congrArg some (by kernel_rfl))
  t0 := Tryz.underlying0
  a0 := Tryz.isAgg0
  z0 := Tryz.sizeOf0
  v0 := Tryz.zeroValue0
  t3 := Tryz.underlying3
  a3 := Tryz.isAgg3
  z3 := Tryz.sizeOf3
  v3 := Tryz.zeroValue3
  t4 := Tryz.underlying4
  a4 := Tryz.isAgg4
  z4 := Tryz.sizeOf4
  v4 := Tryz.zeroValue4
  t5 := Tryz.underlying5
  a5 := Tryz.isAgg5
  z5 := Tryz.sizeOf5
  v5 := Tryz.zeroValue5
  t9 := Tryz.underlying9
  a9 := Tryz.isAgg9
  z9 := Tryz.sizeOf9
  v9 := Tryz.zeroValue9
  t21 := Tryz.underlying21
  a21 := Tryz.isAgg21
  z21 := Tryz.sizeOf21
  v21 := Tryz.zeroValue21
  t31 := Tryz.underlying80
  a31 := Tryz.isAgg80
  z31 := Tryz.sizeOf80
  v31 := Tryz.zeroValue80
  t46 := Tryz.underlying137
  a46 := Tryz.isAgg137
  z46 := Tryz.sizeOf137
  v46 := Tryz.zeroValue137
  t51 := Tryz.underlying171
  a51 := Tryz.isAgg171
  z51 := Tryz.sizeOf171
  v51 := Tryz.zeroValue171
  t105 := Tryz.underlying160
  a105 := Tryz.isAgg160
  z105 := Tryz.sizeOf160
  v105 := Tryz.zeroValue160
  t119 := Tryz.underlying178
  a119 := Tryz.isAgg178
  z119 := Tryz.sizeOf178
  t138 := Tryz.underlying180
  a138 := Tryz.isAgg180
  z138 := Tryz.sizeOf180
  v138 := Tryz.zeroValue180
  t139 := Tryz.underlying181
  a139 := Tryz.isAgg181
  z139 := Tryz.sizeOf181
  v139 := Tryz.zeroValue181
  t146 := Tryz.underlying172
  a146 := Tryz.isAgg172
  z146 := Tryz.sizeOf172
  v146 := Tryz.zeroValue172
  g1 := by kernel_rfl
  g3 := by kernel_rfl
  g4 := by kernel_rfl }
open Go.RowKit Go.Lib in
/-- strings.Split. (LAID: no walk: one application.) -/
theorem Tryz.strings_Split (s sep : ByteArray) (m : Int) (w : World) (hs : s.size < 4294967281) (hm : w.cell? ⟨0, 0, none⟩ = some (.int .i64 m)) (h1 : 1 ≤ sep.size) :
    Calls Tryz.prog 81 #[.string s, .string sep] w fun e w' =>
      e = .returned (.slice (some ⟨w.heap.size, 0, none⟩) (Lib.countB s sep + 1) (Lib.countB s sep + 1)) ∧ w' = w.alloc (.cells ((Lib.splitB sep 0 (Lib.countB s sep) s).map Value.string).toArray 9) := Any.strings_Split Tryz.lays146 (by kernel_rfl) s sep m w hs hm h1
end Go.Proofs
