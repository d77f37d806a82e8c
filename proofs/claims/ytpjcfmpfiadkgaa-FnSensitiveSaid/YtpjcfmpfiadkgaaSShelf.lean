/-
  DERIVED: THE SHELF's CONTRACTS AT THIS DUMP, IN PLAIN WORDS (tools/lay-plain.mjs out of 'TrySrt.lean', which tools/lay-shelf.mjs wrote): THE SAME DECLARATIONS UNDER THE SAME NAMES: 'import', 'namespace', 'open', 'def', 'theorem' AND NOTHING ELSE: no command of the shelf's: FOR A HAND-IN. Each laying: the table of numbers ('.._ren') and one theorem, a field a fact of the dump's own or the kernel's comparison; each contract: ONE APPLICATION.
-/
import Derived.Shelf.Sort.Plain
import Derived.Shelf.Slices.In.SortNone
import Derived.Test.YtpjcfmpfiadkgaaProg
namespace Go.Proofs
open Go.Shelf
def Try.lays189_ren : Go.Shelf.Ren := ⟨fun | 189 => 150 | 125 => 181 | 257 => 180 | 128 => 196 | 129 => 197 | 294 => 187 | 295 => 188 | 296 => 189 | 297 => 190 | 298 => 191 | 299 => 192 | 216 => 193 | 300 => 194 | 301 => 195 | 328 => 200 | 329 => 201 | 330 => 202 | 331 => 203 | 332 => 204 | 215 => 205 | 343 => 208 | n => n, fun | 28 => 28 | 3 => 3 | 46 => 127 | 0 => 0 | 51 => 161 | 53 => 88 | 4 => 4 | 183 => 156 | 182 => 155 | 131 => 47 | 5 => 5 | 9 => 9 | 218 => 164 | 222 => 168 | 228 => 171 | 229 => 107 | n => n, fun | n => n⟩
theorem Try.lays189 : Go.Proofs.Lays.n189 Try.prog Try.lays189_ren := {
  mixed := by kernel_rfl
  f125 := Try.func181.trans (congrArg some (by kernel_rfl))
  f128 := Try.func196.trans (congrArg some (by kernel_rfl))
  f129 := Try.func197.trans (congrArg some (by kernel_rfl))
  f189 := Try.func150.trans (congrArg some (by kernel_rfl))
  f215 := Try.func205.trans (congrArg some (by kernel_rfl))
  f216 := Try.func193.trans (congrArg some (by kernel_rfl))
  f257 := Try.func180.trans (congrArg some (by kernel_rfl))
  f294 := Try.func187.trans (congrArg some (by kernel_rfl))
  f295 := Try.func188.trans (congrArg some (by kernel_rfl))
  f296 := Try.func189.trans (congrArg some (by kernel_rfl))
  f297 := Try.func190.trans (congrArg some (by kernel_rfl))
  f298 := Try.func191.trans (congrArg some (by kernel_rfl))
  f299 := Try.func192.trans (congrArg some (by kernel_rfl))
  f300 := Try.func194.trans (congrArg some (by kernel_rfl))
  f301 := Try.func195.trans (congrArg some (by kernel_rfl))
  f328 := Try.func200.trans (congrArg some (by kernel_rfl))
  f329 := Try.func201.trans (congrArg some (by kernel_rfl))
  f330 := Try.func202.trans (congrArg some (by kernel_rfl))
  f331 := Try.func203.trans (congrArg some (by kernel_rfl))
  f332 := Try.func204.trans (congrArg some (by kernel_rfl))
  f343 := Try.func208.trans (congrArg some (by kernel_rfl))
  t0 := Try.underlying0
  a0 := Try.isAgg0
  z0 := Try.sizeOf0
  v0 := Try.zeroValue0
  t3 := Try.underlying3
  a3 := Try.isAgg3
  z3 := Try.sizeOf3
  v3 := Try.zeroValue3
  t4 := Try.underlying4
  a4 := Try.isAgg4
  z4 := Try.sizeOf4
  v4 := Try.zeroValue4
  t5 := Try.underlying5
  a5 := Try.isAgg5
  z5 := Try.sizeOf5
  v5 := Try.zeroValue5
  t9 := Try.underlying9
  a9 := Try.isAgg9
  z9 := Try.sizeOf9
  v9 := Try.zeroValue9
  t28 := Try.underlying28
  a28 := Try.isAgg28
  z28 := Try.sizeOf28
  v28 := Try.zeroValue28
  t46 := Try.underlying127
  a46 := Try.isAgg127
  z46 := Try.sizeOf127
  v46 := Try.zeroValue127
  t51 := Try.underlying161
  a51 := Try.isAgg161
  z51 := Try.sizeOf161
  v51 := Try.zeroValue161
  t53 := Try.underlying88
  a53 := Try.isAgg88
  z53 := Try.sizeOf88
  v53 := Try.zeroValue88
  t131 := Try.underlying47
  a131 := Try.isAgg47
  z131 := Try.sizeOf47
  v131 := Try.zeroValue47
  t182 := Try.underlying155
  a182 := Try.isAgg155
  z182 := Try.sizeOf155
  v182 := Try.zeroValue155
  t183 := Try.underlying156
  a183 := Try.isAgg156
  z183 := Try.sizeOf156
  v183 := Try.zeroValue156
  t218 := Try.underlying164
  a218 := Try.isAgg164
  z218 := Try.sizeOf164
  v218 := Try.zeroValue164
  t222 := Try.underlying168
  a222 := Try.isAgg168
  z222 := Try.sizeOf168
  v222 := Try.zeroValue168
  t228 := Try.underlying171
  a228 := Try.isAgg171
  z228 := Try.sizeOf171
  v228 := Try.zeroValue171
  t229 := Try.underlying107
  a229 := Try.isAgg107
  z229 := Try.sizeOf107
  v229 := Try.zeroValue107 }
open Go.Sort Go.RowKit in
theorem Try.slices_Sort_int (blk off cap : Nat) (zs : List Int) (w : World) (hH : Holds (Value.int .i64) w blk off zs.toArray) (hblk : blk < w.heap.size) (hsz : zs.length < 4611686018427387904) :
    Calls Try.prog 150 #[.slice (some ⟨blk, off, none⟩) zs.length cap] w fun e w' =>
      e = .returned (.tuple #[]) ∧ ∃ n os, w' = grow (putRow (Value.int .i64) (Sort.ahead w n) blk off (zs.mergeSort fun x y => decide (x ≤ y)).toArray) os := Any.slices_Sort_int Try.lays189 blk off cap zs w hH hblk hsz
open Go.RowKit Go.Sort in
/-- .. and plain. (LAID: no walk: one application.) -/
theorem Try.slices_Sort_int_none (p : Option Addr) (cap : Nat) (w : World) :
    Calls Try.prog 150 #[.slice p 0 cap] w fun e w' => e = .returned (.tuple #[]) ∧ w' = w := Any.slices_Sort_int_none Try.lays189 p cap w
end Go.Proofs
