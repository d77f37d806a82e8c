/-
  DERIVED: THE SHELF's CONTRACTS AT THIS DUMP, IN PLAIN WORDS (tools/lay-plain.mjs out of 'YtpjcfmpfiadkgaaGreatSLib.lean', which tools/lay-shelf.mjs wrote): THE SAME DECLARATIONS UNDER THE SAME NAMES: 'import', 'namespace', 'open', 'def', 'theorem' AND NOTHING ELSE: no command of the shelf's: FOR A HAND-IN. Each laying: the table of numbers ('.._ren') and one theorem, a field a fact of the dump's own or the kernel's comparison; each contract: ONE APPLICATION.
-/
import Derived.Shelf.SlGeneric
import Derived.Shelf.SlSortCmp.WholeK
import Derived.Shelf.SlSortCmp.NoneTotal
import Derived.Ground.SlsfProg
import Derived.Test.YtpjcfmpfiadkgaaGreatProg
namespace Go.Proofs
open Go.Shelf
def Tryz.sortR_ren : Go.Shelf.Ren := ⟨fun | 6 => 22 | 15 => 59 | 14 => 58 | 28 => 85 | 29 => 86 | 20 => 77 | 21 => 78 | 22 => 79 | 23 => 80 | 24 => 81 | 25 => 82 | 26 => 83 | 27 => 84 | 46 => 97 | 47 => 98 | 48 => 99 | 49 => 100 | 50 => 101 | 57 => 104 | n => n, fun | 22 => 47 | 24 => 52 | 25 => 58 | 3 => 3 | 39 => 59 | 0 => 0 | 53 => 98 | 55 => 39 | 4 => 4 | 46 => 92 | 45 => 91 | 50 => 32 | 5 => 5 | 9 => 9 | 66 => 106 | 70 => 110 | 76 => 117 | 77 => 88 | n => n, fun | n => n⟩
theorem Tryz.sortR : Go.Proofs.SlLaysF0.n6 Tryz.prog Tryz.sortR_ren := {
  mixed := by kernel_rfl
  f6 := ⟨Tryz.f22.name, by decide, Tryz.func22.trans (congrArg some (by kernel_rfl))⟩
  f14 := ⟨Tryz.f58.name, by decide, Tryz.func58.trans (congrArg some (by kernel_rfl))⟩
  f15 := Tryz.func59.trans (congrArg some (by kernel_rfl))
  f20 := ⟨Tryz.f77.name, by decide, Tryz.func77.trans (congrArg some (by kernel_rfl))⟩
  f21 := ⟨Tryz.f78.name, by decide, Tryz.func78.trans (congrArg some (by kernel_rfl))⟩
  f22 := ⟨Tryz.f79.name, by decide, Tryz.func79.trans (congrArg some (by kernel_rfl))⟩
  f23 := ⟨Tryz.f80.name, by decide, Tryz.func80.trans (congrArg some (by kernel_rfl))⟩
  f24 := ⟨Tryz.f81.name, by decide, Tryz.func81.trans (congrArg some (by kernel_rfl))⟩
  f25 := ⟨Tryz.f82.name, by decide, Tryz.func82.trans (congrArg some (by kernel_rfl))⟩
  f26 := ⟨Tryz.f83.name, by decide, Tryz.func83.trans (congrArg some (by kernel_rfl))⟩
  f27 := ⟨Tryz.f84.name, by decide, Tryz.func84.trans (congrArg some (by kernel_rfl))⟩
  f28 := Tryz.func85.trans (congrArg some (by kernel_rfl))
  f29 := Tryz.func86.trans (congrArg some (by kernel_rfl))
  f46 := ⟨Tryz.f97.name, by decide, Tryz.func97.trans (congrArg some (by kernel_rfl))⟩
  f47 := Tryz.func98.trans (congrArg some (by kernel_rfl))
  f48 := Tryz.func99.trans (congrArg some (by kernel_rfl))
  f49 := ⟨Tryz.f100.name, by decide, Tryz.func100.trans (congrArg some (by kernel_rfl))⟩
  f50 := ⟨Tryz.f101.name, by decide, Tryz.func101.trans (congrArg some (by kernel_rfl))⟩
  f57 := ⟨Tryz.f104.name, by decide, Tryz.func104.trans (congrArg some (by kernel_rfl))⟩
  t0 := Tryz.underlying0
  a0 := Tryz.isAgg0
  z0 := Tryz.sizeOf0
  v0 := Tryz.zeroValue0
  t3 := Tryz.underlying3
  a3 := Tryz.isAgg3
  z3 := Tryz.sizeOf3
  v3 := Tryz.zeroValue3
  t4 := Tryz.underlying4
  a4 := Tryz.isAgg4
  z4 := Tryz.sizeOf4
  v4 := Tryz.zeroValue4
  t5 := Tryz.underlying5
  a5 := Tryz.isAgg5
  z5 := Tryz.sizeOf5
  v5 := Tryz.zeroValue5
  t9 := Tryz.underlying9
  a9 := Tryz.isAgg9
  z9 := Tryz.sizeOf9
  v9 := Tryz.zeroValue9
  t22 := Tryz.underlying47
  a22 := Tryz.isAgg47
  z22 := Tryz.sizeOf47
  v22 := Tryz.zeroValue47
  t25 := Tryz.underlying58
  a25 := Tryz.isAgg58
  z25 := Tryz.sizeOf58
  v25 := Tryz.zeroValue58
  t39 := Tryz.underlying59
  a39 := Tryz.isAgg59
  z39 := Tryz.sizeOf59
  v39 := Tryz.zeroValue59
  t45 := Tryz.underlying91
  a45 := Tryz.isAgg91
  z45 := Tryz.sizeOf91
  v45 := Tryz.zeroValue91
  t46 := Tryz.underlying92
  a46 := Tryz.isAgg92
  z46 := Tryz.sizeOf92
  v46 := Tryz.zeroValue92
  t50 := Tryz.underlying32
  a50 := Tryz.isAgg32
  z50 := Tryz.sizeOf32
  v50 := Tryz.zeroValue32
  t53 := Tryz.underlying98
  a53 := Tryz.isAgg98
  z53 := Tryz.sizeOf98
  v53 := Tryz.zeroValue98
  t55 := Tryz.underlying39
  a55 := Tryz.isAgg39
  z55 := Tryz.sizeOf39
  v55 := Tryz.zeroValue39
  t66 := Tryz.underlying106
  a66 := Tryz.isAgg106
  z66 := Tryz.sizeOf106
  v66 := Tryz.zeroValue106
  t70 := Tryz.underlying110
  a70 := Tryz.isAgg110
  z70 := Tryz.sizeOf110
  v70 := Tryz.zeroValue110
  t76 := Tryz.underlying117
  a76 := Tryz.isAgg117
  z76 := Tryz.sizeOf117
  v76 := Tryz.zeroValue117
  t77 := Tryz.underlying88
  a77 := Tryz.isAgg88
  z77 := Tryz.sizeOf88
  v77 := Tryz.zeroValue88 }
end Go.Proofs
