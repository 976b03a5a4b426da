/- Layings of the kit's shelf at this seat's functions, in plain declarations (written by the kit's lay-plain, called by shelf.py). -/
import Derived.Shelf.SlSortCmp.Xorshift
import Derived.Ground.SlsfProg
import Derived.Test.YtnfnnmmblommiaaProg
namespace Go.Proofs
open Go.Shelf
def Try.xsNext_ren : Go.Shelf.Ren := ⟨fun | 48 => 98 | n => n, fun | 76 => 135 | 55 => 79 | 0 => 0 | 66 => 127 | 39 => 88 | n => n, fun | n => n⟩
theorem Try.xsNext : Go.Proofs.SlLaysF0.n48 Try.prog Try.xsNext_ren := {
  mixed := by kernel_rfl
  f48 := Try.func98.trans (congrArg some (by kernel_rfl))
  t0 := Try.underlying0
  a0 := Try.isAgg0
  z0 := Try.sizeOf0
  v0 := Try.zeroValue0
  t39 := Try.underlying88
  a39 := Try.isAgg88
  z39 := Try.sizeOf88
  v39 := Try.zeroValue88
  t55 := Try.underlying79
  a55 := Try.isAgg79
  z55 := Try.sizeOf79
  v55 := Try.zeroValue79
  t66 := Try.underlying127
  a66 := Try.isAgg127
  z66 := Try.sizeOf127
  v66 := Try.zeroValue127
  t76 := Try.underlying135
  a76 := Try.isAgg135
  z76 := Try.sizeOf135
  v76 := Try.zeroValue135 }
def Try.npow_ren : Go.Shelf.Ren := ⟨fun | 47 => 97 | 15 => 74 | 28 => 86 | 29 => 87 | n => n, fun | 3 => 3 | 39 => 88 | 53 => 120 | 55 => 79 | 4 => 4 | 5 => 5 | 9 => 9 | n => n, fun | n => n⟩
theorem Try.npow : Go.Proofs.SlLaysF0.n47 Try.prog Try.npow_ren := {
  mixed := by kernel_rfl
  f15 := Try.func74.trans (congrArg some (by kernel_rfl))
  f28 := Try.func86.trans (congrArg some (by kernel_rfl))
  f29 := Try.func87.trans (congrArg some (by kernel_rfl))
  f47 := Try.func97.trans (congrArg some (by kernel_rfl))
  t3 := Try.underlying3
  a3 := Try.isAgg3
  z3 := Try.sizeOf3
  v3 := Try.zeroValue3
  t4 := Try.underlying4
  a4 := Try.isAgg4
  z4 := Try.sizeOf4
  v4 := Try.zeroValue4
  t5 := Try.underlying5
  a5 := Try.isAgg5
  z5 := Try.sizeOf5
  v5 := Try.zeroValue5
  t9 := Try.underlying9
  a9 := Try.isAgg9
  z9 := Try.sizeOf9
  v9 := Try.zeroValue9
  t39 := Try.underlying88
  a39 := Try.isAgg88
  z39 := Try.sizeOf88
  v39 := Try.zeroValue88
  t53 := Try.underlying120
  a53 := Try.isAgg120
  z53 := Try.sizeOf120
  v53 := Try.zeroValue120
  t55 := Try.underlying79
  a55 := Try.isAgg79
  z55 := Try.sizeOf79
  v55 := Try.zeroValue79 }
def Try.bLen_ren : Go.Shelf.Ren := ⟨fun | 15 => 74 | 28 => 86 | 29 => 87 | n => n, fun | 39 => 88 | 3 => 3 | 53 => 120 | 55 => 79 | 4 => 4 | 5 => 5 | 9 => 9 | n => n, fun | n => n⟩
theorem Try.bLen : Go.Proofs.SlLaysF0.n15 Try.prog Try.bLen_ren := {
  mixed := by kernel_rfl
  f15 := Try.func74.trans (congrArg some (by kernel_rfl))
  f28 := Try.func86.trans (congrArg some (by kernel_rfl))
  f29 := Try.func87.trans (congrArg some (by kernel_rfl))
  t3 := Try.underlying3
  a3 := Try.isAgg3
  z3 := Try.sizeOf3
  v3 := Try.zeroValue3
  t4 := Try.underlying4
  a4 := Try.isAgg4
  z4 := Try.sizeOf4
  v4 := Try.zeroValue4
  t5 := Try.underlying5
  a5 := Try.isAgg5
  z5 := Try.sizeOf5
  v5 := Try.zeroValue5
  t9 := Try.underlying9
  a9 := Try.isAgg9
  z9 := Try.sizeOf9
  v9 := Try.zeroValue9
  t39 := Try.underlying88
  a39 := Try.isAgg88
  z39 := Try.sizeOf88
  v39 := Try.zeroValue88
  t53 := Try.underlying120
  a53 := Try.isAgg120
  z53 := Try.sizeOf120
  v53 := Try.zeroValue120
  t55 := Try.underlying79
  a55 := Try.isAgg79
  z55 := Try.sizeOf79
  v55 := Try.zeroValue79 }
end Go.Proofs
