/- Layings of the kit's shelf at this seat's functions, in plain declarations (written by the kit's lay-plain, called by shelf.py). -/
import Derived.Shelf.SlicesE.Compact
import Derived.Ground.SlgnProg
import Derived.Test.YtnfnnmmblommiaaProg
namespace Go.Proofs
open Go.Shelf
def Try.compact32_ren : Go.Shelf.Ren := ⟨fun | 43 => 49 | n => n, fun | 22 => 48 | 23 => 21 | 3 => 3 | 4 => 4 | 0 => 0 | n => n, fun | n => n⟩
theorem Try.compact32 : Go.Proofs.SlLaysE.n43 Try.prog Try.compact32_ren := {
  mixed := by kernel_rfl
  f43 := ⟨Try.f49.name, by decide, Try.func49.trans (congrArg some (by kernel_rfl))⟩
  t0 := Try.underlying0
  a0 := Try.isAgg0
  z0 := Try.sizeOf0
  v0 := Try.zeroValue0
  t3 := Try.underlying3
  a3 := Try.isAgg3
  z3 := Try.sizeOf3
  v3 := Try.zeroValue3
  t4 := Try.underlying4
  a4 := Try.isAgg4
  z4 := Try.sizeOf4
  v4 := Try.zeroValue4
  t22 := Try.underlying48
  a22 := Try.isAgg48
  z22 := Try.sizeOf48
  v22 := Try.zeroValue48
  a23 := Try.isAgg21
  z23 := Try.sizeOf21 }
end Go.Proofs
