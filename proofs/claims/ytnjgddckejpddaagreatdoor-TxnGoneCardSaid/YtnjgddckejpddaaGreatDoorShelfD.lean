/-
  A contract of Go's library, laid at this program: slices.DeleteFunc.
-/
import Derived.Ground.SlgfProg
import Derived.Shelf.SlicesE.DeleteFunc
import Derived.Test.YtnjgddckejpddaaGreatDoorProg
namespace Go.Proofs
open Go.Shelf
def Tryz.del_ren : Go.Shelf.Ren := ⟨fun | 10 => 97 | 6 => 126 | n => n, fun | 22 => 33 | 23 => 9 | 25 => 79 | 3 => 3 | 4 => 4 | 0 => 0 | n => n, fun | n => n⟩
theorem Tryz.del : Go.Proofs.SlLaysH.n10 Tryz.prog Tryz.del_ren := {
  mixed := by kernel_rfl
  f6 := ⟨Tryz.f126.name, by decide, Tryz.func126.trans (congrArg some (by kernel_rfl))⟩
  f10 := ⟨Tryz.f97.name, by decide, Tryz.func97.trans (congrArg some (by kernel_rfl))⟩
  t0 := Tryz.underlying0
  a0 := Tryz.isAgg0
  z0 := Tryz.sizeOf0
  v0 := Tryz.zeroValue0
  t3 := Tryz.underlying3
  a3 := Tryz.isAgg3
  z3 := Tryz.sizeOf3
  v3 := Tryz.zeroValue3
  t4 := Tryz.underlying4
  a4 := Tryz.isAgg4
  z4 := Tryz.sizeOf4
  v4 := Tryz.zeroValue4
  t22 := Tryz.underlying33
  a22 := Tryz.isAgg33
  z22 := Tryz.sizeOf33
  v22 := Tryz.zeroValue33
  a23 := Tryz.isAgg9
  z23 := Tryz.sizeOf9
  t25 := Tryz.underlying79
  a25 := Tryz.isAgg79
  z25 := Tryz.sizeOf79
  v25 := Tryz.zeroValue79 }
end Go.Proofs
