/- slices.Insert at []int: the kit's contracts laid at this program by the kit's tool. -/
import Derived.Shelf.Lays2
import Derived.Shelf.Spec.SlicesInsertGrow
import Derived.Test.YtbbcicengfmhiaaDoorProg
namespace Go.Proofs
open Go.Shelf
def Tryd.laysIns_ren : Go.Shelf.Ren := ⟨fun | 21 => 123 | 27 => 147 | 28 => 148 | 35 => 168 | 39 => 188 | n => n, fun | 22 => 37 | 3 => 3 | 4 => 4 | 0 => 0 | n => n, fun | n => n⟩
theorem Tryd.laysIns : Go.Proofs.Lays2.n21 Tryd.prog Tryd.laysIns_ren := {
  mixed := by kernel_rfl
  f21 := Tryd.func123.trans (congrArg some (by kernel_rfl))
  f27 := Tryd.func147.trans (congrArg some (by kernel_rfl))
  f28 := Tryd.func148.trans (congrArg some (by kernel_rfl))
  f35 := Tryd.func168.trans (congrArg some (by kernel_rfl))
  f39 := Tryd.func188.trans (congrArg some (by kernel_rfl))
  t0 := Tryd.underlying0
  a0 := Tryd.isAgg0
  z0 := Tryd.sizeOf0
  v0 := Tryd.zeroValue0
  t3 := Tryd.underlying3
  a3 := Tryd.isAgg3
  z3 := Tryd.sizeOf3
  v3 := Tryd.zeroValue3
  t4 := Tryd.underlying4
  a4 := Tryd.isAgg4
  z4 := Tryd.sizeOf4
  v4 := Tryd.zeroValue4
  t22 := Tryd.underlying37
  a22 := Tryd.isAgg37
  z22 := Tryd.sizeOf37
  v22 := Tryd.zeroValue37
  i3 := by kernel_rfl }
end Go.Proofs
