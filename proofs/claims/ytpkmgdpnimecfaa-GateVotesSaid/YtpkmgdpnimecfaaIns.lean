/- slices.Insert at []int: the kit's contracts laid at this program by the kit's tool. -/
import Derived.Shelf.Lays2
import Derived.Shelf.Spec.SlicesInsertGrow
import Derived.Test.YtpkmgdpnimecfaaProg
namespace Go.Proofs
open Go.Shelf
def Try.laysIns_ren : Go.Shelf.Ren := ⟨fun | 21 => 80 | 27 => 93 | 28 => 94 | 35 => 104 | 39 => 107 | n => n, fun | 22 => 64 | 3 => 3 | 4 => 4 | 0 => 0 | n => n, fun | n => n⟩
theorem Try.laysIns : Go.Proofs.Lays2.n21 Try.prog Try.laysIns_ren := {
  mixed := by kernel_rfl
  f21 := Try.func80.trans (congrArg some (by kernel_rfl))
  f27 := Try.func93.trans (congrArg some (by kernel_rfl))
  f28 := Try.func94.trans (congrArg some (by kernel_rfl))
  f35 := Try.func104.trans (congrArg some (by kernel_rfl))
  f39 := Try.func107.trans (congrArg some (by kernel_rfl))
  t0 := Try.underlying0
  a0 := Try.isAgg0
  z0 := Try.sizeOf0
  v0 := Try.zeroValue0
  t3 := Try.underlying3
  a3 := Try.isAgg3
  z3 := Try.sizeOf3
  v3 := Try.zeroValue3
  t4 := Try.underlying4
  a4 := Try.isAgg4
  z4 := Try.sizeOf4
  v4 := Try.zeroValue4
  t22 := Try.underlying64
  a22 := Try.isAgg64
  z22 := Try.sizeOf64
  v22 := Try.zeroValue64
  i3 := by kernel_rfl }
end Go.Proofs
