/- The library contracts laid at this translation. -/
import Derived.Ground.Names2Prog
import Derived.Shelf.Spec.SlicesInsert
import Derived.Shelf.Spec.SlicesInsertGrow
import Derived.Test.YtilefofpfbgikaaProg
namespace Go.Proofs
open Go.Shelf
def Try.insI_ren : Go.Shelf.Ren := ⟨fun | 21 => 107 | 27 => 141 | 28 => 142 | 35 => 156 | 39 => 161 | n => n, fun | 22 => 22 | 3 => 3 | 4 => 4 | 0 => 0 | n => n, fun | n => n⟩
theorem Try.insI : Go.Proofs.Lays2.n21 Try.prog Try.insI_ren := {
  mixed := by kernel_rfl
  f21 := Try.func107.trans (congrArg some (by kernel_rfl))
  f27 := Try.func141.trans (congrArg some (by kernel_rfl))
  f28 := Try.func142.trans (congrArg some (by kernel_rfl))
  f35 := Try.func156.trans (congrArg some (by kernel_rfl))
  f39 := Try.func161.trans (congrArg some (by kernel_rfl))
  t0 := Try.underlying0
  a0 := Try.isAgg0
  z0 := Try.sizeOf0
  v0 := Try.zeroValue0
  t3 := Try.underlying3
  a3 := Try.isAgg3
  z3 := Try.sizeOf3
  v3 := Try.zeroValue3
  t4 := Try.underlying4
  a4 := Try.isAgg4
  z4 := Try.sizeOf4
  v4 := Try.zeroValue4
  t22 := Try.underlying22
  a22 := Try.isAgg22
  z22 := Try.sizeOf22
  v22 := Try.zeroValue22
  i3 := by kernel_rfl }
end Go.Proofs
