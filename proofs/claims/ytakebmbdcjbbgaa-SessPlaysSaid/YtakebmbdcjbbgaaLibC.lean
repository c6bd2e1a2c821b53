/- The library contracts laid at this translation. -/
import Derived.Shelf.SlGeneric
import Derived.Ground.SlgnProg
import Derived.Ground.SlgmProg
import Derived.Shelf.SortM.Plain
import Derived.Shelf.SortM.SortNone
import Derived.Test.YtakebmbdcjbbgaaProg
namespace Go.Proofs
open Go.Shelf
def Try.sort64_ren : Go.Shelf.Ren := ⟨fun | 5 => 55 | 8 => 65 | 7 => 64 | 19 => 79 | 20 => 80 | 10 => 70 | 11 => 71 | 12 => 72 | 13 => 73 | 14 => 74 | 15 => 75 | 16 => 76 | 17 => 77 | 18 => 78 | 30 => 82 | 31 => 83 | 32 => 84 | 33 => 85 | 34 => 86 | 35 => 87 | 40 => 89 | n => n, fun | 23 => 32 | 25 => 2 | 3 => 3 | 32 => 119 | 22 => 32 | 0 => 0 | 44 => 135 | 46 => 111 | 4 => 4 | 36 => 128 | 35 => 127 | 41 => 72 | 5 => 5 | 9 => 9 | 53 => 138 | 57 => 142 | 63 => 145 | 64 => 146 | n => n, fun | n => n⟩
theorem Try.sort64 : Go.Proofs.SlLaysM.n5 Try.prog Try.sort64_ren := {
  mixed := by kernel_rfl
  f5 := ⟨Try.f55.name, by decide, Try.func55.trans (congrArg some (by kernel_rfl))⟩
  f7 := ⟨Try.f64.name, by decide, Try.func64.trans (congrArg some (by kernel_rfl))⟩
  f8 := Try.func65.trans (congrArg some (by kernel_rfl))
  f10 := ⟨Try.f70.name, by decide, Try.func70.trans (congrArg some (by kernel_rfl))⟩
  f11 := ⟨Try.f71.name, by decide, Try.func71.trans (congrArg some (by kernel_rfl))⟩
  f12 := ⟨Try.f72.name, by decide, Try.func72.trans (congrArg some (by kernel_rfl))⟩
  f13 := ⟨Try.f73.name, by decide, Try.func73.trans (congrArg some (by kernel_rfl))⟩
  f14 := ⟨Try.f74.name, by decide, Try.func74.trans (congrArg some (by kernel_rfl))⟩
  f15 := ⟨Try.f75.name, by decide, Try.func75.trans (congrArg some (by kernel_rfl))⟩
  f16 := ⟨Try.f76.name, by decide, Try.func76.trans (congrArg some (by kernel_rfl))⟩
  f17 := ⟨Try.f77.name, by decide, Try.func77.trans (congrArg some (by kernel_rfl))⟩
  f18 := ⟨Try.f78.name, by decide, Try.func78.trans (congrArg some (by kernel_rfl))⟩
  f19 := Try.func79.trans (congrArg some (by kernel_rfl))
  f20 := Try.func80.trans (congrArg some (by kernel_rfl))
  f30 := ⟨Try.f82.name, by decide, Try.func82.trans (congrArg some (by kernel_rfl))⟩
  f31 := Try.func83.trans (congrArg some (by kernel_rfl))
  f32 := Try.func84.trans (congrArg some (by kernel_rfl))
  f33 := ⟨Try.f85.name, by decide, Try.func85.trans (congrArg some (by kernel_rfl))⟩
  f34 := ⟨Try.f86.name, by decide, Try.func86.trans (congrArg some (by kernel_rfl))⟩
  f35 := ⟨Try.f87.name, by decide, Try.func87.trans (congrArg some (by kernel_rfl))⟩
  f40 := ⟨Try.f89.name, by decide, Try.func89.trans (congrArg some (by kernel_rfl))⟩
  t0 := Try.underlying0
  a0 := Try.isAgg0
  z0 := Try.sizeOf0
  v0 := Try.zeroValue0
  t3 := Try.underlying3
  a3 := Try.isAgg3
  z3 := Try.sizeOf3
  v3 := Try.zeroValue3
  t4 := Try.underlying4
  a4 := Try.isAgg4
  z4 := Try.sizeOf4
  v4 := Try.zeroValue4
  t5 := Try.underlying5
  a5 := Try.isAgg5
  z5 := Try.sizeOf5
  v5 := Try.zeroValue5
  t9 := Try.underlying9
  a9 := Try.isAgg9
  z9 := Try.sizeOf9
  v9 := Try.zeroValue9
  t22 := Try.underlying32
  a22 := Try.isAgg32
  z22 := Try.sizeOf32
  v22 := Try.zeroValue32
  t23 := Try.underlying32
  a23 := Try.isAgg32
  z23 := Try.sizeOf32
  v23 := Try.zeroValue32
  t25 := Try.underlying2
  a25 := Try.isAgg2
  z25 := Try.sizeOf2
  v25 := Try.zeroValue2
  t32 := Try.underlying119
  a32 := Try.isAgg119
  z32 := Try.sizeOf119
  v32 := Try.zeroValue119
  t35 := Try.underlying127
  a35 := Try.isAgg127
  z35 := Try.sizeOf127
  v35 := Try.zeroValue127
  t36 := Try.underlying128
  a36 := Try.isAgg128
  z36 := Try.sizeOf128
  v36 := Try.zeroValue128
  t41 := Try.underlying72
  a41 := Try.isAgg72
  z41 := Try.sizeOf72
  v41 := Try.zeroValue72
  t44 := Try.underlying135
  a44 := Try.isAgg135
  z44 := Try.sizeOf135
  v44 := Try.zeroValue135
  t46 := Try.underlying111
  a46 := Try.isAgg111
  z46 := Try.sizeOf111
  v46 := Try.zeroValue111
  t53 := Try.underlying138
  a53 := Try.isAgg138
  z53 := Try.sizeOf138
  v53 := Try.zeroValue138
  t57 := Try.underlying142
  a57 := Try.isAgg142
  z57 := Try.sizeOf142
  v57 := Try.zeroValue142
  t63 := Try.underlying145
  a63 := Try.isAgg145
  z63 := Try.sizeOf145
  v63 := Try.zeroValue145
  t64 := Try.underlying146
  a64 := Try.isAgg146
  z64 := Try.sizeOf146
  v64 := Try.zeroValue146 }
end Go.Proofs
