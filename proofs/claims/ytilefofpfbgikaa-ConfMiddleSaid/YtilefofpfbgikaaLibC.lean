/- The library contracts laid at this translation. -/
import Derived.Shelf.SlGeneric
import Derived.Ground.SlgnProg
import Derived.Ground.SlgmProg
import Derived.Shelf.SortM.Plain
import Derived.Shelf.SortM.SortNone
import Derived.Test.YtilefofpfbgikaaProg
namespace Go.Proofs
open Go.Shelf
def Try.sort64_ren : Go.Shelf.Ren := ⟨fun | 5 => 56 | 8 => 97 | 7 => 96 | 19 => 126 | 20 => 127 | 10 => 117 | 11 => 118 | 12 => 119 | 13 => 120 | 14 => 121 | 15 => 122 | 16 => 123 | 17 => 124 | 18 => 125 | 30 => 145 | 31 => 146 | 32 => 147 | 33 => 148 | 34 => 149 | 35 => 150 | 40 => 158 | n => n, fun | 23 => 25 | 25 => 2 | 3 => 3 | 32 => 147 | 22 => 25 | 0 => 0 | 44 => 175 | 46 => 148 | 4 => 4 | 36 => 168 | 35 => 167 | 41 => 125 | 5 => 5 | 9 => 9 | 53 => 187 | 57 => 191 | 63 => 197 | 64 => 198 | n => n, fun | n => n⟩
theorem Try.sort64 : Go.Proofs.SlLaysM.n5 Try.prog Try.sort64_ren := {
  mixed := by kernel_rfl
  f5 := ⟨Try.f56.name, by decide, Try.func56.trans (congrArg some (by kernel_rfl))⟩
  f7 := ⟨Try.f96.name, by decide, Try.func96.trans (congrArg some (by kernel_rfl))⟩
  f8 := Try.func97.trans (congrArg some (by kernel_rfl))
  f10 := ⟨Try.f117.name, by decide, Try.func117.trans (congrArg some (by kernel_rfl))⟩
  f11 := ⟨Try.f118.name, by decide, Try.func118.trans (congrArg some (by kernel_rfl))⟩
  f12 := ⟨Try.f119.name, by decide, Try.func119.trans (congrArg some (by kernel_rfl))⟩
  f13 := ⟨Try.f120.name, by decide, Try.func120.trans (congrArg some (by kernel_rfl))⟩
  f14 := ⟨Try.f121.name, by decide, Try.func121.trans (congrArg some (by kernel_rfl))⟩
  f15 := ⟨Try.f122.name, by decide, Try.func122.trans (congrArg some (by kernel_rfl))⟩
  f16 := ⟨Try.f123.name, by decide, Try.func123.trans (congrArg some (by kernel_rfl))⟩
  f17 := ⟨Try.f124.name, by decide, Try.func124.trans (congrArg some (by kernel_rfl))⟩
  f18 := ⟨Try.f125.name, by decide, Try.func125.trans (congrArg some (by kernel_rfl))⟩
  f19 := Try.func126.trans (congrArg some (by kernel_rfl))
  f20 := Try.func127.trans (congrArg some (by kernel_rfl))
  f30 := ⟨Try.f145.name, by decide, Try.func145.trans (congrArg some (by kernel_rfl))⟩
  f31 := Try.func146.trans (congrArg some (by kernel_rfl))
  f32 := Try.func147.trans (congrArg some (by kernel_rfl))
  f33 := ⟨Try.f148.name, by decide, Try.func148.trans (congrArg some (by kernel_rfl))⟩
  f34 := ⟨Try.f149.name, by decide, Try.func149.trans (congrArg some (by kernel_rfl))⟩
  f35 := ⟨Try.f150.name, by decide, Try.func150.trans (congrArg some (by kernel_rfl))⟩
  f40 := ⟨Try.f158.name, by decide, Try.func158.trans (congrArg some (by kernel_rfl))⟩
  t0 := Try.underlying0
  a0 := Try.isAgg0
  z0 := Try.sizeOf0
  v0 := Try.zeroValue0
  t3 := Try.underlying3
  a3 := Try.isAgg3
  z3 := Try.sizeOf3
  v3 := Try.zeroValue3
  t4 := Try.underlying4
  a4 := Try.isAgg4
  z4 := Try.sizeOf4
  v4 := Try.zeroValue4
  t5 := Try.underlying5
  a5 := Try.isAgg5
  z5 := Try.sizeOf5
  v5 := Try.zeroValue5
  t9 := Try.underlying9
  a9 := Try.isAgg9
  z9 := Try.sizeOf9
  v9 := Try.zeroValue9
  t22 := Try.underlying25
  a22 := Try.isAgg25
  z22 := Try.sizeOf25
  v22 := Try.zeroValue25
  t23 := Try.underlying25
  a23 := Try.isAgg25
  z23 := Try.sizeOf25
  v23 := Try.zeroValue25
  t25 := Try.underlying2
  a25 := Try.isAgg2
  z25 := Try.sizeOf2
  v25 := Try.zeroValue2
  t32 := Try.underlying147
  a32 := Try.isAgg147
  z32 := Try.sizeOf147
  v32 := Try.zeroValue147
  t35 := Try.underlying167
  a35 := Try.isAgg167
  z35 := Try.sizeOf167
  v35 := Try.zeroValue167
  t36 := Try.underlying168
  a36 := Try.isAgg168
  z36 := Try.sizeOf168
  v36 := Try.zeroValue168
  t41 := Try.underlying125
  a41 := Try.isAgg125
  z41 := Try.sizeOf125
  v41 := Try.zeroValue125
  t44 := Try.underlying175
  a44 := Try.isAgg175
  z44 := Try.sizeOf175
  v44 := Try.zeroValue175
  t46 := Try.underlying148
  a46 := Try.isAgg148
  z46 := Try.sizeOf148
  v46 := Try.zeroValue148
  t53 := Try.underlying187
  a53 := Try.isAgg187
  z53 := Try.sizeOf187
  v53 := Try.zeroValue187
  t57 := Try.underlying191
  a57 := Try.isAgg191
  z57 := Try.sizeOf191
  v57 := Try.zeroValue191
  t63 := Try.underlying197
  a63 := Try.isAgg197
  z63 := Try.sizeOf197
  v63 := Try.zeroValue197
  t64 := Try.underlying198
  a64 := Try.isAgg198
  z64 := Try.sizeOf198
  v64 := Try.zeroValue198 }
end Go.Proofs
