/- The library contracts on slices.Sorted of maps.Keys, laid at this translation. -/
import Derived.Shelf.SlIter.Nil
import Derived.Shelf.SortM.Plain
import Derived.Shelf.SortM.SortNone
import Derived.Ground.GgzProg
import Derived.Ground.SlgmProg
import Derived.Test.YtifgajinfcihmaaGreatDoorProg
namespace Go.Proofs
open Go.RowKit Go.Maps Go.Sort Go.Shelf
def Tryz.keys70_ren : Go.Shelf.Ren := ⟨fun | 7 => 70 | 10 => 91 | n => n, fun | 23 => 76 | 26 => 9 | 3 => 79 | 28 => 121 | 0 => 0 | 27 => 120 | 33 => 140 | 4 => 4 | n => n, fun | n => n⟩
theorem Tryz.keys70 : Go.Proofs.SlLaysZ.n7 Tryz.prog Tryz.keys70_ren := {
 mixed := by kernel_rfl
 f7 := ⟨Tryz.f70.name, by decide, Tryz.func70.trans (congrArg some (by kernel_rfl))⟩
 f10 := ⟨Tryz.f91.name, by decide, Tryz.func91.trans (congrArg some (by kernel_rfl))⟩
 t0 := Tryz.underlying0
 a0 := Tryz.isAgg0
 z0 := Tryz.sizeOf0
 v0 := Tryz.zeroValue0
 t4 := Tryz.underlying4
 a4 := Tryz.isAgg4
 z4 := Tryz.sizeOf4
 v4 := Tryz.zeroValue4
 t23 := Tryz.underlying76
 a23 := Tryz.isAgg76
 z23 := Tryz.sizeOf76
 v23 := Tryz.zeroValue76
 t26 := Tryz.underlying9
 a26 := Tryz.isAgg9
 z26 := Tryz.sizeOf9
 v26 := Tryz.zeroValue9
 t27 := Tryz.underlying120
 a27 := Tryz.isAgg120
 z27 := Tryz.sizeOf120
 v27 := Tryz.zeroValue120
 t28 := Tryz.underlying121
 a28 := Tryz.isAgg121
 z28 := Tryz.sizeOf121
 v28 := Tryz.zeroValue121
 t33 := Tryz.underlying140
 a33 := Tryz.isAgg140
 z33 := Tryz.sizeOf140
 v33 := Tryz.zeroValue140 }
def Tryz.sorted69_ren : Go.Shelf.Ren := ⟨fun | 6 => 69 | 8 => 89 | 9 => 90 | 11 => 109 | 13 => 111 | 12 => 110 | 23 => 146 | 24 => 147 | 14 => 137 | 15 => 138 | 16 => 139 | 17 => 140 | 18 => 141 | 19 => 142 | 20 => 143 | 21 => 144 | 22 => 145 | 25 => 173 | 26 => 174 | 27 => 175 | 28 => 176 | 29 => 177 | 30 => 178 | 31 => 196 | n => n, fun | 26 => 9 | 28 => 121 | 24 => 85 | 0 => 0 | 3 => 3 | 37 => 169 | 48 => 163 | 50 => 161 | 4 => 4 | 40 => 204 | 39 => 203 | 45 => 208 | 5 => 5 | 9 => 9 | 51 => 238 | 55 => 242 | 57 => 265 | 58 => 266 | 33 => 140 | n => n, fun | n => n⟩
theorem Tryz.sorted69 : Go.Proofs.SlLaysZ.n6 Tryz.prog Tryz.sorted69_ren := {
 mixed := by kernel_rfl
 f6 := ⟨Tryz.f69.name, by decide, Tryz.func69.trans (congrArg some (by kernel_rfl))⟩
 f8 := ⟨Tryz.f89.name, by decide, Tryz.func89.trans (congrArg some (by kernel_rfl))⟩
 f11 := ⟨Tryz.f109.name, by decide, Tryz.func109.trans (congrArg some (by kernel_rfl))⟩
 t0 := Tryz.underlying0
 a0 := Tryz.isAgg0
 z0 := Tryz.sizeOf0
 v0 := Tryz.zeroValue0
 t24 := Tryz.underlying85
 a24 := Tryz.isAgg85
 z24 := Tryz.sizeOf85
 v24 := Tryz.zeroValue85
 t26 := Tryz.underlying9
 a26 := Tryz.isAgg9
 z26 := Tryz.sizeOf9
 v26 := Tryz.zeroValue9
 t28 := Tryz.underlying121
 a28 := Tryz.isAgg121
 z28 := Tryz.sizeOf121
 v28 := Tryz.zeroValue121
 i26 := by kernel_rfl }
def Tryz.sort90_ren : Go.Shelf.Ren := ⟨fun | 6 => 90 | 8 => 111 | 9 => 110 | 19 => 146 | 20 => 147 | 21 => 137 | 22 => 138 | 23 => 139 | 24 => 140 | 25 => 141 | 26 => 142 | 27 => 143 | 28 => 144 | 29 => 145 | 36 => 173 | 31 => 174 | 32 => 175 | 37 => 176 | 38 => 177 | 39 => 178 | 41 => 196 | n => n, fun | 27 => 85 | 29 => 9 | 3 => 3 | 32 => 169 | 26 => 85 | 0 => 0 | 44 => 163 | 46 => 161 | 4 => 4 | 36 => 204 | 35 => 203 | 41 => 208 | 5 => 5 | 9 => 9 | 53 => 238 | 57 => 242 | 63 => 265 | 64 => 266 | n => n, fun | n => n⟩
theorem Tryz.sort90 : Go.Proofs.SlLaysM.n6 Tryz.prog Tryz.sort90_ren := {
 mixed := by kernel_rfl
 f6 := ⟨Tryz.f90.name, by decide, Tryz.func90.trans (congrArg some (by kernel_rfl))⟩
 f8 := Tryz.func111.trans (congrArg some (by kernel_rfl))
 f9 := ⟨Tryz.f110.name, by decide, Tryz.func110.trans (congrArg some (by kernel_rfl))⟩
 f19 := Tryz.func146.trans (congrArg some (by kernel_rfl))
 f20 := Tryz.func147.trans (congrArg some (by kernel_rfl))
 f21 := ⟨Tryz.f137.name, by decide, Tryz.func137.trans (congrArg some (by kernel_rfl))⟩
 f22 := ⟨Tryz.f138.name, by decide, Tryz.func138.trans (congrArg some (by kernel_rfl))⟩
 f23 := ⟨Tryz.f139.name, by decide, Tryz.func139.trans (congrArg some (by kernel_rfl))⟩
 f24 := ⟨Tryz.f140.name, by decide, Tryz.func140.trans (congrArg some (by kernel_rfl))⟩
 f25 := ⟨Tryz.f141.name, by decide, Tryz.func141.trans (congrArg some (by kernel_rfl))⟩
 f26 := ⟨Tryz.f142.name, by decide, Tryz.func142.trans (congrArg some (by kernel_rfl))⟩
 f27 := ⟨Tryz.f143.name, by decide, Tryz.func143.trans (congrArg some (by kernel_rfl))⟩
 f28 := ⟨Tryz.f144.name, by decide, Tryz.func144.trans (congrArg some (by kernel_rfl))⟩
 f29 := ⟨Tryz.f145.name, by decide, Tryz.func145.trans (congrArg some (by kernel_rfl))⟩
 f31 := Tryz.func174.trans (congrArg some (by kernel_rfl))
 f32 := Tryz.func175.trans (congrArg some (by kernel_rfl))
 f36 := ⟨Tryz.f173.name, by decide, Tryz.func173.trans (congrArg some (by kernel_rfl))⟩
 f37 := ⟨Tryz.f176.name, by decide, Tryz.func176.trans (congrArg some (by kernel_rfl))⟩
 f38 := ⟨Tryz.f177.name, by decide, Tryz.func177.trans (congrArg some (by kernel_rfl))⟩
 f39 := ⟨Tryz.f178.name, by decide, Tryz.func178.trans (congrArg some (by kernel_rfl))⟩
 f41 := ⟨Tryz.f196.name, by decide, Tryz.func196.trans (congrArg some (by kernel_rfl))⟩
 t0 := Tryz.underlying0
 a0 := Tryz.isAgg0
 z0 := Tryz.sizeOf0
 v0 := Tryz.zeroValue0
 t3 := Tryz.underlying3
 a3 := Tryz.isAgg3
 z3 := Tryz.sizeOf3
 v3 := Tryz.zeroValue3
 t4 := Tryz.underlying4
 a4 := Tryz.isAgg4
 z4 := Tryz.sizeOf4
 v4 := Tryz.zeroValue4
 t5 := Tryz.underlying5
 a5 := Tryz.isAgg5
 z5 := Tryz.sizeOf5
 v5 := Tryz.zeroValue5
 t9 := Tryz.underlying9
 a9 := Tryz.isAgg9
 z9 := Tryz.sizeOf9
 v9 := Tryz.zeroValue9
 t26 := Tryz.underlying85
 a26 := Tryz.isAgg85
 z26 := Tryz.sizeOf85
 v26 := Tryz.zeroValue85
 t27 := Tryz.underlying85
 a27 := Tryz.isAgg85
 z27 := Tryz.sizeOf85
 v27 := Tryz.zeroValue85
 t29 := Tryz.underlying9
 a29 := Tryz.isAgg9
 z29 := Tryz.sizeOf9
 v29 := Tryz.zeroValue9
 t32 := Tryz.underlying169
 a32 := Tryz.isAgg169
 z32 := Tryz.sizeOf169
 v32 := Tryz.zeroValue169
 t35 := Tryz.underlying203
 a35 := Tryz.isAgg203
 z35 := Tryz.sizeOf203
 v35 := Tryz.zeroValue203
 t36 := Tryz.underlying204
 a36 := Tryz.isAgg204
 z36 := Tryz.sizeOf204
 v36 := Tryz.zeroValue204
 t41 := Tryz.underlying208
 a41 := Tryz.isAgg208
 z41 := Tryz.sizeOf208
 v41 := Tryz.zeroValue208
 t44 := Tryz.underlying163
 a44 := Tryz.isAgg163
 z44 := Tryz.sizeOf163
 v44 := Tryz.zeroValue163
 t46 := Tryz.underlying161
 a46 := Tryz.isAgg161
 z46 := Tryz.sizeOf161
 v46 := Tryz.zeroValue161
 t53 := Tryz.underlying238
 a53 := Tryz.isAgg238
 z53 := Tryz.sizeOf238
 v53 := Tryz.zeroValue238
 t57 := Tryz.underlying242
 a57 := Tryz.isAgg242
 z57 := Tryz.sizeOf242
 v57 := Tryz.zeroValue242
 t63 := Tryz.underlying265
 a63 := Tryz.isAgg265
 z63 := Tryz.sizeOf265
 v63 := Tryz.zeroValue265
 t64 := Tryz.underlying266
 a64 := Tryz.isAgg266
 z64 := Tryz.sizeOf266
 v64 := Tryz.zeroValue266 }
theorem Tryz.sorts69 (m : Nat) : AnyZ.SortsIn Tryz.prog Tryz.sorted69_ren Fence.wide m :=
 ⟨fun blk off cap ss W hH hblk hsz => callsIn_wide.2 (AnyM.slices_Sort_string Tryz.sort90 blk off cap ss W hH hblk hsz),
  fun p cap W => callsIn_wide.2 (AnyM.slices_Sort_string_none Tryz.sort90 p cap W)⟩
theorem Tryz.maps_Keys_70 (mb : Option Nat) (W : World) : CallsIn Fence.wide 5 Tryz.prog 70 #[.map mb] W fun e w' => e = .returned (.func (.func 91) #[] #[.pointer (some ⟨W.heap.size, 0, none⟩)]) ∧ w' = W.alloc (.cells #[.map mb] 76) :=
 AnyZ.keys_in Tryz.keys70 Fence.wide 5 trivial rfl mb W
set_option maxHeartbeats 1000000 in
theorem Tryz.slices_Sorted_keys_69_70 {H : Type} (b nn : Nat) (D0 : DataW H) (R : Value → Option (DataW H × List MemPlace)) (w : World) (hown : w.ownsMap Tryz.prog 9 R b nn D0) (hmax : Maps.size D0 ≤ maxLen) (hbytes : Maps.size D0 * 16 ≤ 140737488355328) :
 CallsIn Fence.wide 5 Tryz.prog 69 #[.func (.func 91) #[] #[.pointer (some ⟨w.heap.size, 0, none⟩)]] (w.alloc (.cells #[.map (some b)] 76)) fun e w' => ∃ (v : Value) (ss : List (List UInt8)), e = .returned v ∧ ss.Perm (strKeys D0) ∧
  w'.ownsRow (w.alloc (.cells #[.map (some b)] 76)).heap.size 9 1 v ss.length ((ss.mergeSort (fun x y => decide (x ≤ y))).map encStr) ∧ (v = .slice none 0 0 ↔ ss = []) ∧ Below (w.alloc (.cells #[.map (some b)] 76)).heap.size (w.alloc (.cells #[.map (some b)] 76)) w' := by
 have hbl := hown.lt
 have hseq : SeqGives Fence.wide 2 Tryz.prog 91 #[.pointer (some ⟨w.heap.size, 0, none⟩)] encStr (fun ss => ss.Perm (strKeys D0)) (Maps.size D0) (w.alloc (.cells #[.map (some b)] 76)) :=
  AnyZ.keys_gives (ρ := Tryz.keys70_ren) { Tryz.keys70 with } Fence.wide _ trivial rfl (by omega) w.heap.size b nn D0 _ (by simp) (by simp) (by
   obtain ⟨es, clock, hb, Ft, hs, hD⟩ := hown
   exact ⟨es, clock, (Below.heap_alloc _ _ b hbl).trans hb, Ft, hs, hD⟩)
 exact AnyZ.sorted_in Tryz.sorted69 Fence.wide 5 trivial trivial trivial trivial rfl (by omega) (Tryz.sorts69 _) (enters_of Tryz.func90 (by kernel_rfl) rfl) 91 #[.pointer (some ⟨w.heap.size, 0, none⟩)] trivial (enters_of Tryz.func91 (by kernel_rfl) rfl) _ _ hmax hbytes _ hseq
end Go.Proofs
