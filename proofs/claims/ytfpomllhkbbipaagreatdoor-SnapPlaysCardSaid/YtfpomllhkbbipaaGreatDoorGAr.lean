/- The library contracts on slices.Sorted of maps.Keys, laid at this translation. -/
import Derived.Shelf.SlIter.Nil
import Derived.Shelf.SortM.Plain
import Derived.Shelf.SortM.SortNone
import Derived.Ground.GgzProg
import Derived.Ground.SlgmProg
import Derived.Test.YtfpomllhkbbipaaGreatDoorProg
namespace Go.Proofs
open Go.RowKit Go.Maps Go.Sort Go.Shelf
def Tryz.keys48_ren : Go.Shelf.Ren := ⟨fun | 7 => 48 | 10 => 79 | n => n, fun | 23 => 73 | 26 => 9 | 3 => 93 | 28 => 104 | 0 => 0 | 27 => 103 | 33 => 149 | 4 => 4 | n => n, fun | n => n⟩
theorem Tryz.keys48 : Go.Proofs.SlLaysZ.n7 Tryz.prog Tryz.keys48_ren := {
 mixed := by kernel_rfl
 f7 := ⟨Tryz.f48.name, by decide, Tryz.func48.trans (congrArg some (by kernel_rfl))⟩
 f10 := ⟨Tryz.f79.name, by decide, Tryz.func79.trans (congrArg some (by kernel_rfl))⟩
 t0 := Tryz.underlying0
 a0 := Tryz.isAgg0
 z0 := Tryz.sizeOf0
 v0 := Tryz.zeroValue0
 t4 := Tryz.underlying4
 a4 := Tryz.isAgg4
 z4 := Tryz.sizeOf4
 v4 := Tryz.zeroValue4
 t23 := Tryz.underlying73
 a23 := Tryz.isAgg73
 z23 := Tryz.sizeOf73
 v23 := Tryz.zeroValue73
 t26 := Tryz.underlying9
 a26 := Tryz.isAgg9
 z26 := Tryz.sizeOf9
 v26 := Tryz.zeroValue9
 t27 := Tryz.underlying103
 a27 := Tryz.isAgg103
 z27 := Tryz.sizeOf103
 v27 := Tryz.zeroValue103
 t28 := Tryz.underlying104
 a28 := Tryz.isAgg104
 z28 := Tryz.sizeOf104
 v28 := Tryz.zeroValue104
 t33 := Tryz.underlying149
 a33 := Tryz.isAgg149
 z33 := Tryz.sizeOf149
 v33 := Tryz.zeroValue149 }
def Tryz.sorted47_ren : Go.Shelf.Ren := ⟨fun | 6 => 47 | 8 => 77 | 9 => 78 | 11 => 118 | 13 => 120 | 12 => 119 | 23 => 154 | 24 => 155 | 14 => 145 | 15 => 146 | 16 => 147 | 17 => 148 | 18 => 149 | 19 => 150 | 20 => 151 | 21 => 152 | 22 => 153 | 25 => 168 | 26 => 169 | 27 => 170 | 28 => 171 | 29 => 172 | 30 => 173 | 31 => 178 | n => n, fun | 26 => 9 | 28 => 104 | 24 => 55 | 0 => 0 | 3 => 3 | 37 => 176 | 48 => 164 | 50 => 166 | 4 => 4 | 40 => 220 | 39 => 219 | 45 => 224 | 5 => 5 | 9 => 9 | 51 => 238 | 55 => 242 | 57 => 248 | 58 => 249 | 33 => 149 | n => n, fun | n => n⟩
theorem Tryz.sorted47 : Go.Proofs.SlLaysZ.n6 Tryz.prog Tryz.sorted47_ren := {
 mixed := by kernel_rfl
 f6 := ⟨Tryz.f47.name, by decide, Tryz.func47.trans (congrArg some (by kernel_rfl))⟩
 f8 := ⟨Tryz.f77.name, by decide, Tryz.func77.trans (congrArg some (by kernel_rfl))⟩
 f11 := ⟨Tryz.f118.name, by decide, Tryz.func118.trans (congrArg some (by kernel_rfl))⟩
 t0 := Tryz.underlying0
 a0 := Tryz.isAgg0
 z0 := Tryz.sizeOf0
 v0 := Tryz.zeroValue0
 t24 := Tryz.underlying55
 a24 := Tryz.isAgg55
 z24 := Tryz.sizeOf55
 v24 := Tryz.zeroValue55
 t26 := Tryz.underlying9
 a26 := Tryz.isAgg9
 z26 := Tryz.sizeOf9
 v26 := Tryz.zeroValue9
 t28 := Tryz.underlying104
 a28 := Tryz.isAgg104
 z28 := Tryz.sizeOf104
 v28 := Tryz.zeroValue104
 i26 := by kernel_rfl }
def Tryz.sort78_ren : Go.Shelf.Ren := ⟨fun | 6 => 78 | 8 => 120 | 9 => 119 | 19 => 154 | 20 => 155 | 21 => 145 | 22 => 146 | 23 => 147 | 24 => 148 | 25 => 149 | 26 => 150 | 27 => 151 | 28 => 152 | 29 => 153 | 36 => 168 | 31 => 169 | 32 => 170 | 37 => 171 | 38 => 172 | 39 => 173 | 41 => 178 | n => n, fun | 27 => 55 | 29 => 9 | 3 => 3 | 32 => 176 | 26 => 55 | 0 => 0 | 44 => 164 | 46 => 166 | 4 => 4 | 36 => 220 | 35 => 219 | 41 => 224 | 5 => 5 | 9 => 9 | 53 => 238 | 57 => 242 | 63 => 248 | 64 => 249 | n => n, fun | n => n⟩
theorem Tryz.sort78 : Go.Proofs.SlLaysM.n6 Tryz.prog Tryz.sort78_ren := {
 mixed := by kernel_rfl
 f6 := ⟨Tryz.f78.name, by decide, Tryz.func78.trans (congrArg some (by kernel_rfl))⟩
 f8 := Tryz.func120.trans (congrArg some (by kernel_rfl))
 f9 := ⟨Tryz.f119.name, by decide, Tryz.func119.trans (congrArg some (by kernel_rfl))⟩
 f19 := Tryz.func154.trans (congrArg some (by kernel_rfl))
 f20 := Tryz.func155.trans (congrArg some (by kernel_rfl))
 f21 := ⟨Tryz.f145.name, by decide, Tryz.func145.trans (congrArg some (by kernel_rfl))⟩
 f22 := ⟨Tryz.f146.name, by decide, Tryz.func146.trans (congrArg some (by kernel_rfl))⟩
 f23 := ⟨Tryz.f147.name, by decide, Tryz.func147.trans (congrArg some (by kernel_rfl))⟩
 f24 := ⟨Tryz.f148.name, by decide, Tryz.func148.trans (congrArg some (by kernel_rfl))⟩
 f25 := ⟨Tryz.f149.name, by decide, Tryz.func149.trans (congrArg some (by kernel_rfl))⟩
 f26 := ⟨Tryz.f150.name, by decide, Tryz.func150.trans (congrArg some (by kernel_rfl))⟩
 f27 := ⟨Tryz.f151.name, by decide, Tryz.func151.trans (congrArg some (by kernel_rfl))⟩
 f28 := ⟨Tryz.f152.name, by decide, Tryz.func152.trans (congrArg some (by kernel_rfl))⟩
 f29 := ⟨Tryz.f153.name, by decide, Tryz.func153.trans (congrArg some (by kernel_rfl))⟩
 f31 := Tryz.func169.trans (congrArg some (by kernel_rfl))
 f32 := Tryz.func170.trans (congrArg some (by kernel_rfl))
 f36 := ⟨Tryz.f168.name, by decide, Tryz.func168.trans (congrArg some (by kernel_rfl))⟩
 f37 := ⟨Tryz.f171.name, by decide, Tryz.func171.trans (congrArg some (by kernel_rfl))⟩
 f38 := ⟨Tryz.f172.name, by decide, Tryz.func172.trans (congrArg some (by kernel_rfl))⟩
 f39 := ⟨Tryz.f173.name, by decide, Tryz.func173.trans (congrArg some (by kernel_rfl))⟩
 f41 := ⟨Tryz.f178.name, by decide, Tryz.func178.trans (congrArg some (by kernel_rfl))⟩
 t0 := Tryz.underlying0
 a0 := Tryz.isAgg0
 z0 := Tryz.sizeOf0
 v0 := Tryz.zeroValue0
 t3 := Tryz.underlying3
 a3 := Tryz.isAgg3
 z3 := Tryz.sizeOf3
 v3 := Tryz.zeroValue3
 t4 := Tryz.underlying4
 a4 := Tryz.isAgg4
 z4 := Tryz.sizeOf4
 v4 := Tryz.zeroValue4
 t5 := Tryz.underlying5
 a5 := Tryz.isAgg5
 z5 := Tryz.sizeOf5
 v5 := Tryz.zeroValue5
 t9 := Tryz.underlying9
 a9 := Tryz.isAgg9
 z9 := Tryz.sizeOf9
 v9 := Tryz.zeroValue9
 t26 := Tryz.underlying55
 a26 := Tryz.isAgg55
 z26 := Tryz.sizeOf55
 v26 := Tryz.zeroValue55
 t27 := Tryz.underlying55
 a27 := Tryz.isAgg55
 z27 := Tryz.sizeOf55
 v27 := Tryz.zeroValue55
 t29 := Tryz.underlying9
 a29 := Tryz.isAgg9
 z29 := Tryz.sizeOf9
 v29 := Tryz.zeroValue9
 t32 := Tryz.underlying176
 a32 := Tryz.isAgg176
 z32 := Tryz.sizeOf176
 v32 := Tryz.zeroValue176
 t35 := Tryz.underlying219
 a35 := Tryz.isAgg219
 z35 := Tryz.sizeOf219
 v35 := Tryz.zeroValue219
 t36 := Tryz.underlying220
 a36 := Tryz.isAgg220
 z36 := Tryz.sizeOf220
 v36 := Tryz.zeroValue220
 t41 := Tryz.underlying224
 a41 := Tryz.isAgg224
 z41 := Tryz.sizeOf224
 v41 := Tryz.zeroValue224
 t44 := Tryz.underlying164
 a44 := Tryz.isAgg164
 z44 := Tryz.sizeOf164
 v44 := Tryz.zeroValue164
 t46 := Tryz.underlying166
 a46 := Tryz.isAgg166
 z46 := Tryz.sizeOf166
 v46 := Tryz.zeroValue166
 t53 := Tryz.underlying238
 a53 := Tryz.isAgg238
 z53 := Tryz.sizeOf238
 v53 := Tryz.zeroValue238
 t57 := Tryz.underlying242
 a57 := Tryz.isAgg242
 z57 := Tryz.sizeOf242
 v57 := Tryz.zeroValue242
 t63 := Tryz.underlying248
 a63 := Tryz.isAgg248
 z63 := Tryz.sizeOf248
 v63 := Tryz.zeroValue248
 t64 := Tryz.underlying249
 a64 := Tryz.isAgg249
 z64 := Tryz.sizeOf249
 v64 := Tryz.zeroValue249 }
theorem Tryz.sorts47 (m : Nat) : AnyZ.SortsIn Tryz.prog Tryz.sorted47_ren Fence.wide m :=
 ⟨fun blk off cap ss W hH hblk hsz => callsIn_wide.2 (AnyM.slices_Sort_string Tryz.sort78 blk off cap ss W hH hblk hsz),
  fun p cap W => callsIn_wide.2 (AnyM.slices_Sort_string_none Tryz.sort78 p cap W)⟩
theorem Tryz.maps_Keys_48 (mb : Option Nat) (W : World) : CallsIn Fence.wide 5 Tryz.prog 48 #[.map mb] W fun e w' => e = .returned (.func (.func 79) #[] #[.pointer (some ⟨W.heap.size, 0, none⟩)]) ∧ w' = W.alloc (.cells #[.map mb] 73) :=
 AnyZ.keys_in Tryz.keys48 Fence.wide 5 trivial rfl mb W
set_option maxHeartbeats 1000000 in
theorem Tryz.slices_Sorted_keys_47_48 {H : Type} (b nn : Nat) (D0 : DataW H) (R : Value → Option (DataW H × List MemPlace)) (w : World) (hown : w.ownsMap Tryz.prog 9 R b nn D0) (hmax : Maps.size D0 ≤ maxLen) (hbytes : Maps.size D0 * 16 ≤ 140737488355328) :
 CallsIn Fence.wide 5 Tryz.prog 47 #[.func (.func 79) #[] #[.pointer (some ⟨w.heap.size, 0, none⟩)]] (w.alloc (.cells #[.map (some b)] 73)) fun e w' => ∃ (v : Value) (ss : List (List UInt8)), e = .returned v ∧ ss.Perm (strKeys D0) ∧
  w'.ownsRow (w.alloc (.cells #[.map (some b)] 73)).heap.size 9 1 v ss.length ((ss.mergeSort (fun x y => decide (x ≤ y))).map encStr) ∧ (v = .slice none 0 0 ↔ ss = []) ∧ Below (w.alloc (.cells #[.map (some b)] 73)).heap.size (w.alloc (.cells #[.map (some b)] 73)) w' := by
 have hbl := hown.lt
 have hseq : SeqGives Fence.wide 2 Tryz.prog 79 #[.pointer (some ⟨w.heap.size, 0, none⟩)] encStr (fun ss => ss.Perm (strKeys D0)) (Maps.size D0) (w.alloc (.cells #[.map (some b)] 73)) :=
  AnyZ.keys_gives (ρ := Tryz.keys48_ren) { Tryz.keys48 with } Fence.wide _ trivial rfl (by omega) w.heap.size b nn D0 _ (by simp) (by simp) (by
   obtain ⟨es, clock, hb, Ft, hs, hD⟩ := hown
   exact ⟨es, clock, (Below.heap_alloc _ _ b hbl).trans hb, Ft, hs, hD⟩)
 exact AnyZ.sorted_in Tryz.sorted47 Fence.wide 5 trivial trivial trivial trivial rfl (by omega) (Tryz.sorts47 _) (enters_of Tryz.func78 (by kernel_rfl) rfl) 79 #[.pointer (some ⟨w.heap.size, 0, none⟩)] trivial (enters_of Tryz.func79 (by kernel_rfl) rfl) _ _ hmax hbytes _ hseq
end Go.Proofs
