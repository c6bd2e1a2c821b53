/- Layer 10: slices.Chunk at 2048: what its iterator hands on. -/
import Derived.RangeFuncNested
import Derived.RangeFuncBound
import Derived.RangeFuncCalls
import Derived.RangeFuncLeaves
import Derived.RangeFuncBox
import Derived.Shelf.Abstract
import Derived.Shelf.RegionOpen
import Derived.BigRegionIn
import Derived.OwnWalkIn
import Derived.TacticsInMore
import Derived.LoopNIn
import Derived.LoopIn
import Derived.Test.YtifgajinfcihmaaGreatDoorJAf
import Derived.Test.YtifgajinfcihmaaGreatDoorJAw
namespace Go.Proofs.YtifgajinfcihmaaGreatDoor
open Go Go.RowKit Go.Shelf Go.Maps Go.Lib Mem Pk
attribute [local go_sem] Oper.semAt_some
def pieces (len : Nat) : Nat := (len + 2047) / 2048
structure KpC (Bs Bn : Nat) (W W' : World) : Prop where
 s : W'.heap[Bs]? = W.heap[Bs]?
 n : W'.heap[Bn]? = W.heap[Bn]?
theorem KpC.refl (Bs Bn : Nat) (W : World) : KpC Bs Bn W W := ⟨rfl, rfl⟩
theorem KpC.trans {Bs Bn : Nat} {A B C : World} (h : KpC Bs Bn A B) (k : KpC Bs Bn B C) : KpC Bs Bn A C := ⟨k.s.trans h.s, k.n.trans h.n⟩
theorem KpC.put {Bs Bn : Nat} {w : World} (h1 : Bs < w.heap.size) (h2 : Bn < w.heap.size) (W : World) (l : Nat) (o o' : Obj) (hl : w.heap.size ≤ l) (_ : W.heap[l]? = some o) (_ : o.isCells = false) (_ : o.isWalk = false) : KpC Bs Bn W (W.putObj l o') :=
 ⟨World.putObj_heap_other (by omega), World.putObj_heap_other (by omega)⟩
theorem cell_same {A B : World} {k j : Nat} (h : B.heap[k]? = A.heap[k]?) : B.cell? ⟨k, j, none⟩ = A.cell? ⟨k, j, none⟩ := by
 unfold World.cell?
 simp only [h]
theorem grow_drew (W : World) : W.grownBy W.drew none := ⟨rfl, rfl, rfl, Nat.le_refl _, fun _ _ _ => rfl⟩
end Go.Proofs.YtifgajinfcihmaaGreatDoor
namespace Go.Proofs.YtifgajinfcihmaaGreatDoor
open Go Go.RowKit Go.Shelf Go.Maps Go.Lib Mem Pk
attribute [local go_sem] Oper.semAt_some
def pieces31 (len : Nat) : Nat := (len + 30) / 31
def pcE31 (b off len k : Nat) : Array Value := #[.slice (some ⟨b, off + 31 * k, none⟩) (min 31 (len - 31 * k)) (min 31 (len - 31 * k))]
set_option maxRecDepth 100000 in
set_option maxHeartbeats 2000000 in
theorem chunk31_in (F : Fence) (n : Nat) (h39 : F.fn 136) (hro : F.round = none) (hn : 1 ≤ n) (l Bs Bn b off len cap : Nat) (A : Option Addr) (hA : len = 0 ∨ A = some ⟨b, off, none⟩) (hcap : len ≤ cap) (hre : len ≤ 10000000) (J Jx : List Nat → World → Prop) (hJd : ∀ xs W, J xs W → J xs W.drew)
 (hY : ∀ pre x W, J pre W → pre.length < pieces31 len → YieldAt F (n - 1) Tryz.prog l (pcE31 b off len x) W fun e W' =>
  (e = .returned (.bool true) ∧ J (pre ++ [x]) W' ∧ KpC Bs Bn W W') ∨ (e = .returned (.bool false) ∧ Jx (pre ++ [x]) W'))
 (W : World) (hBs : W.cell? ⟨Bs, 0, none⟩ = some (.slice A len cap)) (hBn : W.cell? ⟨Bn, 0, none⟩ = some (.int .i64 31)) (h0 : J [] W) :
 CallsIn F n Tryz.prog 136 #[.func (.yield l) #[] #[], .pointer (some ⟨Bs, 0, none⟩), .pointer (some ⟨Bn, 0, none⟩)] W fun e W' => (∃ v, e = .returned v) ∧
  ((∃ ys, ys = List.range (pieces31 len) ∧ J ys W') ∨ (∃ pre, (∃ k, k < pieces31 len ∧ pre = List.range k ++ [k]) ∧ Jx pre W')) := by
 refine callsIn_of_wp Tryz.func136 rfl h39 ?_ hro
 simp only [Tryz.ntmps136, List.size_toArray, List.length_cons, List.length_nil, Nat.reduceAdd, Nat.reduceSub, Array.replicate_succ, Array.replicate_zero, List.push_toArray, List.append_toArray, List.nil_append, List.cons_append]
 gi_wp2
 gi_loopw [4] (fun i wr => ∃ k : Nat, k ≤ pieces31 len ∧ i = .int .i64 ((31 * k : Nat) : Int) ∧ J (List.range k) wr ∧ KpC Bs Bn W wr)
  (fun i _ => len + 62 - (intOf i).toNat)
 case atStart => exact ⟨0, Nat.zero_le _, rfl, h0, KpC.refl _ _ _⟩
 case round =>
  obtain ⟨k, hk, rfl, hJs, hkp⟩ := hrel
  have cs := (cell_same (j := 0) hkp.s).trans hBs
  have cn := (cell_same (j := 0) hkp.n).trans hBn
  by_cases hlt : k < pieces31 len
  ·obtain rfl : A = some ⟨b, off, none⟩ := by
    rcases hA with h | h
    ·rw [h] at hlt; rw [show pieces31 0 = 0 from rfl] at hlt; omega
    ·exact h
   obtain ⟨fn, tmps, assign, body, hy, hR⟩ := hY _ k wr.drew (hJd _ _ hJs) (by rw [List.length_range]; exact hlt)
   obtain ⟨i0, hi0⟩ : ∃ i0, i0 = 31 * k := ⟨_, rfl⟩
   have hil : i0 < len := by unfold pieces31 at hlt; omega
   obtain ⟨e0, he0⟩ : ∃ e0, e0 = min 31 (len - i0) := ⟨_, rfl⟩
   unfold pcE31 at hy
   rw [← hi0] at hy
   rw [← hi0]
   rw [← he0] at hy
   have hmin : (if ((len - i0 : Nat) : Int) < 31 then ((len - i0 : Nat) : Int) else 31) = (e0 : Int) := by split <;> omega
   have he1 : i0 + e0 ≤ len := by omega
   have he2 : 0 < e0 := by omega
   have he3 : e0 ≤ 31 := by omega
   have hc1 : (i0 : Int) < (len : Int) := by omega
   have hcc : cap ≠ i0 := by omega
   have hi4 : ((i0 : Int) + 31) = ((i0 + 31 : Nat) : Int) := by omega
   have hin : i0 + 31 = 31 * (k + 1) := by omega
   clear hi0 he0
   gi_wp2
   gi_region
   all_goals
    gi_wp2
    refine hR.mono ?_
    rintro e W3 (⟨rfl, hJ3, hk3⟩ | ⟨rfl, hJx3⟩)
    ·have hkp3 : KpC Bs Bn W W3 := hkp.trans ⟨hk3.s, hk3.n⟩
     have cn3 := (cell_same (j := 0) hkp3.n).trans hBn
     gi_wp2
     go_roundw
     case rel => exact ⟨k + 1, by omega, congrArg (Value.int .i64) (by omega), by rw [List.range_succ]; exact hJ3, hkp3⟩
     case measure => simp [intOf]; omega
    ·gi_wp2
     refine bodyPost_ret (results_none rfl _ _ _) rfl ?_
     exact ⟨⟨_, rfl⟩, .inr ⟨_, ⟨k, hlt, rfl⟩, hJx3⟩⟩
  ·obtain rfl : k = pieces31 len := by omega
   have hil : len ≤ 31 * pieces31 len := by unfold pieces31; omega
   obtain ⟨i0, hi0⟩ : ∃ i0, i0 = 31 * pieces31 len := ⟨_, rfl⟩
   rw [← hi0] at hil
   rw [← hi0]
   have hc1 : ¬ (i0 : Int) < (len : Int) := by omega
   clear hi0
   gi_wp2
   go_end0
   exact ⟨⟨_, rfl⟩, .inl hJs⟩
theorem chunk_stops31 (F : Fence) (n : Nat) (h39 : F.fn 136) (hro : F.round = none) (hn : 1 ≤ n) (Bs Bn b off len cap : Nat) (A : Option Addr) (hA : len = 0 ∨ A = some ⟨b, off, none⟩) (hcap : len ≤ cap) (hre : len ≤ 10000000) (w : World) (h1 : Bs < w.heap.size) (h2 : Bn < w.heap.size)
 (hBs : w.cell? ⟨Bs, 0, none⟩ = some (.slice A len cap)) (hBn : w.cell? ⟨Bn, 0, none⟩ = some (.int .i64 31)) :
 SeqStopsK F n Tryz.prog 136 #[.pointer (some ⟨Bs, 0, none⟩), .pointer (some ⟨Bn, 0, none⟩)] (pcE31 b off len) (KpC Bs Bn) (fun ys => ys = List.range (pieces31 len)) (fun ys => ∃ k, k < pieces31 len ∧ ys = List.range k ++ [k]) (pieces31 len) w := fun l J Jx W hW hJ _ hY h0 =>
 chunk31_in F n h39 hro hn l Bs Bn b off len cap A hA hcap hre J Jx (fun xs W' h => hJ xs W' W'.drew none h (grow_drew W') (by intro r e; cases e)) hY W ((hW.cell (p := ⟨Bs, 0, none⟩) h1).trans hBs) ((hW.cell (p := ⟨Bn, 0, none⟩) h2).trans hBn) h0
set_option maxRecDepth 100000 in
theorem Chunk_any31 {w : World} {A : Option Addr} {len cap : Nat} :
 Calls Tryz.prog 105 #[.slice A len cap, .int .i64 31] w fun e w' => e = .returned (.func (.func 136) #[] #[.pointer (some ⟨w.heap.size, 0, none⟩), .pointer (some ⟨w.heap.size + 1, 0, none⟩)]) ∧ w' = (w.alloc (.cells #[.slice A len cap] 28)).alloc (.cells #[.int .i64 31] 3) := by
 go_enter Tryz.func105, Tryz.ntmps105
 go_wp2_with fail
 go_ret
 exact ⟨rfl, rfl⟩
end Go.Proofs.YtifgajinfcihmaaGreatDoor
