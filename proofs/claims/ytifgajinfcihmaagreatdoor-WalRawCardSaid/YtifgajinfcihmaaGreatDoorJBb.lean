/- slices.Backward at strings: what its iterator hands on. -/
import Derived.RangeFuncWrites
import Derived.Test.YtifgajinfcihmaaGreatDoorJAx
import Derived.Test.YtifgajinfcihmaaGreatDoorJBa
import Derived.Test.YtifgajinfcihmaaGreatDoorJAj
import Derived.Test.YtifgajinfcihmaaGreatDoorJAy
namespace Go.Proofs.YtifgajinfcihmaaGreatDoor
open Go Go.RowKit Go.Shelf Go.Maps Go.Lib Mem Dsk
attribute [local go_sem] Oper.semAt_some
def backN (xs : List Name) (k : Nat) : Name := xs.getD (xs.length - 1 - k) []
def bkE (xs : List Name) (k : Nat) : Array Value := #[.int .i64 ((xs.length : Int) - 1 - k), .string ⟨(backN xs k).toArray⟩]
set_option maxRecDepth 100000 in
set_option maxHeartbeats 2000000 in
theorem back1_in (F : Fence) (n : Nat) (h39 : F.fn 125) (hro : F.round = none) (hn : 1 ≤ n) (l Bs b off cap : Nat) (xs : List Name) (A : Option Addr) (hA : xs.length = 0 ∨ A = some ⟨b, off, none⟩) (hre : xs.length ≤ 10000000) (J Jx : List Nat → World → Prop)
 (hY : ∀ pre x W, J pre W → pre.length < xs.length → YieldAt F (n - 1) Tryz.prog l (bkE xs x) W fun e W' =>
  (e = .returned (.bool true) ∧ J (pre ++ [x]) W' ∧ KpC Bs b W W') ∨ (e = .returned (.bool false) ∧ Jx (pre ++ [x]) W'))
 (W : World) (hBs : W.cell? ⟨Bs, 0, none⟩ = some (.slice A xs.length cap)) (hc : ∀ j (hj : j < xs.length), W.cell? ⟨b, off + j, none⟩ = some (.string ⟨(xs[j]).toArray⟩)) (h0 : J [] W) :
 CallsIn F n Tryz.prog 125 #[.func (.yield l) #[] #[], .pointer (some ⟨Bs, 0, none⟩)] W fun e W' => (∃ v, e = .returned v) ∧
  ((∃ ys, ys = List.range xs.length ∧ J ys W') ∨ (∃ pre, (∃ k, k < xs.length ∧ pre = List.range k ++ [k]) ∧ Jx pre W')) := by
 refine callsIn_of_wp Tryz.func125 rfl h39 ?_ hro
 simp only [Tryz.ntmps125, List.size_toArray, List.length_cons, List.length_nil, Nat.reduceAdd, Nat.reduceSub, Array.replicate_succ, Array.replicate_zero, List.push_toArray, List.append_toArray, List.nil_append, List.cons_append]
 have e0 : IntKind.i64.wrap ((xs.length : Int) - 1) = (xs.length : Int) - 1 := by rw [IntKind.wrap_i64]; omega
 gi_wp2
 gi_loopw [3] (fun i wr => ∃ k : Nat, k ≤ xs.length ∧ i = .int .i64 ((xs.length : Int) - 1 - k) ∧ J (List.range k) wr ∧ KpC Bs b W wr)
  (fun i _ => (intOf i + 1).toNat)
 case atStart => exact ⟨0, Nat.zero_le _, congrArg (Value.int .i64) (by omega), h0, KpC.refl _ _ _⟩
 case round =>
  obtain ⟨k, hk, rfl, hJs, hkp⟩ := hrel
  have cs := (cell_same (j := 0) hkp.s).trans hBs
  by_cases hlt : k < xs.length
  ·obtain rfl : A = some ⟨b, off, none⟩ := by
    rcases hA with h | h
    ·omega
    ·exact h
   obtain ⟨j, hj⟩ : ∃ j : Nat, j = xs.length - 1 - k := ⟨_, rfl⟩
   have hjl : j < xs.length := by omega
   have hji : (xs.length : Int) - 1 - k = (j : Int) := by omega
   have hx : backN xs k = xs[j] := by unfold backN; rw [← hj, List.getD_eq_getElem?_getD, List.getElem?_eq_getElem hjl]; rfl
   have cx := (cell_same (j := off + j) hkp.n).trans (hc j hjl)
   rw [← hx] at cx
   obtain ⟨fn, tmps, assign, body, hy, hR⟩ := hY _ k wr hJs (by rw [List.length_range]; exact hlt)
   unfold bkE at hy
   rw [hji] at hy ⊢
   obtain ⟨x, hxe⟩ : ∃ x, x = backN xs k := ⟨_, rfl⟩
   rw [← hxe] at hy cx
   have e1 : IntKind.i64.wrap ((j : Int) - 1) = (xs.length : Int) - 1 - (k + 1 : Nat) := by rw [IntKind.wrap_i64]; omega
   have hj0 : (0 : Int) ≤ (j : Int) := by omega
   have hj1 : (j : Int) < (xs.length : Int) := by omega
   clear hj hx hxe
   gi_wp2
   refine hR.mono ?_
   rintro e W3 (⟨rfl, hJ3, hk3⟩ | ⟨rfl, hJx3⟩)
   ·have hkp3 : KpC Bs b W W3 := hkp.trans ⟨hk3.s, hk3.n⟩
    gi_wp2
    go_roundw
    case rel => exact ⟨k + 1, by omega, rfl, by rw [List.range_succ]; exact hJ3, hkp3⟩
    case measure => simp [intOf]; omega
   ·gi_wp2
    refine bodyPost_ret (results_none rfl _ _ _) rfl ?_
    exact ⟨⟨_, rfl⟩, .inr ⟨_, ⟨k, hlt, rfl⟩, hJx3⟩⟩
  ·obtain rfl : k = xs.length := by omega
   have hc1 : ¬ (0 : Int) ≤ (xs.length : Int) - 1 - (xs.length : Nat) := by omega
   gi_wp2
   go_end0
   exact ⟨⟨_, rfl⟩, .inl hJs⟩
theorem back_stops (F : Fence) (n : Nat) (h39 : F.fn 125) (hro : F.round = none) (hn : 1 ≤ n) (Bs b off cap : Nat) (xs : List Name) (A : Option Addr) (hA : xs.length = 0 ∨ A = some ⟨b, off, none⟩) (hre : xs.length ≤ 10000000) (w : World) (h1 : Bs < w.heap.size) (h2 : xs.length = 0 ∨ b < w.heap.size)
 (hBs : w.cell? ⟨Bs, 0, none⟩ = some (.slice A xs.length cap)) (hc : ∀ j (hj : j < xs.length), w.cell? ⟨b, off + j, none⟩ = some (.string ⟨(xs[j]).toArray⟩)) :
 SeqStopsK F n Tryz.prog 125 #[.pointer (some ⟨Bs, 0, none⟩)] (bkE xs) (KpC Bs b) (fun ys => ys = List.range xs.length) (fun ys => ∃ k, k < xs.length ∧ ys = List.range k ++ [k]) xs.length w := fun l J Jx W hW _ _ hY h0 =>
 back1_in F n h39 hro hn l Bs b off cap xs A hA hre J Jx hY W ((hW.cell (p := ⟨Bs, 0, none⟩) h1).trans hBs) (fun j hj => (hW.cell (p := ⟨b, off + j, none⟩) (h2.elim (fun h => by omega) id)).trans (hc j hj)) h0
set_option maxRecDepth 100000 in
theorem Backward_any {w : World} {A : Option Addr} {len cap : Nat} :
 Calls Tryz.prog 97 #[.slice A len cap] w fun e w' => e = .returned (.func (.func 125) #[] #[.pointer (some ⟨w.heap.size, 0, none⟩)]) ∧ w' = w.alloc (.cells #[.slice A len cap] 85) := by
 go_enter Tryz.func97, Tryz.ntmps97
 go_wp2_with fail
 go_ret
 exact ⟨rfl, rfl⟩
end Go.Proofs.YtifgajinfcihmaaGreatDoor
namespace Go.Proofs.YtifgajinfcihmaaGreatDoor
open Go Go.RowKit Go.Maps Go.Lib Mem Dsk
structure DXM (G : Nat → Prop) (B p mb : Nat) (s : S) (w : World) : Prop where
 at_ : ∃ rs, Rep (hiX G B) w p s mb rs
 le : B ≤ w.heap.size
 old : ∀ g, G g → g < w.heap.size
section
variable {G : Nat → Prop} {B p mb : Nat} {s : S} {w w' : World}
theorem DXM.x (h : DXM G B p mb s w) : DX G B p s w := ⟨h.at_.elim fun rs h0 => ⟨mb, rs, h0⟩, h.le, h.old⟩
theorem DX.m (h : DX G B p s w) : ∃ mb, DXM G B p mb s w ∧ mb < w.heap.size := by
 obtain ⟨mb, rs, h0⟩ := h.at_
 exact ⟨mb, ⟨⟨rs, h0⟩, h.le, h.old⟩, h0.map.lt⟩
theorem DXM.weaken {F : Nat → Prop} (h : DXM G B p mb s w) (hF : ∀ g, F g → G g) : DXM F B p mb s w :=
 ⟨h.at_.elim fun rs h0 => ⟨rs, h0.mono (fun _ _ hg => ⟨hg.1, fun hf => hg.2 (hF _ hf)⟩)⟩, h.le, fun g hg => h.old g (hF g hg)⟩
theorem DXM.frm {F : Nat → Prop} (h : DXM G B p mb s w) (hf : Frm F w w') (hF : ∀ g, F g → G g) : DXM G B p mb s w' :=
 ⟨h.at_.elim fun rs h0 => ⟨rs, h0.frm hf (fun g hg e => hg.2 (hF g e))⟩, Nat.le_trans h.le hf.size, fun g hg => Nat.lt_of_lt_of_le (h.old g hg) hf.size⟩
def nc (Bl : Nat) (w : World) (g : Nat) : Prop := Bl ≤ g ∧ ∃ o : Obj, w.heap[g]? = some o ∧ o.isCells = false
theorem slb_cells {α : Type} {f : α → Value} {e : TypeId} {F : Nat → Prop} {A : Option Addr} {xs : List α} (h : SlB f e F w A xs) : SlB f e (fun g => F g ∧ ∃ cs t fr, w.heap[g]? = some (.cells cs t fr)) w A xs := by
 refine ⟨h.1, fun h0 => ?_⟩
 obtain ⟨b, o, cur, fr, e1, hF, hb, hc⟩ := h.2 h0
 exact ⟨b, o, cur, fr, e1, ⟨hF, _, _, _, hb⟩, hb, hc⟩
theorem DXM.nc {Bl : Nat} (h : DXM G B p mb s w) (hm : mb < Bl) : DXM (fun g => G g ∨ nc Bl w g) B p mb s w := by
 obtain ⟨rs, h0⟩ := h.at_
 have key : Rep (fun g => hiX G B g ∧ (g = mb ∨ ∃ cs t fr, w.heap[g]? = some (.cells cs t fr))) w p s mb rs :=
  { h0 with
    inP := ⟨h0.inP, .inr ⟨_, _, _, h0.blk⟩⟩
    inM := ⟨h0.inM, .inl rfl⟩
    recs := fun r hr => by
     obtain ⟨r1, r2, r3, r4, r5⟩ := h0.recs r hr
     exact ⟨r1, ⟨r2, .inr ⟨_, _, _, r1⟩⟩, (slb_cells r3).mono (fun g _ hg => ⟨hg.1, .inr hg.2⟩), (slb_cells r4).mono (fun g _ hg => ⟨hg.1, .inr hg.2⟩), r5⟩ }
 refine ⟨⟨rs, key.mono (fun g _ hg => ⟨hg.1.1, fun hh => ?_⟩)⟩, h.le, fun g hg => ?_⟩
 ·rcases hh with hh | ⟨hl, o, ho, hc⟩
  ·exact hg.1.2 hh
  ·rcases hg.2 with rfl | ⟨cs, t, fr, hcell⟩
   ·omega
   ·rw [hcell] at ho
    injection ho with ho
    subst ho
    cases hc
 ·rcases hg with hg | ⟨_, o, ho, _⟩
  ·exact h.old g hg
  ·exact (Array.getElem?_eq_some_iff.1 ho).1
theorem keeps_nc {F : Nat → Prop} {Bl : Nat} (hs : w.heap.size ≤ w'.heap.size) (hk : Kept F w w') (hF : ∀ g, nc Bl w g → F g) : KeepsFrom Bl w w' := ⟨hs, fun k o hB ho hc => (hk k (hF k ⟨hB, o, ho, hc⟩)).trans ho⟩
end
namespace Sto
theorem dx_in {G F : Nat → Prop} {B p : Nat} {s : S} {w w' : World} (h : DX G B p s w) (hf : Frm F w w') (hF : ∀ g, F g → G g) : DX G B p s w' := by
 obtain ⟨mb, rs, h0⟩ := h.at_
 exact ⟨⟨mb, rs, h0.frm hf (fun g hg e => hg.2 (hF g e))⟩, Nat.le_trans h.le hf.size, fun g hg => Nat.lt_of_lt_of_le (h.old g hg) hf.size⟩
theorem kept_below {G : Nat → Prop} {w w' : World} (hG : ∀ g, G g → g < w.heap.size) (hb : Below w.heap.size w w') : Kept G w w' := fun g hg => hb.block g (hG g hg)
theorem kept_trans {G : Nat → Prop} {a b c : World} (h : Kept G a b) (k : Kept G b c) : Kept G a c := fun g hg => (k g hg).trans (h g hg)
theorem blk_kept {w w' : World} {g : Nat} {t : TypeId} {cs : Array Value} (h : Blk w g t cs) (hk : w'.heap[g]? = w.heap[g]?) : Blk w' g t cs := hk.trans h
end Sto
end Go.Proofs.YtifgajinfcihmaaGreatDoor
