/- The call's own row, as the library's contracts name it (Holds, putRow, grow). Over any program. -/
import Derived.Sort.OwnSortedInts
import Derived.Maps.AppendAt
import Derived.Deep.RegionHeld3
import Derived.Deep.AppendLies
import Derived.Test.YtfpomllhkbbipaaGreatDoorGAf
namespace Go.Proofs.YtfpomllhkbbipaaGreatDoor.Mem
open Go Go.RowKit
theorem wpList_append1at {P : Program} {α : Type} {f : α → Value} {ops : Array Oper} {rest : List Oper} {o : Oper} {a : Act} {Q : Exit → Act → World → Prop} {w0 : World} (hgd : o.guard = none) (s x : Operand) (t : TypeId)
 (ho : o.op = .call { callee := .builtin .append, args := #[s, x], argTypes := #[t, t] })
 {base : Nat} {e : TypeId} {z : Value} {bytes : Nat} (ht : SliceT P t e z bytes)
 {v : Value} {xs : List α} (u : α) (h1 : (f u).oneCell' = true) (hs : a.eval s = v) (hown : Mem.Own f base e w0 v xs)
 {g c : Nat} (hx : a.eval x = .slice (some ⟨g, 0, none⟩) 1 c) (hg : g = w0.heap.size)
 (h63 : xs.length + 1 ≤ maxLen) (hbytes : (xs.length + 1) * bytes ≤ 140737488355328) (hbase : base ≤ w0.heap.size)
 (h : ∀ v' w', Mem.Own f base e w' v' (xs ++ [u]) → (w0.alloc (.cells #[f u] e)).grownBy w' v.ownBlock → (v'.ownBlock = v.ownBlock ∨ v'.ownBlock = some (w0.heap.size + 1)) → wpList P ops Q rest (a.put o.dst v') w') : wpList P ops Q (o :: rest) a (w0.alloc (.cells #[f u] e)) := by
 obtain ⟨ht, hz1, i, hi, hz, hsz, hby⟩ := ht
 subst hg
 have hcell : (w0.alloc (.cells #[f u] e)).cell? ⟨w0.heap.size, 0, none⟩ = some (f u) := by
  have := heap_alloc_new w0 (.cells #[f u] e)
  unfold World.cell?
  simp only [this]; rfl
 refine wpList_append_own_at (P := P) _ hgd s x t ho base e i z 1 bytes ht hi hz hsz hby hz1 (by decide) v xs.length (xs.map f) hs (hown.alloc _) ⟨w0.heap.size, 0, none⟩ 1 c [f u] hx rfl ?_ ?_ h63 hbytes ?_ ?_
 ·intro j y hy
  match j, hy with
  | 0, hy => simp at hy; subst hy; exact hcell
  | j + 1, hy => simp at hy
 ·intro y hy; simp at hy; subst hy; exact h1
 ·rw [World.size_alloc]; omega
 ·intro v' w' ho' hgr _ hat
  refine h v' w' ?_ hgr (by rw [World.size_alloc] at hat; exact hat)
  unfold Mem.Own; rw [List.length_append, List.map_append]; exact ho'
def Apart (v v' : Value) : Prop := ∀ g, v.ownBlock = some g → v'.ownBlock ≠ some g
theorem Apart.symm {v v' : Value} (h : Apart v v') : Apart v' v := fun g h1 h2 => h g h2 h1
theorem Own.other {α : Type} {f : α → Value} {base : Nat} {e : TypeId} {w w' : World} {v v' : Value} {xs : List α} (h : Mem.Own f base e w v xs) (ha : Apart v v') (hg : w.grownBy w' v'.ownBlock) : Mem.Own f base e w' v xs := by
 obtain ⟨h1, h2⟩ := h
 refine ⟨h1, ?_⟩
 rcases h2 with h2 | ⟨g, cap, cur, a, b, hh, c⟩
 ·exact .inl h2
 ·refine .inr ⟨g, cap, cur, a, b, ?_, c⟩
  obtain ⟨_, _, _, _, h5⟩ := hg
  have hlt : g < w.heap.size := (Array.getElem?_eq_some_iff.1 hh).1
  rw [h5 g hlt (fun e => ha g (by rw [a]; rfl) e.symm)]
  exact hh
theorem Apart.grown {α : Type} {f : α → Value} {base : Nat} {e : TypeId} {w : World} {v v1 v' : Value} {xs : List α} (ha : Apart v v') (h' : Mem.Own f base e w v' xs) (hat : v1.ownBlock = v.ownBlock ∨ v1.ownBlock = some (w.heap.size + 1)) : Apart v1 v' := by
 intro g h1 h2
 rcases hat with h | h
 ·exact ha g (by rw [← h]; exact h1) h2
 ·rw [h] at h1
  injection h1 with h1
  have := (h'.lt g h2).2
  omega
end Go.Proofs.YtfpomllhkbbipaaGreatDoor.Mem
namespace Go.Proofs.YtfpomllhkbbipaaGreatDoor
open Go Go.RowKit Go.Maps Go.Lib Mem
section
variable {P : Program} {α : Type} {f : α → Value}
theorem run_appendX {w : World} {t ty : TypeId} {base : Nat} {e : TypeId} {z : Value} {bytes : Nat} (ht : SliceT P t e z bytes)
 {v : Value} {xs : List α} (hown : Mem.Own f base e w v xs) {B : Option Addr} {d : Nat} {ys : List α} (hys : Sl f w B ys) (h1 : ∀ u, (f u).oneCell' = true)
 (h63 : xs.length + ys.length ≤ maxLen) (hbytes : (xs.length + ys.length) * bytes ≤ 140737488355328) (hbase : base ≤ w.heap.size) :
 ∃ v' w', (Builtin.append_ #[t, t] ty #[v, .slice B ys.length d]).run P w = .ok v' w' ∧ Mem.Own f base e w' v' (xs ++ ys) ∧ Below base w w' := by
 obtain ⟨ht, hz1, i, hi, hz, hsz, hby⟩ := ht
 cases B with
 | none =>
   obtain rfl : ys = [] := by
    cases ys with
    | nil => rfl
    | cons x r => obtain ⟨b, o, e, _⟩ := hys.2 (by simp); cases e
   refine ⟨v, w, ?_, by rw [List.append_nil]; exact hown, Below.refl _ _⟩
   obtain ⟨A, c, rfl⟩ := hown.form
   have hc := hown.cap.1
   cases A with
   | none =>
     obtain rfl : xs = [] := by
      cases xs with
      | nil => rfl
      | cons x r => obtain ⟨b, o, e, _⟩ := hown.sl.2.2 (by simp); cases e
     have hc0 : c = 0 := by
      rcases hown.2 with ⟨hv, _⟩ | ⟨g, cap, cur, hv, _⟩
      ·injection hv
      ·injection hv with hv; cases hv
     subst hc0
     simp [Builtin.append_, run_underlying ht, sizeOf, typeInfo, zeroValue, hi, hz, Builtin.lenOf, Builtin.firstCells]
   | some a9 => simp [Builtin.append_, run_underlying ht, sizeOf, typeInfo, zeroValue, hi, hz, hc, Builtin.lenOf, Builtin.firstCells, storeCells]
 | some ad =>
   obtain ⟨v', w', hr, h2, h3, _, _⟩ := run_append_own_at (P := P) w base t ty e i z 1 bytes ht hi hz hsz hby hz1 (by decide) v xs.length (xs.map f) hown ad ys.length d (ys.map f) (by simp) (by
    intro j y hy
    have hj : j < ys.length := by
     rcases Nat.lt_or_ge j ys.length with h | h
     ·exact h
     ·rw [List.getElem?_eq_none (by simpa using h)] at hy; cases hy
    obtain ⟨b, o, e, hc⟩ := hys.2 (by omega)
    injection e with e
    subst e
    have e2 : (⟨b, o, none⟩ : Addr).add j = ⟨b, o + j, none⟩ := by
     unfold Addr.add; split
     ·rename_i h0; subst h0; rfl
     ·rfl
    rw [e2, hc j hj]
    simp [hj] at hy; rw [← hy]) (by
    intro y hy
    obtain ⟨u, _, rfl⟩ := List.mem_map.1 hy
    exact h1 u) h63 hbytes hbase
   refine ⟨v', w', hr, ?_, (Below.refl _ _).grown h3 hbase (fun k hk => (hown.lt k hk).1)⟩
   unfold Mem.Own; rw [List.length_append, List.map_append]; exact h2
end
theorem wpList_appendX {P : Program} {α : Type} {f : α → Value} {ops : Array Oper} {rest : List Oper} {o : Oper} {a : Act} {Q : Exit → Act → World → Prop} {w : World} (hgd : o.guard = none) (s x : Operand) (t : TypeId)
 (ho : o.op = .call { callee := .builtin .append, args := #[s, x], argTypes := #[t, t] })
 {base : Nat} {e : TypeId} {z : Value} {bytes : Nat} (ht : SliceT P t e z bytes)
 {v : Value} {xs : List α} (hs : a.eval s = v) (hown : Mem.Own f base e w v xs)
 {B : Option Addr} {d : Nat} {ys : List α} (hx : a.eval x = .slice B ys.length d) (hys : Sl f w B ys) (h1 : ∀ u, (f u).oneCell' = true)
 (h63 : xs.length + ys.length ≤ maxLen) (hbytes : (xs.length + ys.length) * bytes ≤ 140737488355328) (hbase : base ≤ w.heap.size)
 (h : ∀ v' w', Mem.Own f base e w' v' (xs ++ ys) → Below base w w' → wpList P ops Q rest (a.put o.dst v') w') : wpList P ops Q (o :: rest) a w := by
 obtain ⟨v', w', hr, h2, h3⟩ := run_appendX (P := P) (t := t) (ty := o.type) ht hown (d := d) hys h1 h63 hbytes hbase
 exact wpList_append_run w hgd s x t t ho v _ hs hx v' w' hr (h v' w' h2 h3)
end Go.Proofs.YtfpomllhkbbipaaGreatDoor
