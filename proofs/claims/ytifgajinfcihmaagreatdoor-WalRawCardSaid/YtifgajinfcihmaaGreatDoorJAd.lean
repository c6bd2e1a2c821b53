/- The call's own row, as the library's contracts name it (Holds, putRow, grow). Over any program. -/
import Derived.Sort.OwnSortedInts
import Derived.Maps.AppendAt
import Derived.Deep.RegionHeld3
import Derived.Deep.AppendLies
import Derived.Test.YtifgajinfcihmaaGreatDoorJAc
namespace Go.Proofs.YtifgajinfcihmaaGreatDoor
open Go.RowKit Go.Sort Mem
section
variable {α : Type} {f : α → Value} {base g n c : Nat} {e : TypeId} {w : World} {xs : List α}
theorem grownBy_setCells {w0 : World} : ∀ (us : List Value) (w : World) (j : Nat), w0.grownBy w (some g) → w0.grownBy (w.setCells g j us) (some g)
 | [], _, _, h => h
 | u :: us, w, j, h => grownBy_setCells us _ (j + 1) (by
     obtain ⟨a, b, c, d, e⟩ := h
     exact ⟨a, b, c, by rw [World.size_setCell]; exact d, fun k hk hne => by
      rw [Below.heap_setCell w ⟨g, j, none⟩ u k (fun e => hne (by rw [e]))]
      exact e k hk hne⟩)
end
end Go.Proofs.YtifgajinfcihmaaGreatDoor
namespace Go.Proofs.YtifgajinfcihmaaGreatDoor
open Go Go.RowKit Go.Maps Go.Lib Mem
section
variable {P : Program} {α : Type} {f : α → Value}
theorem run_appendX {w : World} {t ty : TypeId} {base : Nat} {e : TypeId} {z : Value} {bytes : Nat} (ht : SliceT P t e z bytes)
 {v : Value} {xs : List α} (hown : Mem.Own f base e w v xs) {B : Option Addr} {d : Nat} {ys : List α} (hys : Sl f w B ys) (h1 : ∀ u, (f u).oneCell' = true)
 (h63 : xs.length + ys.length ≤ maxLen) (hbytes : (xs.length + ys.length) * bytes ≤ 140737488355328) (hbase : base ≤ w.heap.size) :
 ∃ v' w', (Builtin.append_ #[t, t] ty #[v, .slice B ys.length d]).run P w = .ok v' w' ∧ Mem.Own f base e w' v' (xs ++ ys) ∧ Below base w w' := by
 obtain ⟨ht, hz1, i, hi, hz, hsz, hby⟩ := ht
 cases B with
 | none =>
   obtain rfl : ys = [] := by
    cases ys with
    | nil => rfl
    | cons x r => obtain ⟨b, o, e, _⟩ := hys.2 (by simp); cases e
   refine ⟨v, w, ?_, by rw [List.append_nil]; exact hown, Below.refl _ _⟩
   obtain ⟨A, c, rfl⟩ := hown.form
   have hc := hown.cap.1
   cases A with
   | none =>
     obtain rfl : xs = [] := by
      cases xs with
      | nil => rfl
      | cons x r => obtain ⟨b, o, e, _⟩ := hown.sl.2.2 (by simp); cases e
     have hc0 : c = 0 := by
      rcases hown.2 with ⟨hv, _⟩ | ⟨g, cap, cur, hv, _⟩
      ·injection hv
      ·injection hv with hv; cases hv
     subst hc0
     simp [Builtin.append_, run_underlying ht, sizeOf, typeInfo, zeroValue, hi, hz, Builtin.lenOf, Builtin.firstCells]
   | some a9 => simp [Builtin.append_, run_underlying ht, sizeOf, typeInfo, zeroValue, hi, hz, hc, Builtin.lenOf, Builtin.firstCells, storeCells]
 | some ad =>
   obtain ⟨v', w', hr, h2, h3, _, _⟩ := run_append_own_at (P := P) w base t ty e i z 1 bytes ht hi hz hsz hby hz1 (by decide) v xs.length (xs.map f) hown ad ys.length d (ys.map f) (by simp) (by
    intro j y hy
    have hj : j < ys.length := by
     rcases Nat.lt_or_ge j ys.length with h | h
     ·exact h
     ·rw [List.getElem?_eq_none (by simpa using h)] at hy; cases hy
    obtain ⟨b, o, e, hc⟩ := hys.2 (by omega)
    injection e with e
    subst e
    have e2 : (⟨b, o, none⟩ : Addr).add j = ⟨b, o + j, none⟩ := by
     unfold Addr.add; split
     ·rename_i h0; subst h0; rfl
     ·rfl
    rw [e2, hc j hj]
    simp [hj] at hy; rw [← hy]) (by
    intro y hy
    obtain ⟨u, _, rfl⟩ := List.mem_map.1 hy
    exact h1 u) h63 hbytes hbase
   refine ⟨v', w', hr, ?_, (Below.refl _ _).grown h3 hbase (fun k hk => (hown.lt k hk).1)⟩
   unfold Mem.Own; rw [List.length_append, List.map_append]; exact h2
end
theorem wpList_appendX {P : Program} {α : Type} {f : α → Value} {ops : Array Oper} {rest : List Oper} {o : Oper} {a : Act} {Q : Exit → Act → World → Prop} {w : World} (hgd : o.guard = none) (s x : Operand) (t : TypeId)
 (ho : o.op = .call { callee := .builtin .append, args := #[s, x], argTypes := #[t, t] })
 {base : Nat} {e : TypeId} {z : Value} {bytes : Nat} (ht : SliceT P t e z bytes)
 {v : Value} {xs : List α} (hs : a.eval s = v) (hown : Mem.Own f base e w v xs)
 {B : Option Addr} {d : Nat} {ys : List α} (hx : a.eval x = .slice B ys.length d) (hys : Sl f w B ys) (h1 : ∀ u, (f u).oneCell' = true)
 (h63 : xs.length + ys.length ≤ maxLen) (hbytes : (xs.length + ys.length) * bytes ≤ 140737488355328) (hbase : base ≤ w.heap.size)
 (h : ∀ v' w', Mem.Own f base e w' v' (xs ++ ys) → Below base w w' → wpList P ops Q rest (a.put o.dst v') w') : wpList P ops Q (o :: rest) a w := by
 obtain ⟨v', w', hr, h2, h3⟩ := run_appendX (P := P) (t := t) (ty := o.type) ht hown (d := d) hys h1 h63 hbytes hbase
 exact wpList_append_run w hgd s x t t ho v _ hs hx v' w' hr (h v' w' h2 h3)
end Go.Proofs.YtifgajinfcihmaaGreatDoor
