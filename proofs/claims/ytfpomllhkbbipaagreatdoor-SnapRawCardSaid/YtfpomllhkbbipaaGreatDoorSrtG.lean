/- The call's own row, as the library's contracts name it (Holds, putRow, grow). Over any program. -/
import Derived.Test.YtfpomllhkbbipaaGreatDoorOwn
import Derived.Sort.OwnSortedInts
import Derived.Maps.AppendAt
import Derived.Deep.RegionHeld3
import Derived.Deep.AppendLies
namespace Go.Proofs.YtfpomllhkbbipaaGreatDoor
open Go.RowKit Go.Sort Mem

theorem grownBy_refl (w : World) (k : Option Nat) : w.grownBy w k := ⟨rfl, rfl, rfl, Nat.le_refl _, fun _ _ _ => rfl⟩
section
variable {α : Type} [Inhabited α] {f : α → Value}
theorem holds_of_blockG {w : World} {g : Nat} {cur : Array Value} {e : TypeId} {ss : List α} (hb : w.heap[g]? = some (.cells cur e (0, 0))) (ht : cur.toList.take ss.length = ss.map f) : Holds f w g 0 ss.toArray := by
  intro j hj
  have hj' : j < ss.length := by simpa using hj
  refine ⟨?_, by simp [World.frozen?, hb]⟩
  have h1 : (cur.toList.take ss.length)[j]? = (ss.map f)[j]? := by rw [ht]
  rw [List.getElem?_take_of_lt hj'] at h1
  simp only [World.cell?, hb, Nat.zero_add]
  simp only [Option.isSome_none, Bool.false_eq_true, if_false]
  rw [← Array.getElem?_toList, h1]
  simp [hj']
theorem heap_sortedG {w : World} {g n : Nat} {os : Array Obj} {cur : Array Value} {e : TypeId} {fr : Nat × Nat} (d : Array α) (hb : w.heap[g]? = some (.cells cur e fr)) :
    (grow (putRow f (Sort.ahead w n) g 0 d) os).heap[g]? = some (.cells (putCells f 0 d cur) e fr) := by
  have hg : g < w.heap.size := (Array.getElem?_eq_some_iff.1 hb).1
  rw [heap_grow_old _ _ (by simpa using hg)]
  simp [putRow, mapBlock, Sort.ahead, Array.getElem?_modify, hb, onCells]
theorem grownBy_sortedG {w : World} {g n : Nat} {os : Array Obj} (d : Array α) : w.grownBy (grow (putRow f (Sort.ahead w n) g 0 d) os) (some g) := by
  refine ⟨rfl, rfl, rfl, by simp, fun k hk hne => ?_⟩
  rw [heap_grow_old _ _ (by simpa using hk)]
  have : g ≠ k := fun e => hne (by rw [e])
  simp [putRow, mapBlock, Sort.ahead, Array.getElem?_modify, this]
theorem take_putCellsG (cur : Array Value) (ts : List α) (h : ts.length ≤ cur.size) : (putCells f 0 ts.toArray cur).toList.take ts.length = ts.map f := by
  apply List.ext_getElem?
  intro j
  by_cases hj : j < ts.length
  · rw [List.getElem?_take_of_lt hj, Array.getElem?_toList]
    simp [putCells, hj, show j < cur.size by omega]
  · rw [List.getElem?_take_eq_none (by omega), List.getElem?_eq_none (by simp; omega)]
/-- the row as the library sees it; whatever is laid over it is the call's own again -/
theorem Mem.Own.rows {base : Nat} {e : TypeId} {w : World} {v : Value} {xs : List α} (h : Own f base e w v xs) :
    (v = .slice none 0 0 ∧ xs = []) ∨ ∃ g cap, v = .slice (some ⟨g, 0, none⟩) xs.length cap ∧ g < w.heap.size ∧ Holds f w g 0 xs.toArray ∧
      ∀ (ts : List α) n os, ts.length = xs.length → Own f base e (grow (putRow f (Sort.ahead w n) g 0 ts.toArray) os) v ts ∧ w.grownBy (grow (putRow f (Sort.ahead w n) g 0 ts.toArray) os) v.ownBlock := by
  rcases h.2 with ⟨rfl, hn⟩ | ⟨g, cap, cur, rfl, hb, hh, h2, h3, h4, h5⟩
  · exact .inl ⟨rfl, List.eq_nil_of_length_eq_zero hn⟩
  · have hlt : g < w.heap.size := (Array.getElem?_eq_some_iff.1 hh).1
    refine .inr ⟨g, cap, rfl, hlt, holds_of_blockG hh (by have h6 := h5; rw [Nat.mul_one] at h6; exact h6), fun ts n os hl => ⟨?_, grownBy_sortedG _⟩⟩
    refine ⟨by simp, .inr ⟨g, cap, _, by rw [hl], hb, heap_sortedG _ hh, by omega, h3, by simp [putCells, h4], by rw [Nat.mul_one]; exact take_putCellsG cur ts (by omega)⟩⟩
end
section
variable {α : Type} {f : α → Value} {base g n c : Nat} {e : TypeId} {w : World} {xs : List α}
theorem Mem.Own.cut {k : Nat} (h : Own f base e w (.slice (some ⟨g, 0, none⟩) n c) xs) (hk : k ≤ n) : Own f base e w (.slice (some ⟨g, 0, none⟩) k c) (xs.take k) := by
  have hn := h.sl.1
  rcases h.2 with ⟨hv, _⟩ | ⟨g', cap, cur, hv, hb, hh, hnc, hcm, hcs, htake⟩
  · cases hv
  · injection hv with hv hv2 hv3; injection hv with hv; injection hv with hv
    subst hv; subst hv3
    have hl : (xs.take k).length = k := by rw [List.length_take]; omega
    refine ⟨by rw [hl]; simp [List.length_take]; omega, .inr ⟨g, c, cur, by rw [hl], hb, hh, by omega, hcm, hcs, ?_⟩⟩
    rw [hl, Nat.mul_one, List.map_take, ← htake, Nat.mul_one, List.take_take]
    congr 1; omega
theorem Mem.Own.setHigh {j : Nat} (h : Own f base e w (.slice (some ⟨g, 0, none⟩) n c) xs) (hj : n ≤ j) (u : Value) : Own f base e (w.setCell ⟨g, j, none⟩ u) (.slice (some ⟨g, 0, none⟩) n c) xs := by
  have hn := h.sl.1
  rcases h.2 with ⟨hv, h0⟩ | ⟨g', cap, cur, hv, hb, hh, hnc, hcm, hcs, htake⟩
  · cases hv
  · injection hv with hv hv2 hv3; injection hv with hv; injection hv with hv
    subst hv; subst hv3
    have hB : Blk w g e cur := hh
    refine ⟨h.1, .inr ⟨g, c, _, by rw [hn], hb, hB.set_ j u, hnc, hcm, by simp [hcs], ?_⟩⟩
    rw [Array.toList_setIfInBounds, List.take_set_of_le (by omega)]
    exact htake
theorem Mem.Own.setHighs : ∀ (us : List Value) (w : World) {j : Nat}, Own f base e w (.slice (some ⟨g, 0, none⟩) n c) xs → n ≤ j → Own f base e (w.setCells g j us) (.slice (some ⟨g, 0, none⟩) n c) xs
  | [], _, _, h, _ => h
  | u :: us, _, _, h, hj => (h.setHigh hj u).setHighs us _ (Nat.le_succ_of_le hj)
theorem below_setCells {B : Nat} {w0 : World} (hg : B ≤ g) : ∀ (us : List Value) (w : World) (j : Nat), Below B w0 w → Below B w0 (w.setCells g j us)
  | [], _, _, h => h
  | u :: us, _, j, h => below_setCells hg us _ (j + 1) (h.setCell (p := ⟨g, j, none⟩) hg u)
theorem grownBy_setCells {w0 : World} : ∀ (us : List Value) (w : World) (j : Nat), w0.grownBy w (some g) → w0.grownBy (w.setCells g j us) (some g)
  | [], _, _, h => h
  | u :: us, w, j, h => grownBy_setCells us _ (j + 1) (by
      obtain ⟨a, b, c, d, e⟩ := h
      exact ⟨a, b, c, by rw [World.size_setCell]; exact d, fun k hk hne => by
        rw [Below.heap_setCell w ⟨g, j, none⟩ u k (fun e => hne (by rw [e]))]
        exact e k hk hne⟩)
end
end Go.Proofs.YtfpomllhkbbipaaGreatDoor
namespace Go.Proofs.YtfpomllhkbbipaaGreatDoor.Mem
open Go Go.RowKit

theorem wpList_append1at {P : Program} {α : Type} {f : α → Value} {ops : Array Oper} {rest : List Oper} {o : Oper} {a : Act} {Q : Exit → Act → World → Prop} {w0 : World} (hgd : o.guard = none) (s x : Operand) (t : TypeId)
    (ho : o.op = .call { callee := .builtin .append, args := #[s, x], argTypes := #[t, t] })
    {base : Nat} {e : TypeId} {z : Value} {bytes : Nat} (ht : SliceT P t e z bytes)
    {v : Value} {xs : List α} (u : α) (h1 : (f u).oneCell' = true) (hs : a.eval s = v) (hown : Own f base e w0 v xs)
    {g c : Nat} (hx : a.eval x = .slice (some ⟨g, 0, none⟩) 1 c) (hg : g = w0.heap.size)
    (h63 : xs.length + 1 ≤ maxLen) (hbytes : (xs.length + 1) * bytes ≤ 140737488355328) (hbase : base ≤ w0.heap.size)
    (h : ∀ v' w', Own f base e w' v' (xs ++ [u]) → (w0.alloc (.cells #[f u] e)).grownBy w' v.ownBlock → (v'.ownBlock = v.ownBlock ∨ v'.ownBlock = some (w0.heap.size + 1)) → wpList P ops Q rest (a.put o.dst v') w') : wpList P ops Q (o :: rest) a (w0.alloc (.cells #[f u] e)) := by
  obtain ⟨ht, hz1, i, hi, hz, hsz, hby⟩ := ht
  subst hg
  have hcell : (w0.alloc (.cells #[f u] e)).cell? ⟨w0.heap.size, 0, none⟩ = some (f u) := by
    have := heap_alloc_new w0 (.cells #[f u] e)
    unfold World.cell?
    simp only [this]; rfl
  refine wpList_append_own_at (P := P) _ hgd s x t ho base e i z 1 bytes ht hi hz hsz hby hz1 (by decide) v xs.length (xs.map f) hs (hown.alloc _) ⟨w0.heap.size, 0, none⟩ 1 c [f u] hx rfl ?_ ?_ h63 hbytes ?_ ?_
  · intro j y hy
    match j, hy with
    | 0, hy => simp at hy; subst hy; exact hcell
    | j + 1, hy => simp at hy
  · intro y hy; simp at hy; subst hy; exact h1
  · rw [World.size_alloc]; omega
  · intro v' w' ho' hgr _ hat
    refine h v' w' ?_ hgr (by rw [World.size_alloc] at hat; exact hat)
    unfold Own; rw [List.length_append, List.map_append]; exact ho'
/-- two rows in two blocks -/
def Apart (v v' : Value) : Prop := ∀ g, v.ownBlock = some g → v'.ownBlock ≠ some g
theorem Apart.symm {v v' : Value} (h : Apart v v') : Apart v' v := fun g h1 h2 => h g h2 h1
theorem Own.other {α : Type} {f : α → Value} {base : Nat} {e : TypeId} {w w' : World} {v v' : Value} {xs : List α} (h : Own f base e w v xs) (ha : Apart v v') (hg : w.grownBy w' v'.ownBlock) : Own f base e w' v xs := by
  obtain ⟨h1, h2⟩ := h
  refine ⟨h1, ?_⟩
  rcases h2 with h2 | ⟨g, cap, cur, a, b, hh, c⟩
  · exact .inl h2
  · refine .inr ⟨g, cap, cur, a, b, ?_, c⟩
    obtain ⟨_, _, _, _, h5⟩ := hg
    have hlt : g < w.heap.size := (Array.getElem?_eq_some_iff.1 hh).1
    rw [h5 g hlt (fun e => ha g (by rw [a]; rfl) e.symm)]
    exact hh
/-- behind an append to v: still apart -/
theorem Apart.grown {α : Type} {f : α → Value} {base : Nat} {e : TypeId} {w : World} {v v1 v' : Value} {xs : List α} (ha : Apart v v') (h' : Own f base e w v' xs) (hat : v1.ownBlock = v.ownBlock ∨ v1.ownBlock = some (w.heap.size + 1)) : Apart v1 v' := by
  intro g h1 h2
  rcases hat with h | h
  · exact ha g (by rw [← h]; exact h1) h2
  · rw [h] at h1
    injection h1 with h1
    have := (h'.lt g h2).2
    omega
end Go.Proofs.YtfpomllhkbbipaaGreatDoor.Mem
namespace Go.Proofs.YtfpomllhkbbipaaGreatDoor
open Go Go.RowKit Go.Maps Go.Lib Mem

section
variable {P : Program} {α : Type} {f : α → Value}
/-- append of a row that may be nothing: what it answers -/
theorem run_appendX {w : World} {t ty : TypeId} {base : Nat} {e : TypeId} {z : Value} {bytes : Nat} (ht : SliceT P t e z bytes)
    {v : Value} {xs : List α} (hown : Own f base e w v xs) {B : Option Addr} {d : Nat} {ys : List α} (hys : Sl f w B ys) (h1 : ∀ u, (f u).oneCell' = true)
    (h63 : xs.length + ys.length ≤ maxLen) (hbytes : (xs.length + ys.length) * bytes ≤ 140737488355328) (hbase : base ≤ w.heap.size) :
    ∃ v' w', (Builtin.append_ #[t, t] ty #[v, .slice B ys.length d]).run P w = .ok v' w' ∧ Own f base e w' v' (xs ++ ys) ∧ Below base w w' := by
  obtain ⟨ht, hz1, i, hi, hz, hsz, hby⟩ := ht
  cases B with
  | none =>
    obtain rfl : ys = [] := by
      cases ys with
      | nil => rfl
      | cons x r => obtain ⟨b, o, e, _⟩ := hys.2 (by simp); cases e
    refine ⟨v, w, ?_, by rw [List.append_nil]; exact hown, Below.refl _ _⟩
    obtain ⟨A, c, rfl⟩ := hown.form
    have hc := hown.cap.1
    cases A with
    | none =>
      obtain rfl : xs = [] := by
        cases xs with
        | nil => rfl
        | cons x r => obtain ⟨b, o, e, _⟩ := hown.sl.2.2 (by simp); cases e
      have hc0 : c = 0 := by
        rcases hown.2 with ⟨hv, _⟩ | ⟨g, cap, cur, hv, _⟩
        · injection hv
        · injection hv with hv; cases hv
      subst hc0
      simp [Builtin.append_, run_underlying ht, sizeOf, typeInfo, zeroValue, hi, hz, Builtin.lenOf, Builtin.firstCells, storeCells]
    | some a9 => simp [Builtin.append_, run_underlying ht, sizeOf, typeInfo, zeroValue, hi, hz, hc, Builtin.lenOf, Builtin.firstCells, storeCells]
  | some ad =>
    obtain ⟨v', w', hr, h2, h3, _, _⟩ := run_append_own_at (P := P) w base t ty e i z 1 bytes ht hi hz hsz hby hz1 (by decide) v xs.length (xs.map f) hown ad ys.length d (ys.map f) (by simp) (by
      intro j y hy
      have hj : j < ys.length := by
        rcases Nat.lt_or_ge j ys.length with h | h
        · exact h
        · rw [List.getElem?_eq_none (by simpa using h)] at hy; cases hy
      obtain ⟨b, o, e, hc⟩ := hys.2 (by omega)
      injection e with e
      subst e
      have e2 : (⟨b, o, none⟩ : Addr).add j = ⟨b, o + j, none⟩ := by
        unfold Addr.add; split
        · rename_i h0; subst h0; rfl
        · rfl
      rw [e2, hc j hj]
      simp [hj] at hy; rw [← hy]) (by
      intro y hy
      obtain ⟨u, _, rfl⟩ := List.mem_map.1 hy
      exact h1 u) h63 hbytes hbase
    refine ⟨v', w', hr, ?_, (Below.refl _ _).grown h3 hbase (fun k hk => (hown.lt k hk).1)⟩
    unfold Own; rw [List.length_append, List.map_append]; exact h2
/-- .. at a step of a region that draws its order -/
theorem step_appendX {w : World} {ops : Array Oper} {o : Oper} {a : Act} {K : Act → World → Prop} {Q : Exit → Act → World → Prop} {E : Prop} (hgd : o.guard = none) (s x : Operand) (t : TypeId)
    (ho : o.op = .call { callee := .builtin .append, args := #[s, x], argTypes := #[t, t] })
    {base : Nat} {e : TypeId} {z : Value} {bytes : Nat} (ht : SliceT P t e z bytes)
    {v : Value} {xs : List α} (hs : a.eval s = v) (hown : Own f base e w v xs)
    {B : Option Addr} {d : Nat} {ys : List α} (hx : a.eval x = .slice B ys.length d) (hys : Sl f w B ys) (h1 : ∀ u, (f u).oneCell' = true)
    (h63 : xs.length + ys.length ≤ maxLen) (hbytes : (xs.length + ys.length) * bytes ≤ 140737488355328) (hbase : base ≤ w.heap.size)
    (h : ∀ v' w', Own f base e w' v' (xs ++ ys) → Below base w w' → K (a.put o.dst v') w') :
    if Region.wanted o (yielded ops a.tmps) = true then Oper.wp P o a w K Q else E := by
  have hw : Region.wanted o (yielded ops a.tmps) = true := by simp [Region.wanted, hgd]
  rw [if_pos hw]
  obtain ⟨v', w', hr, h2, h3⟩ := run_appendX (P := P) (t := t) (ty := o.type) ht hown (d := d) hys h1 h63 hbytes hbase
  unfold Oper.wp execOp
  simp only [ho, resolve, invoke, builtin, Sem.run_bind, Sem.run_pure, Result.andThen_ok, List.map_toArray, List.map_cons, List.map_nil, hs, hx, hr]
  exact h v' w' h2 h3
end
theorem wpList_appendX {P : Program} {α : Type} {f : α → Value} {ops : Array Oper} {rest : List Oper} {o : Oper} {a : Act} {Q : Exit → Act → World → Prop} {w : World} (hgd : o.guard = none) (s x : Operand) (t : TypeId)
    (ho : o.op = .call { callee := .builtin .append, args := #[s, x], argTypes := #[t, t] })
    {base : Nat} {e : TypeId} {z : Value} {bytes : Nat} (ht : SliceT P t e z bytes)
    {v : Value} {xs : List α} (hs : a.eval s = v) (hown : Own f base e w v xs)
    {B : Option Addr} {d : Nat} {ys : List α} (hx : a.eval x = .slice B ys.length d) (hys : Sl f w B ys) (h1 : ∀ u, (f u).oneCell' = true)
    (h63 : xs.length + ys.length ≤ maxLen) (hbytes : (xs.length + ys.length) * bytes ≤ 140737488355328) (hbase : base ≤ w.heap.size)
    (h : ∀ v' w', Own f base e w' v' (xs ++ ys) → Below base w w' → wpList P ops Q rest (a.put o.dst v') w') : wpList P ops Q (o :: rest) a w := by
  obtain ⟨v', w', hr, h2, h3⟩ := run_appendX (P := P) (t := t) (ty := o.type) ht hown (d := d) hys h1 h63 hbytes hbase
  exact wpList_append_run w hgd s x t t ho v _ hs hx v' w' hr (h v' w' h2 h3)
end Go.Proofs.YtfpomllhkbbipaaGreatDoor
