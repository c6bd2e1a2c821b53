/- The call's own row, as the library's contracts name it (Holds, putRow, grow). Over any program. -/
import Derived.Test.YtfpomllhkbbipaaGreatOwn
import Derived.Sort.OwnSortedInts
namespace Go.Proofs.YtfpomllhkbbipaaGreat
open Go.RowKit Go.Sort Mem

theorem grownBy_refl (w : World) (k : Option Nat) : w.grownBy w k := ⟨rfl, rfl, rfl, Nat.le_refl _, fun _ _ _ => rfl⟩
section
variable {α : Type} [Inhabited α] {f : α → Value}
theorem holds_of_blockG {w : World} {g : Nat} {cur : Array Value} {e : TypeId} {ss : List α} (hb : w.heap[g]? = some (.cells cur e (0, 0))) (ht : cur.toList.take ss.length = ss.map f) : Holds f w g 0 ss.toArray := by
  intro j hj
  have hj' : j < ss.length := by simpa using hj
  refine ⟨?_, by simp [World.frozen?, hb]⟩
  have h1 : (cur.toList.take ss.length)[j]? = (ss.map f)[j]? := by rw [ht]
  rw [List.getElem?_take_of_lt hj'] at h1
  simp only [World.cell?, hb, Nat.zero_add]
  simp only [Option.isSome_none, Bool.false_eq_true, if_false]
  rw [← Array.getElem?_toList, h1]
  simp [hj']
theorem heap_sortedG {w : World} {g n : Nat} {os : Array Obj} {cur : Array Value} {e : TypeId} {fr : Nat × Nat} (d : Array α) (hb : w.heap[g]? = some (.cells cur e fr)) :
    (grow (putRow f (Sort.ahead w n) g 0 d) os).heap[g]? = some (.cells (putCells f 0 d cur) e fr) := by
  have hg : g < w.heap.size := (Array.getElem?_eq_some_iff.1 hb).1
  rw [heap_grow_old _ _ (by simpa using hg)]
  simp [putRow, mapBlock, Sort.ahead, Array.getElem?_modify, hb, onCells]
theorem grownBy_sortedG {w : World} {g n : Nat} {os : Array Obj} (d : Array α) : w.grownBy (grow (putRow f (Sort.ahead w n) g 0 d) os) (some g) := by
  refine ⟨rfl, rfl, rfl, by simp, fun k hk hne => ?_⟩
  rw [heap_grow_old _ _ (by simpa using hk)]
  have : g ≠ k := fun e => hne (by rw [e])
  simp [putRow, mapBlock, Sort.ahead, Array.getElem?_modify, this]
theorem take_putCellsG (cur : Array Value) (ts : List α) (h : ts.length ≤ cur.size) : (putCells f 0 ts.toArray cur).toList.take ts.length = ts.map f := by
  apply List.ext_getElem?
  intro j
  by_cases hj : j < ts.length
  · rw [List.getElem?_take_of_lt hj, Array.getElem?_toList]
    simp [putCells, hj, show j < cur.size by omega]
  · rw [List.getElem?_take_eq_none (by omega), List.getElem?_eq_none (by simp; omega)]
/-- the row as the library sees it; whatever is laid over it is the call's own again -/
theorem Mem.Own.rows {base : Nat} {e : TypeId} {w : World} {v : Value} {xs : List α} (h : Own f base e w v xs) :
    (v = .slice none 0 0 ∧ xs = []) ∨ ∃ g cap, v = .slice (some ⟨g, 0, none⟩) xs.length cap ∧ g < w.heap.size ∧ Holds f w g 0 xs.toArray ∧
      ∀ (ts : List α) n os, ts.length = xs.length → Own f base e (grow (putRow f (Sort.ahead w n) g 0 ts.toArray) os) v ts ∧ w.grownBy (grow (putRow f (Sort.ahead w n) g 0 ts.toArray) os) v.ownBlock := by
  rcases h.2 with ⟨rfl, hn⟩ | ⟨g, cap, cur, rfl, hb, hh, h2, h3, h4, h5⟩
  · exact .inl ⟨rfl, List.eq_nil_of_length_eq_zero hn⟩
  · have hlt : g < w.heap.size := (Array.getElem?_eq_some_iff.1 hh).1
    refine .inr ⟨g, cap, rfl, hlt, holds_of_blockG hh (by have h6 := h5; rw [Nat.mul_one] at h6; exact h6), fun ts n os hl => ⟨?_, grownBy_sortedG _⟩⟩
    refine ⟨by simp, .inr ⟨g, cap, _, by rw [hl], hb, heap_sortedG _ hh, by omega, h3, by simp [putCells, h4], by rw [Nat.mul_one]; exact take_putCellsG cur ts (by omega)⟩⟩
end
section
variable {α : Type} {f : α → Value} {base g n c : Nat} {e : TypeId} {w : World} {xs : List α}
theorem Mem.Own.cut {k : Nat} (h : Own f base e w (.slice (some ⟨g, 0, none⟩) n c) xs) (hk : k ≤ n) : Own f base e w (.slice (some ⟨g, 0, none⟩) k c) (xs.take k) := by
  have hn := h.sl.1
  rcases h.2 with ⟨hv, _⟩ | ⟨g', cap, cur, hv, hb, hh, hnc, hcm, hcs, htake⟩
  · cases hv
  · injection hv with hv hv2 hv3; injection hv with hv; injection hv with hv
    subst hv; subst hv3
    have hl : (xs.take k).length = k := by rw [List.length_take]; omega
    refine ⟨by rw [hl]; simp [List.length_take]; omega, .inr ⟨g, c, cur, by rw [hl], hb, hh, by omega, hcm, hcs, ?_⟩⟩
    rw [hl, Nat.mul_one, List.map_take, ← htake, Nat.mul_one, List.take_take]
    congr 1; omega
theorem Mem.Own.setHigh {j : Nat} (h : Own f base e w (.slice (some ⟨g, 0, none⟩) n c) xs) (hj : n ≤ j) (u : Value) : Own f base e (w.setCell ⟨g, j, none⟩ u) (.slice (some ⟨g, 0, none⟩) n c) xs := by
  have hn := h.sl.1
  rcases h.2 with ⟨hv, h0⟩ | ⟨g', cap, cur, hv, hb, hh, hnc, hcm, hcs, htake⟩
  · cases hv
  · injection hv with hv hv2 hv3; injection hv with hv; injection hv with hv
    subst hv; subst hv3
    have hB : Blk w g e cur := hh
    refine ⟨h.1, .inr ⟨g, c, _, by rw [hn], hb, hB.set_ j u, hnc, hcm, by simp [hcs], ?_⟩⟩
    rw [Array.toList_setIfInBounds, List.take_set_of_le (by omega)]
    exact htake
theorem Mem.Own.setHighs : ∀ (us : List Value) (w : World) {j : Nat}, Own f base e w (.slice (some ⟨g, 0, none⟩) n c) xs → n ≤ j → Own f base e (w.setCells g j us) (.slice (some ⟨g, 0, none⟩) n c) xs
  | [], _, _, h, _ => h
  | u :: us, _, _, h, hj => (h.setHigh hj u).setHighs us _ (Nat.le_succ_of_le hj)
theorem below_setCells {B : Nat} {w0 : World} (hg : B ≤ g) : ∀ (us : List Value) (w : World) (j : Nat), Below B w0 w → Below B w0 (w.setCells g j us)
  | [], _, _, h => h
  | u :: us, _, j, h => below_setCells hg us _ (j + 1) (h.setCell (p := ⟨g, j, none⟩) hg u)
theorem grownBy_setCells {w0 : World} : ∀ (us : List Value) (w : World) (j : Nat), w0.grownBy w (some g) → w0.grownBy (w.setCells g j us) (some g)
  | [], _, _, h => h
  | u :: us, w, j, h => grownBy_setCells us _ (j + 1) (by
      obtain ⟨a, b, c, d, e⟩ := h
      exact ⟨a, b, c, by rw [World.size_setCell]; exact d, fun k hk hne => by
        rw [Below.heap_setCell w ⟨g, j, none⟩ u k (fun e => hne (by rw [e]))]
        exact e k hk hne⟩)
end
end Go.Proofs.YtfpomllhkbbipaaGreat
