/- Append that tells where the row lies; two rows of the call's own beside each other. -/
import Derived.Test.YtfpomllhkbbipaaGreatSrtG
import Derived.Maps.AppendAt
namespace Go.Proofs.YtfpomllhkbbipaaGreat.Mem
open Go Go.RowKit

theorem wpList_append1at {P : Program} {α : Type} {f : α → Value} {ops : Array Oper} {rest : List Oper} {o : Oper} {a : Act} {Q : Exit → Act → World → Prop} {w0 : World} (hgd : o.guard = none) (s x : Operand) (t : TypeId)
    (ho : o.op = .call { callee := .builtin .append, args := #[s, x], argTypes := #[t, t] })
    {base : Nat} {e : TypeId} {z : Value} {bytes : Nat} (ht : SliceT P t e z bytes)
    {v : Value} {xs : List α} (u : α) (h1 : (f u).oneCell' = true) (hs : a.eval s = v) (hown : Own f base e w0 v xs)
    {g c : Nat} (hx : a.eval x = .slice (some ⟨g, 0, none⟩) 1 c) (hg : g = w0.heap.size)
    (h63 : xs.length + 1 ≤ maxLen) (hbytes : (xs.length + 1) * bytes ≤ 140737488355328) (hbase : base ≤ w0.heap.size)
    (h : ∀ v' w', Own f base e w' v' (xs ++ [u]) → (w0.alloc (.cells #[f u] e)).grownBy w' v.ownBlock → (v'.ownBlock = v.ownBlock ∨ v'.ownBlock = some (w0.heap.size + 1)) → wpList P ops Q rest (a.put o.dst v') w') : wpList P ops Q (o :: rest) a (w0.alloc (.cells #[f u] e)) := by
  obtain ⟨ht, hz1, i, hi, hz, hsz, hby⟩ := ht
  subst hg
  have hcell : (w0.alloc (.cells #[f u] e)).cell? ⟨w0.heap.size, 0, none⟩ = some (f u) := by
    have := heap_alloc_new w0 (.cells #[f u] e)
    unfold World.cell?
    simp only [this]; rfl
  refine wpList_append_own_at (P := P) _ hgd s x t ho base e i z 1 bytes ht hi hz hsz hby hz1 (by decide) v xs.length (xs.map f) hs (hown.alloc _) ⟨w0.heap.size, 0, none⟩ 1 c [f u] hx rfl ?_ ?_ h63 hbytes ?_ ?_
  · intro j y hy
    match j, hy with
    | 0, hy => simp at hy; subst hy; exact hcell
    | j + 1, hy => simp at hy
  · intro y hy; simp at hy; subst hy; exact h1
  · rw [World.size_alloc]; omega
  · intro v' w' ho' hgr _ hat
    refine h v' w' ?_ hgr (by rw [World.size_alloc] at hat; exact hat)
    unfold Own; rw [List.length_append, List.map_append]; exact ho'
/-- two rows in two blocks -/
def Apart (v v' : Value) : Prop := ∀ g, v.ownBlock = some g → v'.ownBlock ≠ some g
theorem Apart.symm {v v' : Value} (h : Apart v v') : Apart v' v := fun g h1 h2 => h g h2 h1
theorem Own.other {α : Type} {f : α → Value} {base : Nat} {e : TypeId} {w w' : World} {v v' : Value} {xs : List α} (h : Own f base e w v xs) (ha : Apart v v') (hg : w.grownBy w' v'.ownBlock) : Own f base e w' v xs := by
  obtain ⟨h1, h2⟩ := h
  refine ⟨h1, ?_⟩
  rcases h2 with h2 | ⟨g, cap, cur, a, b, hh, c⟩
  · exact .inl h2
  · refine .inr ⟨g, cap, cur, a, b, ?_, c⟩
    obtain ⟨_, _, _, _, h5⟩ := hg
    have hlt : g < w.heap.size := (Array.getElem?_eq_some_iff.1 hh).1
    rw [h5 g hlt (fun e => ha g (by rw [a]; rfl) e.symm)]
    exact hh
/-- behind an append to v: still apart -/
theorem Apart.grown {α : Type} {f : α → Value} {base : Nat} {e : TypeId} {w : World} {v v1 v' : Value} {xs : List α} (ha : Apart v v') (h' : Own f base e w v' xs) (hat : v1.ownBlock = v.ownBlock ∨ v1.ownBlock = some (w.heap.size + 1)) : Apart v1 v' := by
  intro g h1 h2
  rcases hat with h | h
  · exact ha g (by rw [← h]; exact h1) h2
  · rw [h] at h1
    injection h1 with h1
    have := (h'.lt g h2).2
    omega
end Go.Proofs.YtfpomllhkbbipaaGreat.Mem
