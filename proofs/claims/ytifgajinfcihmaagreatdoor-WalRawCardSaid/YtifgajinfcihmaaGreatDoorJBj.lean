/- Arguments opened: slices of structs, their cells as a list. -/
import Derived.Test.YtifgajinfcihmaaGreatDoorJBi
import Derived.Test.YtifgajinfcihmaaGreatDoorJAg
namespace Go.Proofs.YtifgajinfcihmaaGreatDoor
open Go.RowKit Go.ChangeShapes Go.WideShapes Go.Deep Mem
def SlC {α : Type} (k : Nat) (f : α → List Value) (w : World) (A : Option Addr) (xs : List α) : Prop :=
 xs.length ≤ maxLen ∧ (0 < xs.length → ∃ b o, A = some ⟨b, o, none⟩ ∧ b < w.heap.size ∧ ∀ j (h : j < xs.length) i, i < k → w.cell? ⟨b, o + j * k + i, none⟩ = (f xs[j])[i]?)
theorem SlC.keep {α : Type} {k : Nat} {f : α → List Value} {w w' : World} {A : Option Addr} {xs : List α} (h : SlC k f w A xs) (hs : w.heap.size ≤ w'.heap.size) (hk : ∀ b o, b < w.heap.size → w'.cell? ⟨b, o, none⟩ = w.cell? ⟨b, o, none⟩) : SlC k f w' A xs :=
 ⟨h.1, fun hp => by
  obtain ⟨b, o, hA, hb, hc⟩ := h.2 hp
  exact ⟨b, o, hA, by omega, fun j hj i hi => (hk b _ hb).trans (hc j hj i hi)⟩⟩
theorem SlC.below {α : Type} {k : Nat} {f : α → List Value} {w w' : World} {A : Option Addr} {xs : List α} (h : SlC k f w A xs) (hb : Below w.heap.size w w') : SlC k f w' A xs := h.keep hb.size fun _ _ hp => hb.cell hp
theorem SlC.at {α : Type} {k : Nat} {f : α → List Value} {w : World} {A : Option Addr} {xs : List α} (h : SlC k f w A xs) {j : Nat} (hj : j < xs.length) : ∃ b o, A = some ⟨b, o, none⟩ ∧ b < w.heap.size ∧ ∀ i, i < k → w.cell? ⟨b, o + j * k + i, none⟩ = (f xs[j])[i]? := by
 obtain ⟨b, o, hA, hb, hc⟩ := h.2 (by omega)
 exact ⟨b, o, hA, hb, fun i hi => hc j hj i hi⟩
theorem open_rows {H : Type} {enc : TypeId × Value → H} {P : Program} {w : World} {α : Type} {k : Nat} (f : α → List Value) (Q : α → Prop) {t e : TypeId} {A : Option Addr} {len cap : Nat} {d : DataW H} {ps : List MemPlace} (ht : P.underlying t = some (.slice e)) (hC : P.cellsOf e = k) (hk : 0 < k)
 (h : DataW.Trod enc P w 0 (fun _ => true) true t (.slice A len cap) d ps)
 (hx : ∀ (cs : List Value) (n : Nat) y, DataW.trod enc P w 0 (fun _ => true) true n e cs = some y → cs.length = k → ∃ z, cs = f z ∧ Q z) :
 ∃ xs : List α, len = xs.length ∧ len ≤ cap ∧ cap ≤ maxLen ∧ SlC k f w A xs ∧ (∀ x ∈ xs, Q x) ∧ (d = .nil ∧ xs = [] ∨ ∃ a, A = some a ∧ ∃ D E, d = .slice D E ∧ D.length = xs.length) := by
 obtain ⟨fuel, hf⟩ := h
 have hf : DataW.trod enc P w 0 (fun _ => true) true fuel t [.slice A len cap] = some (d, ps) := hf
 rcases open_slice ht hf with ⟨e1, e2⟩ | ⟨a, len', cap', m, n, D, Pl, hcs, hb, hl, hm, hmm, hd, hi⟩
 ·simp only [List.cons.injEq, and_true] at e1
  injection e1 with e1 e3 e4
  subst e1; subst e3; subst e4
  exact ⟨[], rfl, Nat.le_refl _, Nat.zero_le _, ⟨Nat.zero_le _, fun h => absurd h (by simp)⟩, by simp, .inl ⟨by injection e2, rfl⟩⟩
 ·simp only [List.cons.injEq, and_true] at hcs
  injection hcs with e1 e3 e4
  subst e1; subst e3; subst e4
  rw [if_pos rfl] at hmm
  subst hmm
  rw [hC] at hi
  have key : ∀ m, m ≤ len → ∃ xs : List α, xs.length = m ∧ (∀ j (h : j < xs.length) i, i < k → w.cell? (a.add (j * k + i)) = (f xs[j])[i]?) ∧ (∀ x ∈ xs, (f x).length = k ∧ Q x) := by
   intro m
   induction m with
   | zero => intro _; exact ⟨[], rfl, fun j h => by simp at h, by simp⟩
   | succ m ih =>
     intro hm'
     obtain ⟨xs, h1, h2, h3⟩ := ih (by omega)
     obtain ⟨cs, hc, htr⟩ := hi m (by omega)
     obtain ⟨_, hcl, hat⟩ := World.cells?_some hc
     obtain ⟨z, rfl, hq⟩ := hx cs n _ htr hcl
     refine ⟨xs ++ [z], by simp [h1], fun j hj i hi' => ?_, fun x hx => ?_⟩
     ·by_cases e : j < xs.length
      ·rw [h2 j e i hi', List.getElem_append_left e]
      ·have : j = m := by simp at hj; omega
       subst this
       have h5 := hat i hi'
       rw [Go.Deep.add_add] at h5
       rw [h5, List.getElem_append_right (by omega)]
       simp
     ·rcases List.mem_append.1 hx with hx | hx
      ·exact h3 x hx
      ·simp only [List.mem_singleton] at hx; subst hx; exact ⟨hcl, hq⟩
  obtain ⟨xs, h1, h2, h3⟩ := key len (Nat.le_refl _)
  refine ⟨xs, h1.symm, hl, hm, ⟨by omega, fun h0 => ?_⟩, fun x hx => (h3 x hx).2, .inr ⟨a, rfl, _, _, by injection hd, by simp [h1]⟩⟩
  have h00 := h2 0 h0 0 hk
  have hlen0 := (h3 xs[0] (List.getElem_mem h0)).1
  rw [List.getElem?_eq_getElem (by omega)] at h00
  have hspot : a.spot = none := by
   cases hs : a.spot with
   | none => rfl
   | some s => exfalso; simp only [World.cell?, Addr.add, hs, Nat.zero_mul, Nat.zero_add, if_true, Option.isSome_some] at h00; split at h00 <;> simp at h00
  obtain ⟨ab, ao, sp⟩ := a
  simp only at hspot
  subst hspot
  refine ⟨ab, ao, rfl, ?_, fun j hj i hi' => ?_⟩
  ·have := lt_of_cell h00
   simp [Addr.add] at this; exact this
  ·rw [← h2 j hj i hi']
   congr 1
   unfold Addr.add; split
   ·rename_i h0'; simp <;> omega
   ·simp <;> omega
end Go.Proofs.YtifgajinfcihmaaGreatDoor
