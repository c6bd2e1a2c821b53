/- Words for memory: a slice that reads as a list; what stays of it when other memory is written. Over any program. -/
import Derived.Below
import Derived.Laws.OwnMore
import Derived.Deep.Slices
import Derived.ChangeSame
namespace Go.Proofs.Ytdedjdiojdmohaa.Mem
open Go Go.RowKit

/-- a slice '.slice A xs.length c' whose cells read as 'f' of the list -/
def Sl {α : Type} (f : α → Value) (w : World) (A : Option Addr) (xs : List α) : Prop :=
  xs.length ≤ maxLen ∧ (0 < xs.length → ∃ b o, A = some ⟨b, o, none⟩ ∧ ∀ j (h : j < xs.length), w.cell? ⟨b, o + j, none⟩ = some (f xs[j]))

section
variable {α : Type} {f : α → Value} {w w' : World} {A : Option Addr} {xs : List α}
theorem lt_of_cell {a : Addr} {v : Value} (h : w.cell? a = some v) : a.block < w.heap.size := by
  rcases Nat.lt_or_ge a.block w.heap.size with hl | hl
  · exact hl
  · simp [World.cell?, Array.getElem?_eq_none hl] at h
theorem Sl.nil : Sl f w A ([] : List α) := ⟨by unfold maxLen; simp, fun h => absurd h (by simp)⟩
theorem Sl.len (h : Sl f w A xs) : xs.length ≤ 9223372036854775807 := h.1
theorem Sl.at (h : Sl f w A xs) {k : Nat} (hk : k < xs.length) : ∃ b o, A = some ⟨b, o, none⟩ ∧ b < w.heap.size ∧ ∀ j (h : j < xs.length), w.cell? ⟨b, o + j, none⟩ = some (f xs[j]) := by
  obtain ⟨b, o, e, hc⟩ := h.2 (by omega)
  exact ⟨b, o, e, lt_of_cell (hc k hk), hc⟩
theorem Sl.keep (h : Sl f w A xs) (hk : ∀ b o, b < w.heap.size → w'.cell? ⟨b, o, none⟩ = w.cell? ⟨b, o, none⟩) : Sl f w' A xs :=
  ⟨h.1, fun hn => by
    obtain ⟨b, o, e, hb, hc⟩ := h.at hn
    exact ⟨b, o, e, fun j hj => (hk _ _ hb).trans (hc j hj)⟩⟩
theorem Sl.below (h : Sl f w A xs) (hb : Below w.heap.size w w') : Sl f w' A xs := h.keep fun _ _ hp => hb.cell hp
theorem Sl.below' {B : Nat} {w0 : World} (h : Sl f w0 A xs) (hB : w0.heap.size ≤ B) (hb : Below B w0 w') : Sl f w' A xs := h.keep fun _ _ hp => hb.cell (Nat.lt_of_lt_of_le hp hB)
theorem Sl.own {base : Nat} {e : TypeId} {c : Nat} (h : w.ownsRow base e 1 (.slice A xs.length c) xs.length (xs.map f)) (hm : xs.length ≤ maxLen) : Sl f w A xs := by
  refine ⟨hm, fun hn => ?_⟩
  rcases h.2 with ⟨_, h0⟩ | ⟨g, cap, cur, hv, _, hh, hnc, _, hsz, htake⟩
  · omega
  · have hA : A = some ⟨g, 0, none⟩ := by injection hv
    subst hA
    refine ⟨g, 0, rfl, fun j hj => ?_⟩
    have h1 : cur.toList[j]? = some (f xs[j]) := by
      have h2 : (List.take (xs.length * 1) cur.toList)[j]? = (xs.map f)[j]? := by rw [htake]
      rw [List.getElem?_take, if_pos (by omega)] at h2
      rw [h2]; simp [hj]
    simp [World.cell?, hh]
    simpa using h1
/-- a slice literal's new block -/
theorem Sl.lit {t : TypeId} (xs : List α) (h : xs.length ≤ maxLen) : Sl f (w.alloc (.cells (xs.map f).toArray t)) (some ⟨w.heap.size, 0, none⟩) xs :=
  ⟨h, fun _ => ⟨_, _, rfl, fun j hj => by
    have := heap_alloc_new w (.cells (xs.map f).toArray t)
    unfold World.cell?
    simp only [this]
    simp [hj]⟩⟩
end

/-! a parameter that is a slice, opened -/
section
theorem trod_float {H : Type} {enc : TypeId × Value → H} {P : Program} {w : World} {base : Nat} {spare : Nat → Bool} {held : Bool} {t : TypeId} {k : FloatKind} {fuel : Nat} {cs : List Value} {x : DataW H × List MemPlace}
    (ht : P.underlying t = some (.float k)) (h : DataW.trod enc P w base spare held fuel t cs = some x) : ∃ b, cs = [.float k b] ∧ x = (.lit (.float k b), []) ∧ (Lit.float k b).wf = true := by
  cases fuel with
  | zero => simp [DataW.trod] at h
  | succ n =>
    unfold DataW.trod at h
    rw [ht] at h
    split at h <;> simp_all
variable {H : Type} {enc : TypeId × Value → H} {P : Program} {w : World}
theorem open_sl {α : Type} (f : α → Value) (Q : α → Prop) {t e : TypeId} {A : Option Addr} {len cap : Nat} {d : DataW H} {ps : List MemPlace} (ht : P.underlying t = some (.slice e)) (hc : P.cellsOf e = 1)
    (h : DataW.Trod enc P w 0 (fun _ => true) true t (.slice A len cap) d ps)
    (hx : ∀ (v : Value) (n : Nat) (y : DataW H × List MemPlace), DataW.trod enc P w 0 (fun _ => true) true n e [v] = some y → ∃ z, v = f z ∧ Q z) :
    ∃ xs : List α, len = xs.length ∧ xs.length ≤ cap ∧ Sl f w A xs ∧ ∀ x ∈ xs, Q x := by
  obtain ⟨fuel, h⟩ := h
  have h : DataW.trod enc P w 0 (fun _ => true) true fuel t [.slice A len cap] = some (d, ps) := h
  rcases Go.Deep.open_slice1 ht hc h with ⟨hcs, _⟩ | ⟨a, len', cap', m, n, V, D, Pl, hcs, _, hl, hm, hmm, hxx, hi⟩
  · simp only [List.cons.injEq, Value.slice.injEq, and_true] at hcs
    obtain ⟨rfl, rfl, rfl⟩ := hcs
    exact ⟨[], rfl, Nat.zero_le _, Sl.nil, by simp⟩
  · simp only [List.cons.injEq, Value.slice.injEq, and_true] at hcs
    obtain ⟨rfl, rfl, rfl⟩ := hcs
    rw [if_pos rfl] at hmm
    subst hmm
    have key : ∀ m, m ≤ len → ∃ xs : List α, xs.length = m ∧ (∀ j (h : j < xs.length), w.cell? (a.add j) = some (f xs[j])) ∧ ∀ x ∈ xs, Q x := by
      intro m
      induction m with
      | zero => intro _; exact ⟨[], rfl, fun j h => by simp at h, by simp⟩
      | succ m ih =>
        intro hm'
        obtain ⟨xs, h1, h2, h3⟩ := ih (by omega)
        obtain ⟨hcell, htr⟩ := hi m (by omega)
        obtain ⟨z, hz, hq⟩ := hx _ _ _ htr
        refine ⟨xs ++ [z], by simp [h1], fun j hj => ?_, fun x hx => ?_⟩
        · by_cases e : j < xs.length
          · rw [h2 j e, List.getElem_append_left e]
          · have : j = m := by simp at hj; omega
            subst this
            rw [hcell, hz, List.getElem_append_right (by omega)]
            simp
        · rcases List.mem_append.1 hx with hx | hx
          · exact h3 x hx
          · simp only [List.mem_singleton] at hx; subst hx; exact hq
    obtain ⟨xs, h1, h2, h3⟩ := key len (Nat.le_refl _)
    refine ⟨xs, h1.symm, by omega, ⟨by omega, fun h0 => ?_⟩, h3⟩
    have hspot : a.spot = none := by
      have := h2 0 h0
      cases hs : a.spot with
      | none => rfl
      | some s => exfalso; simp only [World.cell?, Addr.add, hs, if_true, Option.isSome_some] at this; split at this <;> simp at this
    obtain ⟨ab, ao, as⟩ := a
    simp only at hspot
    subst hspot
    refine ⟨ab, ao, rfl, fun j hj => ?_⟩
    rw [← h2 j hj]
    congr 1
    unfold Addr.add; split
    · rename_i h0; subst h0; rfl
    · rfl
end
end Go.Proofs.Ytdedjdiojdmohaa.Mem
