/- Layer 15: the greatest number that more than half have reached, in plain words. -/
import Derived.Test.YtilefofpfbgikaaSrt
namespace Go.Proofs.Ytilefofpfbgikaa.Mid
open Go.Proofs.Ytilefofpfbgikaa

/-- the program's: the one in the middle of the sorted list -/
def middle (l : List Int) : Int := if l = [] then 0 else (srt l).getD ((l.length - 1) / 2) 0
def reach (l : List Int) (x : Int) : Nat := l.countP (fun y => decide (x ≤ y))
/-- the document's loop: the best one so far -/
def bestStep (l : List Int) (st : Int × Bool) (x : Int) : Int × Bool :=
  if l.length < 2 * reach l x ∧ (st.2 = false ∨ st.1 < x) then (x, true) else st
def bestTo (l : List Int) (k : Nat) : Int × Bool := (l.take k).foldl (bestStep l) (0, false)
theorem bestTo_succ {l : List Int} {k : Nat} (h : k < l.length) : bestTo l (k + 1) = bestStep l (bestTo l k) l[k] := by
  unfold bestTo; rw [List.take_succ_eq_append_getElem h, List.foldl_append]; rfl
def best (l : List Int) : Int := (bestTo l l.length).1
/-- what the loop holds -/
theorem best_inv (l : List Int) (k : Nat) (hk : k ≤ l.length) :
    ((bestTo l k).2 = true → (bestTo l k).1 ∈ l.take k ∧ l.length < 2 * reach l (bestTo l k).1) ∧
    (∀ x ∈ l.take k, l.length < 2 * reach l x → (bestTo l k).2 = true ∧ x ≤ (bestTo l k).1) ∧ ((bestTo l k).2 = false → (bestTo l k).1 = 0) := by
  induction k with
  | zero => exact ⟨fun h => by simp [bestTo] at h, fun x hx => by simp at hx, fun _ => rfl⟩
  | succ k ih =>
    obtain ⟨h1, h2, h3⟩ := ih (by omega)
    have hlt : k < l.length := by omega
    rw [bestTo_succ hlt]
    rw [List.take_succ_eq_append_getElem hlt]
    generalize hst : bestTo l k = st at *
    unfold bestStep
    split
    · rename_i hc
      refine ⟨fun _ => ⟨List.mem_append_right _ (List.mem_singleton.2 rfl), hc.1⟩, fun x hx hr => ⟨rfl, ?_⟩, fun h => by simp at h⟩
      rcases List.mem_append.1 hx with h | h
      · obtain ⟨h4, h5⟩ := h2 x h hr
        rcases hc.2 with h6 | h6
        · rw [h4] at h6; cases h6
        · show x ≤ l[k]; omega
      · simp at h; subst h; exact Int.le_refl _
    · rename_i hc
      refine ⟨fun h => ⟨List.mem_append_left _ (h1 h).1, (h1 h).2⟩, fun x hx hr => ?_, h3⟩
      rcases List.mem_append.1 hx with h | h
      · exact h2 x h hr
      · simp at h; subst h
        have h7 : ¬ (st.2 = false ∨ st.1 < l[k]) := fun h8 => hc ⟨hr, h8⟩
        simp only [not_or, Bool.not_eq_false, Int.not_lt] at h7
        exact h7
theorem reach_perm {l m : List Int} (h : l.Perm m) (x : Int) : reach l x = reach m x := h.countP_eq _
theorem sorted_reach_ge {s : List Int} (hs : s.Pairwise (· ≤ ·)) {k : Nat} (hk : k < s.length) : s.length - k ≤ reach s s[k] := by
  have h1 : reach s s[k] = reach (s.take k) s[k] + reach (s.drop k) s[k] := by
    unfold reach; rw [← List.countP_append, List.take_append_drop]
  have h2 : reach (s.drop k) s[k] = (s.drop k).length := by
    unfold reach
    rw [List.countP_eq_length]
    intro y hy
    obtain ⟨j, hj, rfl⟩ := List.mem_iff_getElem.1 hy
    rw [List.getElem_drop]
    rcases Nat.eq_zero_or_pos j with h0 | h0
    · subst h0; simp
    · have := List.pairwise_iff_getElem.1 hs k (k + j) hk (by simp at hj; omega) (by omega)
      simpa using this
  rw [h1, h2, List.length_drop]; omega
theorem sorted_reach_le {s : List Int} (hs : s.Pairwise (· ≤ ·)) {k : Nat} (hk : k < s.length) {x : Int} (hx : s[k] < x) : reach s x + (k + 1) ≤ s.length := by
  have h1 : reach s x = reach (s.take (k + 1)) x + reach (s.drop (k + 1)) x := by
    unfold reach; rw [← List.countP_append, List.take_append_drop]
  have h2 : reach (s.take (k + 1)) x = 0 := by
    unfold reach
    rw [List.countP_eq_zero]
    intro y hy
    obtain ⟨j, hj, rfl⟩ := List.mem_iff_getElem.1 hy
    rw [List.getElem_take]
    simp at hj
    have : s[j] ≤ s[k] := by
      rcases Nat.lt_or_ge j k with h | h
      · exact List.pairwise_iff_getElem.1 hs j k (by omega) hk h
      · have : j = k := by omega
        subst this; exact Int.le_refl _
    simp; omega
  have h3 : reach (s.drop (k + 1)) x ≤ (s.drop (k + 1)).length := List.countP_le_length ..
  rw [List.length_drop] at h3
  omega
theorem middle_best (l : List Int) : middle l = best l := by
  unfold middle
  split
  · rename_i h; subst h; rfl
  · rename_i hne
    have hpos : 0 < l.length := List.length_pos_iff.2 hne
    have hk : (l.length - 1) / 2 < (srt l).length := by rw [srt_len]; omega
    rw [List.getD_eq_getElem?_getD, List.getElem?_eq_getElem hk, Option.getD_some]
    obtain ⟨h1, h2, _⟩ := best_inv l l.length (Nat.le_refl _)
    rw [List.take_length] at h1 h2
    have hs := srt_sorted l
    have hr1 := sorted_reach_ge hs hk
    rw [reach_perm (srt_perm l), srt_len] at hr1
    have hm : (srt l)[(l.length - 1) / 2] ∈ l := (srt_perm l).mem_iff.1 (List.getElem_mem hk)
    obtain ⟨h3, h4⟩ := h2 _ hm (by omega)
    obtain ⟨h5, h6⟩ := h1 h3
    unfold best
    rcases Int.lt_or_le (srt l)[(l.length - 1) / 2] (bestTo l l.length).1 with h7 | h7
    · have h8 := sorted_reach_le hs hk h7
      rw [reach_perm (srt_perm l), srt_len] at h8
      omega
    · omega
end Go.Proofs.Ytilefofpfbgikaa.Mid
