/- Layer 15: Next answers as the document does: plain law. -/
import Derived.Test.YtilefofpfbgikaaRn
namespace Go.Proofs.Ytilefofpfbgikaa
open Go.RowKit Go.Maps Go.Lib Mem Cf

theorem pair_ext {xs ys : List Int} (hx : xs.Pairwise (· < ·)) (hy : ys.Pairwise (· < ·)) (h : ∀ m, m ∈ xs ↔ m ∈ ys) : xs = ys := by
  induction xs generalizing ys with
  | nil =>
    cases ys with
    | nil => rfl
    | cons y ys => exact absurd ((h y).2 List.mem_cons_self) (by simp)
  | cons x xs ih =>
    cases ys with
    | nil => exact absurd ((h x).1 List.mem_cons_self) (by simp)
    | cons y ys =>
      rw [List.pairwise_cons] at hx hy
      have hxy : x = y := by
        rcases Int.lt_trichotomy x y with h1 | h1 | h1
        · rcases List.mem_cons.1 ((h x).1 List.mem_cons_self) with h2 | h2
          · exact h2
          · have := hy.1 x h2; omega
        · exact h1
        · rcases List.mem_cons.1 ((h y).2 List.mem_cons_self) with h2 | h2
          · exact h2.symm
          · have := hx.1 y h2; omega
      subst hxy
      congr 1
      refine ih hx.2 hy.2 fun m => ⟨fun hm => ?_, fun hm => ?_⟩
      · rcases List.mem_cons.1 ((h m).1 (List.mem_cons_of_mem _ hm)) with h2 | h2
        · have := hx.1 m hm; omega
        · exact h2
      · rcases List.mem_cons.1 ((h m).2 (List.mem_cons_of_mem _ hm)) with h2 | h2
        · have := hy.1 m hm; omega
        · exact h2
theorem upto_pair (xs : List Int) (n : Int) (b : Bool) (k : Nat) : (upto xs n b k).Pairwise (· < ·) := by
  unfold upto
  refine List.Pairwise.filter _ ?_
  rw [List.pairwise_map]
  exact List.pairwise_lt_range.imp fun {a b} hab => by omega
theorem upto_mem {xs : List Int} {n m : Int} {b : Bool} {k : Nat} : m ∈ upto xs n b k ↔ (1 ≤ m ∧ m ≤ k) ∧ pick xs n b m = true := by
  unfold upto
  rw [List.mem_filter, List.mem_map]
  constructor
  · rintro ⟨⟨i, hi, rfl⟩, hp⟩
    rw [List.mem_range] at hi
    exact ⟨by omega, hp⟩
  · rintro ⟨hm, hp⟩
    exact ⟨⟨(m - 1).toNat, List.mem_range.2 (by omega), by omega⟩, hp⟩
theorem rise_mem {xs : List Int} (h : riseB xs = true) {m : Int} (hm : m ∈ xs) : 1 ≤ m ∧ m ≤ 7 := by
  rw [rise_iff] at h
  obtain ⟨j, hj, rfl⟩ := List.mem_iff_getElem.1 hm
  have h1 := h j hj
  unfold okAt at h1
  rw [getD_get hj] at h1
  simp at h1
  exact ⟨h1.1, h1.2.1⟩
theorem insAt_mem {xs : List Int} {i : Nat} {n m : Int} : m ∈ insAt xs i n ↔ m = n ∨ m ∈ xs := by
  unfold insAt
  have h := @List.take_append_drop Int i xs
  conv => rhs; rw [← h]
  simp only [List.mem_append, List.mem_singleton]
  constructor
  · rintro ((h | h) | h)
    · exact .inr (.inl h)
    · exact .inl h
    · exact .inr (.inr h)
  · rintro (h | h | h)
    · exact .inl (.inr h)
    · exact .inl (.inl h)
    · exact .inr h
theorem below_zero {xs : List Int} {n : Int} (h : ∀ m ∈ xs, n < m) : below n xs = 0 := by
  unfold below
  rw [List.countP_eq_zero]
  intro m hm
  have := h m hm
  simp; omega
theorem putAt_pair {xs : List Int} {n : Int} (hx : xs.Pairwise (· < ·)) (hn : n ∉ xs) : (putAt n xs).Pairwise (· < ·) := by
  induction xs with
  | nil => simp [putAt, insAt]
  | cons x xs ih =>
    have hp := hx
    rw [List.pairwise_cons] at hx
    have hxn : x ≠ n := fun e => hn (e ▸ List.mem_cons_self)
    have hn' : n ∉ xs := fun e => hn (List.mem_cons_of_mem _ e)
    rcases Int.lt_or_le x n with h1 | h1
    · have he : putAt n (x :: xs) = x :: putAt n xs := by
        unfold putAt below insAt
        rw [List.countP_cons, if_pos (by simpa using h1)]
        rfl
      rw [he, List.pairwise_cons]
      refine ⟨fun m hm => ?_, ih hx.2 hn'⟩
      rcases (insAt_mem (i := below n xs)).1 hm with h2 | h2
      · omega
      · exact hx.1 m h2
    · have h0 : below n (x :: xs) = 0 := below_zero fun m hm => by
        rcases List.mem_cons.1 hm with h2 | h2
        · omega
        · have := hx.1 m h2; omega
      have he : putAt n (x :: xs) = n :: x :: xs := by unfold putAt; rw [h0]; rfl
      rw [he, List.pairwise_cons]
      refine ⟨fun m hm => ?_, hp⟩
      rcases List.mem_cons.1 hm with h2 | h2
      · omega
      · have := hx.1 m h2; omega
theorem put_upto {xs : List Int} (h : riseB xs = true) {n : Int} (h1 : 1 ≤ n) (h7 : n ≤ 7) (hn : n ∉ xs) : putAt n xs = upto xs n true 7 := by
  refine pair_ext (putAt_pair (rise_pair h) hn) (upto_pair ..) fun m => ?_
  rw [upto_mem]
  unfold putAt
  rw [insAt_mem]
  unfold pick hasB
  by_cases hm : m = n
  · subst hm; simp; omega
  · simp only [hm, false_or, if_false, decide_eq_true_eq]
    exact ⟨fun hx => ⟨by have := rise_mem h hx; omega, hx⟩, fun hx => hx.2⟩
theorem without_upto {xs : List Int} (h : riseB xs = true) (n : Int) : without n xs = upto xs n false 7 := by
  refine pair_ext ((rise_pair h).filter _) (upto_pair ..) fun m => ?_
  rw [upto_mem]
  unfold without
  rw [List.mem_filter]
  unfold pick hasB
  by_cases hm : m = n
  · subst hm; simp
  · simp only [hm, decide_false, Bool.not_false, and_true, if_false, decide_eq_true_eq]
    exact ⟨fun hx => ⟨by have := rise_mem h hx; omega, hx⟩, fun hx => hx.2⟩
theorem same_upto {xs : List Int} (h : riseB xs = true) {n : Int} (hn : n ∉ xs) : xs = upto xs n false 7 := by
  refine Eq.trans ?_ (without_upto h n)
  unfold without
  refine (List.filter_eq_self.2 fun m hm => ?_).symm
  have : m ≠ n := fun e => hn (e ▸ hm)
  simp [this]
theorem right_apart {vs ls : List Int} (h : rightB vs ls = true) {n : Int} (hv : n ∈ vs) : n ∉ ls := by
  unfold rightB rconfB apartB at h
  simp only [Bool.and_eq_true, List.all_eq_true] at h
  have := h.2.2.2 n hv
  unfold hasB at this
  simpa using this
/-- Next answers as the document's Next does -/
theorem next_ref (vs ls : List Int) (kind n : Int) : nextR vs ls kind n = refR vs ls kind n := by
  unfold nextR refR
  split
  · rfl
  · rename_i hc
    simp only [not_or, Bool.not_eq_false, Int.not_lt] at hc
    obtain ⟨hr, -, -, h1, h7⟩ := hc
    obtain ⟨hv, hl, -⟩ := right_rise hr
    split
    · split
      · rfl
      · rename_i hm
        simp only [hasB, Bool.or_eq_true, decide_eq_true_eq, not_or] at hm
        rw [put_upto hl h1 h7 hm.2, ← same_upto hv hm.1]
    · split
      · split
        · rfl
        · rename_i hm
          simp only [hasB, decide_eq_false_iff_not, Classical.not_not] at hm
          rw [put_upto hv h1 h7 (fun e => right_apart hr e hm), without_upto hl n]
      · split
        · rfl
        · rename_i hm
          have he : (hasB ls n = false ∧ vs.length = 1) ↔ (hasB vs n = true ∧ vs.length = 1) := by
            simp only [hasB, Bool.or_eq_false_iff, decide_eq_false_iff_not, decide_eq_true_eq, not_and, Classical.not_not] at hm ⊢
            exact ⟨fun h => ⟨Classical.byContradiction fun e => h.1 (hm e), h.2⟩, fun h => ⟨right_apart hr h.1, h.2⟩⟩
          simp only [he, without_upto hv n, without_upto hl n]
end Go.Proofs.Ytilefofpfbgikaa
