/- Layer 1: the document's Sort: plain law and walk. -/
import Derived.Test.YtdgliljmmokjnaaFloM
namespace Go.Proofs.Ytdgliljmmokjnaa
open Go.RowKit Mem

/-! plain: one number goes into sorted codes -/
def step (c : Nat) (s : List Nat × Bool) (d : Nat) : List Nat × Bool :=
  ((if c < d ∧ s.2 = false then s.1 ++ [c] else s.1) ++ [d], if c = d then true else if c < d then true else s.2)
def steps (c : Nat) (l : List Nat) : List Nat × Bool := l.foldl (step c) ([], false)
def ins (l : List Nat) (c : Nat) : List Nat := if (steps c l).2 then (steps c l).1 else (steps c l).1 ++ [c]
def srt (cs : List Nat) : List Nat := cs.foldl ins []
theorem steps_snoc (c : Nat) (l : List Nat) (k : Nat) (h : k < l.length) : steps c (l.take (k + 1)) = step c (steps c (l.take k)) l[k] := by
  unfold steps; rw [take_snoc l k h, List.foldl_append]; rfl
theorem srt_snoc (cs : List Nat) (k : Nat) (h : k < cs.length) : srt (cs.take (k + 1)) = ins (srt (cs.take k)) cs[k] := by
  unfold srt; rw [take_snoc cs k h, List.foldl_append]; rfl
/-- what a run of steps gives over sorted codes -/
theorem steps_sorted (c : Nat) (l : List Nat) (hl : l.Pairwise (· < ·)) :
    ((steps c l).2 = false ∧ (steps c l).1 = l ∧ ∀ d ∈ l, d < c) ∨
    ((steps c l).2 = true ∧ (steps c l).1.Pairwise (· < ·) ∧ (∀ d, d ∈ (steps c l).1 ↔ d = c ∨ d ∈ l) ∧ ∃ d ∈ l, c ≤ d) := by
  have key : ∀ r : List Nat, ∀ s : List Nat × Bool, ∀ m : List Nat, m ++ r = l →
      ((s.2 = false ∧ s.1 = m ∧ ∀ d ∈ m, d < c) ∨ (s.2 = true ∧ s.1.Pairwise (· < ·) ∧ (∀ d, d ∈ s.1 ↔ d = c ∨ d ∈ m) ∧ ∃ d ∈ m, c ≤ d)) →
      (((r.foldl (step c) s).2 = false ∧ (r.foldl (step c) s).1 = l ∧ ∀ d ∈ l, d < c) ∨
       ((r.foldl (step c) s).2 = true ∧ (r.foldl (step c) s).1.Pairwise (· < ·) ∧ (∀ d, d ∈ (r.foldl (step c) s).1 ↔ d = c ∨ d ∈ l) ∧ ∃ d ∈ l, c ≤ d)) := by
    intro r
    induction r with
    | nil => intro s m hm h; rw [List.append_nil] at hm; subst hm; exact h
    | cons x r ih =>
      intro s m hm h
      rw [List.foldl_cons]
      refine ih (step c s x) (m ++ [x]) (by rw [List.append_assoc]; exact hm) ?_
      have hp : ∀ d ∈ m, d < x := by
        rw [← hm, List.pairwise_append] at hl
        exact fun d hd => hl.2.2 d hd x (by simp)
      rcases h with ⟨h1, h2, h3⟩ | ⟨h1, h2, h3, d0, h4, h5⟩
      · by_cases e1 : c < x
        · refine .inr ?_
          unfold step
          simp only [h1, e1, and_self, if_true, if_neg (show ¬ c = x by omega), true_and]
          refine ⟨?_, ?_, x, by simp, by omega⟩
          · rw [h2, List.pairwise_append]
            refine ⟨?_, by simp, ?_⟩
            · rw [List.pairwise_append]
              rw [← hm, List.pairwise_append] at hl
              exact ⟨hl.1, by simp, fun a ha b hb => by simp at hb; subst hb; exact h3 a ha⟩
            · intro a ha b hb
              simp at hb; subst hb
              rcases List.mem_append.1 ha with ha | ha
              · exact hp a ha
              · simp at ha; subst ha; exact e1
          · intro d; rw [h2]; simp only [List.mem_append, List.mem_singleton]
            constructor
            · rintro ((h | h) | h)
              · exact .inr (.inl h)
              · exact .inl h
              · exact .inr (.inr h)
            · rintro (h | h | h)
              · exact .inl (.inr h)
              · exact .inl (.inl h)
              · exact .inr h
        · by_cases e2 : c = x
          · refine .inr ?_
            unfold step
            simp only [h1, e1, false_and, if_false, if_pos e2, true_and]
            refine ⟨?_, ?_, x, by simp, by omega⟩
            · rw [h2, List.pairwise_append]
              rw [← hm, List.pairwise_append] at hl
              exact ⟨hl.1, by simp, fun a ha b hb => by simp at hb; subst hb; exact hp a ha⟩
            · intro d; rw [h2, e2]; simp only [List.mem_append, List.mem_singleton]
              constructor
              · rintro (h | h)
                · exact .inr (.inl h)
                · exact .inl h
              · rintro (h | h | h)
                · exact .inr h
                · exact .inl h
                · exact .inr h
          · refine .inl ?_
            unfold step
            simp only [h1, e1, false_and, if_false, if_neg e2, true_and, h2]
            intro d hd
            rcases List.mem_append.1 hd with hd | hd
            · exact h3 d hd
            · simp at hd; subst hd; omega
      · refine .inr ?_
        have hcx : c < x := by have := hp d0 h4; omega
        unfold step
        simp only [h1, hcx, Bool.true_eq_false, and_false, if_false, if_true, if_neg (show ¬ c = x by omega), true_and]
        refine ⟨?_, ?_, d0, by simp [h4], h5⟩
        · rw [List.pairwise_append]
          refine ⟨h2, by simp, fun a ha b hb => ?_⟩
          simp at hb; subst hb
          rcases (h3 a).1 ha with rfl | ha
          · exact hcx
          · exact hp a ha
        · intro d; simp only [List.mem_append, List.mem_singleton, h3]
          constructor
          · rintro ((h | h) | h)
            · exact .inl h
            · exact .inr (.inl h)
            · exact .inr (.inr h)
          · rintro (h | h | h)
            · exact .inl (.inl h)
            · exact .inl (.inr h)
            · exact .inr h
  exact key l ([], false) [] rfl (.inl ⟨rfl, rfl, by simp⟩)
theorem ins_sorted (l : List Nat) (c : Nat) (hl : l.Pairwise (· < ·)) : (ins l c).Pairwise (· < ·) ∧ ∀ d, d ∈ ins l c ↔ d = c ∨ d ∈ l := by
  unfold ins
  rcases steps_sorted c l hl with ⟨h1, h2, h3⟩ | ⟨h1, h2, h3, _⟩
  · rw [h1, h2]
    simp only [Bool.false_eq_true, if_false]
    refine ⟨?_, ?_⟩
    · rw [List.pairwise_append]
      exact ⟨hl, by simp, fun a ha b hb => by simp at hb; subst hb; exact h3 a ha⟩
    · intro d; simp only [List.mem_append, List.mem_singleton]
      constructor
      · rintro (h | h)
        · exact .inr h
        · exact .inl h
      · rintro (h | h)
        · exact .inr h
        · exact .inl h
  · rw [if_pos h1]; exact ⟨h2, h3⟩
theorem srt_sorted (cs : List Nat) : (srt cs).Pairwise (· < ·) ∧ ∀ d, d ∈ srt cs ↔ d ∈ cs := by
  have key : ∀ r l : List Nat, l.Pairwise (· < ·) → (r.foldl ins l).Pairwise (· < ·) ∧ ∀ d, d ∈ r.foldl ins l ↔ d ∈ l ∨ d ∈ r := by
    intro r
    induction r with
    | nil => intro l h; exact ⟨h, by simp⟩
    | cons x r ih =>
      intro l h
      obtain ⟨a, b⟩ := ins_sorted l x h
      obtain ⟨c, d⟩ := ih _ a
      rw [List.foldl_cons]
      refine ⟨c, fun y => ?_⟩
      rw [d, b]; simp only [List.mem_cons]
      constructor
      · rintro ((h | h) | h)
        · exact .inr (.inl h)
        · exact .inl h
        · exact .inr (.inr h)
      · rintro (h | h | h)
        · exact .inl (.inr h)
        · exact .inl (.inl h)
        · exact .inr h
  obtain ⟨a, b⟩ := key cs [] (by simp)
  exact ⟨a, fun d => (b d).trans (by simp)⟩
theorem steps_len (c : Nat) (l : List Nat) : (steps c l).1.length ≤ l.length + (if (steps c l).2 then 1 else 0) := by
  have key : ∀ r : List Nat, ∀ s : List Nat × Bool, ∀ n : Nat, s.1.length ≤ n + (if s.2 then 1 else 0) → (r.foldl (step c) s).1.length ≤ n + r.length + (if (r.foldl (step c) s).2 then 1 else 0) := by
    intro r
    induction r with
    | nil => intro s n h; exact h
    | cons x r ih =>
      intro s n h
      rw [List.foldl_cons]
      have := ih (step c s x) (n + 1) (by
        unfold step
        cases hs : s.2 <;> rw [hs] at h
        · simp only [and_true, List.length_append, List.length_singleton]
          simp only [Bool.false_eq_true, if_false] at h
          by_cases e1 : c < x
          · rw [if_pos e1]; simp [e1]; omega
          · rw [if_neg e1]; omega
        · simp at h
          simp; omega)
      simp only [List.length_cons]
      omega
  have := key l ([], false) 0 (by simp)
  rw [Nat.zero_add] at this
  exact this
theorem ins_len (l : List Nat) (c : Nat) : (ins l c).length ≤ l.length + 1 := by
  have := steps_len c l
  unfold ins
  cases h : (steps c l).2 <;> rw [h] at this <;> simp at this ⊢ <;> omega
theorem srt_len (cs : List Nat) : (srt cs).length ≤ cs.length := by
  have key : ∀ r l : List Nat, (r.foldl ins l).length ≤ l.length + r.length := by
    intro r
    induction r with
    | nil => intro l; simp
    | cons x r ih => intro l; rw [List.foldl_cons]; have := ih (ins l x); have := ins_len l x; simp only [List.length_cons]; omega
  have := key cs []
  rw [List.length_nil, Nat.zero_add] at this
  exact this
end Go.Proofs.Ytdgliljmmokjnaa
