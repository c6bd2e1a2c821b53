/- Layer 15: quorums meet; changes keep: plain words. -/
import Derived.Test.YtilefofpfbgikaaNxL
import Derived.Test.YtilefofpfbgikaaCf4
namespace Go.Proofs.Ytilefofpfbgikaa
open Go Go.RowKit Go.Maps Go.Lib Mem Cf

theorem count_meet {α : Type} (p q : α → Bool) : ∀ cs : List α, cs.length < cs.countP p + cs.countP q → ∃ v ∈ cs, p v = true ∧ q v = true
  | [], h => by simp at h
  | x :: cs, h => by
    by_cases hx : p x = true ∧ q x = true
    · exact ⟨x, List.mem_cons_self, hx⟩
    · have h2 : cs.length < cs.countP p + cs.countP q := by
        rw [List.countP_cons, List.countP_cons, List.length_cons] at h
        cases hp : p x <;> cases hq : q x <;> simp [hp, hq] at h hx ⊢ <;> omega
      obtain ⟨v, hv, h3⟩ := count_meet p q cs h2
      exact ⟨v, List.mem_cons_of_mem _ hv, h3⟩
theorem quorum_lt {vs who : List Int} (h : quorumB vs who = true) : vs.length < 2 * votes vs who := by simpa [quorumB] using h
theorem quorum_meet {vs one two : List Int} (h1 : quorumB vs one = true) (h2 : quorumB vs two = true) : ∃ v ∈ vs, v ∈ one ∧ v ∈ two := by
  have e1 := quorum_lt h1
  have e2 := quorum_lt h2
  obtain ⟨v, hv, h3, h4⟩ := count_meet (fun v => hasB one v) (fun v => hasB two v) vs (by unfold votes at e1 e2; omega)
  exact ⟨v, hv, by simpa [hasB] using h3, by simpa [hasB] using h4⟩
theorem votes_ins (vs who : List Int) (i : Nat) (n : Int) : votes (insAt vs i n) who ≤ votes vs who + 1 := by
  unfold votes insAt
  rw [List.countP_append, List.countP_append]
  have h := congrArg (List.countP fun v => hasB who v) (List.take_append_drop i vs)
  rw [List.countP_append] at h
  have : List.countP (fun v => hasB who v) [n] ≤ 1 := List.countP_le_length
  omega
theorem votes_filter (vs who : List Int) (f : Int → Bool) : votes vs who ≤ votes (vs.filter f) who + (vs.length - (vs.filter f).length) := by
  unfold votes
  induction vs with
  | nil => simp
  | cons x r ih =>
    have hl := List.length_filter_le f r
    rw [List.filter_cons]
    by_cases hx : f x = true
    · rw [if_pos hx, List.countP_cons, List.countP_cons, List.length_cons, List.length_cons]; omega
    · rw [if_neg hx, List.countP_cons, List.length_cons]
      split <;> omega
theorem without_one {n : Int} : ∀ {vs : List Int}, vs.Pairwise (· < ·) → vs.length ≤ (without n vs).length + 1
  | [], _ => by simp
  | x :: r, h => by
    rw [List.pairwise_cons] at h
    unfold without
    rw [List.filter_cons]
    by_cases hx : x = n
    · have : r.filter (fun m => !decide (m = n)) = r := by
        rw [List.filter_eq_self]
        intro m hm
        have := h.1 m hm
        simp; omega
      rw [if_neg (by simp [hx]), this]; simp
    · have := without_one (n := n) h.2
      unfold without at this
      rw [if_pos (by simp [hx])]; simp; omega
theorem without_mem {n m : Int} {vs : List Int} : m ∈ without n vs ↔ m ∈ vs ∧ m ≠ n := by unfold without; simp
theorem put_mem {n m : Int} {vs : List Int} : m ∈ putAt n vs ↔ m = n ∨ m ∈ vs := insAt_mem
theorem next_voters {vs ls : List Int} {kind n : Int} (h : (nextR vs ls kind n).2.2 = 0) : rightB vs ls = true ∧ 1 ≤ n ∧ n ≤ 7 ∧
    ((kind = 1 ∧ n ∉ vs ∧ n ∉ ls ∧ nextR vs ls kind n = (vs, putAt n ls, 0)) ∨ (kind = 2 ∧ n ∈ ls ∧ nextR vs ls kind n = (putAt n vs, without n ls, 0)) ∨ (kind = 3 ∧ (n ∈ ls ∨ vs.length ≠ 1) ∧ nextR vs ls kind n = (without n vs, without n ls, 0))) := by
  unfold nextR at h ⊢
  by_cases h0 : rightB vs ls = false ∨ kind < 1 ∨ 3 < kind ∨ n < 1 ∨ 7 < n
  · rw [if_pos h0] at h; cases h
  · rw [if_neg h0] at h ⊢
    have hr : rightB vs ls = true := by
      cases hr : rightB vs ls with
      | true => rfl
      | false => exact absurd (.inl hr) h0
    refine ⟨hr, by omega, by omega, ?_⟩
    by_cases h1 : kind = 1
    · rw [if_pos h1] at h ⊢
      by_cases h2 : (hasB vs n || hasB ls n) = true
      · rw [if_pos h2] at h; cases h
      · rw [if_neg h2]
        simp [hasB] at h2
        exact .inl ⟨h1, h2.1, h2.2, rfl⟩
    · rw [if_neg h1] at h ⊢
      by_cases h2 : kind = 2
      · rw [if_pos h2] at h ⊢
        by_cases h3 : hasB ls n = false
        · rw [if_pos h3] at h; cases h
        · rw [if_neg h3]
          exact .inr (.inl ⟨h2, by simpa [hasB] using h3, rfl⟩)
      · rw [if_neg h2] at h ⊢
        by_cases h3 : (hasB vs n || hasB ls n) = false
        · rw [if_pos h3] at h; cases h
        · rw [if_neg h3] at h ⊢
          by_cases h4 : hasB ls n = false ∧ vs.length = 1
          · rw [if_pos h4] at h; cases h
          · rw [if_neg h4]
            refine .inr (.inr ⟨by omega, ?_, rfl⟩)
            by_cases h5 : n ∈ ls
            · exact .inl h5
            · exact .inr fun h6 => h4 ⟨by simpa [hasB] using h5, h6⟩
theorem quorum_over {vs ls one two : List Int} {kind n : Int} (h : (nextR vs ls kind n).2.2 = 0) (h1 : quorumB vs one = true) (h2 : quorumB (nextR vs ls kind n).1 two = true) :
    ∃ v, v ∈ vs ∧ v ∈ (nextR vs ls kind n).1 ∧ v ∈ one ∧ v ∈ two := by
  obtain ⟨hr, -, -, hc⟩ := next_voters h
  have hp := rise_pair (right_rise hr).1
  rcases hc with ⟨_, _, _, e⟩ | ⟨_, _, e⟩ | ⟨_, _, e⟩
  · rw [e] at h2 ⊢
    obtain ⟨v, h3, h4, h5⟩ := quorum_meet h1 h2
    exact ⟨v, h3, h3, h4, h5⟩
  · rw [e] at h2 ⊢
    have e1 := quorum_lt h1
    have e2 := quorum_lt h2
    have e3 := votes_ins vs two (below n vs) n
    have e4 := insAt_len n (below_le n vs)
    simp only [putAt] at e2
    obtain ⟨v, hv, h3, h4⟩ := count_meet (fun v => hasB one v) (fun v => hasB two v) vs (by unfold votes at e1 e2 e3; omega)
    exact ⟨v, hv, put_mem.2 (.inr hv), by simpa [hasB] using h3, by simpa [hasB] using h4⟩
  · rw [e] at h2 ⊢
    have e1 := quorum_lt h1
    have e2 := quorum_lt h2
    have e3 := votes_filter vs one (fun m => !decide (m = n))
    have e4 := without_one (n := n) hp
    have e5 := without_len n vs
    simp only at e2
    obtain ⟨v, hv, h3, h4⟩ := count_meet (fun v => hasB one v) (fun v => hasB two v) (without n vs) (by unfold votes at e1 e2 e3; unfold without at e2 e4 e5 ⊢; omega)
    exact ⟨v, (without_mem.1 hv).1, hv, by simpa [hasB] using h3, by simpa [hasB] using h4⟩
theorem rise_of {xs : List Int} (h : ∀ m ∈ xs, 1 ≤ m ∧ m ≤ 7) (hp : xs.Pairwise (· < ·)) : riseB xs = true := by
  refine rise_yes fun j hj => ?_
  have hm := h _ (List.getElem_mem hj)
  have hq : j = 0 ∨ xs[j - 1]'(by omega) < xs[j] := by
    rcases Nat.eq_zero_or_pos j with h0 | h0
    · exact .inl h0
    · exact .inr (List.pairwise_iff_getElem.1 hp _ _ (by omega) hj (by omega))
  unfold okAt
  rw [getD_get hj]
  rcases hq with rfl | hq
  · simp; omega
  · rw [getD_get (show j - 1 < xs.length by omega)]; simp; omega
theorem right_of {vs ls : List Int} (h1 : 0 < vs.length) (hv : riseB vs = true) (hl : riseB ls = true) (ha : ∀ m ∈ vs, m ∉ ls) : rightB vs ls = true := by
  have : apartB vs ls = true := apart_yes fun j hj => by simpa [hasB] using ha _ (List.getElem_mem hj)
  unfold rightB rconfB
  simp [h1, hv, hl, this]
/-- what a change keeps -/
theorem next_keeps {vs ls : List Int} {kind n : Int} (h : (nextR vs ls kind n).2.2 = 0) :
    rightB (nextR vs ls kind n).1 (nextR vs ls kind n).2.1 = true ∧
    (hasB (nextR vs ls kind n).1 n || hasB (nextR vs ls kind n).2.1 n) = decide (kind ≠ 3) ∧ hasB (nextR vs ls kind n).1 n = decide (kind = 2) ∧
    ∀ m, m ≠ n → hasB (nextR vs ls kind n).1 m = hasB vs m ∧ (hasB (nextR vs ls kind n).1 m || hasB (nextR vs ls kind n).2.1 m) = (hasB vs m || hasB ls m) := by
  obtain ⟨hr, hn1, hn7, hc⟩ := next_voters h
  obtain ⟨hv, hl, -⟩ := right_rise hr
  have h0 : 0 < vs.length := by unfold rightB at hr; simp at hr; exact List.length_pos_iff.2 (by intro e; subst e; simp at hr)
  have pv := rise_pair hv
  have pl := rise_pair hl
  have hap : ∀ m ∈ vs, m ∉ ls := fun m hm => right_apart hr hm
  have hwr : ∀ xs : List Int, riseB xs = true → riseB (without n xs) = true := fun xs hx => rise_of (fun m hm => rise_mem hx (without_mem.1 hm).1) ((rise_pair hx).filter _)
  have hpr : ∀ xs : List Int, riseB xs = true → n ∉ xs → riseB (putAt n xs) = true := fun xs hx hn => rise_of (fun m hm => by rcases put_mem.1 hm with rfl | h2; exact ⟨hn1, hn7⟩; exact rise_mem hx h2) (putAt_pair (rise_pair hx) hn)
  rcases hc with ⟨hk, a1, a2, e⟩ | ⟨hk, a1, e⟩ | ⟨hk, a1, e⟩
  · rw [e]
    simp only
    refine ⟨right_of h0 hv (hpr ls hl a2) (fun m hm h2 => ?_), ?_, ?_, fun m hm => ⟨trivial, ?_⟩⟩
    · rcases put_mem.1 h2 with rfl | h3
      · exact a1 hm
      · exact hap m hm h3
    · simp [hasB, put_mem, hk]
    · simp [hasB, a1, hk]
    · simp [hasB, put_mem, hm]
  · rw [e]
    simp only
    have hn : n ∉ vs := fun h2 => hap n h2 a1
    refine ⟨right_of (by rw [putAt, insAt_len n (below_le n vs)]; omega) (hpr vs hv hn) (hwr ls hl) (fun m hm h2 => ?_), ?_, ?_, fun m hm => ⟨?_, ?_⟩⟩
    · rcases put_mem.1 hm with rfl | h3
      · exact (without_mem.1 h2).2 rfl
      · exact hap m h3 (without_mem.1 h2).1
    · simp [hasB, put_mem, hk]
    · simp [hasB, put_mem, hk]
    · simp [hasB, put_mem, hm]
    · simp [hasB, put_mem, without_mem, hm]
  · rw [e]
    simp only
    refine ⟨right_of ?_ (hwr vs hv) (hwr ls hl) (fun m hm h2 => hap m (without_mem.1 hm).1 (without_mem.1 h2).1), ?_, ?_, fun m hm => ⟨?_, ?_⟩⟩
    · have h5 := without_one (n := n) pv
      rcases a1 with h2 | h2
      · rw [without_none (fun h3 => hap n h3 h2)]; exact h0
      · omega
    · simp [hasB, without_mem, hk]
    · simp [hasB, without_mem, hk]
    · simp [hasB, without_mem, hm]
    · simp [hasB, without_mem, hm]
end Go.Proofs.Ytilefofpfbgikaa
