/- Layer 1: the laws' own walks, second part. -/
import Derived.Test.YtdgliljmmokjnaaFloL
namespace Go.Proofs.Ytdgliljmmokjnaa
open Go.RowKit
theorem raw_form {c : Nat} (h : Flo.isC c = true) : Flo.can (Flo.raw c) = Flo.raw c := Flo.can_raw h
theorem isC_nxt {u : Nat} (hu : u < Flo.W) : Flo.isC (Flo.nxtC (Flo.code u)) = true := by
  rw [← Flo.code_next hu]; exact Flo.isC_code (Flo.nextV_lt hu)
theorem isC_prv {u : Nat} (hu : u < Flo.W) : Flo.isC (Flo.prvC (Flo.code u)) = true := by
  rw [← Flo.code_prev hu]; exact Flo.isC_code (Flo.prevV_lt hu)
theorem next_same {u : Nat} (hu : u < Flo.W) : Flo.can (Flo.nextV u) = Flo.raw (Flo.nxtC (Flo.code u)) := by
  rw [← Flo.code_next hu]; exact (Flo.raw_code (Flo.nextV_lt hu)).symm
theorem rnext_same {u : Nat} (hu : u < Flo.W) : Flo.can (rnextV u) = Flo.raw (Flo.nxtC (Flo.code u)) := by
  unfold rnextV
  split
  · rename_i h
    have h := of_decide_eq_true h
    rw [show Flo.nxtC (Flo.code u) = Flo.code u by unfold Flo.nxtC; rw [if_pos h]]
    exact (Flo.raw_code hu).symm
  · exact raw_form (isC_nxt hu)
theorem prev_same {u : Nat} (hu : u < Flo.W) : Flo.can (Flo.prevV u) = Flo.raw (Flo.prvC (Flo.code u)) := by
  rw [← Flo.code_prev hu]; exact (Flo.raw_code (Flo.prevV_lt hu)).symm
theorem prev_form (u : Nat) : Flo.can (Flo.prevV u) = Flo.prevV u := by
  unfold Flo.prevV; split
  · decide
  · exact Flo.can_can _
theorem next_form {u : Nat} (h : Flo.pinf u = false) : Flo.can (Flo.nextV u) = Flo.nextV u := by
  unfold Flo.nextV; split
  · decide
  · rw [h]; exact Flo.can_can _
theorem rnextV_lt {u : Nat} (hu : u < Flo.W) : rnextV u < Flo.W := by
  unfold rnextV; split
  · exact hu
  · apply Flo.raw_lt; rw [← Flo.code_next hu]; exact Flo.code_lt (Flo.nextV_lt hu)
theorem rprevV_lt {u : Nat} (hu : u < Flo.W) : rprevV u < Flo.W := by
  unfold rprevV
  apply Flo.raw_lt; rw [← Flo.code_prev hu]; exact Flo.code_lt (Flo.prevV_lt hu)
theorem nextV_one : Flo.nextV 4607182418800017408 = 4607182418800017409 := by decide
theorem one_lss : (FloatKind.f64.format.order 4607182418800017409 4607182418800017408 == some Ordering.lt) = false := by
  rw [Flo.order_num (by decide) (by decide), Flo.cmp_gt (by decide)]; rfl
theorem one_eql : (FloatKind.f64.format.order 4607182418800017409 4607182418800017408 == some Ordering.eq) = false := by
  rw [Flo.order_num (by decide) (by decide), Flo.cmp_gt (by decide)]; rfl
set_option maxHeartbeats 400000 in
theorem floNext_walk (u : Nat) (hu : u < Flo.W) (w : World) : Calls Try.prog 8 #[.float .f64 u] w fun e w' => e = .returned (.bool true) ∧ w = w' := by
  have r1 := nextV_one
  have r2 := one_lss
  have r3 := one_eql
  have hn := Flo.nextV_lt hu
  have hp := Flo.prevV_lt hu
  have r4 : Flo.can (rnextV u) = Flo.can (Flo.nextV u) := by rw [rnext_same hu, next_same hu]
  have r5 : Flo.can (rprevV u) = Flo.prevV u := by rw [← prev_form, prev_same hu]; exact raw_form (isC_prv hu)
  have r6 := prev_form u
  by_cases i : Flo.pinf u = true
  · go_enter Try.func8, Try.ntmps8
    go_wp2_with (first | (go_at_call 24; (with_reducible refine (next_any _ (by first | exact hu | exact hp | decide) _).mono ?_); rintro e w' ⟨rfl, rfl⟩) | (go_at_call 27; (with_reducible refine (prev_any _ (by first | exact hu | exact hn) _).mono ?_); rintro e w' ⟨rfl, rfl⟩) | (go_at_call 26; (with_reducible refine (rnext_any _ hu _).mono ?_); rintro e w' ⟨rfl, rfl⟩) | (go_at_call 28; (with_reducible refine (rprev_any _ hu _).mono ?_); rintro e w' ⟨rfl, rfl⟩) | (go_at_call 25; (with_reducible refine (same_any _ _ (by first | exact hn | exact hp) (by first | exact rnextV_lt hu | exact rprevV_lt hu) _).mono ?_); rintro e w' ⟨rfl, rfl⟩) | (go_at_call 21; (with_reducible refine (form_any _ (by first | exact hn | exact hp) _).mono ?_); rintro e w' ⟨rfl, rfl⟩) | (go_at_call 29; (with_reducible refine (isinf_up _ (by first | exact hu | exact hn) _).mono ?_); rintro e w' ⟨rfl, rfl⟩))
    go_ret
    exact ⟨rfl, rfl⟩
  · have i : Flo.pinf u = false := by simpa using i
    have r7 := next_form i
    rw [r7] at r4
    go_enter Try.func8, Try.ntmps8
    go_wp2_with (first | (go_at_call 24; (with_reducible refine (next_any _ (by first | exact hu | exact hp | decide) _).mono ?_); rintro e w' ⟨rfl, rfl⟩) | (go_at_call 27; (with_reducible refine (prev_any _ (by first | exact hu | exact hn) _).mono ?_); rintro e w' ⟨rfl, rfl⟩) | (go_at_call 26; (with_reducible refine (rnext_any _ hu _).mono ?_); rintro e w' ⟨rfl, rfl⟩) | (go_at_call 28; (with_reducible refine (rprev_any _ hu _).mono ?_); rintro e w' ⟨rfl, rfl⟩) | (go_at_call 25; (with_reducible refine (same_any _ _ (by first | exact hn | exact hp) (by first | exact rnextV_lt hu | exact rprevV_lt hu) _).mono ?_); rintro e w' ⟨rfl, rfl⟩) | (go_at_call 21; (with_reducible refine (form_any _ (by first | exact hn | exact hp) _).mono ?_); rintro e w' ⟨rfl, rfl⟩) | (go_at_call 29; (with_reducible refine (isinf_up _ (by first | exact hu | exact hn) _).mono ?_); rintro e w' ⟨rfl, rfl⟩))
    go_ret
    exact ⟨rfl, rfl⟩
theorem steps_plain {u : Nat} (hu : u < Flo.W) :
    (Flo.pinf u = true → Flo.pinf (Flo.nextV u) = true ∧ cmpF (Flo.prevV u) u = -1) ∧
    (Flo.pinf u = false → cmpF u (Flo.nextV u) = -1 ∧ cmpF (Flo.prevV (Flo.nextV u)) u = 0 ∧
      (Flo.nan u = true → Flo.nan (Flo.prevV u) = true) ∧ (Flo.nan u = false → cmpF (Flo.prevV u) u = -1 ∧ cmpF (Flo.nextV (Flo.prevV u)) u = 0)) := by
  obtain ⟨hS, hW, hI, hN⟩ := Flo.nums
  have hn := Flo.nextV_lt hu
  have hp := Flo.prevV_lt hu
  have cn := Flo.code_next hu
  have cp := Flo.code_prev hu
  have cpn := Flo.code_prev hn
  have cnp := Flo.code_next hp
  have ci := Flo.isC_code' hu
  refine ⟨fun h => ⟨?_, ?_⟩, fun h => ⟨?_, ?_, fun k => ?_, fun k => ⟨?_, ?_⟩⟩⟩
  · have h := of_decide_eq_true h
    subst h; decide
  · have h := of_decide_eq_true h
    subst h; decide
  · have hx : Flo.code u ≠ Flo.S + Flo.INF := by
      intro e
      have h := of_decide_eq_false h
      rcases Flo.code_cases hu with ⟨a, b⟩ | ⟨a, b, c⟩ | ⟨a, b, c, d⟩ | ⟨a, b, c⟩ <;> omega
    apply cmpF_lt
    rw [cn]; unfold Flo.nxtC; rw [if_neg hx]; split
    · omega
    · split <;> omega
  · have hx : Flo.code u ≠ Flo.S + Flo.INF := by
      intro e
      have h := of_decide_eq_false h
      rcases Flo.code_cases hu with ⟨a, b⟩ | ⟨a, b, c⟩ | ⟨a, b, c, d⟩ | ⟨a, b, c⟩ <;> omega
    apply cmpF_eq
    rw [cpn, cn]; unfold Flo.nxtC; rw [if_neg hx]
    by_cases h1 : Flo.code u = 0
    · rw [if_pos h1]; unfold Flo.prvC; rw [if_neg (by omega), if_pos rfl, h1]
    · rw [if_neg h1]
      by_cases h2 : Flo.code u + 1 = Flo.S - 1
      · rw [if_pos h2]; unfold Flo.prvC; rw [if_neg (by omega), if_neg (by omega), if_pos (by omega)]; omega
      · rw [if_neg h2]; unfold Flo.prvC; rw [if_neg (by omega), if_neg (by omega), if_neg (by omega)]; omega
  · rw [← prevV_nan k]; decide
  · have h0 : Flo.code u ≠ 0 := by
      intro e
      rcases Flo.code_cases hu with ⟨a, b⟩ | ⟨a, b, c⟩ | ⟨a, b, c, d⟩ | ⟨a, b, c⟩
      · rw [k] at a; cases a
      all_goals omega
    apply cmpF_lt
    rw [cp]; unfold Flo.prvC; rw [if_neg h0]; split
    · omega
    · split <;> omega
  · have h0 : Flo.code u ≠ 0 := by
      intro e
      rcases Flo.code_cases hu with ⟨a, b⟩ | ⟨a, b, c⟩ | ⟨a, b, c, d⟩ | ⟨a, b, c⟩
      · rw [k] at a; cases a
      all_goals omega
    apply cmpF_eq
    rw [cnp, cp]; unfold Flo.prvC; rw [if_neg h0]
    by_cases h1 : Flo.code u = Flo.S - 1 - Flo.INF
    · rw [if_pos h1]; unfold Flo.nxtC; rw [if_neg (by omega), if_pos rfl, h1]
    · rw [if_neg h1]
      by_cases h2 : Flo.code u - 1 = Flo.S - 1
      · rw [if_pos h2]; unfold Flo.nxtC; rw [if_neg (by omega), if_neg (by omega), if_pos (by omega)]; omega
      · rw [if_neg h2]; unfold Flo.nxtC; rw [if_neg (by omega), if_neg (by omega), if_neg (by omega)]; omega
theorem between {u v : Nat} (hu : u < Flo.W) (hv : v < Flo.W) : ∃ p q : Int, cmpF v u = p ∧ cmpF v (Flo.nextV u) = q ∧ (p = -1 ∧ q = -1 ∨ p = 0 ∧ q = -1 ∨ p = 0 ∧ q = 0 ∨ p = 0 ∧ q = 1 ∨ p = -1 ∧ q = 0 ∨ p = -1 ∧ q = 1 ∨ p = 1 ∧ q = 0 ∨ p = 1 ∧ q = 1) := by
  obtain ⟨hS, hW, hI, hN⟩ := Flo.nums
  have cn := Flo.code_next hu
  have ci := Flo.isC_code' hu
  have cj := Flo.isC_code' hv
  have key : ∀ x y : Nat, x < y ∨ x = y ∨ y < x := by omega
  have no : ¬ (Flo.code u < Flo.code v ∧ Flo.code v < Flo.code (Flo.nextV u)) := by
    rw [cn]; unfold Flo.nxtC
    rintro ⟨a, b⟩
    split at b
    · omega
    · split at b
      · omega
      · split at b <;> omega
  rcases key (Flo.code v) (Flo.code u) with a | a | a <;> rcases key (Flo.code v) (Flo.code (Flo.nextV u)) with b | b | b
  · exact ⟨_, _, cmpF_lt a, cmpF_lt b, by simp⟩
  · exact ⟨_, _, cmpF_lt a, cmpF_eq b, by simp⟩
  · exact ⟨_, _, cmpF_lt a, cmpF_gt b, by simp⟩
  · exact ⟨_, _, cmpF_eq a, cmpF_lt b, by simp⟩
  · exact ⟨_, _, cmpF_eq a, cmpF_eq b, by simp⟩
  · exact ⟨_, _, cmpF_eq a, cmpF_gt b, by simp⟩
  · exact absurd ⟨a, b⟩ no
  · exact ⟨_, _, cmpF_gt a, cmpF_eq b, by simp⟩
  · exact ⟨_, _, cmpF_gt a, cmpF_gt b, by simp⟩
set_option maxHeartbeats 1000000 in
theorem floSteps_walk (u v : Nat) (hu : u < Flo.W) (hv : v < Flo.W) (w : World) : Calls Try.prog 11 #[.float .f64 u, .float .f64 v] w fun e w' => e = .returned (.bool true) ∧ w = w' := by
  have r1 := nextV_one
  have r2 := one_lss
  have r3 := one_eql
  have hn := Flo.nextV_lt hu
  have hp := Flo.prevV_lt hu
  have hpn := Flo.prevV_lt hn
  have hnp := Flo.nextV_lt hp
  obtain ⟨s1, s2⟩ := steps_plain hu
  by_cases i : Flo.pinf u = true
  · obtain ⟨q1, q2⟩ := s1 i
    clear s1 s2
    go_enter Try.func11, Try.ntmps11
    go_wp2_with (first | (go_at_call 24; (with_reducible refine (next_any _ (by first | exact hu | exact hp | decide) _).mono ?_); rintro e w' ⟨rfl, rfl⟩) | (go_at_call 27; (with_reducible refine (prev_any _ (by first | exact hu | exact hn) _).mono ?_); rintro e w' ⟨rfl, rfl⟩) | (go_at_call 29; (with_reducible refine (isinf_up _ (by first | exact hu | exact hn) _).mono ?_); rintro e w' ⟨rfl, rfl⟩) | (go_at_call 32; (with_reducible refine (isnan_any _ _).mono ?_); rintro e w' ⟨rfl, rfl⟩) | (go_at_call 22; (with_reducible refine (cmp_any _ _ (by first | exact hu | exact hv | exact hn | exact hp | exact hpn | exact hnp) (by first | exact hu | exact hn | exact hp) _).mono ?_); rintro e w' ⟨rfl, rfl⟩))
    go_ret
    exact ⟨rfl, rfl⟩
  · have i : Flo.pinf u = false := by simpa using i
    obtain ⟨q1, q2, q3, q4⟩ := s2 i
    clear s1 s2
    obtain ⟨p, q, e1, e2, pq⟩ := between hu hv
    by_cases n : Flo.nan u = true
    · have q3 := q3 n; clear q4
      rcases pq with ⟨rfl, rfl⟩ | ⟨rfl, rfl⟩ | ⟨rfl, rfl⟩ | ⟨rfl, rfl⟩ | ⟨rfl, rfl⟩ | ⟨rfl, rfl⟩ | ⟨rfl, rfl⟩ | ⟨rfl, rfl⟩
      all_goals
        go_enter Try.func11, Try.ntmps11
        go_wp2_with (first | (go_at_call 24; (with_reducible refine (next_any _ (by first | exact hu | exact hp | decide) _).mono ?_); rintro e w' ⟨rfl, rfl⟩) | (go_at_call 27; (with_reducible refine (prev_any _ (by first | exact hu | exact hn) _).mono ?_); rintro e w' ⟨rfl, rfl⟩) | (go_at_call 29; (with_reducible refine (isinf_up _ (by first | exact hu | exact hn) _).mono ?_); rintro e w' ⟨rfl, rfl⟩) | (go_at_call 32; (with_reducible refine (isnan_any _ _).mono ?_); rintro e w' ⟨rfl, rfl⟩) | (go_at_call 22; (with_reducible refine (cmp_any _ _ (by first | exact hu | exact hv | exact hn | exact hp | exact hpn | exact hnp) (by first | exact hu | exact hn | exact hp) _).mono ?_); rintro e w' ⟨rfl, rfl⟩))
        go_ret
        exact ⟨rfl, rfl⟩
    · have n : Flo.nan u = false := by simpa using n
      obtain ⟨q5, q6⟩ := q4 n; clear q3 q4
      rcases pq with ⟨rfl, rfl⟩ | ⟨rfl, rfl⟩ | ⟨rfl, rfl⟩ | ⟨rfl, rfl⟩ | ⟨rfl, rfl⟩ | ⟨rfl, rfl⟩ | ⟨rfl, rfl⟩ | ⟨rfl, rfl⟩
      all_goals
        go_enter Try.func11, Try.ntmps11
        go_wp2_with (first | (go_at_call 24; (with_reducible refine (next_any _ (by first | exact hu | exact hp | decide) _).mono ?_); rintro e w' ⟨rfl, rfl⟩) | (go_at_call 27; (with_reducible refine (prev_any _ (by first | exact hu | exact hn) _).mono ?_); rintro e w' ⟨rfl, rfl⟩) | (go_at_call 29; (with_reducible refine (isinf_up _ (by first | exact hu | exact hn) _).mono ?_); rintro e w' ⟨rfl, rfl⟩) | (go_at_call 32; (with_reducible refine (isnan_any _ _).mono ?_); rintro e w' ⟨rfl, rfl⟩) | (go_at_call 22; (with_reducible refine (cmp_any _ _ (by first | exact hu | exact hv | exact hn | exact hp | exact hpn | exact hnp) (by first | exact hu | exact hn | exact hp) _).mono ?_); rintro e w' ⟨rfl, rfl⟩))
        go_ret
        exact ⟨rfl, rfl⟩
end Go.Proofs.Ytdgliljmmokjnaa
