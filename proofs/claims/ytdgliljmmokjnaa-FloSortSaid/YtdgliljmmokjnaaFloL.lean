/- Layer 1: the laws' own walks. -/
import Derived.Test.YtdgliljmmokjnaaFloW2
namespace Go.Proofs.Ytdgliljmmokjnaa
open Go.RowKit

set_option maxHeartbeats 400000 in
theorem canonical_any (w : World) : Calls Try.prog 13 #[] w fun e w' => e = .returned (.bool true) ∧ w = w' := by
  have h2 := run_f64bits
  have r1 : Flo.csg 0 13830554455654793216 = 9223372036854775808 := by decide
  have r2 : Flo.can 9223372036854775808 = 0 := by decide
  have r3 : Flo.can 4612811918334230528 = 4612811918334230528 := by decide
  have r4 : (FloatKind.f64.format.order 4612811918334230528 4612811918334230528 == some Ordering.eq) = true := by decide
  go_enter Try.func13, Try.ntmps13
  go_wp2_with (first | (go_at_call 36; refine (copysign_any _ _ (by decide) (by decide) _).mono ?_; rintro e w' ⟨rfl, rfl⟩) | (go_at_call 15; refine (canon_any _ _).mono ?_; rintro e w' ⟨rfl, rfl⟩))
  go_ret
  exact ⟨rfl, rfl⟩

set_option maxHeartbeats 400000 in
theorem floCanon_walk (u : Nat) (hu : u < Flo.W) (w : World) : Calls Try.prog 3 #[.float .f64 u] w fun e w' => e = .returned (.bool true) ∧ w = w' := by
  have h2 := run_f64bits
  go_enter Try.func3, Try.ntmps3
  go_wp2_with (first | (go_at_call 13; refine (canonical_any _).mono ?_; rintro e w' ⟨rfl, rfl⟩) | (go_at_call 15; refine (canon_any _ _).mono ?_; rintro e w' ⟨rfl, rfl⟩) | (go_at_call 16; refine (rbits_any _ hu _).mono ?_; rintro e w' ⟨rfl, rfl⟩))
  go_ret
  exact ⟨rfl, rfl⟩

set_option maxHeartbeats 400000 in
theorem floCode_walk (u : Nat) (hu : u < Flo.W) (w : World) : Calls Try.prog 4 #[.float .f64 u] w fun e w' => e = .returned (.bool true) ∧ w = w' := by
  have r1 : Flo.code 0 = 9223372036854775808 := by decide
  go_enter Try.func4, Try.ntmps4
  go_wp2_with (first | (go_at_call 17; refine (code_any _ (by first | exact hu | decide) _).mono ?_; rintro e w' ⟨rfl, rfl⟩) | (go_at_call 18; refine (rcode_any _ hu _).mono ?_; rintro e w' ⟨rfl, rfl⟩))
  go_ret
  exact ⟨rfl, rfl⟩

theorem from_top (w : World) : Calls Try.prog 19 #[.int .u64 9223372036854775808] w fun e w' => e = .returned (.tuple #[.float .f64 (Flo.fromV 9223372036854775808), .bool (Flo.isC 9223372036854775808)]) ∧ w = w' := from_any 9223372036854775808 (by decide) w
set_option maxHeartbeats 400000 in
theorem floFrom_walk (c : Nat) (hc : c < Flo.W) (w : World) : Calls Try.prog 5 #[.int .u64 c] w fun e w' => e = .returned (.bool true) ∧ w = w' := by
  have h2 := run_f64bits
  have r1 : Flo.fromV 9223372036854775808 = 0 := by decide
  have r2 : Flo.isC 9223372036854775808 = true := by decide
  have r4 : (FloatKind.f64.format.order 0 0 != some Ordering.eq) = false := by decide
  by_cases i : Flo.isC c = true
  · have r5 : Flo.code (Flo.fromV c) = c := by rw [fromV_yes i rfl]; exact (Flo.code_raw hc).2 i
    have r6 : Flo.can (Flo.fromV c) = Flo.fromV c := by rw [fromV_yes i rfl]; exact Flo.can_raw i
    have r7 := Flo.fromV_lt hc
    go_enter Try.func5, Try.ntmps5
    go_wp2_with (first | (go_at_call 19; (with_reducible refine (from_top _).mono ?_); rintro e w' ⟨rfl, rfl⟩) | (go_at_call 19; (with_reducible refine (from_any _ hc _).mono ?_); rintro e w' ⟨rfl, rfl⟩) | (go_at_call 20; refine (iscode_any _ hc _).mono ?_; rintro e w' ⟨rfl, rfl⟩) | (go_at_call 18; refine (rcode_any _ r7 _).mono ?_; rintro e w' ⟨rfl, rfl⟩) | (go_at_call 21; refine (form_any _ r7 _).mono ?_; rintro e w' ⟨rfl, rfl⟩))
    go_ret
    exact ⟨rfl, rfl⟩
  · have i : Flo.isC c = false := by simpa using i
    have r5 := fromV_no i
    go_enter Try.func5, Try.ntmps5
    go_wp2_with (first | (go_at_call 19; (with_reducible refine (from_top _).mono ?_); rintro e w' ⟨rfl, rfl⟩) | (go_at_call 19; (with_reducible refine (from_any _ hc _).mono ?_); rintro e w' ⟨rfl, rfl⟩) | (go_at_call 20; refine (iscode_any _ hc _).mono ?_; rintro e w' ⟨rfl, rfl⟩))
    go_ret
    exact ⟨rfl, rfl⟩

set_option maxHeartbeats 400000 in
theorem floCmp_walk (u v : Nat) (hu : u < Flo.W) (hv : v < Flo.W) (w : World) : Calls Try.prog 6 #[.float .f64 u, .float .f64 v] w fun e w' => e = .returned (.bool true) ∧ w = w' := by
  have r1 : cmpF 4607182418800017408 4611686018427387904 = -1 := by decide
  go_enter Try.func6, Try.ntmps6
  go_wp2_with (first | (go_at_call 22; refine (cmp_any _ _ (by first | exact hu | decide) (by first | exact hv | decide) _).mono ?_; rintro e w' ⟨rfl, rfl⟩) | (go_at_call 23; refine (rcmp_any _ _ hu hv _).mono ?_; rintro e w' ⟨rfl, rfl⟩))
  go_ret
  exact ⟨rfl, rfl⟩

theorem lt_code {a b : Nat} (ha : a < Flo.W) (hb : b < Flo.W) (h : ¬ Flo.code a < Flo.code b) : (FloatKind.f64.format.order a b == some Ordering.lt) = false := by
  by_cases na : Flo.nan a = true
  · rw [Flo.order_nan (.inl na)]; rfl
  by_cases nb : Flo.nan b = true
  · rw [Flo.order_nan (.inr nb)]; rfl
  have na : Flo.nan a = false := by simpa using na
  have nb : Flo.nan b = false := by simpa using nb
  rw [Flo.order_num na nb, Flo.ord_test]
  apply decide_eq_false
  intro e
  obtain ⟨hS, hW, hI, hN⟩ := Flo.nums
  have hk : Flo.key a < Flo.key b := by
    rcases Int.lt_trichotomy (Flo.key a) (Flo.key b) with k | k | k
    · exact k
    · rw [k, Flo.cmp_eq] at e; cases e
    · rw [Flo.cmp_gt k] at e; cases e
  have key : ∀ u, u < Flo.W → Flo.nan u = false → (u < Flo.S ∧ Flo.key u = u) ∨ (Flo.S ≤ u ∧ Flo.key u = (Flo.S : Int) - u) := by
    intro u hu hn
    by_cases h : u < Flo.S
    · exact .inl ⟨h, Flo.key_pos h⟩
    · exact .inr ⟨by omega, Flo.key_negw (by omega) hu⟩
  have ka := key a ha na
  have kb := key b hb nb
  have ca := Flo.code_cases ha
  have cb := Flo.code_cases hb
  rw [na] at ca; rw [nb] at cb
  simp only [Bool.false_eq_true, false_and, true_and, false_or] at ca cb
  omega
theorem cmpF_lt {a b : Nat} (h : Flo.code a < Flo.code b) : cmpF a b = -1 := (Flo.cmp3_lt h).symm
theorem cmpF_gt {a b : Nat} (h : Flo.code b < Flo.code a) : cmpF a b = 1 := (Flo.cmp3_gt (by omega) h).symm
theorem cmpF_eq {a b : Nat} (h : Flo.code a = Flo.code b) : cmpF a b = 0 := (Flo.cmp3_eq (by omega) (by omega)).symm
/-- what three numbers' comparisons can be -/
theorem three (x y z : Nat) : (x < y ∧ y < z ∧ x < z) ∨ (x < y ∧ y = z ∧ x < z) ∨ (x < y ∧ z < y ∧ x < z) ∨ (x < y ∧ z < y ∧ x = z) ∨ (x < y ∧ z < y ∧ z < x) ∨
    (x = y ∧ y < z ∧ x < z) ∨ (x = y ∧ y = z ∧ x = z) ∨ (x = y ∧ z < y ∧ z < x) ∨
    (y < x ∧ y < z ∧ x < z) ∨ (y < x ∧ y < z ∧ x = z) ∨ (y < x ∧ y < z ∧ z < x) ∨ (y < x ∧ y = z ∧ z < x) ∨ (y < x ∧ z < y ∧ z < x) := by
  rcases Nat.lt_trichotomy x y with a | a | a <;> rcases Nat.lt_trichotomy y z with b | b | b <;> rcases Nat.lt_trichotomy x z with c | c | c <;> simp only [a, b, c, true_and, and_true, true_or, or_true] <;> omega
set_option maxHeartbeats 400000 in
theorem floOrder_case (a b c : Nat) (ha : a < Flo.W) (hb : b < Flo.W) (hc : c < Flo.W) (w : World) (p q r t : Int) (f : Bool) (hab : cmpF a b = p) (hba : cmpF b a = t) (haa : cmpF a a = 0) (hbc : cmpF b c = q) (hac : cmpF a c = r)
    (hf : (FloatKind.f64.format.order a b == some Ordering.lt) = f)
    (hok : (p = -1 ∧ t = 1 ∧ ((q = -1 ∧ r = -1) ∨ (q = 0 ∧ r = -1) ∨ (q = 1 ∧ r = -1) ∨ (q = 1 ∧ r = 0) ∨ (q = 1 ∧ r = 1))) ∨ (f = false ∧ p = 0 ∧ t = 0 ∧ ((q = -1 ∧ r = -1) ∨ (q = 0 ∧ r = 0) ∨ (q = 1 ∧ r = 1))) ∨
      (f = false ∧ p = 1 ∧ t = -1 ∧ ((q = -1 ∧ r = -1) ∨ (q = -1 ∧ r = 0) ∨ (q = -1 ∧ r = 1) ∨ (q = 0 ∧ r = 1) ∨ (q = 1 ∧ r = 1)))) : Calls Try.prog 7 #[.float .f64 a, .float .f64 b, .float .f64 c] w fun e w' => e = .returned (.bool true) ∧ w = w' := by
  have r1 : cmpF 4607182418800017408 4611686018427387904 = -1 := by decide
  rcases hok with ⟨rfl, rfl, (⟨rfl, rfl⟩ | ⟨rfl, rfl⟩ | ⟨rfl, rfl⟩ | ⟨rfl, rfl⟩ | ⟨rfl, rfl⟩)⟩ | ⟨rfl, rfl, rfl, (⟨rfl, rfl⟩ | ⟨rfl, rfl⟩ | ⟨rfl, rfl⟩)⟩ | ⟨rfl, rfl, rfl, (⟨rfl, rfl⟩ | ⟨rfl, rfl⟩ | ⟨rfl, rfl⟩ | ⟨rfl, rfl⟩ | ⟨rfl, rfl⟩)⟩
  all_goals try cases f
  all_goals
    go_enter Try.func7, Try.ntmps7
    go_wp2_with (first | (go_at_call 22; (with_reducible refine (cmp_any _ _ (by first | exact ha | exact hb | exact hc | decide) (by first | exact ha | exact hb | exact hc | decide) _).mono ?_); rintro e w' ⟨rfl, rfl⟩))
    go_ret
    exact ⟨rfl, rfl⟩
theorem floOrder_walk (a b c : Nat) (ha : a < Flo.W) (hb : b < Flo.W) (hc : c < Flo.W) (w : World) : Calls Try.prog 7 #[.float .f64 a, .float .f64 b, .float .f64 c] w fun e w' => e = .returned (.bool true) ∧ w = w' := by
  rcases three (Flo.code a) (Flo.code b) (Flo.code c) with ⟨x, y, z⟩ | ⟨x, y, z⟩ | ⟨x, y, z⟩ | ⟨x, y, z⟩ | ⟨x, y, z⟩ | ⟨x, y, z⟩ | ⟨x, y, z⟩ | ⟨x, y, z⟩ | ⟨x, y, z⟩ | ⟨x, y, z⟩ | ⟨x, y, z⟩ | ⟨x, y, z⟩ | ⟨x, y, z⟩
  all_goals
    refine floOrder_case a b c ha hb hc w _ _ _ _ _ (by first | exact cmpF_lt x | exact cmpF_eq x | exact cmpF_gt x) (by first | exact cmpF_gt x | exact cmpF_eq x.symm | exact cmpF_lt x) (cmpF_eq rfl) (by first | exact cmpF_lt y | exact cmpF_eq y | exact cmpF_gt y) (by first | exact cmpF_lt z | exact cmpF_eq z | exact cmpF_gt z) (by first | exact lt_code ha hb (by omega) | rfl) ?_
    simp
end Go.Proofs.Ytdgliljmmokjnaa
