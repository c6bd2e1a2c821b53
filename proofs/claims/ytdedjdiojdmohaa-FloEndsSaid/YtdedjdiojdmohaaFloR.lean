/- Layer 1: the law FloRange's walk. -/
import Derived.Test.YtdedjdiojdmohaaFloM
namespace Go.Proofs.Ytdedjdiojdmohaa
open Go.RowKit Mem

theorem min_two {m : Nat} (h : IsMin [4611686018427387904, 4607182418800017408] m) : Flo.can m = 4607182418800017408 := by
  have h1 := h.2 4607182418800017408 (by simp)
  have hm := h.1
  simp only [List.mem_cons, List.not_mem_nil, or_false] at hm
  rcases hm with rfl | rfl
  · exact absurd h1 (by decide)
  · decide
theorem max_two {m : Nat} (h : IsMax [4607182418800017408, 4611686018427387904] m) : Flo.can m = 4611686018427387904 := by
  have h1 := h.2 4611686018427387904 (by simp)
  have hm := h.1
  simp only [List.mem_cons, List.not_mem_nil, or_false] at hm
  rcases hm with rfl | rfl
  · exact absurd h1 (by decide)
  · decide
theorem one_eq : (FloatKind.f64.format.order 4607182418800017408 4607182418800017408 != some Ordering.eq) = false := by rw [Flo.order_self]; decide
theorem two_eq : (FloatKind.f64.format.order 4611686018427387904 4611686018427387904 != some Ordering.eq) = false := by rw [Flo.order_self]; decide
theorem pair_lt {x y : Nat} (hx : x < Flo.W) (hy : y < Flo.W) : ∀ z ∈ [x, y], z < Flo.W := by
  intro z hz; simp only [List.mem_cons, List.not_mem_nil, or_false] at hz; rcases hz with rfl | rfl <;> assumption
theorem cmp_le {u v : Nat} (h : Flo.code u ≤ Flo.code v) : cmpF u v ≤ 0 := by
  unfold cmpF Flo.cmp3; split
  · omega
  · rw [if_neg (by omega)]; omega
theorem fromV_code {x : Nat} (hx : x < Flo.W) : Flo.fromV (Flo.code x) = Flo.can x := by rw [fromV_yes (Flo.isC_code hx) rfl, Flo.raw_code hx]
theorem cmp_zero {u v : Nat} : (cmpF u v == 0) = decide (Flo.code u = Flo.code v) := by
  rw [Bool.eq_iff_iff]; simp only [beq_iff_eq, decide_eq_true_eq]
  unfold cmpF Flo.cmp3; split
  · constructor <;> intro <;> omega
  · split <;> constructor <;> intro <;> omega
/-- has one of the numbers a code? -/
def Has (xs : List Nat) (c : Nat) (f : Bool) : Prop := f = true ↔ ∃ x ∈ xs, Flo.code x = c
theorem has_nil (c : Nat) : Has [] c false := by simp [Has]
theorem has_true {xs : List Nat} {c k : Nat} (h : Has (xs.take k) c true) (hk : k < xs.length) : Has (xs.take (k + 1)) c true := by
  obtain ⟨x, hx, e⟩ := h.1 rfl
  exact ⟨fun _ => ⟨x, by rw [take_snoc xs k hk]; exact List.mem_append_left _ hx, e⟩, fun _ => rfl⟩
theorem has_step {xs : List Nat} {c k v : Nat} (hc : Flo.code v = c) (h : Has (xs.take k) c false) (hk : k < xs.length) : Has (xs.take (k + 1)) c (cmpF xs[k] v == 0) := by
  unfold Has at *
  rw [cmp_zero, take_snoc xs k hk]
  simp only [decide_eq_true_eq, List.mem_append, List.mem_singleton, hc]
  constructor
  · intro e; exact ⟨_, .inr rfl, e⟩
  · rintro ⟨x, hx | rfl, e⟩
    · exact absurd (h.2 ⟨x, hx, e⟩) (by decide)
    · exact e
theorem has_all {xs : List Nat} {m : Nat} {f : Bool} (h : Has xs (Flo.code m) f) (hm : m ∈ xs) : f = true := h.2 ⟨m, hm, rfl⟩

theorem least_two (g : Nat) (w : World) (hg : g = w.heap.size) : Calls Try.prog 29 #[.slice (some ⟨g, 0, none⟩) 2 2] (w.alloc (.cells #[.float .f64 4611686018427387904, .float .f64 4607182418800017408] 22))
    fun e w' => e = .returned (.float .f64 4607182418800017408) ∧ w.alloc (.cells #[.float .f64 4611686018427387904, .float .f64 4607182418800017408] 22) = w' := by
  subst hg
  exact (least_any (some ⟨w.heap.size, 0, none⟩) 2 [4611686018427387904, 4607182418800017408] (pair_lt (by decide) (by decide)) (by decide) (w.alloc (.cells #[.float .f64 4611686018427387904, .float .f64 4607182418800017408] 22)) (Sl.lit (f := Value.float .f64) _ (by decide))).mono
    fun e w' ⟨m, hm, he, hw⟩ => ⟨by rw [he, min_two hm], hw⟩
theorem most_two (g : Nat) (w : World) (hg : g = w.heap.size) : Calls Try.prog 30 #[.slice (some ⟨g, 0, none⟩) 2 2] (w.alloc (.cells #[.float .f64 4607182418800017408, .float .f64 4611686018427387904] 22))
    fun e w' => e = .returned (.float .f64 4611686018427387904) ∧ w.alloc (.cells #[.float .f64 4607182418800017408, .float .f64 4611686018427387904] 22) = w' := by
  subst hg
  exact (most_any (some ⟨w.heap.size, 0, none⟩) 2 [4607182418800017408, 4611686018427387904] (pair_lt (by decide) (by decide)) (by decide) (w.alloc (.cells #[.float .f64 4607182418800017408, .float .f64 4611686018427387904] 22)) (Sl.lit (f := Value.float .f64) _ (by decide))).mono
    fun e w' ⟨m, hm, he, hw⟩ => ⟨by rw [he, max_two hm], hw⟩

set_option maxHeartbeats 1000000 in
theorem floRange_none (z : Int) (A : Option Addr) (c : Nat) (w : World) :
    Calls Try.prog 10 #[.slice A 0 c, .int .i64 z] w fun e w' => e = .returned (.bool true) ∧ Below w.heap.size w w' := by
  have r1 : Flo.code 0 = 9223372036854775808 := by decide
  have r2 := one_eq
  have r3 := two_eq
  go_enter Try.func10, Try.ntmps10
  go_wp2_with fail
  (with_reducible refine (least_two _ _ (by simp)).mono ?_); rintro e w' ⟨rfl, rfl⟩
  go_wp2_with fail
  (with_reducible refine (most_two _ _ (by simp)).mono ?_); rintro e w' ⟨rfl, rfl⟩
  go_wp2_with fail
  (with_reducible refine (code_any _ (by decide) _).mono ?_); rintro e w' ⟨rfl, rfl⟩
  go_wp2_with fail
  go_ret
  exact ⟨rfl, ((Below.refl _ _).alloc (Nat.le_refl _) _).alloc (by simp) _⟩
set_option maxHeartbeats 2000000 in
theorem floRange_walk (z : Int) (A : Option Addr) (c : Nat) (xs : List Nat) (hx : ∀ x ∈ xs, x < Flo.W) (h0 : 0 < xs.length) (w : World) (hs : Sl (Value.float .f64) w A xs) :
    Calls Try.prog 10 #[.slice A xs.length c, .int .i64 z] w fun e w' => e = .returned (.bool true) ∧ Below w.heap.size w w' := by
  have r1 : Flo.code 0 = 9223372036854775808 := by decide
  have r2 := one_eq
  have r3 := two_eq
  have t1 := len_test h0
  have hl := hs.len
  have HX := Lib.hid hx; clear hx
  go_enter Try.func10, Try.ntmps10
  go_wp2_with fail
  (with_reducible refine (least_two _ _ (by simp)).mono ?_); rintro e w' ⟨rfl, rfl⟩
  go_wp2_with fail
  (with_reducible refine (most_two _ _ (by simp)).mono ?_); rintro e w' ⟨rfl, rfl⟩
  go_wp2_with fail
  (with_reducible refine (code_any _ (by decide) _).mono ?_); rintro e w' ⟨rfl, rfl⟩
  go_wp2_with fail
  have hb1 : Below w.heap.size w ((w.alloc (.cells #[.float .f64 4611686018427387904, .float .f64 4607182418800017408] 22)).alloc (.cells #[.float .f64 4607182418800017408, .float .f64 4611686018427387904] 22)) :=
    ((Below.refl _ _).alloc (Nat.le_refl _) _).alloc (by simp) _
  have hs1 := hs.below hb1
  clear r1 r2 r3 hs
  generalize (w.alloc (.cells #[.float .f64 4611686018427387904, .float .f64 4607182418800017408] 22)).alloc (.cells #[.float .f64 4607182418800017408, .float .f64 4611686018427387904] 22) = w1 at *
  (with_reducible refine (least_any _ _ _ HX.out h0 _ hs1).mono ?_); rintro e w' ⟨m, hm, rfl, rfl⟩
  have HM := Lib.hid hm; clear hm
  go_wp2_with fail
  (with_reducible refine (most_any _ _ _ HX.out h0 _ hs1).mono ?_); rintro e w' ⟨n, hn, rfl, rfl⟩
  have HN := Lib.hid hn; clear hn
  have ha := Flo.can_lt (HX.out _ HM.out.1)
  have hb := Flo.can_lt (HX.out _ HN.out.1)
  obtain ⟨b, o, rfl, _, hc⟩ := hs1.at h0
  have HC := Lib.hid hc; clear hc
  go_wp2_with fail
  go_loop [7, 8, 34] (fun f g i => ∃ (k : Nat) (p q : Bool), k ≤ xs.length ∧ i = .int .i64 k ∧ f = .bool p ∧ g = .bool q ∧ Has (xs.take k) (Flo.code m) p ∧ Has (xs.take k) (Flo.code n) q) (fun _ _ i => xs.length - (intOf i).toNat)
  case atStart => exact ⟨0, false, false, Nat.zero_le _, rfl, rfl, rfl, has_nil _, has_nil _⟩
  case round =>
    obtain ⟨k, p, q, hk, rfl, rfl, rfl, hp, hq⟩ := hrel
    have HP := Lib.hid hp; clear hp
    have HQ := Lib.hid hq; clear hq
    by_cases hlt : k < xs.length
    · have hck := HC.out k hlt
      have hv := HX.out xs[k] (List.getElem_mem hlt)
      have hv1 := Flo.code_lt hv
      have e1 := Flo.isC_code hv
      have e2 := fromV_code hv
      have e3 : cmpF (Flo.can m) xs[k] ≤ 0 := cmp_le (by rw [Flo.code_can]; exact HM.out.2 _ (List.getElem_mem hlt))
      have e4 : cmpF xs[k] (Flo.can n) ≤ 0 := cmp_le (by rw [Flo.code_can]; exact HN.out.2 _ (List.getElem_mem hlt))
      have h2 := run_f64bits
      cases p <;> cases q
      all_goals
        go_wp2_with (first | (go_at_call 21; (with_reducible refine (cmp_any _ _ (by first | exact hv | exact ha) (by first | exact ha | exact hb | exact hv) _).mono ?_); rintro e w' ⟨rfl, rfl⟩) | (go_at_call 16; (with_reducible refine (code_any _ hv _).mono ?_); rintro e w' ⟨rfl, rfl⟩) | (go_at_call 18; (with_reducible refine (from_any _ hv1 _).mono ?_); rintro e w' ⟨rfl, rfl⟩) | (go_at_call 14; (with_reducible refine (canon_any _ _).mono ?_); rintro e w' ⟨rfl, rfl⟩))
        go_round
        case rel => exact ⟨k + 1, _, _, by omega, by go_num, rfl, rfl, by first | exact has_true HP.out hlt | exact has_step Flo.code_can HP.out hlt, by first | exact has_true HQ.out hlt | exact has_step Flo.code_can HQ.out hlt⟩
        case measure => simp [intOf]; omega
    · have HP := HP.out
      have HQ := HQ.out
      rw [List.take_of_length_le (by omega)] at HP HQ
      obtain rfl := has_all HP HM.out.1
      obtain rfl := has_all HQ HN.out.1
      clear HP HQ
      go_wp2_with fail
      go_ret
      exact ⟨rfl, hb1⟩
theorem floRange_walk' {w : World} (A : Option Addr) (c : Nat) (xs : List Nat) (hx : ∀ x ∈ xs, x < Flo.W) (hs : Sl (Value.float .f64) w A xs) (_ : Room 8 xs.length) (z : Int) (_ : (Lit.int .i64 z).wf = true) (w' : World) (hw : w' = w) :
    Calls Try.prog 10 #[.slice A xs.length c, .int .i64 z] w' fun e w'' => e = .returned (.bool true) ∧ Below w'.heap.size w' w'' := by
  subst hw
  match xs, hx, hs with
  | [], _, _ => exact floRange_none z A c w'
  | x :: r, hx, hs => exact floRange_walk z A c (x :: r) hx (by simp) w' hs
end Go.Proofs.Ytdedjdiojdmohaa
