/- Layer 1: the first and the last of numbers. -/
import Derived.Test.YtdgliljmmokjnaaFloW2
import Derived.Test.YtdgliljmmokjnaaMem
namespace Go.Proofs.Ytdgliljmmokjnaa
open Go.RowKit Mem

theorem gt_iff_cmp {u v : Nat} : cmpF u v < 0 ↔ Flo.code u < Flo.code v := by
  unfold cmpF Flo.cmp3; split
  · constructor <;> intro <;> omega
  · split <;> constructor <;> intro <;> omega

/-- a number among others whose code is the least (the greatest) -/
def IsMin (xs : List Nat) (m : Nat) : Prop := m ∈ xs ∧ ∀ x ∈ xs, Flo.code m ≤ Flo.code x
def IsMax (xs : List Nat) (m : Nat) : Prop := m ∈ xs ∧ ∀ x ∈ xs, Flo.code x ≤ Flo.code m
def RetMin (xs : List Nat) (w : World) (e : Ending) (w' : World) : Prop := ∃ m, IsMin xs m ∧ e = .returned (.float .f64 m) ∧ w = w'
theorem isMin_one {xs : List Nat} (h : 0 < xs.length) : IsMin (xs.take 1) xs[0] := by
  match xs, h with
  | x :: r, _ => exact ⟨by simp, by simp⟩
theorem take_snoc {α : Type} (xs : List α) (k : Nat) (h : k < xs.length) : xs.take (k + 1) = xs.take k ++ [xs[k]] := by
  rw [List.take_succ_eq_append_getElem h]
theorem isMin_keep {xs : List Nat} {m k : Nat} (hm : IsMin (xs.take k) m) (hk : k < xs.length) (h : ¬ cmpF xs[k] m < 0) : IsMin (xs.take (k + 1)) m := by
  rw [gt_iff_cmp] at h
  rw [take_snoc xs k hk]
  refine ⟨List.mem_append_left _ hm.1, fun x hx => ?_⟩
  rcases List.mem_append.1 hx with hx | hx
  · exact hm.2 x hx
  · simp only [List.mem_singleton] at hx; subst hx; omega
theorem isMin_new {xs : List Nat} {m k : Nat} (hm : IsMin (xs.take k) m) (hk : k < xs.length) (h : cmpF xs[k] m < 0) : IsMin (xs.take (k + 1)) xs[k] := by
  rw [gt_iff_cmp] at h
  rw [take_snoc xs k hk]
  refine ⟨List.mem_append_right _ (by simp), fun x hx => ?_⟩
  rcases List.mem_append.1 hx with hx | hx
  · have := hm.2 x hx; omega
  · simp only [List.mem_singleton] at hx; subst hx; omega

def RetMax (xs : List Nat) (w : World) (e : Ending) (w' : World) : Prop := ∃ m, IsMax xs m ∧ e = .returned (.float .f64 m) ∧ w = w'
theorem lt_iff_cmp {u v : Nat} : 0 < cmpF u v ↔ Flo.code v < Flo.code u := by
  unfold cmpF Flo.cmp3; split
  · constructor <;> intro <;> omega
  · split <;> constructor <;> intro <;> omega
theorem isMax_one {xs : List Nat} (h : 0 < xs.length) : IsMax (xs.take 1) xs[0] := by
  match xs, h with
  | x :: r, _ => exact ⟨by simp, by simp⟩
theorem isMax_keep {xs : List Nat} {m k : Nat} (hm : IsMax (xs.take k) m) (hk : k < xs.length) (h : ¬ 0 < cmpF xs[k] m) : IsMax (xs.take (k + 1)) m := by
  rw [lt_iff_cmp] at h
  rw [take_snoc xs k hk]
  refine ⟨List.mem_append_left _ hm.1, fun x hx => ?_⟩
  rcases List.mem_append.1 hx with hx | hx
  · exact hm.2 x hx
  · simp only [List.mem_singleton] at hx; subst hx; omega
theorem isMax_new {xs : List Nat} {m k : Nat} (hm : IsMax (xs.take k) m) (hk : k < xs.length) (h : 0 < cmpF xs[k] m) : IsMax (xs.take (k + 1)) xs[k] := by
  rw [lt_iff_cmp] at h
  rw [take_snoc xs k hk]
  refine ⟨List.mem_append_right _ (by simp), fun x hx => ?_⟩
  rcases List.mem_append.1 hx with hx | hx
  · have := hm.2 x hx; omega
  · simp only [List.mem_singleton] at hx; subst hx; omega
set_option maxHeartbeats 400000 in
theorem minfunc_any (A : Option Addr) (c : Nat) (xs : List Nat) (hx : ∀ x ∈ xs, x < Flo.W) (h0 : 0 < xs.length) (w : World) (hs : Sl (Value.float .f64) w A xs) :
    Calls Try.prog 45 #[.slice A xs.length c, .func (.func 22) #[] #[]] w (RetMin xs w) := by
  have hl := hs.len
  obtain ⟨b, o, rfl, hb, hc⟩ := hs.at h0
  have hc0 : w.cell? ⟨b, o, none⟩ = some (.float .f64 xs[0]) := hc 0 h0
  have HC := Lib.hid hc; clear hc
  have i0 := Lib.hid (isMin_one h0)
  have HX := Lib.hid hx; clear hx
  go_enter Try.func45, Try.ntmps45
  go_wp2_with fail
  go_loop [5, 6] (fun m i => ∃ (k u : Nat), 1 ≤ k ∧ k ≤ xs.length ∧ i = .int .i64 k ∧ m = .float .f64 u ∧ IsMin (xs.take k) u) (fun _ i => xs.length - (intOf i).toNat)
  case atStart => exact ⟨1, xs[0], Nat.le_refl _, h0, rfl, rfl, i0.out⟩
  case round =>
    obtain ⟨k, u, hk1, hk, rfl, rfl, hm⟩ := hrel
    have hM := Lib.hid hm; clear hm
    by_cases hlt : k < xs.length
    · have hck := HC.out k hlt
      have hu := HX.out u (List.mem_of_mem_take hM.out.1)
      have hv := HX.out xs[k] (List.getElem_mem hlt)
      go_wp2_with (go_at_call 22; (with_reducible refine (cmp_any _ _ hv hu _).mono ?_); rintro e w' ⟨rfl, rfl⟩)
      · have hn := isMin_new hM.out hlt (by assumption)
        go_round
        case rel => exact ⟨k + 1, xs[k], by omega, by omega, by go_num, rfl, hn⟩
        case measure => simp [intOf]; omega
      · have hn := isMin_keep hM.out hlt (by omega)
        go_round
        case rel => exact ⟨k + 1, u, by omega, by omega, by go_num, rfl, hn⟩
        case measure => simp [intOf]; omega
    · go_wp2_with fail
      go_ret
      have hM := hM.out
      rw [List.take_of_length_le (by omega)] at hM
      exact ⟨u, hM, rfl, rfl⟩
set_option maxHeartbeats 400000 in
theorem maxfunc_any (A : Option Addr) (c : Nat) (xs : List Nat) (hx : ∀ x ∈ xs, x < Flo.W) (h0 : 0 < xs.length) (w : World) (hs : Sl (Value.float .f64) w A xs) :
    Calls Try.prog 46 #[.slice A xs.length c, .func (.func 22) #[] #[]] w (RetMax xs w) := by
  have hl := hs.len
  obtain ⟨b, o, rfl, hb, hc⟩ := hs.at h0
  have hc0 : w.cell? ⟨b, o, none⟩ = some (.float .f64 xs[0]) := hc 0 h0
  have HC := Lib.hid hc; clear hc
  have i0 := Lib.hid (isMax_one h0)
  have HX := Lib.hid hx; clear hx
  go_enter Try.func46, Try.ntmps46
  go_wp2_with fail
  go_loop [5, 6] (fun m i => ∃ (k u : Nat), 1 ≤ k ∧ k ≤ xs.length ∧ i = .int .i64 k ∧ m = .float .f64 u ∧ IsMax (xs.take k) u) (fun _ i => xs.length - (intOf i).toNat)
  case atStart => exact ⟨1, xs[0], Nat.le_refl _, h0, rfl, rfl, i0.out⟩
  case round =>
    obtain ⟨k, u, hk1, hk, rfl, rfl, hm⟩ := hrel
    have hM := Lib.hid hm; clear hm
    by_cases hlt : k < xs.length
    · have hck := HC.out k hlt
      have hu := HX.out u (List.mem_of_mem_take hM.out.1)
      have hv := HX.out xs[k] (List.getElem_mem hlt)
      go_wp2_with (go_at_call 22; (with_reducible refine (cmp_any _ _ hv hu _).mono ?_); rintro e w' ⟨rfl, rfl⟩)
      · have hn := isMax_new hM.out hlt (by assumption)
        go_round
        case rel => exact ⟨k + 1, xs[k], by omega, by omega, by go_num, rfl, hn⟩
        case measure => simp [intOf]; omega
      · have hn := isMax_keep hM.out hlt (by omega)
        go_round
        case rel => exact ⟨k + 1, u, by omega, by omega, by go_num, rfl, hn⟩
        case measure => simp [intOf]; omega
    · go_wp2_with fail
      go_ret
      have hM := hM.out
      rw [List.take_of_length_le (by omega)] at hM
      exact ⟨u, hM, rfl, rfl⟩

/-- what Least answers -/
def RetLeast (xs : List Nat) (w : World) (e : Ending) (w' : World) : Prop := ∃ m, IsMin xs m ∧ e = .returned (.float .f64 (Flo.can m)) ∧ w = w'
def RetMost (xs : List Nat) (w : World) (e : Ending) (w' : World) : Prop := ∃ m, IsMax xs m ∧ e = .returned (.float .f64 (Flo.can m)) ∧ w = w'
theorem len_test {n : Nat} (h : 0 < n) : ((n : Int) == 0) = false := by simp only [beq_eq_false_iff_ne]; omega
set_option maxHeartbeats 400000 in
theorem least_any (A : Option Addr) (c : Nat) (xs : List Nat) (hx : ∀ x ∈ xs, x < Flo.W) (h0 : 0 < xs.length) (w : World) (hs : Sl (Value.float .f64) w A xs) :
    Calls Try.prog 30 #[.slice A xs.length c] w (RetLeast xs w) := by
  have t1 := len_test h0
  have HX := Lib.hid hx; clear hx
  go_enter Try.func30, Try.ntmps30
  go_wp2_with fail
  (with_reducible refine (minfunc_any _ _ _ HX.out h0 _ hs).mono ?_); rintro e w' ⟨m, hm, rfl, rfl⟩
  have HM := Lib.hid hm; clear hm
  go_wp2_with fail
  (with_reducible refine (canon_any _ _).mono ?_); rintro e w' ⟨rfl, rfl⟩
  go_wp2_with fail
  go_ret
  exact ⟨m, HM.out, rfl, rfl⟩
set_option maxHeartbeats 400000 in
theorem least_none (A : Option Addr) (c : Nat) (w : World) :
    Calls Try.prog 30 #[.slice A 0 c] w fun e w' => e = .returned (.float .f64 Flo.NAN) ∧ w = w' := by
  go_enter Try.func30, Try.ntmps30
  go_wp2_with fail
  (with_reducible refine (nan_any _).mono ?_); rintro e w' ⟨rfl, rfl⟩
  go_wp2_with fail
  go_ret
  exact ⟨rfl, rfl⟩
set_option maxHeartbeats 400000 in
theorem most_any (A : Option Addr) (c : Nat) (xs : List Nat) (hx : ∀ x ∈ xs, x < Flo.W) (h0 : 0 < xs.length) (w : World) (hs : Sl (Value.float .f64) w A xs) :
    Calls Try.prog 31 #[.slice A xs.length c] w (RetMost xs w) := by
  have t1 := len_test h0
  have HX := Lib.hid hx; clear hx
  go_enter Try.func31, Try.ntmps31
  go_wp2_with fail
  (with_reducible refine (maxfunc_any _ _ _ HX.out h0 _ hs).mono ?_); rintro e w' ⟨m, hm, rfl, rfl⟩
  have HM := Lib.hid hm; clear hm
  go_wp2_with fail
  (with_reducible refine (canon_any _ _).mono ?_); rintro e w' ⟨rfl, rfl⟩
  go_wp2_with fail
  go_ret
  exact ⟨m, HM.out, rfl, rfl⟩
set_option maxHeartbeats 400000 in
theorem most_none (A : Option Addr) (c : Nat) (w : World) :
    Calls Try.prog 31 #[.slice A 0 c] w fun e w' => e = .returned (.float .f64 Flo.NAN) ∧ w = w' := by
  go_enter Try.func31, Try.ntmps31
  go_wp2_with fail
  (with_reducible refine (nan_any _).mono ?_); rintro e w' ⟨rfl, rfl⟩
  go_wp2_with fail
  go_ret
  exact ⟨rfl, rfl⟩
end Go.Proofs.Ytdgliljmmokjnaa
