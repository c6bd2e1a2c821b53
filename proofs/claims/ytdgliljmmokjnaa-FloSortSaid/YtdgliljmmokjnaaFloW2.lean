/- The walks of layer 1, second part: the neighbours of a number, the document's and the program's. -/
import Derived.Test.YtdgliljmmokjnaaFloW
import Derived.Lib.Hide
namespace Go.Proofs.Ytdgliljmmokjnaa
open Go.RowKit

theorem up_pinf {u : Nat} (h : Flo.pinf u = true) : u = Flo.up u := by unfold Flo.up; rw [if_pos h]
theorem up_z {u : Nat} (h : Flo.pinf u = false) (h' : Flo.isZ u = true) : Flo.csg 1 Flo.INF = Flo.up u := by unfold Flo.up; rw [if_neg (by rw [h]; decide), if_pos h']; decide
theorem up_pos {u : Nat} (h : Flo.pinf u = false) (h' : Flo.isZ u = false) (h'' : Flo.posB u = true) : u + 1 = Flo.up u := by
  unfold Flo.up; rw [if_neg (by rw [h]; decide), if_neg (by rw [h']; decide), if_pos h'']
theorem up_neg {u : Nat} (h : Flo.pinf u = false) (h' : Flo.isZ u = false) (h'' : Flo.posB u = false) : u - 1 = Flo.up u := by
  unfold Flo.up; rw [if_neg (by rw [h]; decide), if_neg (by rw [h']; decide), if_neg (by rw [h'']; decide)]
theorem dn_ninf {u : Nat} (h : Flo.ninf u = true) : u = Flo.dn u := by unfold Flo.dn; rw [if_pos h]
theorem dn_z {u : Nat} (h : Flo.ninf u = false) (h' : Flo.isZ u = true) : Flo.csg 1 Flo.NINF = Flo.dn u := by unfold Flo.dn; rw [if_neg (by rw [h]; decide), if_pos h']; decide
theorem dn_pos {u : Nat} (h : Flo.ninf u = false) (h' : Flo.isZ u = false) (h'' : Flo.posB u = true) : u - 1 = Flo.dn u := by
  unfold Flo.dn; rw [if_neg (by rw [h]; decide), if_neg (by rw [h']; decide), if_pos h'']
theorem dn_neg {u : Nat} (h : Flo.ninf u = false) (h' : Flo.isZ u = false) (h'' : Flo.posB u = false) : u + 1 = Flo.dn u := by
  unfold Flo.dn; rw [if_neg (by rw [h]; decide), if_neg (by rw [h']; decide), if_neg (by rw [h'']; decide)]
theorem nan_le {u : Nat} (hu : u < Flo.W) (h : Flo.nan u = false) : (u : Int) ≤ 18446744073709551614 := by
  have := Flo.finite h
  simp only [Flo.S, Flo.W, Flo.INF] at * <;> omega
theorem isZ_ge {u : Nat} (h : Flo.isZ u = false) : (1 : Int) ≤ (u : Int) := by
  have h := of_decide_eq_false h
  simp only [Flo.S] at h; omega
theorem toNat_succ (u : Nat) : ((u : Int) + 1).toNat = u + 1 := by omega
theorem toNat_pred (u : Nat) : ((u : Int) - 1).toNat = u - 1 := by omega
theorem inf_lt : Flo.INF < Flo.W := by decide
theorem ninf_lt : Flo.NINF < Flo.W := by decide
theorem one_lt : (1 : Nat) < Flo.W := by decide

set_option maxHeartbeats 400000 in
theorem nextafter_up (u : Nat) (hu : u < Flo.W) (hn : Flo.nan u = false) (w : World) :
    Calls Try.prog 42 #[.float .f64 u, .float .f64 Flo.INF] w fun e w' => e = .returned (.float .f64 (Flo.up u)) ∧ w = w' := by
  have h1 := run_f64from
  have h2 := run_f64bits
  have n1 : Flo.nan Flo.INF = false := by decide
  have t1 := Flo.order_pinf hu hn
  have t2 := Flo.order_isZ hn
  have t3 := Flo.order_posB hu hn
  have b1 := nan_le hu hn
  by_cases p : Flo.pinf u = true
  · go_enter Try.func42, Try.ntmps42
    go_wp2_with ((go_at_call 32; refine (isnan_any _ _).mono ?_; rintro e w' ⟨rfl, rfl⟩))
    go_ret
    exact ⟨ret_f64 (up_pinf p), rfl⟩
  have p : Flo.pinf u = false := by simpa using p
  have t4 := Flo.order_gt_pinf hu hn p
  by_cases z : Flo.isZ u = true
  · go_enter Try.func42, Try.ntmps42
    go_wp2_with (first | (go_at_call 32; refine (isnan_any _ _).mono ?_; rintro e w' ⟨rfl, rfl⟩) | (go_at_call 36; refine (copysign_any _ _ one_lt inf_lt _).mono ?_; rintro e w' ⟨rfl, rfl⟩))
    go_ret
    exact ⟨ret_f64 (up_z p z), rfl⟩
  have z : Flo.isZ u = false := by simpa using z
  have b2 := isZ_ge z
  by_cases o : Flo.posB u = true
  · go_enter Try.func42, Try.ntmps42
    go_wp2_with ((go_at_call 32; refine (isnan_any _ _).mono ?_; rintro e w' ⟨rfl, rfl⟩))
    go_ret
    exact ⟨ret_f64 (up_pos p z o), rfl⟩
  have o : Flo.posB u = false := by simpa using o
  go_enter Try.func42, Try.ntmps42
  go_wp2_with ((go_at_call 32; refine (isnan_any _ _).mono ?_; rintro e w' ⟨rfl, rfl⟩))
  go_ret
  exact ⟨ret_f64 (up_neg p z o), rfl⟩

set_option maxHeartbeats 400000 in
theorem nextafter_dn (u : Nat) (hu : u < Flo.W) (hn : Flo.nan u = false) (w : World) :
    Calls Try.prog 42 #[.float .f64 u, .float .f64 Flo.NINF] w fun e w' => e = .returned (.float .f64 (Flo.dn u)) ∧ w = w' := by
  have h1 := run_f64from
  have h2 := run_f64bits
  have n1 : Flo.nan Flo.NINF = false := by decide
  have t1 := Flo.order_ninf hu hn
  have t2 := Flo.order_isZ hn
  have t3 := Flo.order_posB hu hn
  have b1 := nan_le hu hn
  have t4 := Flo.order_gt_ninf hu hn
  by_cases p : Flo.ninf u = true
  · go_enter Try.func42, Try.ntmps42
    go_wp2_with ((go_at_call 32; refine (isnan_any _ _).mono ?_; rintro e w' ⟨rfl, rfl⟩))
    go_ret
    exact ⟨ret_f64 (dn_ninf p), rfl⟩
  have p : Flo.ninf u = false := by simpa using p
  by_cases z : Flo.isZ u = true
  · go_enter Try.func42, Try.ntmps42
    go_wp2_with (first | (go_at_call 32; refine (isnan_any _ _).mono ?_; rintro e w' ⟨rfl, rfl⟩) | (go_at_call 36; refine (copysign_any _ _ one_lt ninf_lt _).mono ?_; rintro e w' ⟨rfl, rfl⟩))
    go_ret
    exact ⟨ret_f64 (dn_z p z), rfl⟩
  have z : Flo.isZ u = false := by simpa using z
  have b2 := isZ_ge z
  by_cases o : Flo.posB u = true
  · go_enter Try.func42, Try.ntmps42
    go_wp2_with ((go_at_call 32; refine (isnan_any _ _).mono ?_; rintro e w' ⟨rfl, rfl⟩))
    go_ret
    exact ⟨ret_f64 (dn_pos p z o), rfl⟩
  have o : Flo.posB u = false := by simpa using o
  go_enter Try.func42, Try.ntmps42
  go_wp2_with ((go_at_call 32; refine (isnan_any _ _).mono ?_; rintro e w' ⟨rfl, rfl⟩))
  go_ret
  exact ⟨ret_f64 (dn_neg p z o), rfl⟩

theorem nextV_nan {u : Nat} (h : Flo.nan u = true) : Flo.NINF = Flo.nextV u := by unfold Flo.nextV; rw [if_pos h]
theorem nextV_pinf {u : Nat} (h : Flo.nan u = false) (h' : Flo.pinf u = true) : u = Flo.nextV u := by unfold Flo.nextV; rw [if_neg (by rw [h]; decide), if_pos h']
theorem nextV_up {u : Nat} (h : Flo.nan u = false) (h' : Flo.pinf u = false) : Flo.can (Flo.up u) = Flo.nextV u := by unfold Flo.nextV; rw [if_neg (by rw [h]; decide), if_neg (by rw [h']; decide)]
theorem prevV_nan {u : Nat} (h : Flo.nan u = true) : Flo.NAN = Flo.prevV u := by unfold Flo.prevV; rw [if_pos (by rw [h]; rfl)]
theorem prevV_ninf {u : Nat} (h : Flo.ninf u = true) : Flo.NAN = Flo.prevV u := by unfold Flo.prevV; rw [if_pos (by rw [h, Bool.or_true])]
theorem prevV_dn {u : Nat} (h : Flo.nan u = false) (h' : Flo.ninf u = false) : Flo.can (Flo.dn u) = Flo.prevV u := by unfold Flo.prevV; rw [if_neg (by rw [h, h']; decide)]

set_option maxHeartbeats 400000 in
theorem next_any (u : Nat) (hu : u < Flo.W) (w : World) :
    Calls Try.prog 24 #[.float .f64 u] w fun e w' => e = .returned (.float .f64 (Flo.nextV u)) ∧ w = w' := by
  by_cases n : Flo.nan u = true
  · go_enter Try.func24, Try.ntmps24
    go_wp2_with (first | (go_at_call 32; refine (isnan_any _ _).mono ?_; rintro e w' ⟨rfl, rfl⟩) | (go_at_call 41; refine (inf_dn _).mono ?_; rintro e w' ⟨rfl, rfl⟩))
    go_ret
    exact ⟨ret_f64 (nextV_nan n), rfl⟩
  have n : Flo.nan u = false := by simpa using n
  by_cases p : Flo.pinf u = true
  · go_enter Try.func24, Try.ntmps24
    go_wp2_with (first | (go_at_call 32; refine (isnan_any _ _).mono ?_; rintro e w' ⟨rfl, rfl⟩) | (go_at_call 29; refine (isinf_up _ hu _).mono ?_; rintro e w' ⟨rfl, rfl⟩))
    go_ret
    exact ⟨ret_f64 (nextV_pinf n p), rfl⟩
  have p : Flo.pinf u = false := by simpa using p
  go_enter Try.func24, Try.ntmps24
  go_wp2_with (first | (go_at_call 32; refine (isnan_any _ _).mono ?_; rintro e w' ⟨rfl, rfl⟩) | (go_at_call 29; refine (isinf_up _ hu _).mono ?_; rintro e w' ⟨rfl, rfl⟩) | (go_at_call 41; refine (inf_up _).mono ?_; rintro e w' ⟨rfl, rfl⟩) | (go_at_call 42; refine (nextafter_up _ hu n _).mono ?_; rintro e w' ⟨rfl, rfl⟩) | (go_at_call 15; refine (canon_any _ _).mono ?_; rintro e w' ⟨rfl, rfl⟩))
  go_ret
  exact ⟨ret_f64 (nextV_up n p), rfl⟩

set_option maxHeartbeats 400000 in
theorem prev_any (u : Nat) (hu : u < Flo.W) (w : World) :
    Calls Try.prog 27 #[.float .f64 u] w fun e w' => e = .returned (.float .f64 (Flo.prevV u)) ∧ w = w' := by
  by_cases n : Flo.nan u = true
  · go_enter Try.func27, Try.ntmps27
    go_wp2_with (first | (go_at_call 32; refine (isnan_any _ _).mono ?_; rintro e w' ⟨rfl, rfl⟩) | (go_at_call 37; refine (nan_any _).mono ?_; rintro e w' ⟨rfl, rfl⟩))
    go_ret
    exact ⟨ret_f64 (prevV_nan n), rfl⟩
  have n : Flo.nan u = false := by simpa using n
  by_cases p : Flo.ninf u = true
  · go_enter Try.func27, Try.ntmps27
    go_wp2_with (first | (go_at_call 32; refine (isnan_any _ _).mono ?_; rintro e w' ⟨rfl, rfl⟩) | (go_at_call 37; refine (nan_any _).mono ?_; rintro e w' ⟨rfl, rfl⟩) | (go_at_call 29; refine (isinf_dn _ hu _).mono ?_; rintro e w' ⟨rfl, rfl⟩))
    go_ret
    exact ⟨ret_f64 (prevV_ninf p), rfl⟩
  have p : Flo.ninf u = false := by simpa using p
  go_enter Try.func27, Try.ntmps27
  go_wp2_with (first | (go_at_call 32; refine (isnan_any _ _).mono ?_; rintro e w' ⟨rfl, rfl⟩) | (go_at_call 29; refine (isinf_dn _ hu _).mono ?_; rintro e w' ⟨rfl, rfl⟩) | (go_at_call 41; refine (inf_dn _).mono ?_; rintro e w' ⟨rfl, rfl⟩) | (go_at_call 42; refine (nextafter_dn _ hu n _).mono ?_; rintro e w' ⟨rfl, rfl⟩) | (go_at_call 15; refine (canon_any _ _).mono ?_; rintro e w' ⟨rfl, rfl⟩))
  go_ret
  exact ⟨ret_f64 (prevV_dn n p), rfl⟩

/-! the document's neighbours -/
def suc (c : Nat) : Nat := c + 1
def prd (c : Nat) : Nat := c - 1
def lastC (c : Nat) : Bool := decide (c = Flo.S + Flo.INF)
def firstC (c : Nat) : Bool := decide (c = Flo.S - 1 - Flo.INF)
def rnextV (u : Nat) : Nat := if lastC (Flo.code u) then u else Flo.raw (Flo.nxtC (Flo.code u))
def rprevV (u : Nat) : Nat := Flo.raw (Flo.prvC (Flo.code u))
theorem last_test (c : Nat) : ((c : Int) == 18442240474082181120) = lastC c := by
  unfold lastC Flo.S Flo.INF; rw [Bool.eq_iff_iff]; simp only [beq_iff_eq, decide_eq_true_eq]; omega
theorem first_test (c : Nat) : ((c : Int) == 4503599627370495) = firstC c := by
  unfold firstC Flo.S Flo.INF; rw [Bool.eq_iff_iff]; simp only [beq_iff_eq, decide_eq_true_eq]; omega
theorem suc_rule (c : Nat) : (c : Int) + 1 = ((suc c : Nat) : Int) := rfl
theorem prd_rule {c : Nat} (h : Flo.zeroB c = false) : (c : Int) - 1 = ((prd c : Nat) : Int) := by
  have h := of_decide_eq_false h
  unfold prd; omega
theorem ge_one {c : Nat} (h : Flo.zeroB c = false) : (1 : Int) ≤ (c : Int) := by
  have h := of_decide_eq_false h; omega
theorem suc_facts {c : Nat} (hc : c < Flo.W) (hi : Flo.isC c = true) (hz : Flo.zeroB c = false) (hl : lastC c = false) :
    suc c < Flo.W ∧ (Flo.isC (suc c) = true → Flo.nxtC c = suc c) ∧ (Flo.isC (suc c) = false → suc (suc c) < Flo.W ∧ Flo.nxtC c = suc (suc c)) := by
  obtain ⟨hS, hW, hI, hN⟩ := Flo.nums
  have h1 := (Flo.isC_iff hc).1 hi
  have hz := of_decide_eq_false hz
  have hl := of_decide_eq_false hl
  have hs : suc c = c + 1 := rfl
  have hss : suc (suc c) = c + 2 := rfl
  have hlt : suc c < Flo.W := by omega
  have h2 := Flo.isC_iff hlt
  refine ⟨hlt, fun h => ?_, fun h => ?_⟩
  · have h2 := h2.1 h
    unfold Flo.nxtC; rw [if_neg hl, if_neg hz, if_neg (by omega)]; rfl
  · have h2 : ¬ (suc c = 0 ∨ (Flo.S - 1 - Flo.INF ≤ suc c ∧ suc c < Flo.S - 1) ∨ (Flo.S ≤ suc c ∧ suc c ≤ Flo.S + Flo.INF)) := by rw [← h2, h]; decide
    refine ⟨by omega, ?_⟩
    unfold Flo.nxtC; rw [if_neg hl, if_neg hz, if_pos (by omega)]; rfl
theorem prd_facts {c : Nat} (hc : c < Flo.W) (hi : Flo.isC c = true) (hz : Flo.zeroB c = false) (hl : firstC c = false) :
    prd c < Flo.W ∧ Flo.zeroB (prd c) = false ∧ (Flo.isC (prd c) = true → Flo.prvC c = prd c) ∧ (Flo.isC (prd c) = false → prd (prd c) < Flo.W ∧ Flo.prvC c = prd (prd c)) := by
  obtain ⟨hS, hW, hI, hN⟩ := Flo.nums
  have h1 := (Flo.isC_iff hc).1 hi
  have hz := of_decide_eq_false hz
  have hl := of_decide_eq_false hl
  have hs : prd c = c - 1 := rfl
  have hss : prd (prd c) = c - 2 := rfl
  have hlt : prd c < Flo.W := by omega
  have h2 := Flo.isC_iff hlt
  refine ⟨hlt, decide_eq_false (by omega), fun h => ?_, fun h => ?_⟩
  · have h2 := h2.1 h
    unfold Flo.prvC; rw [if_neg hz, if_neg hl, if_neg (by omega)]; rfl
  · have h2 : ¬ (prd c = 0 ∨ (Flo.S - 1 - Flo.INF ≤ prd c ∧ prd c < Flo.S - 1) ∨ (Flo.S ≤ prd c ∧ prd c ≤ Flo.S + Flo.INF)) := by rw [← h2, h]; decide
    refine ⟨by omega, ?_⟩
    unfold Flo.prvC; rw [if_neg hz, if_neg hl, if_pos (by omega)]; rfl
theorem rnext_last {u : Nat} (h : lastC (Flo.code u) = true) : u = rnextV u := by unfold rnextV; rw [if_pos h]
theorem rnext_else {u c : Nat} (h : lastC (Flo.code u) = false) (hc : Flo.nxtC (Flo.code u) = c) : Flo.raw c = rnextV u := by unfold rnextV; rw [if_neg (by rw [h]; decide), hc]
theorem nxt_zero {c : Nat} (h : Flo.zeroB c = true) : Flo.nxtC c = 4503599627370495 := by
  have h := of_decide_eq_true h; subst h; decide
theorem prv_zero {c : Nat} (h : Flo.zeroB c = true) : Flo.prvC c = 0 := by
  have h := of_decide_eq_true h; subst h; decide
theorem prv_first {c : Nat} (h : firstC c = true) : Flo.prvC c = 0 := by
  have h := of_decide_eq_true h; subst h; decide

set_option maxHeartbeats 400000 in
theorem rnext_any (u : Nat) (hu : u < Flo.W) (w : World) :
    Calls Try.prog 26 #[.float .f64 u] w fun e w' => e = .returned (.float .f64 (rnextV u)) ∧ w = w' := by
  have t1 := last_test (Flo.code u)
  have t2 := Flo.zero_test (Flo.code u)
  by_cases l : lastC (Flo.code u) = true
  · go_enter Try.func26, Try.ntmps26
    go_wp2_with (go_at_call 18; refine (rcode_any _ hu _).mono ?_; rintro e w' ⟨rfl, rfl⟩)
    go_ret
    exact ⟨ret_f64 (rnext_last l), rfl⟩
  have l : lastC (Flo.code u) = false := by simpa using l
  by_cases z : Flo.zeroB (Flo.code u) = true
  · go_enter Try.func26, Try.ntmps26
    go_wp2_with (first | (go_at_call 18; refine (rcode_any _ hu _).mono ?_; rintro e w' ⟨rfl, rfl⟩) | (go_at_call 43; refine (of_any 4503599627370495 (by decide) _).mono ?_; rintro e w' ⟨rfl, rfl⟩))
    go_ret
    exact ⟨ret_f64 (rnext_else l (nxt_zero z)), rfl⟩
  have z : Flo.zeroB (Flo.code u) = false := by simpa using z
  obtain ⟨f1, f2, f3⟩ := suc_facts (Flo.code_lt hu) (Flo.isC_code hu) z l
  have r1 := suc_rule (Flo.code u)
  have r2 := suc_rule (suc (Flo.code u))
  have b1 := w_le f1
  by_cases i : Flo.isC (suc (Flo.code u)) = true
  · have f2 := f2 i; clear f3
    have F2 := Lib.hid f2; clear f2
    go_enter Try.func26, Try.ntmps26
    go_wp2_with (first | (go_at_call 18; refine (rcode_any _ hu _).mono ?_; rintro e w' ⟨rfl, rfl⟩) | (go_at_call 20; refine (iscode_any _ f1 _).mono ?_; rintro e w' ⟨rfl, rfl⟩) | (go_at_call 43; refine (of_any _ f1 _).mono ?_; rintro e w' ⟨rfl, rfl⟩))
    go_ret
    exact ⟨ret_f64 (rnext_else l F2.out), rfl⟩
  have i : Flo.isC (suc (Flo.code u)) = false := by simpa using i
  obtain ⟨f4, f3⟩ := f3 i; clear f2
  have b2 := w_le f4
  have F3 := Lib.hid f3; clear f3
  go_enter Try.func26, Try.ntmps26
  go_wp2_with (first | (go_at_call 18; refine (rcode_any _ hu _).mono ?_; rintro e w' ⟨rfl, rfl⟩) | (go_at_call 20; refine (iscode_any _ f1 _).mono ?_; rintro e w' ⟨rfl, rfl⟩) | (go_at_call 43; refine (of_any _ f4 _).mono ?_; rintro e w' ⟨rfl, rfl⟩))
  go_ret
  exact ⟨ret_f64 (rnext_else l F3.out), rfl⟩

set_option maxHeartbeats 400000 in
theorem rprev_any (u : Nat) (hu : u < Flo.W) (w : World) :
    Calls Try.prog 28 #[.float .f64 u] w fun e w' => e = .returned (.float .f64 (rprevV u)) ∧ w = w' := by
  have t1 := first_test (Flo.code u)
  have t2 := Flo.zero_test (Flo.code u)
  by_cases z : Flo.zeroB (Flo.code u) = true
  · go_enter Try.func28, Try.ntmps28
    go_wp2_with (first | (go_at_call 18; refine (rcode_any _ hu _).mono ?_; rintro e w' ⟨rfl, rfl⟩) | (go_at_call 43; refine (of_any 0 (by decide) _).mono ?_; rintro e w' ⟨rfl, rfl⟩))
    go_ret
    exact ⟨ret_f64 (by unfold rprevV; rw [prv_zero z]), rfl⟩
  have z : Flo.zeroB (Flo.code u) = false := by simpa using z
  by_cases l : firstC (Flo.code u) = true
  · go_enter Try.func28, Try.ntmps28
    go_wp2_with (first | (go_at_call 18; refine (rcode_any _ hu _).mono ?_; rintro e w' ⟨rfl, rfl⟩) | (go_at_call 43; refine (of_any 0 (by decide) _).mono ?_; rintro e w' ⟨rfl, rfl⟩))
    go_ret
    exact ⟨ret_f64 (by unfold rprevV; rw [prv_first l]), rfl⟩
  have l : firstC (Flo.code u) = false := by simpa using l
  obtain ⟨f1, f0, f2, f3⟩ := prd_facts (Flo.code_lt hu) (Flo.isC_code hu) z l
  have r1 := prd_rule z
  have r2 := prd_rule f0
  have b0 := w_le (Flo.code_lt hu)
  have b1 := ge_one z
  have b2 := ge_one f0
  have b3 := w_le f1
  by_cases i : Flo.isC (prd (Flo.code u)) = true
  · have f2 := f2 i; clear f3
    have F2 := Lib.hid f2; clear f2
    go_enter Try.func28, Try.ntmps28
    go_wp2_with (first | (go_at_call 18; refine (rcode_any _ hu _).mono ?_; rintro e w' ⟨rfl, rfl⟩) | (go_at_call 20; refine (iscode_any _ f1 _).mono ?_; rintro e w' ⟨rfl, rfl⟩) | (go_at_call 43; refine (of_any _ f1 _).mono ?_; rintro e w' ⟨rfl, rfl⟩))
    go_ret
    exact ⟨ret_f64 (by unfold rprevV; rw [F2.out]), rfl⟩
  have i : Flo.isC (prd (Flo.code u)) = false := by simpa using i
  obtain ⟨f4, f3⟩ := f3 i; clear f2
  have F3 := Lib.hid f3; clear f3
  go_enter Try.func28, Try.ntmps28
  go_wp2_with (first | (go_at_call 18; refine (rcode_any _ hu _).mono ?_; rintro e w' ⟨rfl, rfl⟩) | (go_at_call 20; refine (iscode_any _ f1 _).mono ?_; rintro e w' ⟨rfl, rfl⟩) | (go_at_call 43; refine (of_any _ f4 _).mono ?_; rintro e w' ⟨rfl, rfl⟩))
  go_ret
  exact ⟨ret_f64 (by unfold rprevV; rw [F3.out]), rfl⟩
end Go.Proofs.Ytdgliljmmokjnaa
