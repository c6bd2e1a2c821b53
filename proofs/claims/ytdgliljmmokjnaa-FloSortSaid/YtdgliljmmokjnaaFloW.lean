/- The walks of layer 1's small functions: a number's form, its code, the order. -/
import Derived.Test.YtdgliljmmokjnaaProg
import Derived.Test.YtdgliljmmokjnaaFlo
import Derived.WalkKit
import Derived.WalkSpells
import Derived.WalkLawsBesides
namespace Go.Proofs.Ytdgliljmmokjnaa
open Go.RowKit

theorem ret_u64 {a b : Int} (h : a = b) : Ending.returned (.int .u64 a) = .returned (.int .u64 b) := by rw [h]
theorem ret_i64 {a b : Int} (h : a = b) : Ending.returned (.int .i64 a) = .returned (.int .i64 b) := by rw [h]
theorem ret_f64 {a b : Nat} (h : a = b) : Ending.returned (.float .f64 a) = .returned (.float .f64 b) := by rw [h]
theorem ret_bool {a b : Bool} (h : a = b) : Ending.returned (.bool a) = .returned (.bool b) := by rw [h]

theorem run_f64bits (u : Nat) (w : World) : (callFunc 14 #[.float .f64 u]).run Try.prog w = .ok (.value (.int .u64 u)) w := by
  rw [run_callFunc_extern (e := Extern.MathFloatBits.float64bits) Try.func14 (by kernel_rfl) (by kernel_rfl) (by kernel_rfl) (by kernel_rfl)]
  rfl
theorem run_f64from (n : Int) (w : World) : (callFunc 39 #[.int .u64 n]).run Try.prog w = .ok (.value (.float .f64 n.toNat)) w := by
  rw [run_callFunc_extern (e := Extern.MathFloatBits.float64frombits) Try.func39 (by kernel_rfl) (by kernel_rfl) (by kernel_rfl) (by kernel_rfl)]
  rfl

set_option maxHeartbeats 400000 in
theorem nan_any (w : World) :
    Calls Try.prog 37 #[] w fun e w' => e = .returned (.float .f64 Flo.NAN) ∧ w = w' := by
  have h1 := run_f64from
  go_enter Try.func37, Try.ntmps37
  go_wp2
  go_ret
  exact ⟨rfl, rfl⟩

set_option maxHeartbeats 400000 in
theorem isnan_any (u : Nat) (w : World) :
    Calls Try.prog 32 #[.float .f64 u] w fun e w' => e = .returned (.bool (Flo.nan u)) ∧ w = w' := by
  go_enter Try.func32, Try.ntmps32
  go_wp2
  go_ret
  exact ⟨ret_bool (Flo.order_self u), rfl⟩

theorem can_nan {u : Nat} (h : Flo.nan u = true) : Flo.NAN = Flo.can u := by unfold Flo.can; rw [if_pos h]
theorem can_zero {u : Nat} (h : Flo.nan u = false) (h' : (FloatKind.f64.format.order u 0 == some Ordering.eq) = true) : 0 = Flo.can u := by
  rw [Flo.order_zero h] at h'
  unfold Flo.can; rw [if_neg (by rw [h]; decide), if_pos (of_decide_eq_true h')]
theorem can_else {u : Nat} (h : Flo.nan u = false) (h' : (FloatKind.f64.format.order u 0 == some Ordering.eq) = false) : u = Flo.can u := by
  rw [Flo.order_zero h] at h'
  unfold Flo.can; rw [if_neg (by rw [h]; decide), if_neg (of_decide_eq_false h')]

set_option maxHeartbeats 400000 in
theorem canon_any (u : Nat) (w : World) :
    Calls Try.prog 15 #[.float .f64 u] w fun e w' => e = .returned (.float .f64 (Flo.can u)) ∧ w = w' := by
  go_enter Try.func15, Try.ntmps15
  go_wp2_with (first | (go_at_call 32; refine (isnan_any _ _).mono ?_; rintro e w' ⟨rfl, rfl⟩) | (go_at_call 37; refine (nan_any _).mono ?_; rintro e w' ⟨rfl, rfl⟩))
  all_goals go_ret
  · exact ⟨ret_f64 (can_nan ‹_›), rfl⟩
  · exact ⟨ret_f64 (can_zero ‹_› ‹_›), rfl⟩
  · exact ⟨ret_f64 (can_else ‹_› ‹_›), rfl⟩

theorem and_top {c : Nat} (hc : c < Flo.W) : (bits BinOp.and IntKind.u64 (c : Int) 9223372036854775808 == 0) = decide (c < Flo.S) := by
  have h := u64_and_nat c 9223372036854775808 hc (by decide)
  rw [show ((9223372036854775808 : Nat) : Int) = 9223372036854775808 from rfl] at h
  rw [h]
  have e : c &&& 9223372036854775808 = c / 2 ^ 63 % 2 * 2 ^ 63 := nat_bit 63 c
  rw [e]
  unfold Flo.S
  unfold Flo.W at hc
  rw [Bool.eq_iff_iff]
  simp only [beq_iff_eq, decide_eq_true_eq]
  omega
theorem or_top {c : Nat} (hc : c < Flo.S) : bits BinOp.or IntKind.u64 (c : Int) 9223372036854775808 = ((c + Flo.S : Nat) : Int) := by
  unfold Flo.S at hc
  have h := u64_or_nat c 9223372036854775808 (by omega) (by decide)
  rw [show ((9223372036854775808 : Nat) : Int) = 9223372036854775808 from rfl] at h
  rw [h, Nat.or_comm, nat_join 63 9223372036854775808 c (by decide) hc, Nat.add_comm]; rfl
theorem xor_all {c : Nat} (hc : c < Flo.W) : bits BinOp.xor IntKind.u64 IntKind.u64.max (c : Int) = ((Flo.W - 1 - c : Nat) : Int) := by
  unfold Flo.W at *
  have h := u64_xor_nat 18446744073709551615 c (by decide) hc
  rw [show (IntKind.u64.max : Int) = ((18446744073709551615 : Nat) : Int) from rfl, h]
  congr 1
  apply Nat.eq_of_testBit_eq
  intro i
  rw [Nat.testBit_xor, show (18446744073709551616 - 1 - c : Nat) = 2 ^ 64 - (c + 1) by omega, Nat.testBit_two_pow_sub_succ (by omega),
    show (18446744073709551615 : Nat) = 2 ^ 64 - 1 by decide, Nat.testBit_two_pow_sub_one]
  by_cases hi : i < 64
  · simp [hi]
  · have : c.testBit i = false := Nat.testBit_lt_two_pow (Nat.lt_of_lt_of_le hc (by rw [show (18446744073709551616 : Nat) = 2 ^ 64 by decide]; exact Nat.pow_le_pow_right (by decide) (by omega)))
    simp [hi, this]
theorem code_nan {u : Nat} (h : Flo.nan u = true) : (0 : Int) = ((Flo.code u : Nat) : Int) := by unfold Flo.code; rw [if_pos h]; rfl
theorem code_pos {u : Nat} (hu : Flo.can u < Flo.W) (h : Flo.nan u = false) (h' : (bits BinOp.and IntKind.u64 (Flo.can u : Int) 9223372036854775808 == 0) = true) :
    bits BinOp.or IntKind.u64 (Flo.can u : Int) 9223372036854775808 = ((Flo.code u : Nat) : Int) := by
  rw [and_top hu] at h'
  have h' := of_decide_eq_true h'
  unfold Flo.code; rw [if_neg (by rw [h]; decide), if_pos h', or_top h']
theorem code_neg {u : Nat} (hu : Flo.can u < Flo.W) (h : Flo.nan u = false) (h' : (bits BinOp.and IntKind.u64 (Flo.can u : Int) 9223372036854775808 == 0) = false) :
    bits BinOp.xor IntKind.u64 IntKind.u64.max (Flo.can u : Int) = ((Flo.code u : Nat) : Int) := by
  rw [and_top hu] at h'
  have h' := of_decide_eq_false h'
  unfold Flo.code; rw [if_neg (by rw [h]; decide), if_neg h', xor_all hu]

set_option maxHeartbeats 400000 in
theorem code_any (u : Nat) (hu : u < Flo.W) (w : World) :
    Calls Try.prog 17 #[.float .f64 u] w fun e w' => e = .returned (.int .u64 (Flo.code u : Nat)) ∧ w = w' := by
  have hc := Flo.can_lt hu
  have h1 := run_f64bits
  go_enter Try.func17, Try.ntmps17
  go_wp2_with (first | (go_at_call 15; refine (canon_any _ _).mono ?_; rintro e w' ⟨rfl, rfl⟩) | (go_at_call 32; refine (isnan_any _ _).mono ?_; rintro e w' ⟨rfl, rfl⟩))
  all_goals go_ret
  · exact ⟨ret_u64 (code_nan ‹_›), rfl⟩
  · exact ⟨ret_u64 (code_pos hc ‹_› ‹_›), rfl⟩
  · exact ⟨ret_u64 (code_neg hc ‹_› ‹_›), rfl⟩

theorem andNot_top {c : Nat} (hc : c < Flo.W) : bits BinOp.andNot IntKind.u64 (c : Int) 9223372036854775808 = ((c % Flo.S : Nat) : Int) := by
  have h := u64_andNot_nat c 9223372036854775808 hc (by decide)
  rw [show ((9223372036854775808 : Nat) : Int) = 9223372036854775808 from rfl] at h
  rw [h, show (18446744073709551615 - 9223372036854775808 : Nat) = 2 ^ 63 - 1 by decide, Nat.and_two_pow_sub_one_eq_mod]; rfl

set_option maxHeartbeats 400000 in
theorem rnan_any (u : Nat) (hu : u < Flo.W) (w : World) :
    Calls Try.prog 38 #[.float .f64 u] w fun e w' => e = .returned (.bool (Flo.nan u)) ∧ w = w' := by
  have h1 := run_f64bits
  go_enter Try.func38, Try.ntmps38
  go_wp2
  go_ret
  exact ⟨ret_bool (by rw [andNot_top hu]; exact Flo.nan_test2), rfl⟩
set_option maxHeartbeats 400000 in
theorem rbits_any (u : Nat) (hu : u < Flo.W) (w : World) :
    Calls Try.prog 16 #[.float .f64 u] w fun e w' => e = .returned (.int .u64 (Flo.can u : Nat)) ∧ w = w' := by
  have h1 := run_f64bits
  have h2 := Flo.nz_test u
  go_enter Try.func16, Try.ntmps16
  go_wp2_with (first | (go_at_call 38; refine (rnan_any _ hu _).mono ?_; rintro e w' ⟨rfl, rfl⟩))
  all_goals go_ret
  · exact ⟨ret_u64 (by rw [← can_nan ‹_›]; rfl), rfl⟩
  · exact ⟨ret_u64 (by rw [← Flo.can_nz ‹_›]; rfl), rfl⟩
  · exact ⟨ret_u64 (by rw [← Flo.can_pz hu ‹_› ‹_›]), rfl⟩
set_option maxHeartbeats 400000 in
theorem rcode_any (u : Nat) (hu : u < Flo.W) (w : World) :
    Calls Try.prog 18 #[.float .f64 u] w fun e w' => e = .returned (.int .u64 (Flo.code u : Nat)) ∧ w = w' := by
  have t1 := Flo.nan_test u
  have t2 := Flo.neg_test u
  have b1 := Flo.can_bound hu
  go_enter Try.func18, Try.ntmps18
  go_wp2_with (first | (go_at_call 16; refine (rbits_any _ hu _).mono ?_; rintro e w' ⟨rfl, rfl⟩))
  all_goals go_ret
  · exact ⟨ret_u64 (code_nan ‹_›), rfl⟩
  · exact ⟨ret_u64 (Flo.code_neg_eq hu ‹_› ‹_›), rfl⟩
  · exact ⟨ret_u64 (Flo.code_pos_eq ‹_› ‹_›), rfl⟩
set_option maxHeartbeats 400000 in
theorem compare_any (x y : Nat) (w : World) :
    Calls Try.prog 40 #[.int .u64 x, .int .u64 y] w fun e w' => e = .returned (.int .i64 (Flo.cmp3 x y)) ∧ w = w' := by
  go_enter Try.func40, Try.ntmps40
  go_wp2
  all_goals go_ret
  · exact ⟨ret_i64 (Flo.cmp3_lt ‹_›), rfl⟩
  · exact ⟨ret_i64 (Flo.cmp3_gt ‹_› ‹_›), rfl⟩
  · exact ⟨ret_i64 (Flo.cmp3_eq ‹_› ‹_›), rfl⟩
/-- the order of two numbers -/
def cmpF (u v : Nat) : Int := Flo.cmp3 (Flo.code u) (Flo.code v)
set_option maxHeartbeats 400000 in
theorem cmp_any (u v : Nat) (hu : u < Flo.W) (hv : v < Flo.W) (w : World) :
    Calls Try.prog 22 #[.float .f64 u, .float .f64 v] w fun e w' => e = .returned (.int .i64 (cmpF u v)) ∧ w = w' := by
  go_enter Try.func22, Try.ntmps22
  go_wp2_with fail
  refine (code_any _ hu _).mono ?_; rintro e w' ⟨rfl, rfl⟩
  go_wp2_with fail
  refine (code_any _ hv _).mono ?_; rintro e w' ⟨rfl, rfl⟩
  go_wp2_with fail
  refine (compare_any _ _ _).mono ?_; rintro e w' ⟨rfl, rfl⟩
  go_wp2_with fail
  go_ret
  exact ⟨rfl, rfl⟩
set_option maxHeartbeats 400000 in
theorem rcmp_any (u v : Nat) (hu : u < Flo.W) (hv : v < Flo.W) (w : World) :
    Calls Try.prog 23 #[.float .f64 u, .float .f64 v] w fun e w' => e = .returned (.int .i64 (cmpF u v)) ∧ w = w' := by
  go_enter Try.func23, Try.ntmps23
  go_wp2_with fail
  refine (rcode_any _ hu _).mono ?_; rintro e w' ⟨rfl, rfl⟩
  go_wp2_with fail
  refine (rcode_any _ hv _).mono ?_; rintro e w' ⟨rfl, rfl⟩
  go_wp2_with fail
  · go_ret
    exact ⟨ret_i64 (Flo.cmp3_lt ‹_›), rfl⟩
  refine (rcode_any _ hu _).mono ?_; rintro e w' ⟨rfl, rfl⟩
  go_wp2_with fail
  refine (rcode_any _ hv _).mono ?_; rintro e w' ⟨rfl, rfl⟩
  go_wp2_with fail
  all_goals go_ret
  · exact ⟨ret_i64 (Flo.cmp3_gt ‹_› ‹_›), rfl⟩
  · exact ⟨ret_i64 (Flo.cmp3_eq ‹_› ‹_›), rfl⟩

/-! From, IsCode, Of -/
theorem flip_rule {c : Nat} (hc : c < Flo.W) : bits BinOp.xor IntKind.u64 IntKind.u64.max (c : Int) = ((Flo.flip c : Nat) : Int) := xor_all hc
theorem low_rule {c : Nat} (hc : c < Flo.W) : bits BinOp.andNot IntKind.u64 (c : Int) 9223372036854775808 = ((Flo.low c : Nat) : Int) := andNot_top hc
theorem top_rule {c : Nat} (hc : c < Flo.W) : (bits BinOp.and IntKind.u64 (c : Int) 9223372036854775808 != 0) = Flo.topB c := by
  unfold Flo.topB bne; rw [and_top hc]
  by_cases h : c < Flo.S
  · rw [decide_eq_true h, decide_eq_false (p := Flo.S ≤ c) (by omega)]; rfl
  · rw [decide_eq_false h, decide_eq_true (p := Flo.S ≤ c) (by omega)]; rfl
theorem flip_lt {c : Nat} : Flo.flip c < Flo.W := by unfold Flo.flip Flo.W; omega
theorem low_lt {c : Nat} : Flo.low c < Flo.W := by unfold Flo.low Flo.S Flo.W; omega
theorem from_no {c x : Nat} (hc : c < Flo.W) (hx : Flo.raw c = x) (h : ((Flo.code x : Int) != (c : Int)) = true) : Flo.isC c = false := by
  rw [Bool.eq_false_iff, ne_eq, ← Flo.code_raw hc, hx]
  have h : ¬ ((Flo.code x : Nat) : Int) = (c : Int) := by simpa using h
  omega
theorem from_yes {c x : Nat} (hc : c < Flo.W) (hx : Flo.raw c = x) (h : ((Flo.code x : Int) != (c : Int)) = false) : Flo.isC c = true := by
  rw [← Flo.code_raw hc, hx]
  have h : ((Flo.code x : Nat) : Int) = (c : Int) := by simpa using h
  omega
theorem ret_from {c x : Nat} {b : Bool} (h : Flo.isC c = b) (h' : Flo.fromV c = x) :
    Ending.returned (.tuple #[.float .f64 x, .bool b]) = .returned (.tuple #[.float .f64 (Flo.fromV c), .bool (Flo.isC c)]) := by rw [h, h']
theorem fromV_no {c : Nat} (h : Flo.isC c = false) : Flo.fromV c = 0 := by unfold Flo.fromV; rw [h]; rfl
theorem fromV_yes {c x : Nat} (h : Flo.isC c = true) (hx : Flo.raw c = x) : Flo.fromV c = x := by unfold Flo.fromV; rw [h]; exact hx
theorem raw_z {c : Nat} (h : Flo.zeroB c = true) : Flo.raw c = Flo.NAN := by unfold Flo.raw; rw [if_pos h]
theorem raw_low {c : Nat} (h : Flo.zeroB c = false) (h' : Flo.topB c = true) : Flo.raw c = Flo.low c := by unfold Flo.raw; rw [if_neg (by rw [h]; decide), if_pos h']
theorem raw_flip {c : Nat} (h : Flo.zeroB c = false) (h' : Flo.topB c = false) : Flo.raw c = Flo.flip c := by unfold Flo.raw; rw [if_neg (by rw [h]; decide), if_neg (by rw [h']; decide)]
theorem isC_z {c : Nat} (h : Flo.zeroB c = true) : Flo.isC c = true := by unfold Flo.isC; rw [if_pos h]
set_option maxHeartbeats 400000 in
theorem from_any (c : Nat) (hc : c < Flo.W) (w : World) :
    Calls Try.prog 19 #[.int .u64 c] w fun e w' => e = .returned (.tuple #[.float .f64 (Flo.fromV c), .bool (Flo.isC c)]) ∧ w = w' := by
  have h1 := run_f64from
  have h2 := Flo.zero_test c
  have h3 := flip_rule hc
  have h4 := low_rule hc
  have h5 := top_rule hc
  go_enter Try.func19, Try.ntmps19
  go_wp2_with (first | (go_at_call 37; refine (nan_any _).mono ?_; rintro e w' ⟨rfl, rfl⟩) | (go_at_call 17; refine (code_any _ (by first | exact low_lt | exact flip_lt) _).mono ?_; rintro e w' ⟨rfl, rfl⟩))
  all_goals go_ret2
  · exact ⟨ret_from (isC_z ‹_›) (fromV_yes (isC_z ‹_›) (raw_z ‹_›)), rfl⟩
  · have h := from_no hc (raw_low ‹_› ‹_›) ‹_›
    exact ⟨ret_from h (fromV_no h), rfl⟩
  · have h := from_yes hc (raw_low ‹_› ‹_›) ‹_›
    exact ⟨ret_from h (fromV_yes h (raw_low ‹_› ‹_›)), rfl⟩
  · have h := from_no hc (raw_flip ‹_› ‹_›) ‹_›
    exact ⟨ret_from h (fromV_no h), rfl⟩
  · have h := from_yes hc (raw_flip ‹_› ‹_›) ‹_›
    exact ⟨ret_from h (fromV_yes h (raw_flip ‹_› ‹_›)), rfl⟩

theorem sub_low {c : Nat} (hc : c < Flo.W) (h : Flo.topB c = true) : (c : Int) - 9223372036854775808 = ((Flo.low c : Nat) : Int) := by
  have h := of_decide_eq_true h
  unfold Flo.low; simp only [Flo.S, Flo.W] at * <;> omega
theorem top_le {c : Nat} (h : Flo.topB c = true) : (9223372036854775808 : Int) ≤ (c : Int) := by
  have h := of_decide_eq_true h
  unfold Flo.S at h; omega
theorem w_le {c : Nat} (hc : c < Flo.W) : (c : Int) ≤ 18446744073709551615 := by unfold Flo.W at hc; omega
theorem sub_flip {c : Nat} (hc : c < Flo.W) : (18446744073709551615 : Int) - (c : Int) = ((Flo.flip c : Nat) : Int) := by
  unfold Flo.flip Flo.W at *; omega
theorem isC_low {c : Nat} (h : Flo.zeroB c = false) (h' : Flo.topB c = true) : decide ((Flo.low c : Int) ≤ 9218868437227405312) = Flo.isC c := by
  unfold Flo.isC; rw [if_neg (by rw [h]; decide), if_pos h']; unfold Flo.INF; rw [Bool.eq_iff_iff]; simp only [decide_eq_true_eq]; omega
theorem flip_lo (c : Nat) : decide ((9223372036854775808 : Int) < (Flo.flip c : Int)) = decide (Flo.S < Flo.flip c) := by
  unfold Flo.S; rw [Bool.eq_iff_iff]; simp only [decide_eq_true_eq]; omega
theorem flip_hi (c : Nat) : decide ((Flo.flip c : Int) ≤ 18442240474082181120) = decide (Flo.flip c ≤ Flo.S + Flo.INF) := by
  unfold Flo.S Flo.INF; rw [Bool.eq_iff_iff]; simp only [decide_eq_true_eq]; omega
theorem isC_flip {c : Nat} (h : Flo.zeroB c = false) (h' : Flo.topB c = false) : (decide (Flo.S < Flo.flip c) && decide (Flo.flip c ≤ Flo.S + Flo.INF)) = Flo.isC c := by
  unfold Flo.isC; rw [if_neg (by rw [h]; decide), if_neg (by rw [h']; decide)]

set_option maxHeartbeats 400000 in
theorem iscode_any (c : Nat) (hc : c < Flo.W) (w : World) :
    Calls Try.prog 20 #[.int .u64 c] w fun e w' => e = .returned (.bool (Flo.isC c)) ∧ w = w' := by
  have h2 := Flo.zero_test c
  have h3 := Flo.top_test c
  by_cases z : Flo.zeroB c = true
  · go_enter Try.func20, Try.ntmps20
    go_wp2
    go_ret
    exact ⟨ret_bool (isC_z z).symm, rfl⟩
  have z : Flo.zeroB c = false := by simpa using z
  by_cases t : Flo.topB c = true
  · have b1 := top_le t
    have b2 := w_le hc
    have e1 := sub_low hc t
    have e2 := isC_low z t
    go_enter Try.func20, Try.ntmps20
    go_wp2
    go_ret
    exact ⟨rfl, rfl⟩
  have t : Flo.topB c = false := by simpa using t
  have b2 := w_le hc
  have e1 := sub_flip hc
  have e2 := flip_lo c
  have e3 := flip_hi c
  have e4 := isC_flip z t
  cases f1 : decide (Flo.S < Flo.flip c) <;> rw [f1] at e4 e2
  · go_enter Try.func20, Try.ntmps20
    go_wp2
    go_ret
    exact ⟨ret_bool e4, rfl⟩
  · go_enter Try.func20, Try.ntmps20
    go_wp2
    go_ret
    exact ⟨rfl, rfl⟩

set_option maxHeartbeats 400000 in
theorem of_any (c : Nat) (hc : c < Flo.W) (w : World) :
    Calls Try.prog 43 #[.int .u64 c] w fun e w' => e = .returned (.float .f64 (Flo.raw c)) ∧ w = w' := by
  have h1 := run_f64from
  have h2 := Flo.zero_test c
  have h3 := Flo.top_test c
  by_cases z : Flo.zeroB c = true
  · go_enter Try.func43, Try.ntmps43
    go_wp2
    go_ret
    exact ⟨ret_f64 (raw_z z).symm, rfl⟩
  have z : Flo.zeroB c = false := by simpa using z
  have b2 := w_le hc
  by_cases t : Flo.topB c = true
  · have b1 := top_le t
    have e1 := sub_low hc t
    go_enter Try.func43, Try.ntmps43
    go_wp2
    go_ret
    exact ⟨ret_f64 (raw_low z t).symm, rfl⟩
  have t : Flo.topB c = false := by simpa using t
  have e1 := sub_flip hc
  go_enter Try.func43, Try.ntmps43
  go_wp2
  go_ret
  exact ⟨ret_f64 (raw_flip z t).symm, rfl⟩

set_option maxHeartbeats 400000 in
theorem form_any (u : Nat) (hu : u < Flo.W) (w : World) :
    Calls Try.prog 21 #[.float .f64 u] w fun e w' => e = .returned (.bool ((Flo.can u : Int) == (u : Int))) ∧ w = w' := by
  have h1 := run_f64bits
  go_enter Try.func21, Try.ntmps21
  go_wp2_with ((go_at_call 16; refine (rbits_any _ hu _).mono ?_; rintro e w' ⟨rfl, rfl⟩))
  go_ret
  exact ⟨rfl, rfl⟩
set_option maxHeartbeats 400000 in
theorem same_any (u v : Nat) (hu : u < Flo.W) (hv : v < Flo.W) (w : World) :
    Calls Try.prog 25 #[.float .f64 u, .float .f64 v] w fun e w' => e = .returned (.bool ((Flo.can u : Int) == (Flo.can v : Int))) ∧ w = w' := by
  go_enter Try.func25, Try.ntmps25
  go_wp2_with fail
  refine (rbits_any _ hu _).mono ?_; rintro e w' ⟨rfl, rfl⟩
  go_wp2_with fail
  refine (rbits_any _ hv _).mono ?_; rintro e w' ⟨rfl, rfl⟩
  go_wp2_with fail
  go_ret
  exact ⟨rfl, rfl⟩

/-! the neighbours: the program's -/
theorem inf_up (w : World) : Calls Try.prog 41 #[.int .i64 1] w fun e w' => e = .returned (.float .f64 Flo.INF) ∧ w = w' := by
  have h1 := run_f64from
  go_enter Try.func41, Try.ntmps41
  go_wp2
  go_ret
  exact ⟨rfl, rfl⟩
theorem inf_dn (w : World) : Calls Try.prog 41 #[.int .i64 (-1)] w fun e w' => e = .returned (.float .f64 Flo.NINF) ∧ w = w' := by
  have h1 := run_f64from
  go_enter Try.func41, Try.ntmps41
  go_wp2
  go_ret
  exact ⟨rfl, rfl⟩
theorem isinf_up (u : Nat) (hu : u < Flo.W) (w : World) : Calls Try.prog 29 #[.float .f64 u, .int .i64 1] w fun e w' => e = .returned (.bool (Flo.pinf u)) ∧ w = w' := by
  have h1 := Flo.order_big hu
  go_enter Try.func29, Try.ntmps29
  go_wp2
  go_ret
  exact ⟨rfl, rfl⟩
theorem xor_lo {u : Nat} (h : u < 2 ^ 63) : u ^^^ 2 ^ 63 = 2 ^ 63 + u := by
  apply Nat.eq_of_testBit_eq
  intro i
  rw [Nat.testBit_xor, Nat.testBit_two_pow]
  rcases Nat.lt_trichotomy i 63 with h1 | h1 | h1
  · rw [Nat.testBit_two_pow_add_gt h1, decide_eq_false (by omega)]; simp
  · subst h1; rw [Nat.testBit_two_pow_add_eq]; simp
  · rw [Nat.testBit_lt_two_pow (x := 2 ^ 63 + u) (Nat.lt_of_lt_of_le (by omega : 2 ^ 63 + u < 2 ^ 64) (Nat.pow_le_pow_right (by decide) h1)),
      Nat.testBit_lt_two_pow (x := u) (Nat.lt_of_lt_of_le h (Nat.pow_le_pow_right (by decide) (by omega))), decide_eq_false (by omega)]; rfl
theorem negFloat_eq {u : Nat} (hu : u < Flo.W) : Op.negFloat .f64 u = Flo.opp u := by
  show u ^^^ 2 ^ 63 = _
  have hW : Flo.W = 2 ^ 64 := rfl
  have hS : Flo.S = 2 ^ 63 := rfl
  unfold Flo.opp
  by_cases h : u < 2 ^ 63
  · rw [xor_lo h, if_neg (by omega)]; omega
  · rw [if_pos (by omega)]
    have e : u = (u - 2 ^ 63) ^^^ 2 ^ 63 := by rw [xor_lo (by omega)]; omega
    rw [hS]
    rw (occs := .pos [1]) [e]
    rw [Nat.xor_assoc, Nat.xor_self, Nat.xor_zero]
theorem run_negf (u : Nat) (hu : u < Flo.W) (w : World) : (Op.unary .neg (.float .f64 u)).run Try.prog w = .ok (.float .f64 (Flo.opp u)) w := by
  rw [← negFloat_eq hu]; rfl
theorem isinf_dn (u : Nat) (hu : u < Flo.W) (w : World) : Calls Try.prog 29 #[.float .f64 u, .int .i64 (-1)] w fun e w' => e = .returned (.bool (Flo.ninf u)) ∧ w = w' := by
  have h1 := run_negf u hu
  have h2 := Flo.order_big (Flo.opp_lt hu)
  have h3 := Flo.pinf_opp hu
  go_enter Try.func29, Try.ntmps29
  go_wp2
  go_ret
  exact ⟨rfl, rfl⟩
theorem and_sign {v : Nat} (hv : v < Flo.W) : bits BinOp.and IntKind.u64 (v : Int) 9223372036854775808 = (((if Flo.S ≤ v then Flo.S else 0) : Nat) : Int) := by
  have h := u64_and_nat v 9223372036854775808 hv (by decide)
  rw [show ((9223372036854775808 : Nat) : Int) = 9223372036854775808 from rfl] at h
  have e : v &&& 9223372036854775808 = v / 2 ^ 63 % 2 * 2 ^ 63 := nat_bit 63 v
  rw [h, e]
  unfold Flo.S
  unfold Flo.W at hv
  split <;> omega
theorem csg_eq {u v : Nat} (hu : u < Flo.W) (hv : v < Flo.W) :
    (bits BinOp.or IntKind.u64 (bits BinOp.andNot IntKind.u64 (u : Int) 9223372036854775808) (bits BinOp.and IntKind.u64 (v : Int) 9223372036854775808)).toNat = Flo.csg u v := by
  rw [andNot_top hu, and_sign hv]
  have hm : u % Flo.S < Flo.S := Nat.mod_lt _ (by decide)
  unfold Flo.csg
  generalize u % Flo.S = x at *
  split
  · have h := u64_or_nat x Flo.S (by unfold Flo.S at *; omega) (by decide)
    rw [h, Nat.or_comm, nat_join 63 Flo.S x (by decide) hm, Nat.add_comm]; rfl
  · have h := u64_or_nat x 0 (by unfold Flo.S at *; omega) (by decide)
    rw [h, Nat.or_zero]; rfl
theorem copysign_any (u v : Nat) (hu : u < Flo.W) (hv : v < Flo.W) (w : World) : Calls Try.prog 36 #[.float .f64 u, .float .f64 v] w fun e w' => e = .returned (.float .f64 (Flo.csg u v)) ∧ w = w' := by
  have h1 := run_f64from
  have h2 := run_f64bits
  go_enter Try.func36, Try.ntmps36
  go_wp2
  go_ret
  exact ⟨ret_f64 (csg_eq hu hv), rfl⟩
end Go.Proofs.Ytdgliljmmokjnaa
