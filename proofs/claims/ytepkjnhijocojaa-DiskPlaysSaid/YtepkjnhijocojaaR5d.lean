/- Layer 5's document: a step counted. -/
import Derived.Test.YtepkjnhijocojaaR5c
import Derived.Test.YtepkjnhijocojaaR5b
namespace Go.Proofs.Ytepkjnhijocojaa
open Go.RowKit Go.Maps Mem Dsk

def StepRef (A : Option Addr) (n c : Nat) (s : S) (w : World) (e : Ending) (w' : World) : Prop :=
  e = .returned (.agg #[.slice A n c, .bool (Dsk.step s).down, .int .i64 (Dsk.step s).fuse]) ∧ Below w.heap.size w w'
set_option maxHeartbeats 1000000 in
theorem Step_any (A : Option Addr) (n c : Nat) (s : S) (hf : s.fuse ≤ 9223372036854775807) (w : World) :
    Calls Try.prog 37 #[.agg #[.slice A n c, .bool s.down, .int .i64 s.fuse]] w (StepRef A n c s w) := by
  obtain ⟨files, down, fuse⟩ := s
  simp only at hf
  by_cases h : 0 < fuse ∧ down = false
  · obtain ⟨h1, rfl⟩ := h
    have hst := step_yes (s := ⟨files, false, fuse⟩) ⟨h1, rfl⟩
    have e1 : (Dsk.step ⟨files, false, fuse⟩).down = ((fuse : Int) - 1 == 0) := by rw [hst]; exact (fuse_test h1).symm
    have e2 : ((Dsk.step ⟨files, false, fuse⟩).fuse : Int) = (fuse : Int) - 1 := by rw [hst]; exact (fuse_pred h1).symm
    have t1 : ((fuse : Int) == 0) = false := by rw [beq_eq_false_iff_ne]; omega
    have E1 := Lib.hid e1; clear e1
    have E2 := Lib.hid e2; clear e2 hst
    go_enter Try.func37, Try.ntmps37
    go_wp2_with fail
    refine bodyPost_ret (v := .agg #[.slice A n c, .bool ((fuse : Int) - 1 == 0), .int .i64 ((fuse : Int) - 1)]) (by simp [results, Try.results37, go_sem]) rfl ?_
    exact ⟨by rw [E1.out, E2.out], ((Below.refl _ _).alloc (Nat.le_refl _) _).alloc (by simp) _⟩
  · have hst := step_no (s := ⟨files, down, fuse⟩) h
    have HST := Lib.hid hst; clear hst
    by_cases hd : down = true
    · subst hd
      clear h
      go_enter Try.func37, Try.ntmps37
      go_wp2_with fail
      refine bodyPost_ret (v := .agg #[.slice A n c, .bool true, .int .i64 fuse]) (by simp [results, Try.results37, go_sem]) rfl ?_
      exact ⟨by rw [HST.out], ((Below.refl _ _).alloc (Nat.le_refl _) _).alloc (by simp) _⟩
    · have hd : down = false := by simpa using hd
      subst hd
      have h0 : fuse = 0 := Nat.eq_zero_of_not_pos (fun h1 => h ⟨h1, rfl⟩)
      subst h0
      clear h hd
      go_enter Try.func37, Try.ntmps37
      go_wp2_with fail
      refine bodyPost_ret (v := .agg #[.slice A n c, .bool false, .int .i64 0]) (by simp [results, Try.results37, go_sem]) rfl ?_
      exact ⟨by rw [HST.out]; rfl, ((Below.refl _ _).alloc (Nat.le_refl _) _).alloc (by simp) _⟩
end Go.Proofs.Ytepkjnhijocojaa
