/- Layer 1: the law FloEnds' walk. -/
import Derived.Test.YtdedjdiojdmohaaFloSW
import Derived.Test.YtdedjdiojdmohaaFloR
namespace Go.Proofs.Ytdedjdiojdmohaa
open Go.RowKit Mem

theorem srt_first {xs : List Nat} {m : Nat} (hx : ∀ x ∈ xs, x < Flo.W) (hm : IsMin xs m) : ∃ h : 0 < (srt (xs.map Flo.code)).length, Flo.raw (srt (xs.map Flo.code))[0] = Flo.can m := by
  obtain ⟨hp, hmem⟩ := srt_sorted (xs.map Flo.code)
  have h1 : Flo.code m ∈ srt (xs.map Flo.code) := (hmem _).2 (List.mem_map_of_mem hm.1)
  have h0 : 0 < (srt (xs.map Flo.code)).length := List.length_pos_of_mem h1
  refine ⟨h0, ?_⟩
  have h2 := (hmem _).1 (List.getElem_mem h0)
  obtain ⟨y, hy, e⟩ := List.mem_map.1 h2
  have h3 : Flo.code m ≤ (srt (xs.map Flo.code))[0] := by rw [← e]; exact hm.2 y hy
  obtain ⟨j, hj, e2⟩ := List.getElem_of_mem h1
  have h4 : (srt (xs.map Flo.code))[0] ≤ Flo.code m := by
    rw [← e2]
    rcases Nat.eq_zero_or_pos j with h | h
    · subst h; exact Nat.le_refl _
    · exact Nat.le_of_lt (List.pairwise_iff_getElem.1 hp 0 j h0 hj h)
  rw [show (srt (xs.map Flo.code))[0] = Flo.code m by omega, Flo.raw_code (hx m hm.1)]
theorem srt_last {xs : List Nat} {m : Nat} (hx : ∀ x ∈ xs, x < Flo.W) (hm : IsMax xs m) : ∃ h : (srt (xs.map Flo.code)).length - 1 < (srt (xs.map Flo.code)).length, Flo.raw (srt (xs.map Flo.code))[(srt (xs.map Flo.code)).length - 1] = Flo.can m := by
  obtain ⟨hp, hmem⟩ := srt_sorted (xs.map Flo.code)
  have h1 : Flo.code m ∈ srt (xs.map Flo.code) := (hmem _).2 (List.mem_map_of_mem hm.1)
  have h0 : (srt (xs.map Flo.code)).length - 1 < (srt (xs.map Flo.code)).length := by have := List.length_pos_of_mem h1; omega
  refine ⟨h0, ?_⟩
  have h2 := (hmem _).1 (List.getElem_mem h0)
  obtain ⟨y, hy, e⟩ := List.mem_map.1 h2
  have h3 : (srt (xs.map Flo.code))[(srt (xs.map Flo.code)).length - 1] ≤ Flo.code m := by rw [← e]; exact hm.2 y hy
  obtain ⟨j, hj, e2⟩ := List.getElem_of_mem h1
  have h4 : Flo.code m ≤ (srt (xs.map Flo.code))[(srt (xs.map Flo.code)).length - 1] := by
    rw [← e2]
    by_cases h : j = (srt (xs.map Flo.code)).length - 1
    · subst h; exact Nat.le_refl _
    · exact Nat.le_of_lt (List.pairwise_iff_getElem.1 hp j _ hj h0 (by omega))
  rw [show (srt (xs.map Flo.code))[(srt (xs.map Flo.code)).length - 1] = Flo.code m by omega, Flo.raw_code (hx m hm.1)]

set_option maxHeartbeats 1000000 in
theorem floEnds_none (A : Option Addr) (c : Nat) (w : World) :
    Calls Try.prog 9 #[.slice A 0 c] w fun e w' => e = .returned (.bool true) ∧ Below w.heap.size w w' := by
  have r2 := one_eq
  have r3 := two_eq
  have r4 : Flo.nan Flo.NAN = true := by decide
  go_enter Try.func9, Try.ntmps9
  go_wp2_with fail
  (with_reducible refine (least_two _ _ (by simp)).mono ?_); rintro e w' ⟨rfl, rfl⟩
  go_wp2_with fail
  (with_reducible refine (most_two _ _ (by simp)).mono ?_); rintro e w' ⟨rfl, rfl⟩
  go_wp2_with fail
  (with_reducible refine (least_none _ _ _).mono ?_); rintro e w' ⟨rfl, rfl⟩
  go_wp2_with fail
  (with_reducible refine (most_none _ _ _).mono ?_); rintro e w' ⟨rfl, rfl⟩
  go_wp2_with (go_at_call 31; (with_reducible refine (isnan_any _ _).mono ?_); rintro e w' ⟨rfl, rfl⟩)
  go_ret
  exact ⟨rfl, ((Below.refl _ _).alloc (Nat.le_refl _) _).alloc (by simp) _⟩
set_option maxHeartbeats 1000000 in
theorem floEnds_walk (A : Option Addr) (c : Nat) (xs : List Nat) (hx : ∀ x ∈ xs, x < Flo.W) (h0 : 0 < xs.length) (hlen : lenB xs.length) (w : World) (hs : Sl (Value.float .f64) w A xs) :
    Calls Try.prog 9 #[.slice A xs.length c] w fun e w' => e = .returned (.bool true) ∧ Below w.heap.size w w' := by
  have r2 := one_eq
  have r3 := two_eq
  have t1 := len_test h0
  have hl := hs.len
  have HX := Lib.hid hx; clear hx
  go_enter Try.func9, Try.ntmps9
  go_wp2_with fail
  (with_reducible refine (least_two _ _ (by simp)).mono ?_); rintro e w' ⟨rfl, rfl⟩
  go_wp2_with fail
  (with_reducible refine (most_two _ _ (by simp)).mono ?_); rintro e w' ⟨rfl, rfl⟩
  go_wp2_with fail
  have hb1 : Below w.heap.size w ((w.alloc (.cells #[.float .f64 4611686018427387904, .float .f64 4607182418800017408] 22)).alloc (.cells #[.float .f64 4607182418800017408, .float .f64 4611686018427387904] 22)) :=
    ((Below.refl _ _).alloc (Nat.le_refl _) _).alloc (by simp) _
  have hs1 := hs.below hb1
  clear r2 r3 hs
  generalize (w.alloc (.cells #[.float .f64 4611686018427387904, .float .f64 4607182418800017408] 22)).alloc (.cells #[.float .f64 4607182418800017408, .float .f64 4611686018427387904] 22) = w1 at *
  (with_reducible refine (least_any _ _ _ HX.out h0 _ hs1).mono ?_); rintro e w' ⟨m, hm, rfl, rfl⟩
  have HM := Lib.hid hm; clear hm
  go_wp2_with fail
  (with_reducible refine (most_any _ _ _ HX.out h0 _ hs1).mono ?_); rintro e w' ⟨n, hn, rfl, rfl⟩
  have HN := Lib.hid hn; clear hn
  go_wp2_with fail
  (with_reducible refine (rsort_any _ _ _ HX.out hlen _ hs1).mono ?_); rintro e w2 ⟨A2, c2, rfl, hs2, hb2⟩
  obtain ⟨g0, g1⟩ := srt_first HX.out HM.out
  obtain ⟨g2, g3⟩ := srt_last HX.out HN.out
  have hl2 := srt_len (xs.map Flo.code)
  rw [List.length_map] at hl2
  generalize srt (xs.map Flo.code) = L at *
  obtain ⟨b, o, rfl, _, hc⟩ := hs2.at g0
  have c0 : w2.cell? ⟨b, o, none⟩ = some (.float .f64 (Flo.can m)) := by rw [← g1]; exact hc 0 g0
  have c1 : w2.cell? ⟨b, o + (L.length - 1), none⟩ = some (.float .f64 (Flo.can n)) := by rw [← g3]; exact hc _ g2
  clear hc g1 g3
  have h2 := run_f64bits
  have e1 : (0 : Int) < (L.length : Int) := by omega
  have e2 : (1 : Int) ≤ (L.length : Int) := by omega
  go_wp2_with fail
  go_quiet (fail)
  go_wp2
  go_ret
  exact ⟨rfl, below_drewN (hb1.trans (hb2.mono hb1.size)) _⟩
theorem floEnds_walk' {w : World} (A : Option Addr) (c : Nat) (xs : List Nat) (hx : ∀ x ∈ xs, x < Flo.W) (hs : Sl (Value.float .f64) w A xs) (hr : Room 8 xs.length) (w' : World) (hw : w' = w) :
    Calls Try.prog 9 #[.slice A xs.length c] w' fun e w'' => e = .returned (.bool true) ∧ Below w'.heap.size w' w'' := by
  subst hw
  match xs, hx, hs, hr with
  | [], _, _, _ => exact floEnds_none A c w'
  | x :: r, hx, hs, hr => exact floEnds_walk A c (x :: r) hx (by simp) hr w' hs
end Go.Proofs.Ytdedjdiojdmohaa
