/- Layer 3: frames read: the document's. -/
import Derived.Test.YtfnmofoecehcfaaUnf
namespace Go.Proofs.Ytfnmofoecehcfaa
open Go Go.RowKit Go.Maps Go.Lib Mem Pk

theorem unword_take {bs : List UInt8} (h : 4 ≤ bs.length) : unwordN (bs.take 4) = unwordN bs := by
  match bs, h with
  | a :: b :: c :: d :: r, _ => rfl
theorem RSum_q {w : World} {A : Option Addr} {c n : Nat} {bs : List UInt8} (h : Sl fB w A bs) : Calls Try.prog 48 #[.slice A bs.length c] (w.drewN n) fun e w'' => e = .returned (.int .u32 (sumN bs : Int)) ∧ ∃ m, w'' = w.drewN m :=
  quiet_mine (RSum_any (c := c) (h.drewN n))
theorem Runword_q {w : World} {A : Option Addr} {c n : Nat} {bs : List UInt8} (h : Sl fB w A bs) (h4 : 4 ≤ bs.length) : Calls Try.prog 49 #[.slice A bs.length c] (w.drewN n) fun e w'' => e = .returned (.int .u32 (unwordN bs : Int)) ∧ ∃ m, w'' = w.drewN m :=
  Calls.quiet_of (Runword_any (c := c) (h.drewN n) h4)
set_option maxRecDepth 100000 in
set_option maxHeartbeats 1000000 in
theorem RUnframe_any {w : World} {A : Option Addr} {c : Nat} {bs : List UInt8} (h : Sl fB w A bs) (hc : bs.length ≤ c) (hm : c ≤ maxLen) :
    Calls Try.prog 29 #[.slice A bs.length c] w (UfPost (unframe bs) w) := by
  have hl := h.len
  obtain ⟨u, hu⟩ : ∃ u, u = unwordN bs := ⟨_, rfl⟩
  unfold unframe
  rw [← hu]
  by_cases h8 : bs.length < 8
  · rw [if_pos h8]
    have t1 : (bs.length : Int) < 8 := by omega
    clear h hc hm hu h8
    go_enter Try.func29, Try.ntmps29
    go_wp2_with fail
    refine bodyPost_ret (v := .tuple #[.slice none 0 0, .int .i64 0, .int .i64 31]) (by simp [results, Try.results29, go_sem]) rfl ?_
    exact UfPost.no (Below.refl _ _)
  · rw [if_neg h8]
    have t1 : ¬ (bs.length : Int) < 8 := by omega
    obtain ⟨q0, hq0⟩ : ∃ q, q = bs.take 4 := ⟨_, rfl⟩
    have hq0l : q0.length = 4 := by rw [hq0, List.length_take]; omega
    obtain ⟨P0, hP0⟩ : ∃ x, x = partA A c 0 := ⟨_, rfl⟩
    have k0 : ∀ W : World, (Instr.slice 25 (.slice A bs.length c) none (some (.int .i64 4)) none).run Try.prog W = .ok (.slice P0 q0.length c) W := fun W => by
      have h := cut_h Try.underlying25 sizeU8 .i64 A bs.length c 4 (by omega) W
      rw [← hP0, ← hq0l] at h
      rw [hq0l] at h ⊢; exact h
    have hs0 : Sl fB w P0 q0 := by
      have h1 := h.part (c := c) (k := 0) (m := 4) (by omega) hc
      rw [List.drop_zero, ← hq0] at h1
      rw [hP0]; exact h1
    have huw := Runword_any (c := c) hs0 (by omega)
    rw [hq0, unword_take (show 4 ≤ bs.length by omega), ← hu, ← hq0] at huw
    have HUW := Lib.hid huw
    clear huw hs0 hq0 hq0l hP0
    have H := Lib.hid h; clear h
    have HU := Lib.hid hu; clear hu
    have H8 := Lib.hid h8; clear h8
    have HC := Lib.hid hc; clear hc
    have HM := Lib.hid hm; clear hm
    have HU32 : Hid (u < 4294967296) := Lib.hid (by rw [HU.out]; exact unwordN_lt bs)
    by_cases h2 : 4096 < u
    · rw [if_pos h2]
      have t2 : (4096 : Int) < (u : Int) := by omega
      clear h2
      go_enter Try.func29, Try.ntmps29
      go_wp2_with fail
      (with_reducible refine HUW.out.mono ?_); rintro e w2 ⟨rfl, m, rfl⟩
      go_wp2_with fail
      refine bodyPost_ret (v := .tuple #[.slice none 0 0, .int .i64 0, .int .i64 2]) (by simp [results, Try.results29, go_sem]) rfl ?_
      exact UfPost.no (below_drewN (Below.refl _ _) _)
    · rw [if_neg h2]
      have t2 : ¬ (4096 : Int) < (u : Int) := by omega
      obtain ⟨v, hv⟩ : ∃ v, v = 8 + u := ⟨_, rfl⟩
      have e1 : IntKind.i64.wrap (u : Int) = (u : Int) := by rw [IntKind.wrap_i64]; omega
      have e2 : IntKind.i64.wrap (8 + (u : Int)) = (v : Int) := by rw [IntKind.wrap_i64]; omega
      have e2b : 8 + (u : Int) = (v : Int) := by omega
      have e3 : IntKind.u32.wrap (v : Int) = (v : Int) := by rw [IntKind.wrap_u32]; omega
      have e3b : (v : Int) % 4294967296 = (v : Int) := by omega
      have hu4 : u ≤ 4096 := by omega
      obtain ⟨dl, hdl⟩ : ∃ d, d = bs.length - 8 := ⟨_, rfl⟩
      have e4 : IntKind.i64.wrap ((bs.length : Int) - 8) = (dl : Int) := by have := H8.out; rw [IntKind.wrap_i64]; omega
      have e4b : (bs.length : Int) - 8 = (dl : Int) := by have := H8.out; omega
      by_cases h3 : bs.length < 8 + u
      · rw [if_pos h3]
        have t3 : (dl : Int) < (u : Int) := by have := H8.out; omega
        clear hdl
        clear h2 h3 hv hu4
        go_enter Try.func29, Try.ntmps29
        go_wp2_with fail
        (with_reducible refine HUW.out.mono ?_); rintro e w2 ⟨rfl, m, rfl⟩
        go_wp2_with fail
        refine bodyPost_ret (v := .tuple #[.slice none 0 0, .int .i64 0, .int .i64 31]) (by simp [results, Try.results29, go_sem]) rfl ?_
        exact UfPost.no (below_drewN (Below.refl _ _) _)
      · rw [if_neg h3]
        have t3 : ¬ (dl : Int) < (u : Int) := by have := H8.out; omega
        clear hdl
        have hcl := HC.out
        obtain ⟨p, hp⟩ : ∃ p, p = (bs.drop 8).take u := ⟨_, rfl⟩
        have hpl : p.length = u := by rw [hp, List.length_take, List.length_drop]; omega
        obtain ⟨P8, hP8⟩ : ∃ x, x = partA A c 8 := ⟨_, rfl⟩
        obtain ⟨c8, hc8⟩ : ∃ x, x = c - 8 := ⟨_, rfl⟩
        obtain ⟨P4, hP4⟩ : ∃ x, x = partA A c 4 := ⟨_, rfl⟩
        obtain ⟨c4, hc4⟩ : ∃ x, x = c - 4 := ⟨_, rfl⟩
        obtain ⟨q, hq⟩ : ∃ q, q = (bs.drop 4).take 4 := ⟨_, rfl⟩
        have hql : q.length = 4 := by have := H8.out; rw [hq, List.length_take, List.length_drop]; omega
        have hqu : unwordN (bs.drop 4) = unwordN q := by have := H8.out; rw [hq, unword_take (show 4 ≤ (bs.drop 4).length by rw [List.length_drop]; omega)]
        have k8 : ∀ W : World, (Instr.slice 25 (.slice A bs.length c) (some (.int .i64 8)) (some (.int .i64 (v : Int))) none).run Try.prog W = .ok (.slice P8 p.length c8) W := fun W => by
          have h := cut_lhk Try.underlying25 sizeU8 .i64 .i64 A bs.length c 8 v (by omega) (by omega) W
          rw [← hP8, ← hc8, show v - 8 = p.length by omega] at h; exact h
        have k4 : ∀ W : World, (Instr.slice 25 (.slice A bs.length c) (some (.int .i64 4)) (some (.int .i64 8)) none).run Try.prog W = .ok (.slice P4 q.length c4) W := fun W => by
          have h := cut_lhk Try.underlying25 sizeU8 .i64 .i64 A bs.length c 4 8 (by omega) (by have := H8.out; omega) W
          rw [← hP4, ← hc4, show 8 - 4 = q.length by omega] at h; exact h
        have hsp : Sl fB w P8 p := by rw [hp, hP8]; exact H.out.part (by omega) hcl
        have hsq : Sl fB w P4 q := by
          have h := H.out.part (c := c) (k := 4) (m := 4) (by have := H8.out; omega) hcl
          rw [← hq] at h
          rw [hP4]; exact h
        have HSP := Lib.hid hsp
        have HSQ := Lib.hid hsq
        have HQL : Hid (4 ≤ q.length) := Lib.hid (by have := H8.out; omega)
        have HPL := Lib.hid hpl
        rw [← hp, hqu]
        obtain ⟨s1, hs1⟩ : ∃ s, s = sumN p := ⟨_, rfl⟩
        obtain ⟨s2, hs2⟩ : ∃ s, s = unwordN q := ⟨_, rfl⟩
        rw [← hs1, ← hs2]
        obtain ⟨res, hres⟩ : ∃ r, r = (if s1 = s2 then (p, 8 + u, (0 : Int)) else ([], 0, 32)) := ⟨_, rfl⟩
        rw [← hres]
        have HRES := Lib.hid hres; clear hres
        have HQ1 : Hid (∀ (W : World) (B : Option Addr) (d n : Nat), Sl fB W B p → Calls Try.prog 48 #[.slice B p.length d] (W.drewN n) fun e w'' => e = .returned (.int .u32 (s1 : Int)) ∧ ∃ m, w'' = W.drewN m) := Lib.hid fun W B d n h => by rw [hs1]; exact RSum_q h
        have HQ2 : Hid (∀ (W : World) (n : Nat), Sl fB W P4 q → Calls Try.prog 49 #[.slice P4 q.length c4] (W.drewN n) fun e w'' => e = .returned (.int .u32 (s2 : Int)) ∧ ∃ m, w'' = W.drewN m) := Lib.hid fun W n h => by rw [hs2]; exact Runword_q h HQL.out
        have HV := Lib.hid hv
        clear h2 h3 hv hcl hp hpl hP8 hc8 hP4 hc4 hq hql hqu hsp hsq hs1 hs2
        go_enter Try.func29, Try.ntmps29
        go_wp2_with fail
        (with_reducible refine HUW.out.mono ?_); rintro e w2 ⟨rfl, m, rfl⟩
        have HCL := Lib.hid (Join_sl (c := c8) (base := w.heap.size) (w := w.drewN m) (va := .slice none 0 0) (xs := []) Own.nil HSP.out (below_drewN (Below.refl _ _) m) (Nat.le_refl _) (Nat.le_refl _) (by rw [HPL.out, List.length_nil]; omega))
        go_wp2_with fail
        (with_reducible refine HCL.out.mono ?_); rintro e w3 ⟨v3, rfl, ho3, hb3⟩
        rw [List.nil_append] at ho3
        obtain ⟨A3, c3, rfl⟩ := ho3.form
        have HB3 : Hid (Below w.heap.size w w3) := Lib.hid ((below_drewN (Below.refl _ _) m).trans hb3)
        have HO3 : Hid (Own fB w.heap.size 5 w3 (.slice A3 p.length c3) p) := Lib.hid ho3
        have hs3 := HO3.out.sl.2
        have hq3 := HSQ.out.below HB3.out
        clear ho3 hb3 HCL
        by_cases h5 : s1 = s2
        · have H5 := Lib.hid h5
          have t5 : ((s1 : Int) == (s2 : Int)) = true := by rw [beq_iff_eq]; omega
          clear h5
          go_wp2_with fail
          go_quiet (first | (go_at_call 48; exact HQ1.out _ _ _ _ hs3) | (go_at_call 49; exact HQ2.out _ _ hq3))
          go_wp2_with fail
          refine bodyPost_ret (v := .tuple #[.slice A3 p.length c3, .int .i64 (v : Int), .int .i64 0]) (by simp [results, Try.results29, go_sem]) rfl ?_
          rw [HRES.out, if_pos H5.out]
          exact ⟨A3, c3, by rw [HV.out], HO3.out, below_drewN HB3.out _⟩
        · have H5 := Lib.hid h5
          have t5 : ((s1 : Int) == (s2 : Int)) = false := by rw [beq_eq_false_iff_ne]; omega
          clear h5
          go_wp2_with fail
          go_quiet (first | (go_at_call 48; exact HQ1.out _ _ _ _ hs3) | (go_at_call 49; exact HQ2.out _ _ hq3))
          go_wp2_with fail
          refine bodyPost_ret (v := .tuple #[.slice none 0 0, .int .i64 0, .int .i64 32]) (by simp [results, Try.results29, go_sem]) rfl ?_
          rw [HRES.out, if_neg H5.out]
          exact UfPost.no (below_drewN HB3.out _)
end Go.Proofs.Ytfnmofoecehcfaa
