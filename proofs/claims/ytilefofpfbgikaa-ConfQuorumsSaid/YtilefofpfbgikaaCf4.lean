/- Layer 15: quorums: walks of both. -/
import Derived.Test.YtilefofpfbgikaaCf3
namespace Go.Proofs.Ytilefofpfbgikaa
open Go.RowKit Go.Maps Mem Cf

/-- how many voters are among some -/
def votes (vs who : List Int) : Nat := vs.countP fun v => hasB who v
def quorumB (vs who : List Int) : Bool := decide (vs.length < 2 * votes vs who)
theorem votes_le (vs who : List Int) : votes vs who ≤ vs.length := List.countP_le_length ..
theorem votes_step {vs who : List Int} {k : Nat} (h : k < vs.length) : votes (vs.take (k + 1)) who = votes (vs.take k) who + (if hasB who vs[k] then 1 else 0) := by
  rw [List.take_succ_eq_append_getElem h]; unfold votes; rw [List.countP_append]; simp
def QuRel (vs who : List Int) (w1 : World) (nv iv : Value) (wr : World) : Prop :=
  ∃ k : Nat, k ≤ vs.length ∧ iv = .int .i64 k ∧ nv = .int .i64 (votes (vs.take k) who) ∧ votes (vs.take k) who ≤ k ∧ wr = w1

set_option maxHeartbeats 1000000 in
theorem Quorum_any {w : World} {A B : Option Addr} {c d : Nat} {vs ls : List Int} (h : CI w A vs B ls) (C : Option Addr) (e : Nat) (who : List Int) (hw : Sl fI w C who) (hsz : vs.length ≤ 20000000000000) :
    Calls Try.prog 38 #[.agg #[.slice A vs.length c, .slice B ls.length d], .slice C who.length e] w (BoolB (quorumB vs who) w) := by
  have hl := h.v.len
  have hl2 := hw.len
  have HSZ := Lib.hid hsz; clear hsz
  have HW := Lib.hid hw; clear hw
  have H := Lib.hid h; clear h
  go_enter Try.func38, Try.ntmps38
  go_upto_region 1 with fail
  obtain ⟨w1, hw1⟩ : ∃ x, x = w.alloc (.cells #[.slice A vs.length c, .slice B ls.length d] 24) := ⟨_, rfl⟩
  rw [← hw1]
  have hb1 : Below w.heap.size w w1 := by rw [hw1]; exact (Below.refl _ _).alloc (Nat.le_refl _) _
  have hx1 : Blk w1 w.heap.size 24 #[.slice A vs.length c, .slice B ls.length d] := by rw [hw1]; exact Blk.new_ w _ _
  have H1 := Lib.hid (H.out.below hb1)
  have HB1 := Lib.hid hb1
  have HX1 := Lib.hid hx1
  have d0 : w1.cell? ⟨w.heap.size, 0, none⟩ = some (.slice A vs.length c) := hx1.cell 0
  have d1 : w1.cell? ⟨w.heap.size, 1, none⟩ = some (.slice B ls.length d) := hx1.cell 1
  clear hw1 hb1 hx1
  have HWW := Lib.hid (HW.out.below HB1.out)
  go_wp2_with fail
  go_loopw [5, 11] (fun nv iv wr => QuRel vs who w1 nv iv wr) (fun _ iv _ => vs.length - (intOf iv).toNat)
  case atStart => exact ⟨0, Nat.zero_le _, rfl, rfl, Nat.zero_le _, rfl⟩
  case round =>
    obtain ⟨k, hk, rfl, rfl, hvk, rfl⟩ := hrel
    by_cases hlt : k < vs.length
    · obtain ⟨b, o, rfl, _, hc⟩ := H1.out.v.at hlt
      have hck := hc k hlt
      have HV := Lib.hid (votes_step (who := who) hlt)
      obtain ⟨x, hx⟩ : ∃ x, x = vs[k] := ⟨_, rfl⟩
      rw [← hx] at hck HV; unfold fI at hck
      clear hx hc
      obtain ⟨z, hz⟩ : ∃ z, z = hasB who x := ⟨_, rfl⟩
      obtain ⟨N, hN⟩ : ∃ N, N = votes (vs.take k) who := ⟨_, rfl⟩
      have hcall := Contains_any C e who x wr HWW.out
      rw [← hz] at hcall HV
      rw [← hN] at HV hvk ⊢
      clear hz hN
      have HCALL := Lib.hid hcall; clear hcall
      cases z with
      | true =>
        have HV1 : Hid (votes (vs.take (k + 1)) who = N + 1) := HV.out
        go_wp2_with fail
        (with_reducible refine HCALL.out.mono ?_); rintro e w2 ⟨rfl, rfl⟩
        go_wp2_with fail
        go_roundw
        case rel => exact ⟨k + 1, hlt, by go_num, by rw [HV1.out]; go_num, by rw [HV1.out]; omega, rfl⟩
        case measure => simp [intOf]; omega
      | false =>
        have HV1 : Hid (votes (vs.take (k + 1)) who = N) := HV.out
        go_wp2_with fail
        (with_reducible refine HCALL.out.mono ?_); rintro e w2 ⟨rfl, rfl⟩
        go_wp2_with fail
        go_roundw
        case rel => exact ⟨k + 1, hlt, by go_num, by rw [HV1.out], by rw [HV1.out]; omega, rfl⟩
        case measure => simp [intOf]; omega
    · have hkn : k = vs.length := by omega
      obtain ⟨N, hN⟩ : ∃ N, N = votes (vs.take k) who := ⟨_, rfl⟩
      have HQ : Hid (quorumB vs who = decide (vs.length < 2 * N)) := by show _ = _; rw [hN, hkn, List.take_length]; rfl
      rw [← hN] at hvk ⊢
      clear hN hkn
      have hs := HSZ.out
      have h2 : vs.length ≤ 20000000000000 := hs
      have h3 : 2 * N ≤ 9223372036854775807 := by omega
      have H3 := Lib.hid h3
      clear hs h2
      by_cases hq : vs.length < 2 * N
      · have hq2 : vs.length / 2 < N := by omega
        go_wp2_with fail
        go_ret
        exact ⟨ret_bool (by rw [HQ.out]; simp; omega), HB1.out⟩
      · have hq2 : ¬ vs.length / 2 < N := by omega
        go_wp2_with fail
        go_ret
        exact ⟨ret_bool (by rw [HQ.out]; simp; omega), HB1.out⟩
set_option maxHeartbeats 1000000 in
theorem RQuorum_any {w : World} {A B : Option Addr} {c d : Nat} {vs ls : List Int} (h : CI w A vs B ls) (C : Option Addr) (e : Nat) (who : List Int) (hw : Sl fI w C who) (hsz : vs.length ≤ 20000000000000) :
    Calls Try.prog 39 #[.agg #[.slice A vs.length c, .slice B ls.length d], .slice C who.length e] w (BoolB (quorumB vs who) w) := by
  have hl := h.v.len
  have hl2 := hw.len
  have HSZ := Lib.hid hsz; clear hsz
  have HW := Lib.hid hw; clear hw
  have H := Lib.hid h; clear h
  go_enter Try.func39, Try.ntmps39
  go_upto_region 1 with fail
  obtain ⟨w1, hw1⟩ : ∃ x, x = w.alloc (.cells #[.slice A vs.length c, .slice B ls.length d] 24) := ⟨_, rfl⟩
  rw [← hw1]
  have hb1 : Below w.heap.size w w1 := by rw [hw1]; exact (Below.refl _ _).alloc (Nat.le_refl _) _
  have hx1 : Blk w1 w.heap.size 24 #[.slice A vs.length c, .slice B ls.length d] := by rw [hw1]; exact Blk.new_ w _ _
  have H1 := Lib.hid (H.out.below hb1)
  have HB1 := Lib.hid hb1
  have HX1 := Lib.hid hx1
  have d0 : w1.cell? ⟨w.heap.size, 0, none⟩ = some (.slice A vs.length c) := hx1.cell 0
  have d1 : w1.cell? ⟨w.heap.size, 1, none⟩ = some (.slice B ls.length d) := hx1.cell 1
  clear hw1 hb1 hx1
  have HWW := Lib.hid (HW.out.below HB1.out)
  go_wp2_with fail
  go_loopw [5, 6] (fun nv iv wr => QuRel vs who w1 nv iv wr) (fun _ iv _ => vs.length - (intOf iv).toNat)
  case atStart => exact ⟨0, Nat.zero_le _, rfl, rfl, Nat.zero_le _, rfl⟩
  case round =>
    obtain ⟨k, hk, rfl, rfl, hvk, rfl⟩ := hrel
    by_cases hlt : k < vs.length
    · obtain ⟨b, o, rfl, _, hc⟩ := H1.out.v.at hlt
      have hck := hc k hlt
      have HV := Lib.hid (votes_step (who := who) hlt)
      obtain ⟨x, hx⟩ : ∃ x, x = vs[k] := ⟨_, rfl⟩
      rw [← hx] at hck HV; unfold fI at hck
      clear hx hc
      obtain ⟨z, hz⟩ : ∃ z, z = hasB who x := ⟨_, rfl⟩
      obtain ⟨N, hN⟩ : ∃ N, N = votes (vs.take k) who := ⟨_, rfl⟩
      have hcall := Has_any C e who x wr HWW.out
      rw [← hz] at hcall HV
      rw [← hN] at HV hvk ⊢
      clear hz hN
      have HCALL := Lib.hid hcall; clear hcall
      cases z with
      | true =>
        have HV1 : Hid (votes (vs.take (k + 1)) who = N + 1) := HV.out
        go_wp2_with fail
        (with_reducible refine HCALL.out.mono ?_); rintro e w2 ⟨rfl, rfl⟩
        go_wp2_with fail
        go_roundw
        case rel => exact ⟨k + 1, hlt, by go_num, by rw [HV1.out]; go_num, by rw [HV1.out]; omega, rfl⟩
        case measure => simp [intOf]; omega
      | false =>
        have HV1 : Hid (votes (vs.take (k + 1)) who = N) := HV.out
        go_wp2_with fail
        (with_reducible refine HCALL.out.mono ?_); rintro e w2 ⟨rfl, rfl⟩
        go_wp2_with fail
        go_roundw
        case rel => exact ⟨k + 1, hlt, by go_num, by rw [HV1.out], by rw [HV1.out]; omega, rfl⟩
        case measure => simp [intOf]; omega
    · have hkn : k = vs.length := by omega
      obtain ⟨N, hN⟩ : ∃ N, N = votes (vs.take k) who := ⟨_, rfl⟩
      have HQ : Hid (quorumB vs who = decide (vs.length < 2 * N)) := by show _ = _; rw [hN, hkn, List.take_length]; rfl
      rw [← hN] at hvk ⊢
      clear hN hkn
      have hs := HSZ.out
      have h2 : vs.length ≤ 20000000000000 := hs
      have h3 : 2 * N ≤ 9223372036854775807 := by omega
      have H3 := Lib.hid h3
      clear hs h2
      by_cases hq : vs.length < 2 * N
      · skip
        go_wp2_with fail
        go_ret
        exact ⟨ret_bool (by rw [HQ.out]; simp; omega), HB1.out⟩
      · skip
        go_wp2_with fail
        go_ret
        exact ⟨ret_bool (by rw [HQ.out]; simp; omega), HB1.out⟩
end Go.Proofs.Ytilefofpfbgikaa
