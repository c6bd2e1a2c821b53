/- Layer 3: the document's GetNum; its One and Get at numbers. -/
import Derived.Test.YtfpomllhkbbipaaGreatByt
import Derived.Test.YtfpomllhkbbipaaGreatPkN
import Derived.Test.YtfpomllhkbbipaaGreatRow
import Derived.Deep.DeepCutAuto
import Derived.Test.YtfpomllhkbbipaaGreatPkV
import Derived.Test.YtfpomllhkbbipaaGreatFrm
import Derived.Test.YtfpomllhkbbipaaGreatPkG
import Derived.Test.YtfpomllhkbbipaaGreatCut
namespace Go.Proofs.YtfpomllhkbbipaaGreat
open Go Go.RowKit Go.Maps Mem Pk

/-- what GetNum answers -/
def gnOut (bs : List UInt8) : Int × Nat := match getNum bs with | some x => x | none => (0, 0)
def GnRel (bs : List UInt8) (w : World) (uv iv : Value) (wr : World) : Prop :=
  ∃ i u : Nat, i ≤ 10 ∧ i ≤ bs.length ∧ uv = .int .u64 u ∧ iv = .int .i64 i ∧ (i ≤ 9 → u < 128 ^ i) ∧ (i = 10 → getNum bs = none) ∧ (i ≤ 9 → getNum bs = gnGo i u (bs.drop i)) ∧ wr = w
def GnIn (m i : Nat) (w : World) (pv kv : Value) (wr : World) : Prop := ∃ k : Nat, k ≤ i ∧ pv = .int .u64 ((m * 128 ^ k : Nat) : Int) ∧ kv = .int .i64 k ∧ wr = w
set_option maxRecDepth 100000 in
set_option maxHeartbeats 4000000 in
theorem RGetNum_any {w : World} {A : Option Addr} {c : Nat} {bs : List UInt8} (h : Sl fB w A bs) :
    Calls Tryz.prog 81 #[.slice A bs.length c] w fun e w' => e = .returned (.tuple #[.int .i64 (gnOut bs).1, .int .i64 (gnOut bs).2]) ∧ w' = w := by
  have hl := h.len
  have H := Lib.hid h; clear h
  go_enter Tryz.func81, Tryz.ntmps81
  go_wp2_with fail
  go_loopw [4, 5] (fun uv iv wr => GnRel bs w uv iv wr) (fun _ iv _ => 10 - (intOf iv).toNat)
  case atStart => exact ⟨0, 0, by omega, Nat.zero_le _, rfl, rfl, fun _ => by decide, by omega, fun _ => rfl, rfl⟩
  case round =>
    obtain ⟨i, u, hi, hil, rfl, rfl, hu, hn10, hgn, rfl⟩ := hrel
    have HU := Lib.hid hu; clear hu
    have HGN := Lib.hid hgn; clear hgn
    have HN10 := Lib.hid hn10; clear hn10
    have ti0 : (0 : Int) ≤ (i : Int) := by omega
    by_cases hlt : i < bs.length
    · have tl : (i : Int) < (bs.length : Int) := by omega
      by_cases h10 : i < 10
      · have t10 : (i : Int) < 10 := by omega
        obtain ⟨b, hb⟩ : ∃ b, b = bs[i] := ⟨_, rfl⟩
        have hdr : bs.drop i = b :: bs.drop (i + 1) := by rw [hb]; exact List.drop_eq_getElem_cons hlt
        have hg := HGN.out (by omega)
        rw [hdr] at hg
        have hu9 := HU.out (by omega)
        have HG := Lib.hid hg; clear hg
        have HU9 := Lib.hid hu9; clear hu9
        obtain ⟨b0, o0, rfl, _, hcl⟩ := H.out.at hlt
        have c1 := hcl i hlt
        obtain ⟨n, hn⟩ : ∃ n, n = b.toNat := ⟨_, rfl⟩
        have c2 : wr.cell? ⟨b0, o0 + i, none⟩ = some (.int .u8 (n : Int)) := by rw [hn, hb]; exact c1
        have hn256 : n < 256 := by rw [hn]; exact b.toNat_lt
        have HN := Lib.hid hn; clear hn
        obtain ⟨m, hm⟩ : ∃ m, m = n % 128 := ⟨_, rfl⟩
        have em : (n : Int) % 128 = (m : Int) := by omega
        have hm128 : m < 128 := by omega
        clear hcl c1 hdr hb
        have HM := Lib.hid hm; clear hm
        by_cases hbad : (i = 9 ∧ 1 < n) ∨ (0 < i ∧ n = 0)
        · have HNO : Hid (getNum bs = none) := Lib.hid (by rw [HG.out]; exact gnGo_bad (by rw [← HN.out]; exact hbad))
          by_cases h9 : i = 9
          · have t9 : ((i : Int) == 9) = true := by rw [beq_iff_eq]; omega
            have c9 : wr.cell? ⟨b0, o0 + 9, none⟩ = some (.int .u8 (n : Int)) := by rw [← h9]; exact c2
            by_cases h1 : 1 < n
            · have t1 : (1 : Int) < (n : Int) := by omega
              go_wp2_with fail
              refine bodyPost_ret (v := .tuple #[.int .i64 0, .int .i64 0]) (by simp [results, Tryz.results81, go_sem]) rfl ?_
              exact ⟨by unfold gnOut; rw [HNO.out]; rfl, rfl⟩
            · have t1 : ¬ (1 : Int) < (n : Int) := by omega
              have ta : (0 : Int) < (i : Int) := by omega
              have tz : ((n : Int) == 0) = true := by rw [beq_iff_eq]; omega
              go_wp2_with fail
              refine bodyPost_ret (v := .tuple #[.int .i64 0, .int .i64 0]) (by simp [results, Tryz.results81, go_sem]) rfl ?_
              exact ⟨by unfold gnOut; rw [HNO.out]; rfl, rfl⟩
          · have t9 : ((i : Int) == 9) = false := by rw [beq_eq_false_iff_ne]; omega
            have ta : (0 : Int) < (i : Int) := by omega
            have tz : ((n : Int) == 0) = true := by rw [beq_iff_eq]; omega
            go_wp2_with fail
            refine bodyPost_ret (v := .tuple #[.int .i64 0, .int .i64 0]) (by simp [results, Tryz.results81, go_sem]) rfl ?_
            exact ⟨by unfold gnOut; rw [HNO.out]; rfl, rfl⟩
        · have HV : Hid (u + m * 128 ^ i < 18446744073709551616) := Lib.hid (by rw [HM.out]; exact num_fits HU9.out (by omega) hbad)
          have HB2 : Hid (¬ ((i = 9 ∧ 1 < b.toNat) ∨ (0 < i ∧ b.toNat = 0))) := Lib.hid (by rw [← HN.out]; exact hbad)
          by_cases h9 : i = 9
          · subst h9
            have t1 : ¬ (1 : Int) < (n : Int) := by omega
            have tz : ((n : Int) == 0) = false := by rw [beq_eq_false_iff_ne]; omega
            clear hbad
            have em2 : IntKind.u64.wrap (m : Int) = (m : Int) := by rw [IntKind.wrap_u64]; omega
            go_wp2_with fail
            clear em em2
            go_loopw [6, 7] (fun pv kv wx => GnIn m 9 wr pv kv wx) (fun _ kv _ => 9 - (intOf kv).toNat)
            case atStart => exact ⟨0, Nat.zero_le _, by simp, rfl, rfl⟩
            case round =>
              obtain ⟨k, hk, rfl, rfl, rfl⟩ := hrel
              obtain ⟨x, hx⟩ : ∃ x, x = m * 128 ^ k := ⟨_, rfl⟩
              rw [← hx]
              have HX := Lib.hid hx; clear hx
              by_cases hki : k < 9
              · have tk : (k : Int) < 9 := by omega
                have hle : m * 128 ^ (k + 1) ≤ m * 128 ^ 9 := Nat.mul_le_mul_left _ (Nat.pow_le_pow_right (by omega) (by omega))
                have hx2 : m * 128 ^ (k + 1) = x * 128 := by rw [pow_step, ← Nat.mul_assoc, ← HX.out]
                have hv := HV.out
                obtain ⟨y, hy⟩ : ∃ y, y = x * 128 := ⟨_, rfl⟩
                have ex : IntKind.u64.wrap ((x : Int) * 128) = (y : Int) := by rw [IntKind.wrap_u64]; omega
                have HY : Hid (y = m * 128 ^ (k + 1)) := Lib.hid (by rw [hy, hx2])
                clear hle hx2 hv hy
                go_wp2_with fail
                go_roundw
                case rel => exact ⟨k + 1, by omega, by rw [← HY.out], by go_num, rfl⟩
                case measure => simp [intOf]; omega
              · have hke : k = 9 := by omega
                subst hke
                have tk : ¬ ((9 : Nat) : Int) < 9 := by omega
                obtain ⟨v, hv⟩ : ∃ v, v = u + x := ⟨_, rfl⟩
                have hv64 : v < 18446744073709551616 := by have := HV.out; rw [hv, HX.out]; exact this
                have ev : IntKind.u64.wrap ((u : Int) + (x : Int)) = (v : Int) := by rw [IntKind.wrap_u64]; omega
                have HVX : Hid (v = u + m * 128 ^ 9) := Lib.hid (by rw [hv, HX.out])
                clear hv
                by_cases h128 : n < 128
                · have t128 : (n : Int) < 128 := by omega
                  have hres : getNum bs = some (unzig v, 9 + 1) := by
                    rw [HG.out, gnGo_end (show ¬ ((9 = 9 ∧ 1 < b.toNat) ∨ (0 < 9 ∧ b.toNat = 0)) from fun hq => HB2.out (by simpa using hq)) (by rw [← HN.out]; exact h128), ← HN.out, HVX.out, HM.out]
                  obtain ⟨h, hh⟩ : ∃ h, h = v / 2 := ⟨_, rfl⟩
                  have eh : (v : Int) / 2 = (h : Int) := by omega
                  have eh2 : IntKind.i64.wrap (h : Int) = (h : Int) := by rw [IntKind.wrap_i64]; omega
                  have ek : IntKind.i64.wrap ((9 : Int) + 1) = ((9 + 1 : Nat) : Int) := by rw [IntKind.wrap_i64]; omega
                  have HH := Lib.hid hh
                  rcases Nat.mod_two_eq_zero_or_one v with hp | hp
                  · have tp : (v : Int) % 2 = 0 := by omega
                    have HP := Lib.hid hp; clear hp
                    have HRES : Hid (gnOut bs = ((h : Int), 9 + 1)) := Lib.hid (by unfold gnOut; rw [hres]; unfold unzig; rw [if_neg (by have := HP.out; omega), ← HH.out])
                    clear hres hh
                    go_wp2_with fail
                    refine bodyPost_ret (v := .tuple #[.int .i64 (h : Int), .int .i64 ((9 : Int) + 1)]) (by simp [results, Tryz.results81, go_sem]) rfl ?_
                    exact ⟨by rw [HRES.out]; rfl, rfl⟩
                  · have tp : (v : Int) % 2 = 1 := by omega
                    have HP := Lib.hid hp; clear hp
                    have HRES : Hid (gnOut bs = (-(h : Int) - 1, 9 + 1)) := Lib.hid (by unfold gnOut; rw [hres]; unfold unzig; rw [if_pos HP.out, ← HH.out])
                    clear hres hh
                    go_wp2_with fail
                    refine bodyPost_ret (v := .tuple #[.int .i64 (-(h : Int) - 1), .int .i64 ((9 : Int) + 1)]) (by simp [results, Tryz.results81, go_sem]) rfl ?_
                    exact ⟨by rw [HRES.out]; rfl, rfl⟩
                · have t128 : ¬ (n : Int) < 128 := by omega
                  go_wp2_with fail
                  go_roundw
                  case rel =>
                    refine ⟨9 + 1, v, by omega, hlt, rfl, by go_num, fun _ => ?_, fun h => ?_, fun _ => ?_, rfl⟩
                    · rw [HVX.out, HM.out]; exact num_pow HU9.out
                    · exfalso
                      have h9 : 9 = 9 := rfl
                      exact (show ¬ ((9 = 9 ∧ 1 < b.toNat) ∨ (0 < 9 ∧ b.toNat = 0)) from fun hq => HB2.out (by simpa using hq)) (.inl ⟨rfl, by rw [← HN.out]; omega⟩)
                    · rw [HG.out, gnGo_on (show ¬ ((9 = 9 ∧ 1 < b.toNat) ∨ (0 < 9 ∧ b.toNat = 0)) from fun hq => HB2.out (by simpa using hq)) (by rw [← HN.out]; exact h128), ← HN.out, HVX.out, HM.out]
                  case measure => simp [intOf]
          · have t9 : ((i : Int) == 9) = false := by rw [beq_eq_false_iff_ne]; omega
            by_cases h0 : 0 < i
            · have ta : (0 : Int) < (i : Int) := by omega
              have tz : ((n : Int) == 0) = false := by rw [beq_eq_false_iff_ne]; omega
              clear hbad
              have em2 : IntKind.u64.wrap (m : Int) = (m : Int) := by rw [IntKind.wrap_u64]; omega
              go_wp2_with fail
              clear em em2
              go_loopw [6, 7] (fun pv kv wx => GnIn m i wr pv kv wx) (fun _ kv _ => i - (intOf kv).toNat)
              case atStart => exact ⟨0, Nat.zero_le _, by simp, rfl, rfl⟩
              case round =>
                obtain ⟨k, hk, rfl, rfl, rfl⟩ := hrel
                obtain ⟨x, hx⟩ : ∃ x, x = m * 128 ^ k := ⟨_, rfl⟩
                rw [← hx]
                have HX := Lib.hid hx; clear hx
                by_cases hki : k < i
                · have tk : (k : Int) < (i : Int) := by omega
                  have hle : m * 128 ^ (k + 1) ≤ m * 128 ^ i := Nat.mul_le_mul_left _ (Nat.pow_le_pow_right (by omega) (by omega))
                  have hx2 : m * 128 ^ (k + 1) = x * 128 := by rw [pow_step, ← Nat.mul_assoc, ← HX.out]
                  have hv := HV.out
                  obtain ⟨y, hy⟩ : ∃ y, y = x * 128 := ⟨_, rfl⟩
                  have ex : IntKind.u64.wrap ((x : Int) * 128) = (y : Int) := by rw [IntKind.wrap_u64]; omega
                  have HY : Hid (y = m * 128 ^ (k + 1)) := Lib.hid (by rw [hy, hx2])
                  clear hle hx2 hv hy
                  go_wp2_with fail
                  go_roundw
                  case rel => exact ⟨k + 1, by omega, by rw [← HY.out], by go_num, rfl⟩
                  case measure => simp [intOf]; omega
                · have hke : k = i := by omega
                  subst hke
                  have tk : ¬ (k : Int) < (k : Int) := by omega
                  obtain ⟨v, hv⟩ : ∃ v, v = u + x := ⟨_, rfl⟩
                  have hv64 : v < 18446744073709551616 := by have := HV.out; rw [hv, HX.out]; exact this
                  have ev : IntKind.u64.wrap ((u : Int) + (x : Int)) = (v : Int) := by rw [IntKind.wrap_u64]; omega
                  have HVX : Hid (v = u + m * 128 ^ k) := Lib.hid (by rw [hv, HX.out])
                  clear hv
                  by_cases h128 : n < 128
                  · have t128 : (n : Int) < 128 := by omega
                    have hres : getNum bs = some (unzig v, k + 1) := by
                      rw [HG.out, gnGo_end HB2.out (by rw [← HN.out]; exact h128), ← HN.out, HVX.out, HM.out]
                    obtain ⟨h, hh⟩ : ∃ h, h = v / 2 := ⟨_, rfl⟩
                    have eh : (v : Int) / 2 = (h : Int) := by omega
                    have eh2 : IntKind.i64.wrap (h : Int) = (h : Int) := by rw [IntKind.wrap_i64]; omega
                    have ek : IntKind.i64.wrap ((k : Int) + 1) = ((k + 1 : Nat) : Int) := by rw [IntKind.wrap_i64]; omega
                    have HH := Lib.hid hh
                    rcases Nat.mod_two_eq_zero_or_one v with hp | hp
                    · have tp : (v : Int) % 2 = 0 := by omega
                      have HP := Lib.hid hp; clear hp
                      have HRES : Hid (gnOut bs = ((h : Int), k + 1)) := Lib.hid (by unfold gnOut; rw [hres]; unfold unzig; rw [if_neg (by have := HP.out; omega), ← HH.out])
                      clear hres hh
                      go_wp2_with fail
                      refine bodyPost_ret (v := .tuple #[.int .i64 (h : Int), .int .i64 ((k : Int) + 1)]) (by simp [results, Tryz.results81, go_sem]) rfl ?_
                      exact ⟨by rw [HRES.out]; rfl, rfl⟩
                    · have tp : (v : Int) % 2 = 1 := by omega
                      have HP := Lib.hid hp; clear hp
                      have HRES : Hid (gnOut bs = (-(h : Int) - 1, k + 1)) := Lib.hid (by unfold gnOut; rw [hres]; unfold unzig; rw [if_pos HP.out, ← HH.out])
                      clear hres hh
                      go_wp2_with fail
                      refine bodyPost_ret (v := .tuple #[.int .i64 (-(h : Int) - 1), .int .i64 ((k : Int) + 1)]) (by simp [results, Tryz.results81, go_sem]) rfl ?_
                      exact ⟨by rw [HRES.out]; rfl, rfl⟩
                  · have t128 : ¬ (n : Int) < 128 := by omega
                    go_wp2_with fail
                    go_roundw
                    case rel =>
                      refine ⟨k + 1, v, by omega, hlt, rfl, by go_num, fun _ => ?_, fun h => ?_, fun _ => ?_, rfl⟩
                      · rw [HVX.out, HM.out]; exact num_pow HU9.out
                      · exfalso
                        have h9 : k = 9 := by omega
                        exact HB2.out (.inl ⟨h9, by rw [← HN.out]; omega⟩)
                      · rw [HG.out, gnGo_on HB2.out (by rw [← HN.out]; exact h128), ← HN.out, HVX.out, HM.out]
                    case measure => simp [intOf]; omega
            · have ta : ¬ (0 : Int) < (i : Int) := by omega
              clear hbad
              have em2 : IntKind.u64.wrap (m : Int) = (m : Int) := by rw [IntKind.wrap_u64]; omega
              go_wp2_with fail
              clear em em2
              go_loopw [6, 7] (fun pv kv wx => GnIn m i wr pv kv wx) (fun _ kv _ => i - (intOf kv).toNat)
              case atStart => exact ⟨0, Nat.zero_le _, by simp, rfl, rfl⟩
              case round =>
                obtain ⟨k, hk, rfl, rfl, rfl⟩ := hrel
                obtain ⟨x, hx⟩ : ∃ x, x = m * 128 ^ k := ⟨_, rfl⟩
                rw [← hx]
                have HX := Lib.hid hx; clear hx
                by_cases hki : k < i
                · have tk : (k : Int) < (i : Int) := by omega
                  have hle : m * 128 ^ (k + 1) ≤ m * 128 ^ i := Nat.mul_le_mul_left _ (Nat.pow_le_pow_right (by omega) (by omega))
                  have hx2 : m * 128 ^ (k + 1) = x * 128 := by rw [pow_step, ← Nat.mul_assoc, ← HX.out]
                  have hv := HV.out
                  obtain ⟨y, hy⟩ : ∃ y, y = x * 128 := ⟨_, rfl⟩
                  have ex : IntKind.u64.wrap ((x : Int) * 128) = (y : Int) := by rw [IntKind.wrap_u64]; omega
                  have HY : Hid (y = m * 128 ^ (k + 1)) := Lib.hid (by rw [hy, hx2])
                  clear hle hx2 hv hy
                  go_wp2_with fail
                  go_roundw
                  case rel => exact ⟨k + 1, by omega, by rw [← HY.out], by go_num, rfl⟩
                  case measure => simp [intOf]; omega
                · have hke : k = i := by omega
                  subst hke
                  have tk : ¬ (k : Int) < (k : Int) := by omega
                  obtain ⟨v, hv⟩ : ∃ v, v = u + x := ⟨_, rfl⟩
                  have hv64 : v < 18446744073709551616 := by have := HV.out; rw [hv, HX.out]; exact this
                  have ev : IntKind.u64.wrap ((u : Int) + (x : Int)) = (v : Int) := by rw [IntKind.wrap_u64]; omega
                  have HVX : Hid (v = u + m * 128 ^ k) := Lib.hid (by rw [hv, HX.out])
                  clear hv
                  by_cases h128 : n < 128
                  · have t128 : (n : Int) < 128 := by omega
                    have hres : getNum bs = some (unzig v, k + 1) := by
                      rw [HG.out, gnGo_end HB2.out (by rw [← HN.out]; exact h128), ← HN.out, HVX.out, HM.out]
                    obtain ⟨h, hh⟩ : ∃ h, h = v / 2 := ⟨_, rfl⟩
                    have eh : (v : Int) / 2 = (h : Int) := by omega
                    have eh2 : IntKind.i64.wrap (h : Int) = (h : Int) := by rw [IntKind.wrap_i64]; omega
                    have ek : IntKind.i64.wrap ((k : Int) + 1) = ((k + 1 : Nat) : Int) := by rw [IntKind.wrap_i64]; omega
                    have HH := Lib.hid hh
                    rcases Nat.mod_two_eq_zero_or_one v with hp | hp
                    · have tp : (v : Int) % 2 = 0 := by omega
                      have HP := Lib.hid hp; clear hp
                      have HRES : Hid (gnOut bs = ((h : Int), k + 1)) := Lib.hid (by unfold gnOut; rw [hres]; unfold unzig; rw [if_neg (by have := HP.out; omega), ← HH.out])
                      clear hres hh
                      go_wp2_with fail
                      refine bodyPost_ret (v := .tuple #[.int .i64 (h : Int), .int .i64 ((k : Int) + 1)]) (by simp [results, Tryz.results81, go_sem]) rfl ?_
                      exact ⟨by rw [HRES.out]; rfl, rfl⟩
                    · have tp : (v : Int) % 2 = 1 := by omega
                      have HP := Lib.hid hp; clear hp
                      have HRES : Hid (gnOut bs = (-(h : Int) - 1, k + 1)) := Lib.hid (by unfold gnOut; rw [hres]; unfold unzig; rw [if_pos HP.out, ← HH.out])
                      clear hres hh
                      go_wp2_with fail
                      refine bodyPost_ret (v := .tuple #[.int .i64 (-(h : Int) - 1), .int .i64 ((k : Int) + 1)]) (by simp [results, Tryz.results81, go_sem]) rfl ?_
                      exact ⟨by rw [HRES.out]; rfl, rfl⟩
                  · have t128 : ¬ (n : Int) < 128 := by omega
                    go_wp2_with fail
                    go_roundw
                    case rel =>
                      refine ⟨k + 1, v, by omega, hlt, rfl, by go_num, fun _ => ?_, fun h => ?_, fun _ => ?_, rfl⟩
                      · rw [HVX.out, HM.out]; exact num_pow HU9.out
                      · exfalso
                        have h9 : k = 9 := by omega
                        exact HB2.out (.inl ⟨h9, by rw [← HN.out]; omega⟩)
                      · rw [HG.out, gnGo_on HB2.out (by rw [← HN.out]; exact h128), ← HN.out, HVX.out, HM.out]
                    case measure => simp [intOf]; omega
      · have t10 : ¬ (i : Int) < 10 := by omega
        have HNO : Hid (getNum bs = none) := Lib.hid (HN10.out (by omega))
        go_wp2_with fail
        refine bodyPost_ret (v := .tuple #[.int .i64 0, .int .i64 0]) (by simp [results, Tryz.results81, go_sem]) rfl ?_
        exact ⟨by unfold gnOut; rw [HNO.out]; rfl, rfl⟩
    · have tl : ¬ (i : Int) < (bs.length : Int) := by omega
      have HNO : Hid (getNum bs = none) := Lib.hid (by
        by_cases h10 : i = 10
        · exact HN10.out h10
        · rw [HGN.out (by omega), List.drop_of_length_le (by omega)]; exact gnGo_nil _ _)
      go_wp2_with fail
      refine bodyPost_ret (v := .tuple #[.int .i64 0, .int .i64 0]) (by simp [results, Tryz.results81, go_sem]) rfl ?_
      exact ⟨by unfold gnOut; rw [HNO.out]; rfl, rfl⟩
end Go.Proofs.YtfpomllhkbbipaaGreat
namespace Go.Proofs.YtfpomllhkbbipaaGreat
open Go Go.RowKit Go.Maps Mem Pk

set_option maxRecDepth 100000 in
set_option maxHeartbeats 2000000 in
theorem ROne_num {w : World} {A : Option Addr} {c : Nat} {bs : List UInt8} (h : Sl fB w A bs) :
    Calls Tryz.prog 60 #[.slice A bs.length c, .int .i64 1] w fun e w' => e = .returned (.tuple #[.agg (pvC ⟨1, (gnOut bs).1, []⟩ none 0), .int .i64 (gnOut bs).2]) ∧ Below w.heap.size w w' := by
  have H := Lib.hid h; clear h
  obtain ⟨n, hn⟩ : ∃ n, n = (gnOut bs).1 := ⟨_, rfl⟩
  obtain ⟨m, hm⟩ : ∃ m, m = (gnOut bs).2 := ⟨_, rfl⟩
  rw [← hn, ← hm]
  have HG : Hid (∀ W, Sl fB W A bs → Calls Tryz.prog 81 #[.slice A bs.length c] W fun e w' => e = .returned (.tuple #[.int .i64 n, .int .i64 m]) ∧ w' = W) := Lib.hid fun W h => by rw [hn, hm]; exact RGetNum_any h
  clear hn hm
  have hsf : ∀ a w, (store a (.float .f64 0) .plain).run Tryz.prog w = stored Tryz.prog w a (.float .f64 0) .plain := fun a w => run_store _ w a _ _ rfl
  go_enter Tryz.func60, Tryz.ntmps60
  go_wp2_with fail
  (with_reducible refine (HG.out _ ((H.out.below ((Below.refl _ _).alloc (Nat.le_refl _) _)).below ((Below.refl _ _).alloc (Nat.le_refl _) _))).mono ?_); rintro e w2 ⟨rfl, rfl⟩
  go_wp2_with fail
  refine bodyPost_ret (v := .tuple #[.agg (pvC ⟨1, n, []⟩ none 0), .int .i64 m]) (by simp [results, Tryz.results60, go_sem, pvC]) rfl ?_
  exact ⟨rfl, ((Below.refl _ _).alloc (Nat.le_refl _) _).alloc (by rw [World.size_alloc]; omega) _⟩
/-- what One answers: the value, how many bytes it has (0: none) -/
def ROneP (res : Option (PV × List UInt8)) (bs : List UInt8) (w : World) (e : Ending) (w' : World) : Prop :=
  (res = none → (∃ a b : Int, e = .returned (.tuple #[.agg #[.int .i64 a, .int .i64 b, .float .f64 0, .slice none 0 0, .bool false], .int .i64 0])) ∧ Below w.heap.size w w') ∧
  ∀ v rest, res = some (v, rest) → ∃ (m : Nat) (A : Option Addr) (c : Nat), 0 < m ∧ m ≤ bs.length ∧ rest = bs.drop m ∧ e = .returned (.tuple #[.agg (pvC v A c), .int .i64 m]) ∧ Own fB w.heap.size 5 w' (.slice A v.b.length c) v.b ∧ Below w.heap.size w w'
theorem gnOut_none {bs : List UInt8} (h : getNum bs = none) : gnOut bs = (0, 0) := by unfold gnOut; rw [h]
theorem gnOut_some {bs : List UInt8} {n : Int} {m : Nat} (h : getNum bs = some (n, m)) : gnOut bs = (n, m) := by unfold gnOut; rw [h]
theorem ROneP_no {bs : List UInt8} {w w' : World} {a b : Int} (hb : Below w.heap.size w w') : ROneP none bs w (.returned (.tuple #[.agg #[.int .i64 a, .int .i64 b, .float .f64 0, .slice none 0 0, .bool false], .int .i64 0])) w' :=
  ⟨fun _ => ⟨⟨a, b, rfl⟩, hb⟩, fun v rest h => by cases h⟩
theorem ROneP_yes {bs : List UInt8} {w w' : World} {v : PV} {A : Option Addr} {c m : Nat} (h1 : 0 < m) (h2 : m ≤ bs.length) (ho : Own fB w.heap.size 5 w' (.slice A v.b.length c) v.b) (hb : Below w.heap.size w w') :
    ROneP (some (v, bs.drop m)) bs w (.returned (.tuple #[.agg (pvC v A c), .int .i64 m])) w' :=
  ⟨(fun h => by cases h), fun v' rest h => by injection h with h; injection h with h3 h4; subst h3; subst h4; exact ⟨m, A, c, h1, h2, rfl, rfl, ho, hb⟩⟩
theorem ROne_1 {w : World} {A : Option Addr} {c : Nat} {bs : List UInt8} (h : Sl fB w A bs) :
    Calls Tryz.prog 60 #[.slice A bs.length c, .int .i64 1] w (ROneP (oneV 1 bs) bs w) :=
  (ROne_num h).mono fun e w' ⟨he, hb⟩ => by
    subst he
    unfold oneV
    rw [if_pos rfl]
    cases hg : getNum bs with
    | none => rw [gnOut_none hg]; exact ROneP_no hb
    | some x =>
      obtain ⟨n, m⟩ := x
      rw [gnOut_some hg]
      obtain ⟨-, h1, h2, -, -, -⟩ := getNum_inv hg
      exact ROneP_yes (v := ⟨1, n, []⟩) (A := Option.none) (c := 0) h1 h2 Own.nil hb
set_option maxRecDepth 100000 in
set_option maxHeartbeats 4000000 in
theorem ROne_3 {w : World} {A : Option Addr} {c : Nat} {bs : List UInt8} (h : Sl fB w A bs) (hc : bs.length ≤ c) :
    Calls Tryz.prog 60 #[.slice A bs.length c, .int .i64 3] w (ROneP (oneV 3 bs) bs w) := by
  have hl := h.len
  obtain ⟨res, hres⟩ : ∃ z, z = oneV 3 bs := ⟨_, rfl⟩
  have HR := Lib.hid hres
  rw [← hres]; clear hres
  have H := Lib.hid h; clear h
  have HC := Lib.hid hc; clear hc
  have hsf : ∀ a w, (store a (.float .f64 0) .plain).run Tryz.prog w = stored Tryz.prog w a (.float .f64 0) .plain := fun a w => run_store _ w a _ _ rfl
  obtain ⟨n, hn⟩ : ∃ n, n = (gnOut bs).1 := ⟨_, rfl⟩
  obtain ⟨m, hm⟩ : ∃ m, m = (gnOut bs).2 := ⟨_, rfl⟩
  have HG : Hid (∀ W, Sl fB W A bs → Calls Tryz.prog 81 #[.slice A bs.length c] W fun e w' => e = .returned (.tuple #[.int .i64 n, .int .i64 m]) ∧ w' = W) := Lib.hid fun W h => by rw [hn, hm]; exact RGetNum_any h
  have HNM : Hid (gnOut bs = (n, m)) := Lib.hid (by rw [hn, hm])
  clear hn hm
  by_cases h0 : m = 0
  · have HNO : Hid (res = none) := Lib.hid (by
      rw [HR.out]; unfold oneV; rw [if_neg (by decide)]
      cases hg : getNum bs with
      | none => unfold getCount; rw [hg]; rfl
      | some x =>
        obtain ⟨n', m'⟩ := x
        have := gnOut_some hg; rw [HNM.out] at this; injection this with h1 h2
        obtain ⟨-, h3, -⟩ := getNum_inv hg
        omega)
    have t0 : ((m : Int) == 0) = true := by rw [beq_iff_eq]; omega
    clear h0
    go_enter Tryz.func60, Tryz.ntmps60
    go_wp2_with fail
    (with_reducible refine (HG.out _ ((H.out.below ((Below.refl _ _).alloc (Nat.le_refl _) _)).below ((Below.refl _ _).alloc (Nat.le_refl _) _))).mono ?_); rintro e w2 ⟨rfl, rfl⟩
    go_wp2_with fail
    refine bodyPost_ret (v := .tuple #[.agg #[.int .i64 3, .int .i64 0, .float .f64 0, .slice none 0 0, .bool false], .int .i64 0]) (by simp [results, Tryz.results60, go_sem]) rfl ?_
    rw [HNO.out]
    exact ROneP_no (((Below.refl _ _).alloc (Nat.le_refl _) _).alloc (by rw [World.size_alloc]; omega) _)
  · have hg : getNum bs = some (n, m) := by
      cases hg : getNum bs with
      | none => have := gnOut_none hg; rw [HNM.out] at this; injection this with h1 h2; omega
      | some x => obtain ⟨n', m'⟩ := x; have := gnOut_some hg; rw [HNM.out] at this; injection this with h1 h2; subst h1; subst h2; rfl
    obtain ⟨-, hm0, hml, hm10, -, -⟩ := getNum_inv hg
    have t0 : ((m : Int) == 0) = false := by rw [beq_eq_false_iff_ne]; omega
    have e1 : (bs.length : Int) - (m : Int) = ((bs.length - m : Nat) : Int) := by omega
    have HGN := Lib.hid hg; clear hg
    by_cases hbad : n < 0 ∨ 4096 < n ∨ ((bs.length - m : Nat) : Int) < n
    · have HNO : Hid (res = none) := Lib.hid (by
        rw [HR.out]; unfold oneV; rw [if_neg (by decide)]
        cases hq : getCount 4096 bs with
        | none => rfl
        | some x =>
          obtain ⟨n', m'⟩ := x
          obtain ⟨h1, h2, h3⟩ := getCount_some hq
          rw [HGN.out] at h1; injection h1 with h1; injection h1 with h4 h5; subst h4; subst h5
          simp only
          rw [if_neg (by rw [List.length_drop]; omega)])
      go_enter Tryz.func60, Tryz.ntmps60
      go_wp2_with fail
      (with_reducible refine (HG.out _ ((H.out.below ((Below.refl _ _).alloc (Nat.le_refl _) _)).below ((Below.refl _ _).alloc (Nat.le_refl _) _))).mono ?_); rintro e w2 ⟨rfl, rfl⟩
      obtain ⟨k, hk⟩ : ∃ k, k = bs.length - m := ⟨_, rfl⟩
      by_cases c1 : n < 0
      · go_wp2_with fail
        refine bodyPost_ret (v := .tuple #[.agg #[.int .i64 3, .int .i64 0, .float .f64 0, .slice none 0 0, .bool false], .int .i64 0]) (by simp [results, Tryz.results60, go_sem]) rfl ?_
        rw [HNO.out]
        exact ROneP_no (((Below.refl _ _).alloc (Nat.le_refl _) _).alloc (by rw [World.size_alloc]; omega) _)
      by_cases c2 : 4096 < n
      · go_wp2_with fail
        refine bodyPost_ret (v := .tuple #[.agg #[.int .i64 3, .int .i64 0, .float .f64 0, .slice none 0 0, .bool false], .int .i64 0]) (by simp [results, Tryz.results60, go_sem]) rfl ?_
        rw [HNO.out]
        exact ROneP_no (((Below.refl _ _).alloc (Nat.le_refl _) _).alloc (by rw [World.size_alloc]; omega) _)
      rw [← hk] at e1
      have c3 : (k : Int) < n := by omega
      clear hbad
      go_wp2_with fail
      refine bodyPost_ret (v := .tuple #[.agg #[.int .i64 3, .int .i64 0, .float .f64 0, .slice none 0 0, .bool false], .int .i64 0]) (by simp [results, Tryz.results60, go_sem]) rfl ?_
      rw [HNO.out]
      exact ROneP_no (((Below.refl _ _).alloc (Nat.le_refl _) _).alloc (by rw [World.size_alloc]; omega) _)
    · obtain ⟨q, rfl⟩ : ∃ q : Nat, n = (q : Int) := ⟨n.toNat, by omega⟩
      obtain ⟨k, hk⟩ : ∃ k, k = bs.length - m := ⟨_, rfl⟩
      rw [← hk] at e1 hbad
      have c1 : ¬ (q : Int) < 0 := by omega
      have c2 : ¬ (4096 : Int) < (q : Int) := by omega
      have c3 : ¬ (k : Int) < (q : Int) := by omega
      have hq4 : q ≤ 4096 := by omega
      obtain ⟨p, hp⟩ : ∃ p, p = (bs.drop m).take q := ⟨_, rfl⟩
      have hpl : p.length = q := by rw [hp, List.length_take, List.length_drop]; omega
      obtain ⟨P, hP⟩ : ∃ x, x = partA A c m := ⟨_, rfl⟩
      obtain ⟨cp, hcp⟩ : ∃ x, x = c - m := ⟨_, rfl⟩
      obtain ⟨s, hs⟩ : ∃ s, s = m + q := ⟨_, rfl⟩
      have e2 : (m : Int) + (q : Int) = (s : Int) := by omega
      have hs5 : s ≤ 5000 := by omega
      have k8 : ∀ W : World, (Instr.slice 49 (.slice A bs.length c) (some (.int .i64 (m : Int))) (some (.int .i64 (s : Int))) none).run Tryz.prog W = .ok (.slice P p.length cp) W := fun W => by
        have h := cut_lhk Tryz.underlying49 sizeU8 .i64 .i64 A bs.length c m s (by omega) (by have := HC.out; omega) W
        rw [← hP, ← hcp, show s - m = p.length by omega] at h; exact h
      have HSP : Hid (∀ W, Sl fB W A bs → Sl fB W P p) := Lib.hid fun W h => by rw [hp, hP]; exact h.part (by omega) HC.out
      have HRES : Hid (res = some (⟨3, 0, p⟩, bs.drop s)) := Lib.hid (by
        rw [HR.out]; unfold oneV; rw [if_neg (by decide)]
        have hq : getCount 4096 bs = some ((q : Int), m) := by
          unfold getCount; rw [HGN.out]; simp [Option.filter]; omega
        rw [hq]
        simp only
        rw [if_pos (by rw [List.length_drop]; omega), Int.toNat_natCast, ← hp, List.drop_drop, ← hs])
      have HPL : Hid (p.length = q) := Lib.hid hpl
      have hk63 : k ≤ 9223372036854775807 := by omega
      have HMQ : Hid (0 < s ∧ s ≤ bs.length ∧ q ≤ 4096) := Lib.hid (by omega)
      clear hbad hk hp hpl hP hcp hs hml hm0 hl
      go_enter Tryz.func60, Tryz.ntmps60
      go_wp2_with fail
      (with_reducible refine (HG.out _ ((H.out.below ((Below.refl _ _).alloc (Nat.le_refl _) _)).below ((Below.refl _ _).alloc (Nat.le_refl _) _))).mono ?_); rintro e w2 ⟨rfl, rfl⟩
      go_wp2_with fail
      have hb2 : Below w.heap.size w ((w.alloc (.cells #[.int .i64 0, .int .i64 0, .float .f64 0, .slice none 0 0, .bool false] 81)).alloc (.cells #[.int .i64 3, .int .i64 0, .float .f64 0, .slice none 0 0, .bool false] 81)) :=
        ((Below.refl _ _).alloc (Nat.le_refl _) _).alloc (by rw [World.size_alloc]; omega) _
      have hx0 : Blk ((w.alloc (.cells #[.int .i64 0, .int .i64 0, .float .f64 0, .slice none 0 0, .bool false] 81)).alloc (.cells #[.int .i64 3, .int .i64 0, .float .f64 0, .slice none 0 0, .bool false] 81)) w.heap.size 81 #[.int .i64 0, .int .i64 0, .float .f64 0, .slice none 0 0, .bool false] := (Blk.new_ w _ _).alloc _
      have hx1 : Blk ((w.alloc (.cells #[.int .i64 0, .int .i64 0, .float .f64 0, .slice none 0 0, .bool false] 81)).alloc (.cells #[.int .i64 3, .int .i64 0, .float .f64 0, .slice none 0 0, .bool false] 81)) (w.heap.size + 1) 81 #[.int .i64 3, .int .i64 0, .float .f64 0, .slice none 0 0, .bool false] := by
        have := Blk.new_ (w.alloc (.cells #[.int .i64 0, .int .i64 0, .float .f64 0, .slice none 0 0, .bool false] 81)) 81 #[.int .i64 3, .int .i64 0, .float .f64 0, .slice none 0 0, .bool false]
        rw [World.size_alloc] at this; exact this
      have hj := Join_sl (c := cp) (base := w.heap.size + 2) (va := .slice none 0 0) (xs := []) Own.nil (HSP.out w H.out) hb2 (by omega) (by rw [World.size_alloc, World.size_alloc]; exact Nat.le_refl _) (by rw [HPL.out]; have := HMQ.out; simp; omega)
      obtain ⟨w2, hw2⟩ : ∃ x, x = ((w.alloc (.cells #[.int .i64 0, .int .i64 0, .float .f64 0, .slice none 0 0, .bool false] 81)).alloc (.cells #[.int .i64 3, .int .i64 0, .float .f64 0, .slice none 0 0, .bool false] 81)) := ⟨_, rfl⟩
      have hz2 : w2.heap.size = w.heap.size + 2 := by rw [hw2, World.size_alloc, World.size_alloc]
      rw [← hw2] at hb2 hx0 hx1 hj ⊢
      clear hw2
      have HB2 := Lib.hid hb2
      have HX0 := Lib.hid hx0
      have HX1 := Lib.hid hx1
      have HZ2 := Lib.hid hz2
      clear hb2 hx0 hx1 hz2
      (with_reducible refine hj.mono ?_); rintro e w3 ⟨v3, rfl, ho3, hb3⟩
      rw [List.nil_append] at ho3
      obtain ⟨A3, c3, rfl⟩ := ho3.form
      have HO3 := Lib.hid ho3
      have HB3 := Lib.hid hb3
      have HY0 := Lib.hid (HX0.out.below (hb3.mono (Nat.le_of_eq HZ2.out)) HX0.out.lt)
      have HY1 := Lib.hid (HX1.out.below (hb3.mono (Nat.le_of_eq HZ2.out)) HX1.out.lt)
      clear ho3 hb3 hj
      have q10 : w3.cell? ⟨w.heap.size + 1, 0, none⟩ = some (.int .i64 3) := HY1.out.cell 0
      have q11 : w3.cell? ⟨w.heap.size + 1, 1, none⟩ = some (.int .i64 0) := HY1.out.cell 1
      have q12 : w3.cell? ⟨w.heap.size + 1, 2, none⟩ = some (.float .f64 0) := HY1.out.cell 2
      have q13 : w3.cell? ⟨w.heap.size + 1, 3, none⟩ = some (.slice none 0 0) := HY1.out.cell 3
      have q14 : w3.cell? ⟨w.heap.size + 1, 4, none⟩ = some (.bool false) := HY1.out.cell 4
      have q00 : w3.cell? ⟨w.heap.size, 0, none⟩ = some (.int .i64 0) := HY0.out.cell 0
      have q01 : w3.cell? ⟨w.heap.size, 1, none⟩ = some (.int .i64 0) := HY0.out.cell 1
      have q02 : w3.cell? ⟨w.heap.size, 2, none⟩ = some (.float .f64 0) := HY0.out.cell 2
      have q03 : w3.cell? ⟨w.heap.size, 3, none⟩ = some (.slice none 0 0) := HY0.out.cell 3
      have q04 : w3.cell? ⟨w.heap.size, 4, none⟩ = some (.bool false) := HY0.out.cell 4
      have f13 := HY1.out.free 3
      have f00 := HY0.out.free 0
      have f01 := HY0.out.free 1
      have f02 := HY0.out.free 2
      have f03 := HY0.out.free 3
      have f04 := HY0.out.free 4
      go_wp2_with fail
      refine bodyPost_ret (v := .tuple #[.agg (pvC ⟨3, 0, p⟩ A3 c3), .int .i64 s]) (by simp [results, Tryz.results60, go_sem, pvC, q00, q01, q02, q03, q04]) rfl ?_
      rw [HRES.out]
      obtain ⟨W, hW⟩ : ∃ W, W = (((((w3.setCell ⟨w.heap.size + 1, 3, none⟩ (.slice A3 p.length c3)).setCell ⟨w.heap.size, 0, none⟩ (.int .i64 3)).setCell ⟨w.heap.size, 1, none⟩ (.int .i64 0)).setCell ⟨w.heap.size, 2, none⟩ (.float .f64 0)).setCell ⟨w.heap.size, 3, none⟩ (.slice A3 p.length c3)).setCell ⟨w.heap.size, 4, none⟩ (.bool false) := ⟨_, rfl⟩
      rw [← hW]
      have hfr : Frm (fun g => g = w.heap.size ∨ g = w.heap.size + 1) w3 W := by
        rw [hW]
        exact ((((((Frm.refl _ w3).setCell (p := ⟨w.heap.size + 1, 3, none⟩) (fun _ => .inr rfl) _).setCell (p := ⟨w.heap.size, 0, none⟩) (fun _ => .inl rfl) _).setCell (p := ⟨w.heap.size, 1, none⟩) (fun _ => .inl rfl) _).setCell (p := ⟨w.heap.size, 2, none⟩) (fun _ => .inl rfl) _).setCell (p := ⟨w.heap.size, 3, none⟩) (fun _ => .inl rfl) _).setCell (p := ⟨w.heap.size, 4, none⟩) (fun _ => .inl rfl) _
      have hbW : Below w.heap.size w W := by
        have hb3 := HB2.out.trans (HB3.out.mono (Nat.le_add_right _ 2))
        rw [hW]
        exact (((((hb3.setCell (p := ⟨w.heap.size + 1, 3, none⟩) (Nat.le_succ _) _).setCell (p := ⟨w.heap.size, 0, none⟩) (Nat.le_refl _) _).setCell (p := ⟨w.heap.size, 1, none⟩) (Nat.le_refl _) _).setCell (p := ⟨w.heap.size, 2, none⟩) (Nat.le_refl _) _).setCell (p := ⟨w.heap.size, 3, none⟩) (Nat.le_refl _) _).setCell (p := ⟨w.heap.size, 4, none⟩) (Nat.le_refl _) _
      exact ROneP_yes (v := ⟨3, 0, p⟩) HMQ.out.1 HMQ.out.2.1 (ownLow (ownFrm HO3.out hfr (fun g hg e => by omega)) (Nat.le_add_right _ 2)) hbW
theorem ROne_any {w : World} {A : Option Addr} {c : Nat} {bs : List UInt8} (h : Sl fB w A bs) (hc : bs.length ≤ c) {k : Int} (hk : k = 1 ∨ k = 3) :
    Calls Tryz.prog 60 #[.slice A bs.length c, .int .i64 k] w (ROneP (oneV k bs) bs w) := by
  rcases hk with rfl | rfl
  · exact ROne_1 h
  · exact ROne_3 h hc
end Go.Proofs.YtfpomllhkbbipaaGreat
namespace Go.Proofs.YtfpomllhkbbipaaGreat
open Go Go.RowKit Go.Maps Go.Lib Mem Pk

theorem rvalT : SliceTK Tryz.prog 74 81 (.agg #[.int .i64 0, .int .i64 0, .float .f64 0, .slice none 0 0, .bool false]) 5 56 := sliceTK_mk Tryz.underlying74 rfl (by decide) (by kernel_rfl)
theorem valsV_none {k : Int} {ks : List Int} {bs : List UInt8} (h : oneV k bs = none) : valsV (k :: ks) bs = none := by unfold valsV; rw [h]
theorem valsV_some {k : Int} {ks : List Int} {bs : List UInt8} {v : PV} {r : List UInt8} (h : oneV k bs = some (v, r)) : valsV (k :: ks) bs = (valsV ks r).map fun x => (v :: x.1, x.2) := by
  rw [valsV, h]
  simp only
  cases valsV ks r with
  | none => rfl
  | some y => rfl
def RNoP (w : World) (e : Ending) (w' : World) : Prop := (∃ a b : Int, e = .returned (.tuple #[.agg #[.int .i64 a, .int .i64 b, .float .f64 0, .slice none 0 0, .bool false], .int .i64 0])) ∧ Below w.heap.size w w'
def RYesP (v : PV) (rest bs : List UInt8) (w : World) (e : Ending) (w' : World) : Prop :=
  ∃ (m : Nat) (A : Option Addr) (c : Nat), e = .returned (.tuple #[.agg #[.int .i64 v.k, .int .i64 v.n, .float .f64 0, .slice A v.b.length c, .bool false], .int .i64 m]) ∧ (0 < m ∧ m ≤ bs.length ∧ rest = bs.drop m) ∧ Own fB w.heap.size 5 w' (.slice A v.b.length c) v.b ∧ Below w.heap.size w w'
theorem ROne_no {w : World} {A : Option Addr} {c : Nat} {bs : List UInt8} (h : Sl fB w A bs) (hc : bs.length ≤ c) {k : Int} (hk : k = 1 ∨ k = 3) (hq : oneV k bs = none) :
    Calls Tryz.prog 60 #[.slice A bs.length c, .int .i64 k] w (RNoP w) := by
  have := ROne_any h hc hk
  rw [hq] at this
  refine this.mono fun e w' ⟨h1, _⟩ => ?_
  obtain ⟨⟨a, b, rfl⟩, hb⟩ := h1 rfl
  exact ⟨⟨_, _, rfl⟩, hb⟩
theorem ROne_yes {w : World} {A : Option Addr} {c : Nat} {bs : List UInt8} (h : Sl fB w A bs) (hc : bs.length ≤ c) {k : Int} (hk : k = 1 ∨ k = 3) {v : PV} {rest : List UInt8} (hq : oneV k bs = some (v, rest)) :
    Calls Tryz.prog 60 #[.slice A bs.length c, .int .i64 k] w (RYesP v rest bs w) := by
  have := ROne_any h hc hk
  rw [hq] at this
  refine this.mono fun e w' ⟨_, h1⟩ => ?_
  obtain ⟨m, A4, c4, hm0, hml, hrest, rfl, ho, hb⟩ := h1 v rest rfl
  exact ⟨m, A4, c4, rfl, ⟨hm0, hml, hrest⟩, ho, hb⟩
def RGk (n : Nat) (w : World) (iv : Value) (W : World) : Prop := ∃ i : Nat, i ≤ n ∧ iv = .int .i64 i ∧ W = w
/-- reading is under way -/
structure RGtS (w W : World) (ov : Value) (done : List PR) : Prop where
  own : OwnK 5 prN w.heap.size 81 W ov done
  ok : ∀ x ∈ done, PRok w.heap.size W x
  below : Below w.heap.size w W
def RGtRel (ks : List Int) (bs : List UInt8) (w : World) (bv ov iv : Value) (W : World) : Prop :=
  ∃ (i : Nat) (done : List PR) (bs' : List UInt8) (A' : Option Addr) (c' : Nat), i ≤ ks.length ∧ bv = .slice A' bs'.length c' ∧ bs'.length ≤ c' ∧ Sl fB w A' bs' ∧ RGtS w W ov done ∧ iv = .int .i64 i ∧ done.length = i ∧
    Hid (valsV ks bs = (valsV (ks.drop i) bs').map fun x => (done.map PR.v ++ x.1, x.2))
def RGetP (res : Option (List PV)) (w : World) (e : Ending) (w' : World) : Prop :=
  Below w.heap.size w w' ∧ (res = none → e = .returned (.tuple #[.slice none 0 0, .int .i64 30])) ∧
    ∀ vs, res = some vs → ∃ done A c, done.map PR.v = vs ∧ e = .returned (.tuple #[.slice A done.length c, .int .i64 0]) ∧ RGtS w w' (.slice A done.length c) done
set_option maxRecDepth 100000 in
set_option maxHeartbeats 4000000 in
theorem RGet_any {w : World} {A K : Option Addr} {c kc : Nat} {bs : List UInt8} {ks : List Int} (h : Sl fB w A bs) (hc : bs.length ≤ c) (hk : Sl (Value.int .i64) w K ks) (hks : ∀ k ∈ ks, k = 1 ∨ k = 3) (hl : ks.length ≤ 1000) :
    Calls Tryz.prog 26 #[.slice A bs.length c, .slice K ks.length kc] w (RGetP (getV ks bs) w) := by
  have H := Lib.hid h; clear h
  have HC := Lib.hid hc; clear hc
  have HK := Lib.hid hk; clear hk
  have HKS := Lib.hid hks; clear hks
  have hsf : ∀ a w, (store a (.float .f64 0) .plain).run Tryz.prog w = stored Tryz.prog w a (.float .f64 0) .plain := fun a w => run_store _ w a _ _ rfl
  go_enter Tryz.func26, Tryz.ntmps26
  go_wp2_with fail
  go_loopw [6] (fun iv wr => RGk ks.length w iv wr) (fun iv _ => ks.length - (RowKit.intOf iv).toNat)
  case atStart => exact ⟨0, Nat.zero_le _, rfl, rfl⟩
  case round =>
    obtain ⟨i, hi, rfl, rfl⟩ := hrel
    by_cases hlt : i < ks.length
    · obtain ⟨b, o, rfl, -, hc⟩ := HK.out.at hlt
      have hck := hc i hlt
      have hkk := HKS.out _ (List.getElem_mem hlt)
      obtain ⟨x, hx⟩ : ∃ z, z = ks[i] := ⟨_, rfl⟩
      rw [← hx] at hkk hck
      have hi0 : (0 : Int) ≤ (i : Int) := by omega
      have hi1 : (i : Int) < (ks.length : Int) := by omega
      have t1 : ¬ x < 1 := by omega
      have t2 : ¬ 4 < x := by omega
      clear hc hx hkk
      go_wp2_with fail
      go_roundw
      case rel => exact ⟨i + 1, hlt, by go_num, rfl⟩
      case measure => simp [RowKit.intOf]; omega
    · have t0 : ¬ (i : Int) < (ks.length : Int) := by omega
      clear hlt
      obtain ⟨w, rfl⟩ : ∃ z, z = wr := ⟨_, rfl⟩
      go_wp2_with fail
      go_loopw [0, 7, 8] (fun bv ov iv W => RGtRel ks bs w bv ov iv W) (fun _ _ iv _ => ks.length - (RowKit.intOf iv).toNat)
      case atStart => exact ⟨0, [], bs, _, _, Nat.zero_le _, rfl, HC.out, H.out, ⟨OwnK.mk_ (Nat.le_refl _), (fun x hx => by cases hx), (Below.refl _ _).alloc (Nat.le_refl _) _⟩, rfl, rfl, by rw [List.drop_zero]; show valsV ks bs = _; cases valsV ks bs <;> simp⟩
      case round =>
        obtain ⟨i, done, bs', A', c', hi, rfl, hcb, hsb, hst, rfl, hdl, hv⟩ := hrel
        have HST := Lib.hid hst
        have HDL := Lib.hid hdl
        have HSB := Lib.hid hsb
        have HCB := Lib.hid hcb
        obtain ⟨Ao, co, rfl⟩ := hst.own.form
        have HV := Lib.hid hv.out
        clear hst hdl hsb hcb hv
        by_cases hlt : i < ks.length
        · obtain ⟨b, o, rfl, -, hc⟩ := (HK.out.below HST.out.below).at hlt
          have hck := hc i hlt
          have hkk := HKS.out _ (List.getElem_mem hlt)
          obtain ⟨x, hx⟩ : ∃ z, z = ks[i] := ⟨_, rfl⟩
          rw [← hx] at hkk hck
          have hdr : ks.drop i = x :: ks.drop (i + 1) := by rw [List.drop_eq_getElem_cons hlt, hx]
          have hi0 : (0 : Int) ≤ (i : Int) := by omega
          have hi1 : (i : Int) < (ks.length : Int) := by omega
          have hv := HV.out
          rw [hdr] at hv
          have HLT := Lib.hid hlt
          have HKK := Lib.hid hkk
          clear hc hx hkk hdr hlt HV
          cases hq : oneV x bs' with
          | none =>
            rw [valsV_none hq] at hv
            have HNO : Hid (getV ks bs = none) := Lib.hid (getV_none hv)
            have HC1 := Lib.hid (ROne_no (c := c') (HSB.out.below HST.out.below) HCB.out HKK.out hq)
            clear hv hq
            go_wp2_with fail
            (with_reducible refine HC1.out.mono ?_); rintro e w4 ⟨⟨ya, yb, rfl⟩, hb4⟩
            have HB4 := Lib.hid hb4
            clear hb4 HC1
            go_wp2_with fail
            refine bodyPost_ret (v := .tuple #[.slice none 0 0, .int .i64 30]) (by simp [results, Tryz.results26, go_sem]) rfl ?_
            refine ⟨?_, fun _ => rfl, fun vs h => by rw [HNO.out] at h; cases h⟩
            exact (HST.out.below.trans (HB4.out.mono HST.out.below.size)).alloc (Nat.le_trans HST.out.below.size HB4.out.size) _
          | some q =>
            obtain ⟨v, rest⟩ := q
            rw [valsV_some hq] at hv
            have HV2 := Lib.hid hv
            have HC1 := Lib.hid (ROne_yes (c := c') (HSB.out.below HST.out.below) HCB.out HKK.out hq)
            clear hv hq
            go_wp2_with fail
            (with_reducible refine HC1.out.mono ?_); rintro e w4 ⟨m, A4, c4, rfl, ⟨hm0, hml, hrest⟩, ho4, hb4⟩
            have HO4 := Lib.hid ho4
            have HB4 := Lib.hid hb4
            have HM := Lib.hid (And.intro hm0 (And.intro hml hrest))
            have tm : ((m : Int) == 0) = false := by rw [beq_eq_false_iff_ne]; omega
            obtain ⟨P, hP⟩ : ∃ x, x = partA A' c' m := ⟨_, rfl⟩
            obtain ⟨cp, hcp⟩ : ∃ x, x = c' - m := ⟨_, rfl⟩
            have hrl : rest.length = bs'.length - m := by rw [hrest, List.length_drop]
            have k8 : ∀ W : World, (Instr.slice 49 (.slice A' bs'.length c') (some (.int .i64 (m : Int))) none none).run Tryz.prog W = .ok (.slice P rest.length cp) W := fun W => by
              have h := cutB A' bs'.length c' m hml W
              rw [← hP, ← hcp, ← hrl] at h; exact h
            have HSR : Hid (Sl fB w P rest) := Lib.hid (by
              rw [hP, hrest]
              have := HSB.out.part (c := c') (k := m) (m := bs'.length - m) (by omega) HCB.out
              rwa [List.take_of_length_le (by rw [List.length_drop]; omega)] at this)
            have HCR : Hid (rest.length ≤ cp) := Lib.hid (by rw [hrl, hcp]; have := HCB.out; omega)
            clear ho4 hb4 hm0 hml hrest hP hcp hrl HC1
            have HO5 : Hid (OwnK 5 prN w.heap.size 81 w4 (.slice Ao done.length co) done) := Lib.hid (HST.out.own.below HB4.out)
            have hz4 : w.heap.size ≤ w4.heap.size := Nat.le_trans HST.out.below.size HB4.out.size
            have HZ4 := Lib.hid hz4
            clear hz4
            go_wp2_with (at_builtin; refine wpList_appendK1 (f := prN) rfl (.tmp 47) (.tmp 49) 74 rfl rvalT ⟨v, A4, c4⟩ rfl (prN_one _) rfl (HO5.out.alloc _) rfl rfl (by rw [World.size_alloc]) (by unfold maxLen; have := HDL.out; omega) (by have := HDL.out; omega) (by rw [World.size_alloc]; have := HZ4.out; omega) ?_; intro v9 w9 hown9 hg9)
            obtain ⟨A9, c9, rfl⟩ := hown9.form
            have HO9 := Lib.hid hown9
            have hst9 : RGtS w w9 (.slice A9 (done ++ [(⟨v, A4, c4⟩ : PR)]).length c9) (done ++ [⟨v, A4, c4⟩]) := by
              have hz : w.heap.size ≤ w4.heap.size := HZ4.out
              refine ⟨hown9, fun x hx => ?_, ?_⟩
              · rcases List.mem_append.1 hx with hx | hx
                · have h1 := (HST.out.ok x hx).below HB4.out
                  exact ⟨slB_apart (((h1.sl.below ((Below.refl _ _).alloc (Nat.le_refl _) _)).below ((Below.refl _ _).alloc (Nat.le_refl _) _))) ((HO5.out.alloc _).alloc _) (by decide) hg9, h1.len, h1.cap⟩
                · rw [List.mem_singleton.1 hx]
                  have h1 := (SlB.of_own HO4.out).2.mono (G := fun g => w.heap.size ≤ g) (fun g _ hg => Nat.le_trans HST.out.below.size hg)
                  exact ⟨slB_apart ((h1.below ((Below.refl _ _).alloc (Nat.le_refl _) _)).below ((Below.refl _ _).alloc (Nat.le_refl _) _)) ((HO5.out.alloc _).alloc _) (by decide) hg9, HO4.out.cap.1, HO4.out.cap.2⟩
              · have h4 : Below w.heap.size w w4 := HST.out.below.trans (HB4.out.mono HST.out.below.size)
                exact ((h4.alloc hz _).alloc (by rw [World.size_alloc]; omega) _).trans ((((HO5.out.alloc _).alloc _)).below_ (by rw [World.size_alloc, World.size_alloc]; omega) hg9)
            have HST9 := Lib.hid hst9
            have hv9 : valsV ks bs = (valsV (ks.drop (i + 1)) rest).map fun x => ((done ++ [(⟨v, A4, c4⟩ : PR)]).map PR.v ++ x.1, x.2) := by
              rw [HV2.out]
              cases valsV (ks.drop (i + 1)) rest with
              | none => rfl
              | some y => obtain ⟨ys, y2⟩ := y; simp
            have HV9 := Lib.hid hv9
            clear hst9 hv9 hown9 hg9
            go_wp2_with fail
            go_roundw
            case rel => exact ⟨i + 1, done ++ [⟨v, A4, c4⟩], rest, P, cp, HLT.out, rfl, HCR.out, HSR.out, HST9.out, by go_num, by rw [List.length_append, HDL.out]; rfl, HV9⟩
            case measure => simp [RowKit.intOf]; have := HLT.out; omega
        · have t0 : ¬ (i : Int) < (ks.length : Int) := by omega
          have hv := HV.out
          rw [List.drop_of_length_le (by omega)] at hv
          have hv2 : valsV ks bs = some (done.map PR.v, bs') := by rw [hv]; simp [valsV]
          have HV2 := Lib.hid hv2
          clear hv hv2 hlt
          by_cases hb : bs' = []
          · subst hb
            go_wp2_with fail
            refine bodyPost_ret (v := .tuple #[.slice Ao done.length co, .int .i64 0]) (by simp [results, Tryz.results26, go_sem]) rfl ?_
            have hg : getV ks bs = some (done.map PR.v) := by rw [getV_some HV2.out, if_pos rfl]
            refine ⟨HST.out.below, fun h => by rw [hg] at h; (cases h), fun vs h => ?_⟩
            rw [hg] at h; injection h with h; subst h
            exact ⟨done, Ao, co, rfl, rfl, HST.out⟩
          · have hbl : (0 : Int) < (bs'.length : Int) := by have := List.length_pos_iff.2 hb; omega
            have hg : getV ks bs = none := by rw [getV_some HV2.out, if_neg hb]
            have HG := Lib.hid hg
            clear hb hg
            go_wp2_with fail
            refine bodyPost_ret (v := .tuple #[.slice none 0 0, .int .i64 30]) (by simp [results, Tryz.results26, go_sem]) rfl ?_
            exact ⟨HST.out.below, fun _ => rfl, fun vs h => by rw [HG.out] at h; cases h⟩
end Go.Proofs.YtfpomllhkbbipaaGreat
namespace Go.Proofs.YtfpomllhkbbipaaGreat
open Go Go.RowKit Go.Maps Go.Lib Mem Pk

theorem unwordN_take (bs : List UInt8) : unwordN (bs.take 4) = unwordN bs := by
  unfold unwordN
  simp [List.getD_eq_getElem?_getD, List.getElem?_take]
theorem RSum_q {w : World} {A : Option Addr} {c n : Nat} {bs : List UInt8} (h : Sl fB w A bs) : Calls Tryz.prog 59 #[.slice A bs.length c] (w.drewN n) fun e w'' => e = .returned (.int .u32 (sumN bs : Int)) ∧ ∃ m, w'' = w.drewN m :=
  quiet_mine (RSum_any (c := c) (h.drewN n))
theorem Runword_q {w : World} {A : Option Addr} {c n : Nat} {bs : List UInt8} (h : Sl fB w A bs) (h4 : 4 ≤ bs.length) : Calls Tryz.prog 57 #[.slice A bs.length c] (w.drewN n) fun e w'' => e = .returned (.int .u32 (unwordN bs : Int)) ∧ ∃ m, w'' = w.drewN m :=
  Calls.quiet_of (Runword_any (c := c) (h.drewN n) h4)
set_option maxRecDepth 100000 in
set_option maxHeartbeats 1000000 in
theorem RUnframe_any {w : World} {A : Option Addr} {c : Nat} {bs : List UInt8} (h : Sl fB w A bs) (hc : bs.length ≤ c) :
    Calls Tryz.prog 25 #[.slice A bs.length c] w (UfPost (unframe bs) w) := by
  have hl := h.len
  obtain ⟨u, hu⟩ : ∃ u, u = unwordN bs := ⟨_, rfl⟩
  unfold unframe
  rw [← hu]
  by_cases h8 : bs.length < 8
  · rw [if_pos h8]
    have t1 : (bs.length : Int) < 8 := by omega
    clear h hc hu h8
    go_enter Tryz.func25, Tryz.ntmps25
    go_wp2_with fail
    refine bodyPost_ret (v := .tuple #[.slice none 0 0, .int .i64 0, .int .i64 31]) (by simp [results, Tryz.results25, go_sem]) rfl ?_
    exact UfPost.no (Below.refl _ _)
  · rw [if_neg h8]
    have t1 : ¬ (bs.length : Int) < 8 := by omega
    obtain ⟨a4, ha4⟩ : ∃ x, x = bs.take 4 := ⟨_, rfl⟩
    have ha4l : a4.length = 4 := by rw [ha4, List.length_take]; omega
    obtain ⟨P0, hP0⟩ : ∃ x, x = partA A c 0 := ⟨_, rfl⟩
    have k0 : ∀ W : World, (Instr.slice 49 (.slice A bs.length c) none (some (.int .i64 4)) none).run Tryz.prog W = .ok (.slice P0 4 c) W := fun W => by
      have h := cut_h Tryz.underlying49 sizeU8 .i64 A bs.length c 4 (by omega) W
      rw [← hP0] at h; exact h
    have hs4 : Sl fB w P0 a4 := by rw [hP0, ha4]; exact h.part (k := 0) (m := 4) (by omega) hc
    have huw := Runword_any (c := c) hs4 (by omega)
    rw [ha4l, ha4, unwordN_take, ← hu] at huw
    have HUW := Lib.hid huw
    have H := Lib.hid h; clear h
    have HU := Lib.hid hu; clear hu
    have H8 := Lib.hid h8; clear h8
    have HC := Lib.hid hc; clear hc
    have HU32 : Hid (u < 4294967296) := Lib.hid (by rw [HU.out]; exact unwordN_lt bs)
    clear ha4 ha4l hP0 hs4 huw
    by_cases h2 : 4096 < u
    · rw [if_pos h2]
      have t2 : (4096 : Int) < (u : Int) := by omega
      clear h2
      go_enter Tryz.func25, Tryz.ntmps25
      go_wp2_with fail
      (with_reducible refine HUW.out.mono ?_); rintro e w2 ⟨rfl, m, rfl⟩
      go_wp2_with fail
      refine bodyPost_ret (v := .tuple #[.slice none 0 0, .int .i64 0, .int .i64 2]) (by simp [results, Tryz.results25, go_sem]) rfl ?_
      exact UfPost.no (below_drewN (Below.refl _ _) _)
    · rw [if_neg h2]
      have t2 : ¬ (4096 : Int) < (u : Int) := by omega
      obtain ⟨v, hv⟩ : ∃ v, v = 8 + u := ⟨_, rfl⟩
      obtain ⟨l8, hl8⟩ : ∃ x, x = bs.length - 8 := ⟨_, rfl⟩
      have el : (bs.length : Int) - 8 = (l8 : Int) := by have := H8.out; omega
      have el63 : l8 ≤ 9223372036854775807 := by omega
      have e1 : IntKind.i64.wrap (u : Int) = (u : Int) := by rw [IntKind.wrap_i64]; omega
      have e2b : 8 + (u : Int) = (v : Int) := by omega
      have hu4 : u ≤ 4096 := by omega
      have hv4 : v ≤ 5000 := by omega
      by_cases h3 : bs.length < 8 + u
      · rw [if_pos h3]
        have t3 : (l8 : Int) < (u : Int) := by omega
        clear h2 h3 hv hl8
        go_enter Tryz.func25, Tryz.ntmps25
        go_wp2_with fail
        (with_reducible refine HUW.out.mono ?_); rintro e w2 ⟨rfl, m, rfl⟩
        go_wp2_with fail
        refine bodyPost_ret (v := .tuple #[.slice none 0 0, .int .i64 0, .int .i64 31]) (by simp [results, Tryz.results25, go_sem]) rfl ?_
        exact UfPost.no (below_drewN (Below.refl _ _) _)
      · rw [if_neg h3]
        have t3 : ¬ (l8 : Int) < (u : Int) := by omega
        have hcl := HC.out
        obtain ⟨p, hp⟩ : ∃ p, p = (bs.drop 8).take u := ⟨_, rfl⟩
        have hpl : p.length = u := by rw [hp, List.length_take, List.length_drop]; omega
        obtain ⟨P8, hP8⟩ : ∃ x, x = partA A c 8 := ⟨_, rfl⟩
        obtain ⟨c8, hc8⟩ : ∃ x, x = c - 8 := ⟨_, rfl⟩
        obtain ⟨P4, hP4⟩ : ∃ x, x = partA A c 4 := ⟨_, rfl⟩
        obtain ⟨c4, hc4⟩ : ∃ x, x = c - 4 := ⟨_, rfl⟩
        obtain ⟨q, hq⟩ : ∃ q, q = (bs.drop 4).take 4 := ⟨_, rfl⟩
        have hql : q.length = 4 := by rw [hq, List.length_take, List.length_drop]; omega
        have k8 : ∀ W : World, (Instr.slice 49 (.slice A bs.length c) (some (.int .i64 8)) (some (.int .i64 (v : Int))) none).run Tryz.prog W = .ok (.slice P8 p.length c8) W := fun W => by
          have h := cut_lhk Tryz.underlying49 sizeU8 .i64 .i64 A bs.length c 8 v (by omega) (by omega) W
          rw [← hP8, ← hc8, show v - 8 = p.length by omega] at h; exact h
        have k4 : ∀ W : World, (Instr.slice 49 (.slice A bs.length c) (some (.int .i64 4)) (some (.int .i64 8)) none).run Tryz.prog W = .ok (.slice P4 q.length c4) W := fun W => by
          have h := cut_lhk Tryz.underlying49 sizeU8 .i64 .i64 A bs.length c 4 8 (by omega) (by omega) W
          rw [← hP4, ← hc4, show 8 - 4 = q.length by omega] at h; exact h
        have hsp : Sl fB w P8 p := by rw [hp, hP8]; exact H.out.part (by omega) hcl
        have hsq : Sl fB w P4 q := by rw [hq, hP4]; exact H.out.part (by omega) hcl
        have HSP := Lib.hid hsp
        have HSQ := Lib.hid hsq
        have HQL : Hid (4 ≤ q.length) := Lib.hid (by omega)
        have HPL : Hid (p.length ≤ 4096) := Lib.hid (by omega)
        have huq : unwordN (bs.drop 4) = unwordN q := by rw [hq, unwordN_take]
        rw [← hp, huq]
        obtain ⟨s1, hs1⟩ : ∃ s, s = sumN p := ⟨_, rfl⟩
        obtain ⟨s2, hs2⟩ : ∃ s, s = unwordN q := ⟨_, rfl⟩
        rw [← hs1, ← hs2]
        obtain ⟨res, hres⟩ : ∃ r, r = (if s1 = s2 then (p, 8 + u, (0 : Int)) else ([], 0, 32)) := ⟨_, rfl⟩
        rw [← hres]
        have HRES := Lib.hid hres; clear hres
        have HQ1 : Hid (∀ (W : World) (B : Option Addr) (d n : Nat), Sl fB W B p → Calls Tryz.prog 59 #[.slice B p.length d] (W.drewN n) fun e w'' => e = .returned (.int .u32 (s1 : Int)) ∧ ∃ m, w'' = W.drewN m) := Lib.hid fun W B d n h => by rw [hs1]; exact RSum_q h
        have HQ2 : Hid (∀ (W : World) (n : Nat), Sl fB W P4 q → Calls Tryz.prog 57 #[.slice P4 q.length c4] (W.drewN n) fun e w'' => e = .returned (.int .u32 (s2 : Int)) ∧ ∃ m, w'' = W.drewN m) := Lib.hid fun W n h => by rw [hs2]; exact Runword_q h HQL.out
        have HV := Lib.hid hv
        clear h2 h3 hv hcl hp hpl hP8 hc8 hP4 hc4 hq hql hsp hsq hs1 hs2 huq hl8
        go_enter Tryz.func25, Tryz.ntmps25
        go_wp2_with fail
        (with_reducible refine HUW.out.mono ?_); rintro e w2 ⟨rfl, m, rfl⟩
        have HCL := Lib.hid (Join_sl (c := c8) (base := (w.drewN m).heap.size) (va := .slice none 0 0) (xs := []) (w := w.drewN m) Own.nil (HSP.out.drewN m) (Below.refl _ _) (Nat.le_refl _) (Nat.le_refl _) (by have := HPL.out; simp; omega))
        go_wp2_with fail
        (with_reducible refine HCL.out.mono ?_); rintro e w3 ⟨v3, rfl, ho3, hb3⟩
        rw [List.nil_append] at ho3
        obtain ⟨A3, c3, rfl⟩ := ho3.form
        have HB3 : Hid (Below w.heap.size w w3) := Lib.hid ((below_drewN (Below.refl _ _) m).trans hb3)
        have HO3 : Hid (Own fB w.heap.size 5 w3 (.slice A3 p.length c3) p) := Lib.hid ho3
        have hs3 := HO3.out.sl.2
        have hq3 := HSQ.out.below HB3.out
        clear ho3 hb3 HCL
        by_cases h5 : s1 = s2
        · have H5 := Lib.hid h5
          have t5 : ((s1 : Int) == (s2 : Int)) = true := by rw [beq_iff_eq]; omega
          clear h5
          go_wp2_with fail
          go_quiet (first | (go_at_call 59; exact HQ1.out _ _ _ _ hs3) | (go_at_call 57; exact HQ2.out _ _ hq3))
          go_wp2_with fail
          refine bodyPost_ret (v := .tuple #[.slice A3 p.length c3, .int .i64 (v : Int), .int .i64 0]) (by simp [results, Tryz.results25, go_sem]) rfl ?_
          rw [HRES.out, if_pos H5.out]
          exact ⟨A3, c3, by rw [HV.out], HO3.out, below_drewN HB3.out _⟩
        · have H5 := Lib.hid h5
          have t5 : ((s1 : Int) == (s2 : Int)) = false := by rw [beq_eq_false_iff_ne]; omega
          clear h5
          go_wp2_with fail
          go_quiet (first | (go_at_call 59; exact HQ1.out _ _ _ _ hs3) | (go_at_call 57; exact HQ2.out _ _ hq3))
          go_wp2_with fail
          refine bodyPost_ret (v := .tuple #[.slice none 0 0, .int .i64 0, .int .i64 32]) (by simp [results, Tryz.results25, go_sem]) rfl ?_
          rw [HRES.out, if_neg H5.out]
          exact UfPost.no (below_drewN HB3.out _)
end Go.Proofs.YtfpomllhkbbipaaGreat
