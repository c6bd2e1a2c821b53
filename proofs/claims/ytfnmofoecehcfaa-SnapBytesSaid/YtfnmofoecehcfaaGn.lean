/- Layer 3: the document's GetNum. -/
import Derived.Test.YtfnmofoecehcfaaPkX
import Derived.Test.YtfnmofoecehcfaaPkN
import Derived.BigQuiet
namespace Go.Proofs.Ytfnmofoecehcfaa
open Go.RowKit Go.Maps Go.Lib Mem Pk

def numV (n : Int) (k : Nat) : Value := .tuple #[.int .i64 n, .int .i64 (k : Int)]
def GnPost (bs : List UInt8) (w : World) (e : Ending) (w' : World) : Prop :=
  (∀ n k, getNum bs = some (n, k) → e = .returned (numV n k)) ∧ (getNum bs = none → e = .returned (numV 0 0)) ∧ w = w'
theorem GnPost.no {bs : List UInt8} {w : World} {e : Ending} (h : getNum bs = none) (he : e = .returned (numV 0 0)) : GnPost bs w e w :=
  ⟨(fun n k hs => by rw [h] at hs; cases hs), fun _ => he, rfl⟩
theorem GnPost.yes {bs : List UInt8} {w : World} {e : Ending} {n : Int} {k : Nat} (h : getNum bs = some (n, k)) (he : e = .returned (numV n k)) : GnPost bs w e w :=
  ⟨(fun n' k' hs => by rw [h] at hs; injection hs with hs; injection hs with h1 h2; subst h1; subst h2; exact he), (fun hn => by rw [h] at hn; cases hn), rfl⟩
def GnRel (bs : List UInt8) (w : World) (uv iv : Value) (wr : World) : Prop :=
  ∃ i u : Nat, i ≤ 9 ∧ i ≤ bs.length ∧ uv = .int .u64 u ∧ iv = .int .i64 (i : Int) ∧ u < 128 ^ i ∧ getNum bs = gnGo i u (bs.drop i) ∧ w = wr
def GnIn (q i : Nat) (w : World) (pv kv : Value) (wr : World) : Prop := ∃ k p : Nat, k ≤ i ∧ p = q * 128 ^ k ∧ pv = .int .u64 (p : Int) ∧ kv = .int .i64 (k : Int) ∧ w = wr
theorem odd_num {v : Nat} (h : v < 18446744073709551616) (ho : v % 2 = 1) : unzig v = -((v / 2 : Nat) : Int) - 1 := by unfold unzig; rw [if_pos ho]
theorem even_num {v : Nat} (ho : ¬ v % 2 = 1) : unzig v = ((v / 2 : Nat) : Int) := by unfold unzig; rw [if_neg ho]
set_option maxRecDepth 100000 in
set_option maxHeartbeats 4000000 in
theorem RGetNum_any {w : World} {A : Option Addr} {c : Nat} {bs : List UInt8} (h : Sl fB w A bs) :
    Calls Try.prog 30 #[.slice A bs.length c] w (GnPost bs w) := by
  have hl := h.len
  have H := Lib.hid h; clear h
  go_enter Try.func30, Try.ntmps30
  go_wp2_with fail
  go_loopw [4, 5] (fun uv iv wr => GnRel bs w uv iv wr) (fun _ iv _ => 10 - (intOf iv).toNat)
  case atStart => exact ⟨0, 0, Nat.zero_le _, Nat.zero_le _, rfl, rfl, by decide, rfl, rfl⟩
  case round =>
    obtain ⟨i, u, hi, hil, rfl, rfl, hu, hgn, rfl⟩ := hrel
    have HU := Lib.hid hu; clear hu
    have HGN := Lib.hid hgn; clear hgn
    have ti : ((i : Int) < 10) := by omega
    by_cases hlt : i < bs.length
    · obtain ⟨b, hb⟩ : ∃ b, b = bs[i] := ⟨_, rfl⟩
      have hdr : bs.drop i = b :: bs.drop (i + 1) := by rw [hb]; exact List.drop_eq_getElem_cons hlt
      rw [hdr] at HGN
      obtain ⟨b2, o2, rfl, _, hcA⟩ := H.out.at hlt
      have hcB := hcA i hlt
      rw [← hb] at hcB
      obtain ⟨n, hn⟩ : ∃ n, n = b.toNat := ⟨_, rfl⟩
      have hc2 : w.cell? ⟨b2, o2 + i, none⟩ = some (.int .u8 (n : Int)) := by rw [hn]; exact hcB
      have hn256 : n < 256 := by rw [hn]; exact b.toNat_lt
      have HN := Lib.hid hn; clear hn
      clear hcA hcB hb hdr
      have ti2 : (i : Int) < (bs.length : Int) := by omega
      have ti0 : (0 : Int) ≤ (i : Int) := by omega
      by_cases hbad : (i = 9 ∧ 1 < n) ∨ (0 < i ∧ n = 0)
      · have HBAD := Lib.hid (gnGo_bad (u := u) (r := bs.drop (i + 1)) (show (i = 9 ∧ 1 < b.toNat) ∨ (0 < i ∧ b.toNat = 0) by rw [← HN.out]; exact hbad))
        by_cases h9 : i = 9
        · have t1 : ((i : Int) == 9) = true := by rw [beq_iff_eq]; omega
          by_cases h1 : 1 < n
          · have t2 : ((1 : Int) < (n : Int)) := by omega
            clear h9 hbad
            go_wp2_with fail
            refine bodyPost_ret (v := .tuple #[.int .i64 0, .int .i64 0]) (by simp [results, Try.results30, go_sem]) rfl ?_
            exact GnPost.no (HGN.out.trans HBAD.out) rfl
          · have t2 : ¬ ((1 : Int) < (n : Int)) := by omega
            have t3 : ((0 : Int) < (i : Int)) := by omega
            have t4 : ((n : Int) == 0) = true := by rw [beq_iff_eq]; omega
            clear h9 hbad
            go_wp2_with fail
            refine bodyPost_ret (v := .tuple #[.int .i64 0, .int .i64 0]) (by simp [results, Try.results30, go_sem]) rfl ?_
            exact GnPost.no (HGN.out.trans HBAD.out) rfl
        · have t1 : ((i : Int) == 9) = false := by rw [beq_eq_false_iff_ne]; omega
          have t3 : ((0 : Int) < (i : Int)) := by omega
          have t4 : ((n : Int) == 0) = true := by rw [beq_iff_eq]; omega
          clear h9 hbad
          go_wp2_with fail
          refine bodyPost_ret (v := .tuple #[.int .i64 0, .int .i64 0]) (by simp [results, Try.results30, go_sem]) rfl ?_
          exact GnPost.no (HGN.out.trans HBAD.out) rfl
      · have hnb : ¬ ((i = 9 ∧ 1 < b.toNat) ∨ (0 < i ∧ b.toNat = 0)) := by rw [← HN.out]; exact hbad
        have HNB := Lib.hid hnb; clear hnb
        have hv : u + n % 128 * 128 ^ i < 18446744073709551616 := num_fits HU.out hi hbad
        obtain ⟨q, hq⟩ : ∃ q, q = n % 128 := ⟨_, rfl⟩
        have hq1 : (n : Int) % 128 = (q : Int) := by omega
        have hq2 : IntKind.u64.wrap (q : Int) = (q : Int) := by rw [IntKind.wrap_u64]; omega
        rw [← hq] at hv
        have HQ := Lib.hid hq; clear hq
        have HV := Lib.hid hv; clear hv
        have HB := Lib.hid hbad; clear hbad
        rcases (show i = 9 ∨ i = 0 ∨ (i ≠ 9 ∧ 0 < i) by omega) with h9 | h9 | h9
        · have t1 : ((i : Int) == 9) = true := by rw [beq_iff_eq]; omega
          have t2 : ¬ ((1 : Int) < (n : Int)) := by have := HB.out; omega
          have t3 : ((0 : Int) < (i : Int)) := by omega
          have t4 : ((n : Int) == 0) = false := by rw [beq_eq_false_iff_ne]; have := HB.out; omega
          clear h9
          go_wp2_with fail
          clear hq1 hq2
          go_loopw [6, 7] (fun pv kv wx => GnIn q i w pv kv wx) (fun _ kv _ => i - (intOf kv).toNat)
          case atStart => exact ⟨0, q, Nat.zero_le _, by rw [Nat.pow_zero, Nat.mul_one], rfl, rfl, rfl⟩
          case round =>
            obtain ⟨k, p, hk, hp, rfl, rfl, rfl⟩ := hrel
            by_cases hki : k < i
            · have t5 : (k : Int) < (i : Int) := by omega
              have hp2 : p * 128 = q * 128 ^ (k + 1) := by rw [hp, pow_step, Nat.mul_assoc]
              have hle : q * 128 ^ (k + 1) ≤ q * 128 ^ i := Nat.mul_le_mul_left _ (Nat.pow_le_pow_right (by omega) (by omega))
              have e8 : IntKind.u64.wrap ((p : Int) * 128) = ((p * 128 : Nat) : Int) := by rw [IntKind.wrap_u64]; have := HV.out; omega
              have HP2 := Lib.hid hp2; clear hp2 hle hp
              go_wp2_with fail
              go_roundw
              case rel => exact ⟨k + 1, p * 128, by omega, HP2.out, rfl, by go_num, rfl⟩
              case measure => simp [intOf]; omega
            · have hke : k = i := by omega
              subst hke
              obtain ⟨v, hv⟩ : ∃ v, v = u + p := ⟨_, rfl⟩
              have hvv : v = u + n % 128 * 128 ^ k := by rw [hv, hp, HQ.out]
              have hv64 : v < 18446744073709551616 := by rw [hv, hp]; exact HV.out
              have e9 : IntKind.u64.wrap ((u : Int) + (p : Int)) = (v : Int) := by rw [IntKind.wrap_u64]; omega
              have HVV := Lib.hid hvv; clear hvv hp hv
              obtain ⟨m, hm⟩ : ∃ m, m = v / 2 := ⟨_, rfl⟩
              have f1 : (v : Int) / 2 = (m : Int) := by omega
              have f2 : IntKind.u64.wrap (m : Int) = (m : Int) := by rw [IntKind.wrap_u64]; omega
              have f3 : IntKind.i64.wrap (m : Int) = (m : Int) := by rw [IntKind.wrap_i64]; omega
              have f4 : IntKind.i64.wrap (-(m : Int)) = -(m : Int) := by rw [IntKind.wrap_i64]; omega
              have f5 : IntKind.i64.wrap (-(m : Int) - 1) = -(m : Int) - 1 := by rw [IntKind.wrap_i64]; omega
              have HM := Lib.hid hm; clear hm
              by_cases h128 : n < 128
              · have t6 : (n : Int) < 128 := by omega
                have HEND := Lib.hid (HGN.out.trans (gnGo_end (u := u) (r := bs.drop (k + 1)) HNB.out (by rw [← HN.out]; exact h128)))
                by_cases hodd : v % 2 = 1
                · have f6 : ((v : Int) % 2 == 1) = true := by rw [beq_iff_eq]; omega
                  have HU2 := Lib.hid (odd_num hv64 hodd); clear hodd hv64
                  go_wp2_with fail
                  refine bodyPost_ret (v := (.tuple #[.int .i64 (-(m : Int) - 1), .int .i64 ((k + 1 : Nat) : Int)])) (by simp [results, Try.results30, go_sem]) rfl ?_
                  refine GnPost.yes HEND.out ?_
                  rw [← HN.out, ← HVV.out, HU2.out, ← HM.out]
                  rfl
                · have f6 : ((v : Int) % 2 == 1) = false := by rw [beq_eq_false_iff_ne]; omega
                  have HU2 := Lib.hid (even_num hodd); clear hodd hv64
                  go_wp2_with fail
                  refine bodyPost_ret (v := (.tuple #[.int .i64 (m : Int), .int .i64 ((k + 1 : Nat) : Int)])) (by simp [results, Try.results30, go_sem]) rfl ?_
                  refine GnPost.yes HEND.out ?_
                  rw [← HN.out, ← HVV.out, HU2.out, ← HM.out]
                  rfl
              · have t6 : ¬ (n : Int) < 128 := by omega
                have HON := Lib.hid (HGN.out.trans (gnGo_on (u := u) (r := bs.drop (k + 1)) HNB.out (by rw [← HN.out]; exact h128)))
                have hi8 : k ≠ 9 := by intro e; have := HNB.out; rw [← HN.out] at this; omega
                clear f1 f2 f3 f4 f5 hv64
                go_wp2_with fail
                go_roundw
                case rel => exact ⟨k + 1, v, by omega, by omega, rfl, by go_num, by rw [HVV.out]; exact num_pow HU.out, by rw [HVV.out, HN.out]; exact HON.out, rfl⟩
                case measure => simp [intOf]; omega
        · have t1 : ((i : Int) == 9) = false := by rw [beq_eq_false_iff_ne]; omega
          have t3 : ¬ ((0 : Int) < (i : Int)) := by omega
          clear h9
          go_wp2_with fail
          clear hq1 hq2
          go_loopw [6, 7] (fun pv kv wx => GnIn q i w pv kv wx) (fun _ kv _ => i - (intOf kv).toNat)
          case atStart => exact ⟨0, q, Nat.zero_le _, by rw [Nat.pow_zero, Nat.mul_one], rfl, rfl, rfl⟩
          case round =>
            obtain ⟨k, p, hk, hp, rfl, rfl, rfl⟩ := hrel
            by_cases hki : k < i
            · have t5 : (k : Int) < (i : Int) := by omega
              have hp2 : p * 128 = q * 128 ^ (k + 1) := by rw [hp, pow_step, Nat.mul_assoc]
              have hle : q * 128 ^ (k + 1) ≤ q * 128 ^ i := Nat.mul_le_mul_left _ (Nat.pow_le_pow_right (by omega) (by omega))
              have e8 : IntKind.u64.wrap ((p : Int) * 128) = ((p * 128 : Nat) : Int) := by rw [IntKind.wrap_u64]; have := HV.out; omega
              have HP2 := Lib.hid hp2; clear hp2 hle hp
              go_wp2_with fail
              go_roundw
              case rel => exact ⟨k + 1, p * 128, by omega, HP2.out, rfl, by go_num, rfl⟩
              case measure => simp [intOf]; omega
            · have hke : k = i := by omega
              subst hke
              obtain ⟨v, hv⟩ : ∃ v, v = u + p := ⟨_, rfl⟩
              have hvv : v = u + n % 128 * 128 ^ k := by rw [hv, hp, HQ.out]
              have hv64 : v < 18446744073709551616 := by rw [hv, hp]; exact HV.out
              have e9 : IntKind.u64.wrap ((u : Int) + (p : Int)) = (v : Int) := by rw [IntKind.wrap_u64]; omega
              have HVV := Lib.hid hvv; clear hvv hp hv
              obtain ⟨m, hm⟩ : ∃ m, m = v / 2 := ⟨_, rfl⟩
              have f1 : (v : Int) / 2 = (m : Int) := by omega
              have f2 : IntKind.u64.wrap (m : Int) = (m : Int) := by rw [IntKind.wrap_u64]; omega
              have f3 : IntKind.i64.wrap (m : Int) = (m : Int) := by rw [IntKind.wrap_i64]; omega
              have f4 : IntKind.i64.wrap (-(m : Int)) = -(m : Int) := by rw [IntKind.wrap_i64]; omega
              have f5 : IntKind.i64.wrap (-(m : Int) - 1) = -(m : Int) - 1 := by rw [IntKind.wrap_i64]; omega
              have HM := Lib.hid hm; clear hm
              by_cases h128 : n < 128
              · have t6 : (n : Int) < 128 := by omega
                have HEND := Lib.hid (HGN.out.trans (gnGo_end (u := u) (r := bs.drop (k + 1)) HNB.out (by rw [← HN.out]; exact h128)))
                by_cases hodd : v % 2 = 1
                · have f6 : ((v : Int) % 2 == 1) = true := by rw [beq_iff_eq]; omega
                  have HU2 := Lib.hid (odd_num hv64 hodd); clear hodd hv64
                  go_wp2_with fail
                  refine bodyPost_ret (v := (.tuple #[.int .i64 (-(m : Int) - 1), .int .i64 ((k + 1 : Nat) : Int)])) (by simp [results, Try.results30, go_sem]) rfl ?_
                  refine GnPost.yes HEND.out ?_
                  rw [← HN.out, ← HVV.out, HU2.out, ← HM.out]
                  rfl
                · have f6 : ((v : Int) % 2 == 1) = false := by rw [beq_eq_false_iff_ne]; omega
                  have HU2 := Lib.hid (even_num hodd); clear hodd hv64
                  go_wp2_with fail
                  refine bodyPost_ret (v := (.tuple #[.int .i64 (m : Int), .int .i64 ((k + 1 : Nat) : Int)])) (by simp [results, Try.results30, go_sem]) rfl ?_
                  refine GnPost.yes HEND.out ?_
                  rw [← HN.out, ← HVV.out, HU2.out, ← HM.out]
                  rfl
              · have t6 : ¬ (n : Int) < 128 := by omega
                have HON := Lib.hid (HGN.out.trans (gnGo_on (u := u) (r := bs.drop (k + 1)) HNB.out (by rw [← HN.out]; exact h128)))
                have hi8 : k ≠ 9 := by intro e; have := HNB.out; rw [← HN.out] at this; omega
                clear f1 f2 f3 f4 f5 hv64
                go_wp2_with fail
                go_roundw
                case rel => exact ⟨k + 1, v, by omega, by omega, rfl, by go_num, by rw [HVV.out]; exact num_pow HU.out, by rw [HVV.out, HN.out]; exact HON.out, rfl⟩
                case measure => simp [intOf]; omega
        · have t1 : ((i : Int) == 9) = false := by rw [beq_eq_false_iff_ne]; omega
          have t3 : ((0 : Int) < (i : Int)) := by omega
          have t4 : ((n : Int) == 0) = false := by rw [beq_eq_false_iff_ne]; have := HB.out; omega
          clear h9
          go_wp2_with fail
          clear hq1 hq2
          go_loopw [6, 7] (fun pv kv wx => GnIn q i w pv kv wx) (fun _ kv _ => i - (intOf kv).toNat)
          case atStart => exact ⟨0, q, Nat.zero_le _, by rw [Nat.pow_zero, Nat.mul_one], rfl, rfl, rfl⟩
          case round =>
            obtain ⟨k, p, hk, hp, rfl, rfl, rfl⟩ := hrel
            by_cases hki : k < i
            · have t5 : (k : Int) < (i : Int) := by omega
              have hp2 : p * 128 = q * 128 ^ (k + 1) := by rw [hp, pow_step, Nat.mul_assoc]
              have hle : q * 128 ^ (k + 1) ≤ q * 128 ^ i := Nat.mul_le_mul_left _ (Nat.pow_le_pow_right (by omega) (by omega))
              have e8 : IntKind.u64.wrap ((p : Int) * 128) = ((p * 128 : Nat) : Int) := by rw [IntKind.wrap_u64]; have := HV.out; omega
              have HP2 := Lib.hid hp2; clear hp2 hle hp
              go_wp2_with fail
              go_roundw
              case rel => exact ⟨k + 1, p * 128, by omega, HP2.out, rfl, by go_num, rfl⟩
              case measure => simp [intOf]; omega
            · have hke : k = i := by omega
              subst hke
              obtain ⟨v, hv⟩ : ∃ v, v = u + p := ⟨_, rfl⟩
              have hvv : v = u + n % 128 * 128 ^ k := by rw [hv, hp, HQ.out]
              have hv64 : v < 18446744073709551616 := by rw [hv, hp]; exact HV.out
              have e9 : IntKind.u64.wrap ((u : Int) + (p : Int)) = (v : Int) := by rw [IntKind.wrap_u64]; omega
              have HVV := Lib.hid hvv; clear hvv hp hv
              obtain ⟨m, hm⟩ : ∃ m, m = v / 2 := ⟨_, rfl⟩
              have f1 : (v : Int) / 2 = (m : Int) := by omega
              have f2 : IntKind.u64.wrap (m : Int) = (m : Int) := by rw [IntKind.wrap_u64]; omega
              have f3 : IntKind.i64.wrap (m : Int) = (m : Int) := by rw [IntKind.wrap_i64]; omega
              have f4 : IntKind.i64.wrap (-(m : Int)) = -(m : Int) := by rw [IntKind.wrap_i64]; omega
              have f5 : IntKind.i64.wrap (-(m : Int) - 1) = -(m : Int) - 1 := by rw [IntKind.wrap_i64]; omega
              have HM := Lib.hid hm; clear hm
              by_cases h128 : n < 128
              · have t6 : (n : Int) < 128 := by omega
                have HEND := Lib.hid (HGN.out.trans (gnGo_end (u := u) (r := bs.drop (k + 1)) HNB.out (by rw [← HN.out]; exact h128)))
                by_cases hodd : v % 2 = 1
                · have f6 : ((v : Int) % 2 == 1) = true := by rw [beq_iff_eq]; omega
                  have HU2 := Lib.hid (odd_num hv64 hodd); clear hodd hv64
                  go_wp2_with fail
                  refine bodyPost_ret (v := (.tuple #[.int .i64 (-(m : Int) - 1), .int .i64 ((k + 1 : Nat) : Int)])) (by simp [results, Try.results30, go_sem]) rfl ?_
                  refine GnPost.yes HEND.out ?_
                  rw [← HN.out, ← HVV.out, HU2.out, ← HM.out]
                  rfl
                · have f6 : ((v : Int) % 2 == 1) = false := by rw [beq_eq_false_iff_ne]; omega
                  have HU2 := Lib.hid (even_num hodd); clear hodd hv64
                  go_wp2_with fail
                  refine bodyPost_ret (v := (.tuple #[.int .i64 (m : Int), .int .i64 ((k + 1 : Nat) : Int)])) (by simp [results, Try.results30, go_sem]) rfl ?_
                  refine GnPost.yes HEND.out ?_
                  rw [← HN.out, ← HVV.out, HU2.out, ← HM.out]
                  rfl
              · have t6 : ¬ (n : Int) < 128 := by omega
                have HON := Lib.hid (HGN.out.trans (gnGo_on (u := u) (r := bs.drop (k + 1)) HNB.out (by rw [← HN.out]; exact h128)))
                have hi8 : k ≠ 9 := by intro e; have := HNB.out; rw [← HN.out] at this; omega
                clear f1 f2 f3 f4 f5 hv64
                go_wp2_with fail
                go_roundw
                case rel => exact ⟨k + 1, v, by omega, by omega, rfl, by go_num, by rw [HVV.out]; exact num_pow HU.out, by rw [HVV.out, HN.out]; exact HON.out, rfl⟩
                case measure => simp [intOf]; omega
    · have hdr : bs.drop i = [] := List.drop_of_length_le (by omega)
      rw [hdr] at HGN
      have ti2 : ¬ (i : Int) < (bs.length : Int) := by omega
      go_wp2_with fail
      refine bodyPost_ret (v := .tuple #[.int .i64 0, .int .i64 0]) (by simp [results, Try.results30, go_sem]) rfl ?_
      exact GnPost.no (HGN.out.trans (gnGo_nil _ _)) rfl
end Go.Proofs.Ytfnmofoecehcfaa
