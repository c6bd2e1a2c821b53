/- Layer 3: sums, words: both sides. -/
import Derived.Test.YtfpomllhkbbipaaGreatByt
import Derived.Test.YtfpomllhkbbipaaGreatSumL
import Derived.BigQuiet
namespace Go.Proofs.YtfpomllhkbbipaaGreat
open Go Go.RowKit Go.Maps Go.Lib Mem Pk

def sum0 : Nat := 4294967295
def SmRel (bs : List UInt8) (w : World) (sv iv : Value) (wr : World) : Prop := ∃ k s : Nat, k ≤ bs.length ∧ s = sumS (bs.take k) sum0 ∧ s < 2 ^ 32 ∧ sv = .int .u32 (s : Int) ∧ iv = .int .i64 (k : Int) ∧ w = wr
def SmIn (x : Nat) (w : World) (sv iv : Value) (wr : World) : Prop := ∃ j s : Nat, j ≤ 8 ∧ s = crcN j x ∧ s < 2 ^ 32 ∧ sv = .int .u32 (s : Int) ∧ iv = .int .i64 (j : Int) ∧ w = wr
theorem sumS_snoc {bs : List UInt8} {k : Nat} (h : k < bs.length) (s : Nat) : sumS (bs.take (k + 1)) s = crcB (sumS (bs.take k) s) bs[k].toNat := by
  rw [List.take_succ_eq_append_getElem h, sumS_append]; rfl
/-- what the program's line does -/
structure CrcLine (s : Nat) (b m q h z : Nat) : Prop where
  r1 : bits BinOp.and IntKind.u32 (s : Int) 1 = (b : Int)
  r2 : IntKind.u32.wrap (-(b : Int)) = (m : Int)
  r3 : bits BinOp.and IntKind.u32 2197175160 (m : Int) = (q : Int)
  r4 : (s : Int) / 2 = (h : Int)
  r5 : bits BinOp.xor IntKind.u32 (h : Int) (q : Int) = (z : Int)
theorem crc_line {s : Nat} (hs : s < 2 ^ 32) : ∃ b m q h, CrcLine s b m q h (crcS s) := by
  have hs' : s < 4294967296 := hs
  have h1 : bits BinOp.and IntKind.u32 (s : Int) 1 = ((s % 2 : Nat) : Int) := by
    have h := u32_and_nat s 1 hs' (by decide)
    rw [nat_mask1] at h; exact h
  have h4 : (s : Int) / 2 = ((s / 2 : Nat) : Int) := by omega
  unfold crcS
  by_cases hb : s % 2 = 1
  · rw [if_pos hb]
    refine ⟨1, 4294967295, 2197175160, s / 2, by rw [h1, hb], by rw [IntKind.wrap_u32]; rfl, ?_, h4, u32_xor_nat _ _ (by omega) (by decide)⟩
    have h := u32_and_nat 2197175160 4294967295 (by decide) (by decide)
    rw [show 2197175160 &&& 4294967295 = 2197175160 by decide] at h; exact h
  · rw [if_neg hb]
    refine ⟨0, 0, 0, s / 2, by rw [h1, show s % 2 = 0 by omega], by rw [IntKind.wrap_u32]; rfl, ?_, h4, ?_⟩
    · have h := u32_and_nat 2197175160 0 (by decide) (by decide)
      rw [Nat.and_zero] at h; exact h
    · have h := u32_xor_nat (s / 2) 0 (by omega) (by decide)
      rw [Nat.xor_zero] at h; exact h
theorem u32_not {s : Nat} (h : s < 2 ^ 32) : bits BinOp.xor IntKind.u32 IntKind.u32.max (s : Int) = ((4294967295 - s : Nat) : Int) := by
  have h' : s < 4294967296 := h
  show IntKind.u32.wrap ((BitVec.ofInt 32 4294967295 ^^^ BitVec.ofInt 32 (s : Int)).toNat : Int) = _
  have h0 : BitVec.ofInt 32 4294967295 = BitVec.allOnes 32 := by decide
  rw [h0, BitVec.xor_comm, BitVec.xor_allOnes, BitVec.toNat_not, ofInt_u32 s h', IntKind.wrap_u32]; omega
def NumIs (v : Value) (w : World) (e : Ending) (w' : World) : Prop := e = .returned v ∧ w = w'
set_option maxRecDepth 100000 in
set_option maxHeartbeats 4000000 in
theorem Sum_any {w : World} {A : Option Addr} {c : Nat} {bs : List UInt8} (h : Sl fB w A bs) :
    Calls Tryz.prog 64 #[.slice A bs.length c] w (NumIs (.int .u32 (sumN bs)) w) := by
  have hl := h.len
  have H := Lib.hid h; clear h
  go_enter Tryz.func64, Tryz.ntmps64
  go_wp2_with fail
  go_loopw [3, 8] (fun sv iv wr => SmRel bs w sv iv wr) (fun _ iv _ => bs.length - (intOf iv).toNat)
  case atStart => exact ⟨0, sum0, Nat.zero_le _, rfl, by decide, rfl, rfl, rfl⟩
  case round =>
    obtain ⟨k, s, hk, hs, hs32, rfl, rfl, rfl⟩ := hrel
    have HS := Lib.hid hs; clear hs
    have HS32 := Lib.hid hs32; clear hs32
    by_cases hlt : k < bs.length
    · obtain ⟨b0, o0, rfl, _, hcl⟩ := H.out.at hlt
      have c1 := hcl k hlt
      obtain ⟨n, hn⟩ : ∃ n, n = bs[k].toNat := ⟨_, rfl⟩
      have c2 : w.cell? ⟨b0, o0 + k, none⟩ = some (.int .u8 (n : Int)) := by rw [hn]; exact c1
      have hn256 : n < 256 := by rw [hn]; exact (bs[k]).toNat_lt
      have HN := Lib.hid hn; clear hn
      have tk0 : (0 : Int) ≤ (k : Int) := by omega
      have tk1 : (k : Int) < (bs.length : Int) := by omega
      have e1 : IntKind.u32.wrap (n : Int) = (n : Int) := by rw [IntKind.wrap_u32]; omega
      obtain ⟨x, hx⟩ : ∃ x, x = s ^^^ n := ⟨_, rfl⟩
      have e2 : bits BinOp.xor IntKind.u32 (s : Int) (n : Int) = (x : Int) := by rw [hx]; exact u32_xor_nat _ _ HS32.out (by omega)
      have HX32 : Hid (x < 2 ^ 32) := Lib.hid (by rw [hx]; exact Nat.xor_lt_two_pow HS32.out (by omega))
      have HX := Lib.hid hx; clear hx hcl c1
      go_wp2_with fail
      clear e1 e2 c2
      go_loopw [3, 16] (fun sv iv wx => SmIn x w sv iv wx) (fun _ iv _ => 8 - (intOf iv).toNat)
      case atStart => exact ⟨0, x, by omega, rfl, HX32.out, rfl, rfl, rfl⟩
      case round =>
        obtain ⟨j, y, hj, hy, hy32, rfl, rfl, rfl⟩ := hrel
        have HY := Lib.hid hy; clear hy
        have HY32 := Lib.hid hy32; clear hy32
        by_cases hj8 : j < 8
        · have tj : (j : Int) < 8 := by omega
          obtain ⟨b, m, q, h, hc⟩ := crc_line HY32.out
          obtain ⟨z, hz⟩ : ∃ z, z = crcS y := ⟨_, rfl⟩
          rw [← hz] at hc
          obtain ⟨r1, r2, r3, r4, r5⟩ := hc
          have HZ : Hid (z = crcN (j + 1) x) := Lib.hid (by rw [hz, HY.out]; rfl)
          have HZ32 : Hid (z < 2 ^ 32) := Lib.hid (by rw [hz]; exact crcS_lt HY32.out)
          clear hz
          go_wp2_with fail
          go_roundw
          case rel => exact ⟨j + 1, z, by omega, HZ.out, HZ32.out, rfl, by go_num, rfl⟩
          case measure => simp [intOf]; omega
        · have hj9 : j = 8 := by omega
          subst hj9
          have hs' : y = sumS (bs.take (k + 1)) sum0 := by rw [HY.out, HX.out, sumS_snoc hlt, ← HS.out, ← HN.out]; rfl
          have HS' := Lib.hid hs'; clear hs'
          go_wp2_with fail
          go_roundw
          case rel => exact ⟨k + 1, y, by omega, HS'.out, HY32.out, rfl, by go_num, rfl⟩
          case measure => simp [intOf]; omega
    · have hke : k = bs.length := by omega
      subst hke
      have tk1 : ¬ (bs.length : Int) < (bs.length : Int) := by omega
      rw [List.take_length] at HS
      have hnot := u32_not HS32.out
      go_wp2_with fail
      go_ret
      exact ⟨by unfold sumN; rw [HS.out]; rfl, rfl⟩
def SdIn (n s0 : Nat) (w : World) (sv iv : Value) (wr : World) : Prop := ∃ j s : Nat, j ≤ 8 ∧ s = crcE n j s0 ∧ s < 2 ^ 32 ∧ sv = .int .u32 (s : Int) ∧ iv = .int .i64 (j : Int) ∧ w = wr
set_option maxRecDepth 100000 in
set_option maxHeartbeats 4000000 in
theorem RSum_any {w : World} {A : Option Addr} {c : Nat} {bs : List UInt8} (h : Sl fB w A bs) :
    Calls Tryz.prog 59 #[.slice A bs.length c] w (NumIs (.int .u32 (sumN bs)) w) := by
  have hl := h.len
  have H := Lib.hid h; clear h
  go_enter Tryz.func59, Tryz.ntmps59
  go_wp2_with fail
  go_loopw [3, 4] (fun sv iv wr => SmRel bs w sv iv wr) (fun _ iv _ => bs.length - (intOf iv).toNat)
  case atStart => exact ⟨0, sum0, Nat.zero_le _, rfl, by decide, rfl, rfl, rfl⟩
  case round =>
    obtain ⟨k, s, hk, hs, hs32, rfl, rfl, rfl⟩ := hrel
    have HS := Lib.hid hs; clear hs
    have HS32 := Lib.hid hs32; clear hs32
    by_cases hlt : k < bs.length
    · obtain ⟨b0, o0, rfl, _, hcl⟩ := H.out.at hlt
      have c1 := hcl k hlt
      obtain ⟨n, hn⟩ : ∃ n, n = bs[k].toNat := ⟨_, rfl⟩
      have c2 : w.cell? ⟨b0, o0 + k, none⟩ = some (.int .u8 (n : Int)) := by rw [hn]; exact c1
      have hn256 : n < 256 := by rw [hn]; exact (bs[k]).toNat_lt
      have HN := Lib.hid hn; clear hn
      have tk0 : (0 : Int) ≤ (k : Int) := by omega
      have tk1 : (k : Int) < (bs.length : Int) := by omega
      clear hcl c1
      go_wp2_with fail
      go_loopw [3, 5] (fun sv iv wx => SdIn n s w sv iv wx) (fun _ iv _ => 8 - (intOf iv).toNat)
      case atStart => exact ⟨0, s, by omega, rfl, HS32.out, rfl, rfl, rfl⟩
      case round =>
        obtain ⟨j, y, hj, hy, hy32, rfl, rfl, rfl⟩ := hrel
        have HY := Lib.hid hy; clear hy
        have HY32 := Lib.hid hy32; clear hy32
        by_cases hj8 : j < 8
        · have tj : (j : Int) < 8 := by omega
          have tj0 : (0 : Int) ≤ (j : Int) := by omega
          obtain ⟨g, hg⟩ : ∃ g, g = n / 2 ^ j := ⟨_, rfl⟩
          have hg256 : g < 256 := by rw [hg]; exact Nat.lt_of_le_of_lt (Nat.div_le_self _ _) hn256
          have e3 : (n : Int) / 2 ^ j = (g : Int) := by rw [hg]; simp
          have e4 : IntKind.u32.wrap (g : Int) = (g : Int) := by rw [IntKind.wrap_u32]; omega
          obtain ⟨p, hp⟩ : ∃ p, p = g % 2 := ⟨_, rfl⟩
          obtain ⟨q, hq⟩ : ∃ q, q = y % 2 := ⟨_, rfl⟩
          obtain ⟨h2, hh⟩ : ∃ h, h = y / 2 := ⟨_, rfl⟩
          have e5 : (g : Int) % 2 = (p : Int) := by omega
          have e6 : (y : Int) % 2 = (q : Int) := by omega
          have e7 : (y : Int) / 2 = (h2 : Int) := by omega
          have e7b : (h2 : Int) % 4294967296 = (h2 : Int) := by have : y < 4294967296 := HY32.out; omega
          have hh32 : h2 < 4294967296 := by have : y < 4294967296 := HY32.out; omega
          obtain ⟨x, hx⟩ : ∃ x, x = h2 ^^^ 2197175160 := ⟨_, rfl⟩
          have e8 : bits BinOp.xor IntKind.u32 (h2 : Int) 2197175160 = (x : Int) := by rw [hx]; exact u32_xor_nat h2 2197175160 hh32 (by decide)
          have HE : Hid (crcE n (j + 1) s = if q ≠ p then x else h2) := Lib.hid (by
            show crcD n j (crcE n j s) = _
            rw [← HY.out, hx, hq, hp, hh, hg]; rfl)
          have HX32 : Hid (x < 2 ^ 32 ∧ h2 < 2 ^ 32) := Lib.hid ⟨by rw [hx]; exact Nat.xor_lt_two_pow (n := 32) hh32 (by decide), hh32⟩
          clear hg hp hq hh hx hh32
          by_cases hpq : q = p
          · have t1 : ((q : Int) == (p : Int)) = true := by rw [beq_iff_eq]; omega
            have HP := Lib.hid hpq; clear hpq
            go_wp2_with fail
            go_roundw
            case rel => exact ⟨j + 1, h2, by omega, by rw [HE.out, if_neg (fun h => h HP.out)], HX32.out.2, rfl, by go_num, rfl⟩
            case measure => simp [intOf]; omega
          · have t1 : ((q : Int) == (p : Int)) = false := by rw [beq_eq_false_iff_ne]; omega
            have HP := Lib.hid hpq; clear hpq
            go_wp2_with fail
            go_roundw
            case rel => exact ⟨j + 1, x, by omega, by rw [HE.out, if_pos HP.out], HX32.out.1, rfl, by go_num, rfl⟩
            case measure => simp [intOf]; omega
        · have hj9 : j = 8 := by omega
          subst hj9
          have hs' : y = sumS (bs.take (k + 1)) sum0 := by rw [HY.out, sumS_snoc hlt, ← HS.out, ← HN.out, crcB_doc hn256]
          have HS' := Lib.hid hs'; clear hs'
          go_wp2_with fail
          go_roundw
          case rel => exact ⟨k + 1, y, by omega, HS'.out, HY32.out, rfl, by go_num, rfl⟩
          case measure => simp [intOf]; omega
    · have hke : k = bs.length := by omega
      subst hke
      have tk1 : ¬ (bs.length : Int) < (bs.length : Int) := by omega
      rw [List.take_length] at HS
      have hs4 : s < 4294967296 := HS32.out
      have e9 : IntKind.u32.wrap (4294967295 - (s : Int)) = ((4294967295 - s : Nat) : Int) := by rw [IntKind.wrap_u32]; omega
      go_wp2_with fail
      go_ret
      exact ⟨by unfold sumN; rw [HS.out]; rfl, rfl⟩
end Go.Proofs.YtfpomllhkbbipaaGreat
