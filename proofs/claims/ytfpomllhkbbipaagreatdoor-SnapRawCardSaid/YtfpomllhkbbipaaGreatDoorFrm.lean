/- Layer 3 in plain words: the sum of bytes; words; frames. -/
import Derived.Laws.BitsAllLaws
import Derived.Laws.BitsLemmas
import Derived.WalkKit
import Derived.Test.YtfpomllhkbbipaaGreatDoorByt
import Derived.BigQuiet
import Derived.Test.YtfpomllhkbbipaaGreatDoorPkX
import Derived.Test.YtfpomllhkbbipaaGreatDoorPk
import Derived.Test.YtfpomllhkbbipaaGreatDoorPkA
import Derived.Test.YtfpomllhkbbipaaGreatDoorRj
import Derived.Test.YtfpomllhkbbipaaGreatDoorSrtG
namespace Go.Proofs.YtfpomllhkbbipaaGreatDoor.Pk
open Go

/-- one bit on, as the program does it -/
def crcS (s : Nat) : Nat := if s % 2 = 1 then s / 2 ^^^ 2197175160 else s / 2
def crcN : Nat → Nat → Nat
  | 0, s => s
  | k + 1, s => crcS (crcN k s)
/-- one bit on, as the document does it: bit k of the byte c -/
def crcD (c k s : Nat) : Nat := if s % 2 ≠ c / 2 ^ k % 2 then s / 2 ^^^ 2197175160 else s / 2
def crcE (c : Nat) : Nat → Nat → Nat
  | 0, s => s
  | k + 1, s => crcD c k (crcE c k s)
theorem xor_half (d e : Nat) : (d ^^^ e) / 2 = d / 2 ^^^ e / 2 := by
  have h := @Nat.shiftRight_xor_distrib 1 d e
  simpa [Nat.shiftRight_eq_div_pow] using h
theorem crc_step (d e : Nat) : crcS (d ^^^ e) = (if d % 2 ≠ e % 2 then d / 2 ^^^ 2197175160 else d / 2) ^^^ e / 2 := by
  unfold crcS
  have h2 : (d ^^^ e) % 2 = 1 ↔ ¬ (d % 2 = 1 ↔ e % 2 = 1) := Nat.xor_mod_two_eq_one
  rw [xor_half]
  by_cases h3 : (d ^^^ e) % 2 = 1
  · rw [if_pos h3, if_pos (by have h4 := h2.1 h3; intro h5; exact h4 (by rw [h5]))]
    rw [Nat.xor_assoc, Nat.xor_assoc, Nat.xor_comm (e / 2)]
  · have h4 : d % 2 = 1 ↔ e % 2 = 1 := Classical.byContradiction fun h => h3 (h2.2 h)
    rw [if_neg h3, if_neg (by
      intro h5
      rcases Nat.mod_two_eq_zero_or_one d with h6 | h6 <;> rcases Nat.mod_two_eq_zero_or_one e with h7 | h7
      · exact h5 (by rw [h6, h7])
      · have := h4.2 h7; omega
      · have := h4.1 h6; omega
      · exact h5 (by rw [h6, h7]))]
theorem crc_same (c : Nat) : ∀ (k s : Nat), crcN k (s ^^^ c) = crcE c k s ^^^ (c / 2 ^ k)
  | 0, s => by simp [crcN, crcE]
  | k + 1, s => by
    have hd : c / 2 ^ (k + 1) = c / 2 ^ k / 2 := by rw [Nat.pow_succ, Nat.div_div_eq_div_mul]
    show crcS (crcN k (s ^^^ c)) = crcD c k (crcE c k s) ^^^ (c / 2 ^ (k + 1))
    rw [crc_same c k s, hd, crc_step]
    rfl
def crcB (s c : Nat) : Nat := crcN 8 (s ^^^ c)
theorem crcB_doc {s c : Nat} (h : c < 256) : crcB s c = crcE c 8 s := by
  unfold crcB
  rw [crc_same, Nat.div_eq_of_lt (by omega), Nat.xor_zero]
theorem crcS_lt {s : Nat} (h : s < 4294967296) : crcS s < 4294967296 := by
  unfold crcS
  split
  · exact Nat.xor_lt_two_pow (n := 32) (by omega) (by decide)
  · omega
theorem crcN_lt {s : Nat} (h : s < 4294967296) : ∀ k, crcN k s < 4294967296
  | 0 => h
  | k + 1 => crcS_lt (crcN_lt h k)
theorem crcD_lt {c k s : Nat} (h : s < 4294967296) : crcD c k s < 4294967296 := by
  unfold crcD
  split
  · exact Nat.xor_lt_two_pow (n := 32) (by omega) (by decide)
  · omega
theorem crcE_lt {c s : Nat} (h : s < 4294967296) : ∀ k, crcE c k s < 4294967296
  | 0 => h
  | k + 1 => crcD_lt (crcE_lt h k)
theorem crcB_lt {s c : Nat} (h : s < 4294967296) (hc : c < 256) : crcB s c < 4294967296 := crcN_lt (Nat.xor_lt_two_pow (n := 32) (by omega) (by omega)) 8
/-- the sum's state behind bytes -/
def sumS : List UInt8 → Nat → Nat
  | [], s => s
  | b :: bs, s => sumS bs (crcB s b.toNat)
theorem sumS_append : ∀ (xs ys : List UInt8) (s : Nat), sumS (xs ++ ys) s = sumS ys (sumS xs s)
  | [], ys, s => rfl
  | x :: xs, ys, s => sumS_append xs ys _
theorem sumS_lt : ∀ (xs : List UInt8) {s : Nat}, s < 4294967296 → sumS xs s < 4294967296
  | [], s, h => h
  | x :: xs, s, h => sumS_lt xs (crcB_lt h x.toNat_lt)
def sumN (bs : List UInt8) : Nat := 4294967295 - sumS bs 4294967295
theorem sumN_lt (bs : List UInt8) : sumN bs < 4294967296 := by unfold sumN; omega
/-- a number of 32 bits as bytes; back -/
def wordB (u : Nat) : List UInt8 := [UInt8.ofNat (u % 256), UInt8.ofNat (u / 256 % 256), UInt8.ofNat (u / 65536 % 256), UInt8.ofNat (u / 16777216 % 256)]
theorem wordB_len (u : Nat) : (wordB u).length = 4 := rfl
def unwordN (bs : List UInt8) : Nat := (bs.getD 0 0).toNat + (bs.getD 1 0).toNat * 256 + (bs.getD 2 0).toNat * 65536 + (bs.getD 3 0).toNat * 16777216
theorem byte_of {n : Nat} (h : n < 256) : (UInt8.ofNat n).toNat = n := by rw [UInt8.toNat_ofNat']; omega
theorem unword_word {u : Nat} (h : u < 4294967296) (r : List UInt8) : unwordN (wordB u ++ r) = u := by
  unfold unwordN wordB
  simp only [List.cons_append, List.getD_cons_zero, List.getD_cons_succ]
  rw [byte_of (by omega), byte_of (by omega), byte_of (by omega), byte_of (by omega)]
  omega
theorem unwordN_lt (bs : List UInt8) : unwordN bs < 4294967296 := by
  unfold unwordN
  have h0 := (bs.getD 0 0).toNat_lt
  have h1 := (bs.getD 1 0).toNat_lt
  have h2 := (bs.getD 2 0).toNat_lt
  have h3 := (bs.getD 3 0).toNat_lt
  omega
theorem word_unword {a b c d : UInt8} (r : List UInt8) : wordB (unwordN (a :: b :: c :: d :: r)) = [a, b, c, d] := by
  have h0 := a.toNat_lt
  have h1 := b.toNat_lt
  have h2 := c.toNat_lt
  have h3 := d.toNat_lt
  unfold wordB unwordN
  simp only [List.getD_cons_zero, List.getD_cons_succ]
  have e0 : (a.toNat + b.toNat * 256 + c.toNat * 65536 + d.toNat * 16777216) % 256 = a.toNat := by omega
  have e1 : (a.toNat + b.toNat * 256 + c.toNat * 65536 + d.toNat * 16777216) / 256 % 256 = b.toNat := by omega
  have e2 : (a.toNat + b.toNat * 256 + c.toNat * 65536 + d.toNat * 16777216) / 65536 % 256 = c.toNat := by omega
  have e3 : (a.toNat + b.toNat * 256 + c.toNat * 65536 + d.toNat * 16777216) / 16777216 % 256 = d.toNat := by omega
  rw [e0, e1, e2, e3, UInt8.ofNat_toNat, UInt8.ofNat_toNat, UInt8.ofNat_toNat, UInt8.ofNat_toNat]
/-- a payload's frame; the payload of the frame with which bytes begin, how many bytes it has, the error's number -/
def frameB (p : List UInt8) : List UInt8 := wordB p.length ++ wordB (sumN p) ++ p
def unframe (bs : List UInt8) : List UInt8 × Nat × Int :=
  if bs.length < 8 then ([], 0, 31)
  else if 4096 < unwordN bs then ([], 0, 2)
  else if bs.length < 8 + unwordN bs then ([], 0, 31)
  else if sumN ((bs.drop 8).take (unwordN bs)) = unwordN (bs.drop 4) then ((bs.drop 8).take (unwordN bs), 8 + unwordN bs, 0)
  else ([], 0, 32)
theorem frameB_len (p : List UInt8) : (frameB p).length = 8 + p.length := by unfold frameB; rw [List.length_append, List.length_append, wordB_len, wordB_len]
theorem unframe_frame {p : List UInt8} (hp : p.length ≤ 4096) (r : List UInt8) : unframe (frameB p ++ r) = (p, 8 + p.length, 0) := by
  have e1 : unwordN (frameB p ++ r) = p.length := by unfold frameB; rw [List.append_assoc, List.append_assoc]; exact unword_word (by omega) _
  have e2 : (frameB p ++ r).drop 4 = wordB (sumN p) ++ (p ++ r) := by
    unfold frameB
    rw [List.append_assoc, List.append_assoc, List.drop_left' (wordB_len _)]
  have e3 : (frameB p ++ r).drop 8 = p ++ r := by
    rw [show (8 : Nat) = 4 + 4 from rfl, ← List.drop_drop, e2, List.drop_left' (wordB_len _)]
  unfold unframe
  rw [e1, e2, e3, unword_word (sumN_lt p), List.take_left, if_neg (by rw [List.length_append, frameB_len]; omega), if_neg (by omega), if_neg (by rw [List.length_append, frameB_len]; omega), if_pos rfl]
theorem unframe_ok {bs p : List UInt8} {n : Nat} (h : unframe bs = (p, n, 0)) : bs.take n = frameB p ∧ n = 8 + p.length ∧ n ≤ bs.length ∧ p.length ≤ 4096 ∧ p = (bs.drop 8).take p.length := by
  unfold unframe at h
  by_cases h1 : bs.length < 8
  · rw [if_pos h1] at h; cases h
  · rw [if_neg h1] at h
    by_cases h2 : 4096 < unwordN bs
    · rw [if_pos h2] at h; cases h
    · rw [if_neg h2] at h
      by_cases h3 : bs.length < 8 + unwordN bs
      · rw [if_pos h3] at h; cases h
      · rw [if_neg h3] at h
        by_cases h4 : sumN ((bs.drop 8).take (unwordN bs)) = unwordN (bs.drop 4)
        · rw [if_pos h4] at h
          injection h with hp h; injection h with hn _
          have hpl : p.length = unwordN bs := by rw [← hp, List.length_take, List.length_drop]; omega
          refine ⟨?_, by omega, by omega, by omega, by rw [hpl]; exact hp.symm⟩
          have hw : ∀ xs : List UInt8, 4 ≤ xs.length → wordB (unwordN xs) = xs.take 4 := by
            intro xs hx
            match xs, hx with
            | a :: b :: c :: d :: r, _ => rw [word_unword]; rfl
          unfold frameB
          rw [hpl, ← hp, h4, hw bs (by omega), hw (bs.drop 4) (by rw [List.length_drop]; omega), ← hn]
          have e1 : bs.take (8 + unwordN bs) = bs.take 8 ++ (bs.drop 8).take (unwordN bs) := List.take_add
          have e2 : bs.take 8 = bs.take 4 ++ (bs.drop 4).take 4 := List.take_add (i := 4) (j := 4)
          rw [e1, e2]
        · rw [if_neg h4] at h; cases h
end Go.Proofs.YtfpomllhkbbipaaGreatDoor.Pk
namespace Go.Proofs.YtfpomllhkbbipaaGreatDoor
open Go Go.RowKit Go.Maps Go.Lib Mem Pk

def sum0 : Nat := 4294967295
def SmRel (bs : List UInt8) (w : World) (sv iv : Value) (wr : World) : Prop := ∃ k s : Nat, k ≤ bs.length ∧ s = sumS (bs.take k) sum0 ∧ s < 2 ^ 32 ∧ sv = .int .u32 (s : Int) ∧ iv = .int .i64 (k : Int) ∧ w = wr
def SmIn (x : Nat) (w : World) (sv iv : Value) (wr : World) : Prop := ∃ j s : Nat, j ≤ 8 ∧ s = crcN j x ∧ s < 2 ^ 32 ∧ sv = .int .u32 (s : Int) ∧ iv = .int .i64 (j : Int) ∧ w = wr
theorem sumS_snoc {bs : List UInt8} {k : Nat} (h : k < bs.length) (s : Nat) : sumS (bs.take (k + 1)) s = crcB (sumS (bs.take k) s) bs[k].toNat := by
  rw [List.take_succ_eq_append_getElem h, sumS_append]; rfl
/-- what the program's line does -/
structure CrcLine (s : Nat) (b m q h z : Nat) : Prop where
  r1 : bits BinOp.and IntKind.u32 (s : Int) 1 = (b : Int)
  r2 : IntKind.u32.wrap (-(b : Int)) = (m : Int)
  r3 : bits BinOp.and IntKind.u32 2197175160 (m : Int) = (q : Int)
  r4 : (s : Int) / 2 = (h : Int)
  r5 : bits BinOp.xor IntKind.u32 (h : Int) (q : Int) = (z : Int)
theorem crc_line {s : Nat} (hs : s < 2 ^ 32) : ∃ b m q h, CrcLine s b m q h (crcS s) := by
  have hs' : s < 4294967296 := hs
  have h1 : bits BinOp.and IntKind.u32 (s : Int) 1 = ((s % 2 : Nat) : Int) := by
    have h := u32_and_nat s 1 hs' (by decide)
    rw [nat_mask1] at h; exact h
  have h4 : (s : Int) / 2 = ((s / 2 : Nat) : Int) := by omega
  unfold crcS
  by_cases hb : s % 2 = 1
  · rw [if_pos hb]
    refine ⟨1, 4294967295, 2197175160, s / 2, by rw [h1, hb], by rw [IntKind.wrap_u32]; rfl, ?_, h4, u32_xor_nat _ _ (by omega) (by decide)⟩
    have h := u32_and_nat 2197175160 4294967295 (by decide) (by decide)
    rw [show 2197175160 &&& 4294967295 = 2197175160 by decide] at h; exact h
  · rw [if_neg hb]
    refine ⟨0, 0, 0, s / 2, by rw [h1, show s % 2 = 0 by omega], by rw [IntKind.wrap_u32]; rfl, ?_, h4, ?_⟩
    · have h := u32_and_nat 2197175160 0 (by decide) (by decide)
      rw [Nat.and_zero] at h; exact h
    · have h := u32_xor_nat (s / 2) 0 (by omega) (by decide)
      rw [Nat.xor_zero] at h; exact h
theorem u32_not {s : Nat} (h : s < 2 ^ 32) : bits BinOp.xor IntKind.u32 IntKind.u32.max (s : Int) = ((4294967295 - s : Nat) : Int) := by
  have h' : s < 4294967296 := h
  show IntKind.u32.wrap ((BitVec.ofInt 32 4294967295 ^^^ BitVec.ofInt 32 (s : Int)).toNat : Int) = _
  have h0 : BitVec.ofInt 32 4294967295 = BitVec.allOnes 32 := by decide
  rw [h0, BitVec.xor_comm, BitVec.xor_allOnes, BitVec.toNat_not, ofInt_u32 s h', IntKind.wrap_u32]; omega
def NumIs (v : Value) (w : World) (e : Ending) (w' : World) : Prop := e = .returned v ∧ w = w'
set_option maxRecDepth 100000 in
set_option maxHeartbeats 4000000 in
theorem Sum_any {w : World} {A : Option Addr} {c : Nat} {bs : List UInt8} (h : Sl fB w A bs) :
    Calls Tryz.prog 108 #[.slice A bs.length c] w (NumIs (.int .u32 (sumN bs)) w) := by
  have hl := h.len
  have H := Lib.hid h; clear h
  go_enter Tryz.func108, Tryz.ntmps108
  go_wp2_with fail
  go_loopw [3, 8] (fun sv iv wr => SmRel bs w sv iv wr) (fun _ iv _ => bs.length - (intOf iv).toNat)
  case atStart => exact ⟨0, sum0, Nat.zero_le _, rfl, by decide, rfl, rfl, rfl⟩
  case round =>
    obtain ⟨k, s, hk, hs, hs32, rfl, rfl, rfl⟩ := hrel
    have HS := Lib.hid hs; clear hs
    have HS32 := Lib.hid hs32; clear hs32
    by_cases hlt : k < bs.length
    · obtain ⟨b0, o0, rfl, _, hcl⟩ := H.out.at hlt
      have c1 := hcl k hlt
      obtain ⟨n, hn⟩ : ∃ n, n = bs[k].toNat := ⟨_, rfl⟩
      have c2 : w.cell? ⟨b0, o0 + k, none⟩ = some (.int .u8 (n : Int)) := by rw [hn]; exact c1
      have hn256 : n < 256 := by rw [hn]; exact (bs[k]).toNat_lt
      have HN := Lib.hid hn; clear hn
      have tk0 : (0 : Int) ≤ (k : Int) := by omega
      have tk1 : (k : Int) < (bs.length : Int) := by omega
      have e1 : IntKind.u32.wrap (n : Int) = (n : Int) := by rw [IntKind.wrap_u32]; omega
      obtain ⟨x, hx⟩ : ∃ x, x = s ^^^ n := ⟨_, rfl⟩
      have e2 : bits BinOp.xor IntKind.u32 (s : Int) (n : Int) = (x : Int) := by rw [hx]; exact u32_xor_nat _ _ HS32.out (by omega)
      have HX32 : Hid (x < 2 ^ 32) := Lib.hid (by rw [hx]; exact Nat.xor_lt_two_pow HS32.out (by omega))
      have HX := Lib.hid hx; clear hx hcl c1
      go_wp2_with fail
      clear e1 e2 c2
      go_loopw [3, 16] (fun sv iv wx => SmIn x w sv iv wx) (fun _ iv _ => 8 - (intOf iv).toNat)
      case atStart => exact ⟨0, x, by omega, rfl, HX32.out, rfl, rfl, rfl⟩
      case round =>
        obtain ⟨j, y, hj, hy, hy32, rfl, rfl, rfl⟩ := hrel
        have HY := Lib.hid hy; clear hy
        have HY32 := Lib.hid hy32; clear hy32
        by_cases hj8 : j < 8
        · have tj : (j : Int) < 8 := by omega
          obtain ⟨b, m, q, h, hc⟩ := crc_line HY32.out
          obtain ⟨z, hz⟩ : ∃ z, z = crcS y := ⟨_, rfl⟩
          rw [← hz] at hc
          obtain ⟨r1, r2, r3, r4, r5⟩ := hc
          have HZ : Hid (z = crcN (j + 1) x) := Lib.hid (by rw [hz, HY.out]; rfl)
          have HZ32 : Hid (z < 2 ^ 32) := Lib.hid (by rw [hz]; exact crcS_lt HY32.out)
          clear hz
          go_wp2_with fail
          go_roundw
          case rel => exact ⟨j + 1, z, by omega, HZ.out, HZ32.out, rfl, by go_num, rfl⟩
          case measure => simp [intOf]; omega
        · have hj9 : j = 8 := by omega
          subst hj9
          have hs' : y = sumS (bs.take (k + 1)) sum0 := by rw [HY.out, HX.out, sumS_snoc hlt, ← HS.out, ← HN.out]; rfl
          have HS' := Lib.hid hs'; clear hs'
          go_wp2_with fail
          go_roundw
          case rel => exact ⟨k + 1, y, by omega, HS'.out, HY32.out, rfl, by go_num, rfl⟩
          case measure => simp [intOf]; omega
    · have hke : k = bs.length := by omega
      subst hke
      have tk1 : ¬ (bs.length : Int) < (bs.length : Int) := by omega
      rw [List.take_length] at HS
      have hnot := u32_not HS32.out
      go_wp2_with fail
      go_ret
      exact ⟨by unfold sumN; rw [HS.out]; rfl, rfl⟩
def SdIn (n s0 : Nat) (w : World) (sv iv : Value) (wr : World) : Prop := ∃ j s : Nat, j ≤ 8 ∧ s = crcE n j s0 ∧ s < 2 ^ 32 ∧ sv = .int .u32 (s : Int) ∧ iv = .int .i64 (j : Int) ∧ w = wr
set_option maxRecDepth 100000 in
set_option maxHeartbeats 4000000 in
theorem RSum_any {w : World} {A : Option Addr} {c : Nat} {bs : List UInt8} (h : Sl fB w A bs) :
    Calls Tryz.prog 96 #[.slice A bs.length c] w (NumIs (.int .u32 (sumN bs)) w) := by
  have hl := h.len
  have H := Lib.hid h; clear h
  go_enter Tryz.func96, Tryz.ntmps96
  go_wp2_with fail
  go_loopw [3, 4] (fun sv iv wr => SmRel bs w sv iv wr) (fun _ iv _ => bs.length - (intOf iv).toNat)
  case atStart => exact ⟨0, sum0, Nat.zero_le _, rfl, by decide, rfl, rfl, rfl⟩
  case round =>
    obtain ⟨k, s, hk, hs, hs32, rfl, rfl, rfl⟩ := hrel
    have HS := Lib.hid hs; clear hs
    have HS32 := Lib.hid hs32; clear hs32
    by_cases hlt : k < bs.length
    · obtain ⟨b0, o0, rfl, _, hcl⟩ := H.out.at hlt
      have c1 := hcl k hlt
      obtain ⟨n, hn⟩ : ∃ n, n = bs[k].toNat := ⟨_, rfl⟩
      have c2 : w.cell? ⟨b0, o0 + k, none⟩ = some (.int .u8 (n : Int)) := by rw [hn]; exact c1
      have hn256 : n < 256 := by rw [hn]; exact (bs[k]).toNat_lt
      have HN := Lib.hid hn; clear hn
      have tk0 : (0 : Int) ≤ (k : Int) := by omega
      have tk1 : (k : Int) < (bs.length : Int) := by omega
      clear hcl c1
      go_wp2_with fail
      go_loopw [3, 5] (fun sv iv wx => SdIn n s w sv iv wx) (fun _ iv _ => 8 - (intOf iv).toNat)
      case atStart => exact ⟨0, s, by omega, rfl, HS32.out, rfl, rfl, rfl⟩
      case round =>
        obtain ⟨j, y, hj, hy, hy32, rfl, rfl, rfl⟩ := hrel
        have HY := Lib.hid hy; clear hy
        have HY32 := Lib.hid hy32; clear hy32
        by_cases hj8 : j < 8
        · have tj : (j : Int) < 8 := by omega
          have tj0 : (0 : Int) ≤ (j : Int) := by omega
          obtain ⟨g, hg⟩ : ∃ g, g = n / 2 ^ j := ⟨_, rfl⟩
          have hg256 : g < 256 := by rw [hg]; exact Nat.lt_of_le_of_lt (Nat.div_le_self _ _) hn256
          have e3 : (n : Int) / 2 ^ j = (g : Int) := by rw [hg]; simp
          have e4 : IntKind.u32.wrap (g : Int) = (g : Int) := by rw [IntKind.wrap_u32]; omega
          obtain ⟨p, hp⟩ : ∃ p, p = g % 2 := ⟨_, rfl⟩
          obtain ⟨q, hq⟩ : ∃ q, q = y % 2 := ⟨_, rfl⟩
          obtain ⟨h2, hh⟩ : ∃ h, h = y / 2 := ⟨_, rfl⟩
          have e5 : (g : Int) % 2 = (p : Int) := by omega
          have e6 : (y : Int) % 2 = (q : Int) := by omega
          have e7 : (y : Int) / 2 = (h2 : Int) := by omega
          have e7b : (h2 : Int) % 4294967296 = (h2 : Int) := by have : y < 4294967296 := HY32.out; omega
          have hh32 : h2 < 4294967296 := by have : y < 4294967296 := HY32.out; omega
          obtain ⟨x, hx⟩ : ∃ x, x = h2 ^^^ 2197175160 := ⟨_, rfl⟩
          have e8 : bits BinOp.xor IntKind.u32 (h2 : Int) 2197175160 = (x : Int) := by rw [hx]; exact u32_xor_nat h2 2197175160 hh32 (by decide)
          have HE : Hid (crcE n (j + 1) s = if q ≠ p then x else h2) := Lib.hid (by
            show crcD n j (crcE n j s) = _
            rw [← HY.out, hx, hq, hp, hh, hg]; rfl)
          have HX32 : Hid (x < 2 ^ 32 ∧ h2 < 2 ^ 32) := Lib.hid ⟨by rw [hx]; exact Nat.xor_lt_two_pow (n := 32) hh32 (by decide), hh32⟩
          clear hg hp hq hh hx hh32
          by_cases hpq : q = p
          · have t1 : ((q : Int) == (p : Int)) = true := by rw [beq_iff_eq]; omega
            have HP := Lib.hid hpq; clear hpq
            go_wp2_with fail
            go_roundw
            case rel => exact ⟨j + 1, h2, by omega, by rw [HE.out, if_neg (fun h => h HP.out)], HX32.out.2, rfl, by go_num, rfl⟩
            case measure => simp [intOf]; omega
          · have t1 : ((q : Int) == (p : Int)) = false := by rw [beq_eq_false_iff_ne]; omega
            have HP := Lib.hid hpq; clear hpq
            go_wp2_with fail
            go_roundw
            case rel => exact ⟨j + 1, x, by omega, by rw [HE.out, if_pos HP.out], HX32.out.1, rfl, by go_num, rfl⟩
            case measure => simp [intOf]; omega
        · have hj9 : j = 8 := by omega
          subst hj9
          have hs' : y = sumS (bs.take (k + 1)) sum0 := by rw [HY.out, sumS_snoc hlt, ← HS.out, ← HN.out, crcB_doc hn256]
          have HS' := Lib.hid hs'; clear hs'
          go_wp2_with fail
          go_roundw
          case rel => exact ⟨k + 1, y, by omega, HS'.out, HY32.out, rfl, by go_num, rfl⟩
          case measure => simp [intOf]; omega
    · have hke : k = bs.length := by omega
      subst hke
      have tk1 : ¬ (bs.length : Int) < (bs.length : Int) := by omega
      rw [List.take_length] at HS
      have hs4 : s < 4294967296 := HS32.out
      have e9 : IntKind.u32.wrap (4294967295 - (s : Int)) = ((4294967295 - s : Nat) : Int) := by rw [IntKind.wrap_u32]; omega
      go_wp2_with fail
      go_ret
      exact ⟨by unfold sumN; rw [HS.out]; rfl, rfl⟩
end Go.Proofs.YtfpomllhkbbipaaGreatDoor
namespace Go.Proofs.YtfpomllhkbbipaaGreatDoor
open Go Go.RowKit Go.Maps Go.Lib Mem

theorem Mem.SlB.cutL {α : Type} {f : α → Value} {e : TypeId} {F : Nat → Prop} {w : World} {A : Option Addr} {xs : List α} (h : SlB f e F w A xs) {c : Nat} (k : Nat) (hk : k ≤ xs.length) (hc : xs.length ≤ c) : SlB f e F w (partA A c k) (xs.drop k) := by
  unfold partA
  by_cases h0 : c = k
  · rw [if_pos h0, List.drop_of_length_le (by omega)]; exact SlB.nil
  · rw [if_neg h0]; exact h.dropM k
theorem SlF.cutL {F : Nat → Prop} {w : World} {A : Option Addr} {xs : List UInt8} (h : SlF F w A xs) {c : Nat} (k : Nat) (hk : k ≤ xs.length) (hc : xs.length ≤ c) : SlF F w (partA A c k) (xs.drop k) := by
  obtain ⟨e, h⟩ := h; exact ⟨e, h.cutL k hk hc⟩
theorem sizeU8 (w : World) : (sizeOf 5).run Tryz.prog w = .ok 1 w := by kernel_rfl
theorem sizeI64 (w : World) : (sizeOf 3).run Tryz.prog w = .ok 1 w := by kernel_rfl
theorem cutB (A : Option Addr) (len cap l : Nat) (h1 : l ≤ len) (w : World) : (Instr.slice 36 (.slice A len cap) (some (.int .i64 (l : Int))) none none).run Tryz.prog w = .ok (.slice (partA A cap l) (len - l) (cap - l)) w :=
  cut_l Tryz.underlying36 sizeU8 A len cap l l rfl h1 w
theorem cutI (A : Option Addr) (len cap l : Nat) (h1 : l ≤ len) (w : World) : (Instr.slice 33 (.slice A len cap) (some (.int .i64 (l : Int))) none none).run Tryz.prog w = .ok (.slice (partA A cap l) (len - l) (cap - l)) w :=
  cut_l Tryz.underlying33 sizeI64 A len cap l l rfl h1 w
theorem cutI2 (A : Option Addr) (len cap l h : Nat) (h1 : l ≤ h) (h2 : h ≤ cap) (w : World) : (Instr.slice 33 (.slice A len cap) (some (.int .i64 (l : Int))) (some (.int .i64 (h : Int))) none).run Tryz.prog w = .ok (.slice (partA A cap l) (h - l) (cap - l)) w :=
  cut_lh Tryz.underlying33 sizeI64 A len cap l h l h rfl rfl h1 h2 w
end Go.Proofs.YtfpomllhkbbipaaGreatDoor
namespace Go.Proofs.YtfpomllhkbbipaaGreatDoor
open Go Go.RowKit Go.Maps Go.Lib Mem Pk

theorem Mem.Own.lit {α : Type} {f : α → Value} {base : Nat} {e : TypeId} {w : World} (xs : List α) (hm : xs.length ≤ maxLen) (hb : base ≤ w.heap.size) :
    Own f base e (w.alloc (.cells (xs.map f).toArray e)) (.slice (some ⟨w.heap.size, 0, none⟩) xs.length xs.length) xs := by
  refine ⟨by simp, .inr ⟨w.heap.size, xs.length, (xs.map f).toArray, rfl, hb, heap_alloc_new w _, Nat.le_refl _, hm, by simp, ?_⟩⟩
  rw [Nat.mul_one]
  exact List.take_of_length_le (by simp)
theorem word_row (u : Nat) : (wordB u).map fB = [.int .u8 ((u % 256 : Nat) : Int), .int .u8 ((u / 256 % 256 : Nat) : Int), .int .u8 ((u / 65536 % 256 : Nat) : Int), .int .u8 ((u / 16777216 % 256 : Nat) : Int)] := by
  have h : ∀ n : Nat, n < 256 → fB (UInt8.ofNat n) = .int .u8 (n : Int) := fun n hn => by unfold fB; rw [byte_of hn]
  unfold wordB
  simp only [List.map_cons, List.map_nil]
  rw [h _ (by omega), h _ (by omega), h _ (by omega), h _ (by omega)]
theorem word_own {w : World} (u : Nat) : Own fB w.heap.size 5 (w.alloc (.cells #[.int .u8 ((u % 256 : Nat) : Int), .int .u8 ((u / 256 % 256 : Nat) : Int), .int .u8 ((u / 65536 % 256 : Nat) : Int), .int .u8 ((u / 16777216 % 256 : Nat) : Int)] 5)) (.slice (some ⟨w.heap.size, 0, none⟩) 4 4) (wordB u) := by
  have h := Mem.Own.lit (f := fB) (base := w.heap.size) (e := 5) (w := w) (wordB u) (by rw [wordB_len]; decide) (Nat.le_refl _)
  rw [word_row, wordB_len] at h
  exact h
set_option maxRecDepth 100000 in
theorem word_any {w : World} (u : Nat) (hu : u < 2 ^ 32) : Calls Tryz.prog 107 #[.int .u32 (u : Int)] w (AppPost w.heap.size (wordB u) w) := by
  have hu' : u < 4294967296 := hu
  have HO := word_own (w := w) u
  obtain ⟨x0, h0⟩ : ∃ x, x = u % 256 := ⟨_, rfl⟩
  obtain ⟨x1, h1⟩ : ∃ x, x = u / 256 % 256 := ⟨_, rfl⟩
  obtain ⟨x2, h2⟩ : ∃ x, x = u / 65536 % 256 := ⟨_, rfl⟩
  obtain ⟨x3, h3⟩ : ∃ x, x = u / 16777216 % 256 := ⟨_, rfl⟩
  have a0 : (u : Int) % 256 = (x0 : Int) := by omega
  have a1 : (u : Int) / 256 % 256 = (x1 : Int) := by omega
  have a2 : (u : Int) / 65536 % 256 = (x2 : Int) := by omega
  have a3 : (u : Int) / 16777216 % 256 = (x3 : Int) := by omega
  have b0 : (x0 : Int) % 256 = (x0 : Int) := by omega
  have b1 : (x1 : Int) % 256 = (x1 : Int) := by omega
  have b2 : (x2 : Int) % 256 = (x2 : Int) := by omega
  have b3 : (x3 : Int) % 256 = (x3 : Int) := by omega
  rw [← h0, ← h1, ← h2, ← h3] at HO
  have HO := Lib.hid HO
  clear h0 h1 h2 h3 hu'
  clear hu
  go_enter Tryz.func107, Tryz.ntmps107
  go_wp2_with fail
  go_ret
  exact ⟨_, rfl, HO.out, (Below.refl _ _).alloc (Nat.le_refl _) _⟩
set_option maxRecDepth 100000 in
theorem Rword_any {w : World} (u : Nat) (hu : u < 2 ^ 32) : Calls Tryz.prog 117 #[.int .u32 (u : Int)] w (AppPost w.heap.size (wordB u) w) := by
  have hu' : u < 4294967296 := hu
  have HO := word_own (w := w) u
  obtain ⟨x0, h0⟩ : ∃ x, x = u % 256 := ⟨_, rfl⟩
  obtain ⟨x1, h1⟩ : ∃ x, x = u / 256 % 256 := ⟨_, rfl⟩
  obtain ⟨x2, h2⟩ : ∃ x, x = u / 65536 % 256 := ⟨_, rfl⟩
  obtain ⟨x3, h3⟩ : ∃ x, x = u / 16777216 % 256 := ⟨_, rfl⟩
  have a0 : (u : Int) % 256 = (x0 : Int) := by omega
  have a1 : (u : Int) / 256 % 256 = (x1 : Int) := by omega
  have a2 : (u : Int) / 65536 % 256 = (x2 : Int) := by omega
  have a3 : (u : Int) / 16777216 % 256 = (x3 : Int) := by omega
  have b0 : (x0 : Int) % 256 = (x0 : Int) := by omega
  have b1 : (x1 : Int) % 256 = (x1 : Int) := by omega
  have b2 : (x2 : Int) % 256 = (x2 : Int) := by omega
  have b3 : (x3 : Int) % 256 = (x3 : Int) := by omega
  rw [← h0, ← h1, ← h2, ← h3] at HO
  have HO := Lib.hid HO
  clear h0 h1 h2 h3 hu'
  clear hu
  go_enter Tryz.func117, Tryz.ntmps117
  go_wp2_with fail
  go_ret
  exact ⟨_, rfl, HO.out, (Below.refl _ _).alloc (Nat.le_refl _) _⟩
end Go.Proofs.YtfpomllhkbbipaaGreatDoor
namespace Go.Proofs.YtfpomllhkbbipaaGreatDoor
open Go Go.RowKit Go.Maps Go.Lib Mem Pk

theorem or_join {a b k : Nat} (h : a < 2 ^ k) (ha : a < 2 ^ 32) (hb : b * 2 ^ k < 2 ^ 32) : bits BinOp.or IntKind.u32 (a : Int) ((b * 2 ^ k : Nat) : Int) = ((a + b * 2 ^ k : Nat) : Int) := by
  rw [u32_or_nat _ _ ha hb]
  have h1 := Nat.shiftLeft_add_eq_or_of_lt (b := a) (i := k) h b
  rw [Nat.shiftLeft_eq] at h1
  rw [Nat.or_comm, ← h1, Nat.add_comm]
/-- the four bytes -/
theorem word_cells {w : World} {A : Option Addr} {bs : List UInt8} (h : Sl fB w A bs) (h4 : 4 ≤ bs.length) : ∃ b o, ∃ n0 n1 n2 n3 : Nat, A = some ⟨b, o, none⟩ ∧ n0 < 256 ∧ n1 < 256 ∧ n2 < 256 ∧ n3 < 256 ∧ unwordN bs = n0 + n1 * 256 + n2 * 65536 + n3 * 16777216 ∧
    w.cell? ⟨b, o, none⟩ = some (.int .u8 (n0 : Int)) ∧ w.cell? ⟨b, o + 1, none⟩ = some (.int .u8 (n1 : Int)) ∧ w.cell? ⟨b, o + 2, none⟩ = some (.int .u8 (n2 : Int)) ∧ w.cell? ⟨b, o + 3, none⟩ = some (.int .u8 (n3 : Int)) := by
  obtain ⟨b, o, rfl, _, hc⟩ := h.at (k := 0) (by omega)
  have e : ∀ (j : Nat) (hj : j < bs.length), bs.getD j 0 = bs[j] := fun j hj => by rw [List.getD_eq_getElem?_getD, List.getElem?_eq_getElem hj, Option.getD_some]
  refine ⟨b, o, bs[0].toNat, bs[1].toNat, bs[2].toNat, bs[3].toNat, rfl, (bs[0]).toNat_lt, (bs[1]).toNat_lt, (bs[2]).toNat_lt, (bs[3]).toNat_lt, ?_, hc 0 (by omega), hc 1 (by omega), hc 2 (by omega), hc 3 (by omega)⟩
  unfold unwordN
  rw [e 0 (by omega), e 1 (by omega), e 2 (by omega), e 3 (by omega)]
set_option maxRecDepth 100000 in
theorem unword_any {w : World} {A : Option Addr} {c : Nat} {bs : List UInt8} (h : Sl fB w A bs) (h4 : 4 ≤ bs.length) :
    Calls Tryz.prog 122 #[.slice A bs.length c] w (Quiet (.int .u32 (unwordN bs : Int)) w) := by
  have hl := h.len
  obtain ⟨b, o, n0, n1, n2, n3, rfl, l0, l1, l2, l3, hu, c0, c1, c2, c3⟩ := word_cells h h4
  obtain ⟨u, hu2⟩ : ∃ u, u = unwordN bs := ⟨_, rfl⟩
  rw [← hu2]
  have i0 : (0 : Int) < (bs.length : Int) := by omega
  have i1 : (1 : Int) < (bs.length : Int) := by omega
  have i2 : (2 : Int) < (bs.length : Int) := by omega
  have i3 : (3 : Int) < (bs.length : Int) := by omega
  have v0 : (n0 : Int) % 4294967296 = (n0 : Int) := by omega
  have v1 : (n1 : Int) % 4294967296 = (n1 : Int) := by omega
  have v2 : (n2 : Int) % 4294967296 = (n2 : Int) := by omega
  have v3 : (n3 : Int) % 4294967296 = (n3 : Int) := by omega
  obtain ⟨p1, hp1⟩ : ∃ p, p = n1 * 2 ^ 8 := ⟨_, rfl⟩
  obtain ⟨p2, hp2⟩ : ∃ p, p = n2 * 2 ^ 16 := ⟨_, rfl⟩
  obtain ⟨p3, hp3⟩ : ∃ p, p = n3 * 2 ^ 24 := ⟨_, rfl⟩
  have t1 : (n1 : Int) * 256 % 4294967296 = (p1 : Int) := by omega
  have t2 : (n2 : Int) * 65536 % 4294967296 = (p2 : Int) := by omega
  have t3 : (n3 : Int) * 16777216 % 4294967296 = (p3 : Int) := by omega
  obtain ⟨m1, hm1⟩ : ∃ m, m = n0 + p1 := ⟨_, rfl⟩
  obtain ⟨m2, hm2⟩ : ∃ m, m = m1 + p2 := ⟨_, rfl⟩
  have r1 : bits BinOp.or IntKind.u32 (n0 : Int) (p1 : Int) = (m1 : Int) := by rw [hm1, hp1]; exact or_join (by omega) (by omega) (by omega)
  have r2 : bits BinOp.or IntKind.u32 (m1 : Int) (p2 : Int) = (m2 : Int) := by rw [hm2, hp2]; exact or_join (by omega) (by omega) (by omega)
  have r3 : bits BinOp.or IntKind.u32 (m2 : Int) (p3 : Int) = (u : Int) := by
    have e : u = m2 + n3 * 2 ^ 24 := by omega
    rw [e, hp3]; exact or_join (by omega) (by omega) (by omega)
  have z1 : (1 : Nat) < bs.length := by omega
  clear h h4 hu hu2 hp1 hp2 hp3 hm1 hm2 l0 l1 l2 l3 hl z1
  go_enter Tryz.func122, Tryz.ntmps122
  go_wp2_with fail
  go_quiet (fail)
  go_wp2_with fail
  go_ret
  exact ⟨rfl, _, rfl⟩
set_option maxRecDepth 100000 in
theorem Runword_any {w : World} {A : Option Addr} {c : Nat} {bs : List UInt8} (h : Sl fB w A bs) (h4 : 4 ≤ bs.length) :
    Calls Tryz.prog 95 #[.slice A bs.length c] w (Quiet (.int .u32 (unwordN bs : Int)) w) := by
  have hl := h.len
  obtain ⟨b, o, n0, n1, n2, n3, rfl, l0, l1, l2, l3, hu, c0, c1, c2, c3⟩ := word_cells h h4
  obtain ⟨u, hu2⟩ : ∃ u, u = unwordN bs := ⟨_, rfl⟩
  rw [← hu2]
  have i0 : (0 : Int) < (bs.length : Int) := by omega
  have i1 : (1 : Int) < (bs.length : Int) := by omega
  have i2 : (2 : Int) < (bs.length : Int) := by omega
  have i3 : (3 : Int) < (bs.length : Int) := by omega
  have v0 : (n0 : Int) % 4294967296 = (n0 : Int) := by omega
  have v1 : (n1 : Int) % 4294967296 = (n1 : Int) := by omega
  have v2 : (n2 : Int) % 4294967296 = (n2 : Int) := by omega
  have v3 : (n3 : Int) % 4294967296 = (n3 : Int) := by omega
  obtain ⟨p1, hp1⟩ : ∃ p, p = n1 * 2 ^ 8 := ⟨_, rfl⟩
  obtain ⟨p2, hp2⟩ : ∃ p, p = n2 * 2 ^ 16 := ⟨_, rfl⟩
  obtain ⟨p3, hp3⟩ : ∃ p, p = n3 * 2 ^ 24 := ⟨_, rfl⟩
  have t1 : (n1 : Int) * 256 % 4294967296 = (p1 : Int) := by omega
  have t2 : (n2 : Int) * 65536 % 4294967296 = (p2 : Int) := by omega
  have t3 : (n3 : Int) * 16777216 % 4294967296 = (p3 : Int) := by omega
  obtain ⟨m1, hm1⟩ : ∃ m, m = n0 + p1 := ⟨_, rfl⟩
  obtain ⟨m2, hm2⟩ : ∃ m, m = m1 + p2 := ⟨_, rfl⟩
  have r1 : ((n0 : Int) + (p1 : Int)) % 4294967296 = (m1 : Int) := by omega
  have r2 : ((m1 : Int) + (p2 : Int)) % 4294967296 = (m2 : Int) := by omega
  have r3 : ((m2 : Int) + (p3 : Int)) % 4294967296 = (u : Int) := by omega
  have z1 : (1 : Nat) < bs.length := by omega
  clear h h4 hu hu2 hp1 hp2 hp3 hm1 hm2 l0 l1 l2 l3 hl z1
  go_enter Tryz.func95, Tryz.ntmps95
  go_wp2_with fail
  go_quiet (fail)
  go_wp2_with fail
  go_ret
  exact ⟨by rw [r3]; rfl, _, rfl⟩
end Go.Proofs.YtfpomllhkbbipaaGreatDoor
namespace Go.Proofs.YtfpomllhkbbipaaGreatDoor
open Go Go.RowKit Go.Maps Go.Lib Mem Pk

/-- bytes and a code -/
def FrPost (res : List UInt8 × Int) (w : World) (e : Ending) (w' : World) : Prop :=
  ∃ A c, e = .returned (.tuple #[.slice A res.1.length c, .int .i64 res.2]) ∧ Own fB w.heap.size 5 w' (.slice A res.1.length c) res.1 ∧ Below w.heap.size w w'
def frameR (p : List UInt8) : List UInt8 × Int := if p.length ≤ 4096 then (frameB p, 0) else ([], 2)
set_option maxRecDepth 100000 in
theorem Frame_any {w : World} {A : Option Addr} {c : Nat} {p : List UInt8} (h : Sl fB w A p) :
    Calls Tryz.prog 66 #[.slice A p.length c] w (FrPost (frameR p) w) := by
  have hl := h.len
  unfold frameR
  by_cases h4 : p.length ≤ 4096
  · rw [if_pos h4]
    have t1 : ¬ (4096 : Int) < (p.length : Int) := by omega
    have H := Lib.hid h; clear h
    have e1 : IntKind.u32.wrap (p.length : Int) = (p.length : Int) := by rw [IntKind.wrap_u32]; omega
    have HW1 := Lib.hid (word_any (w := w) p.length (show p.length < 4294967296 by omega))
    have H4 := Lib.hid h4; clear h4
    go_enter Tryz.func66, Tryz.ntmps66
    go_wp2_with fail
    (with_reducible refine HW1.out.mono ?_); rintro e w1 ⟨v1, rfl, ho1, hb1⟩
    have HS1 := Lib.hid (Sum_any (c := c) (H.out.below hb1))
    have HO1 := Lib.hid ho1
    have HB1 := Lib.hid hb1
    clear ho1 hb1 e1 HW1
    go_wp2_with fail
    (with_reducible refine HS1.out.mono ?_); rintro e w2 ⟨rfl, rfl⟩
    have HW2 := Lib.hid (word_any (w := w1) (sumN p) (sumN_lt p))
    clear HS1
    go_wp2_with fail
    (with_reducible refine HW2.out.mono ?_); rintro e w3 ⟨v3, rfl, ho3, hb3⟩
    have HO3 := Lib.hid (HO1.out.below hb3)
    have HB3 : Hid (Below w.heap.size w w3) := HB1.out.trans (hb3.mono HB1.out.size)
    obtain ⟨A3, c3, rfl⟩ := ho3.form
    have HS3 := Lib.hid ho3.sl.2
    clear ho3 hb3 HO1 HB1 HW2
    have HB1w : Hid (w.heap.size ≤ w3.heap.size) := Lib.hid HB3.out.size
    have h63 : Hid ((wordB p.length).length + (wordB (sumN p)).length ≤ maxLen) := Lib.hid (by rw [wordB_len, wordB_len]; decide)
    have hby : Hid (((wordB p.length).length + (wordB (sumN p)).length) * 1 ≤ 140737488355328) := Lib.hid (by rw [wordB_len, wordB_len]; decide)
    go_upto_region 4 with (at_builtin; refine wpList_appendX (f := fB) rfl (.tmp 11) (.tmp 14) 36 rfl u8T rfl HO3.out rfl HS3.out fB_oneJ h63.out hby.out HB1w.out ?_; intro v4 w4 ho4 hb4)
    obtain ⟨hd, hhd⟩ : ∃ x, x = wordB p.length ++ wordB (sumN p) := ⟨_, rfl⟩
    rw [← hhd] at ho4
    obtain ⟨A4, c4, rfl⟩ := ho4.form
    have HHD := Lib.hid hhd
    have hhl : hd.length = 8 := by rw [hhd, List.length_append, wordB_len, wordB_len]
    have HO4 := Lib.hid ho4
    have HB4 : Hid (Below w.heap.size w w4) := HB3.out.trans hb4
    have h63' : Hid (hd.length + p.length ≤ maxLen) := Lib.hid (by rw [hhl]; have := H4.out; unfold maxLen; omega)
    have hby' : Hid ((hd.length + p.length) * 1 ≤ 140737488355328) := Lib.hid (by rw [hhl]; have := H4.out; omega)
    have HP4 := Lib.hid (H.out.below HB4.out)
    clear hhd hhl ho4 hb4 h63 hby HO3 HS3 HB1w
    go_wp2_with (at_builtin; refine wpList_appendX (f := fB) rfl (.tmp 16) (.tmp 17) 36 rfl u8T rfl HO4.out rfl HP4.out fB_oneJ h63'.out hby'.out HB4.out.size ?_; intro v5 w5 ho5 hb5)
    obtain ⟨fr, hfr⟩ : ∃ x, x = frameB p := ⟨_, rfl⟩
    have he : hd ++ p = fr := by rw [hfr, HHD.out]; rfl
    rw [he] at ho5
    obtain ⟨A5, c5, rfl⟩ := ho5.form
    rw [← hfr]
    refine bodyPost_ret (v := .tuple #[.slice A5 fr.length c5, .int .i64 0]) (by simp [results, Tryz.results66, go_sem]) rfl ?_
    exact ⟨A5, c5, rfl, ho5, HB4.out.trans hb5⟩
  · rw [if_neg h4]
    have t1 : (4096 : Int) < (p.length : Int) := by omega
    clear h4 h
    go_enter Tryz.func66, Tryz.ntmps66
    go_wp2_with fail
    refine bodyPost_ret (v := .tuple #[.slice none 0 0, .int .i64 2]) (by simp [results, Tryz.results66, go_sem]) rfl ?_
    exact ⟨none, 0, rfl, Own.nil, Below.refl _ _⟩
theorem apart_base {base : Nat} {w w' : World} {va vb : Value} {xs ys : List UInt8} (h : Own fB base 5 w va xs) (h' : Own fB w.heap.size 5 w' vb ys) : Apart va vb := by
  intro k h1 h2
  have := (h.lt k h1).2
  have := (h'.lt k h2).1
  omega
set_option maxRecDepth 100000 in
theorem RFrame_any {w : World} {A : Option Addr} {c : Nat} {p : List UInt8} (h : Sl fB w A p) :
    Calls Tryz.prog 75 #[.slice A p.length c] w (FrPost (frameR p) w) := by
  have hl := h.len
  unfold frameR
  by_cases h4 : p.length ≤ 4096
  · rw [if_pos h4]
    have t1 : ¬ (4096 : Int) < (p.length : Int) := by omega
    have H := Lib.hid h; clear h
    have e1 : IntKind.u32.wrap (p.length : Int) = (p.length : Int) := by rw [IntKind.wrap_u32]; omega
    have HW1 := Lib.hid (Rword_any (w := w) p.length (show p.length < 4294967296 by omega))
    have H4 := Lib.hid h4; clear h4
    go_enter Tryz.func75, Tryz.ntmps75
    go_wp2_with fail
    (with_reducible refine HW1.out.mono ?_); rintro e w1 ⟨v1, rfl, ho1, hb1⟩
    have HS1 := Lib.hid (RSum_any (c := c) (H.out.below hb1))
    have HO1 := Lib.hid ho1
    have HB1 := Lib.hid hb1
    clear ho1 hb1 e1 HW1
    go_wp2_with fail
    (with_reducible refine HS1.out.mono ?_); rintro e w2 ⟨rfl, rfl⟩
    have HW2 := Lib.hid (Rword_any (w := w1) (sumN p) (sumN_lt p))
    clear HS1
    go_wp2_with fail
    (with_reducible refine HW2.out.mono ?_); rintro e w3 ⟨v3, rfl, ho3, hb3⟩
    have hj := Join_any (HO1.out.below hb3) ho3 (apart_base HO1.out ho3) (Nat.le_trans HB1.out.size hb3.size) (by rw [wordB_len, wordB_len]; decide)
    have HB3 : Hid (Below w.heap.size w w3) := HB1.out.trans (hb3.mono HB1.out.size)
    obtain ⟨hd, hhd⟩ : ∃ x, x = wordB p.length ++ wordB (sumN p) := ⟨_, rfl⟩
    rw [← hhd] at hj
    have hhl : hd.length = 8 := by rw [hhd, List.length_append, wordB_len, wordB_len]
    have HHD := Lib.hid hhd
    have HJ := Lib.hid hj
    clear ho3 hb3 HO1 HB1 HW2 hj hhd
    go_wp2_with fail
    (with_reducible refine HJ.out.mono ?_); rintro e w4 ⟨v4, rfl, ho4, hb4⟩
    have HB4 : Hid (Below w.heap.size w w4) := HB3.out.trans hb4
    have HJ2 := Lib.hid (Join_sl (c := c) ho4 H.out HB4.out (Nat.le_refl _) HB4.out.size (by rw [hhl]; have := H4.out; omega))
    clear ho4 hb4 HJ HB3 hhl
    go_wp2_with fail
    (with_reducible refine HJ2.out.mono ?_); rintro e w5 ⟨v5, rfl, ho5, hb5⟩
    obtain ⟨fr, hfr⟩ : ∃ x, x = frameB p := ⟨_, rfl⟩
    have he : hd ++ p = fr := by rw [hfr, HHD.out]; rfl
    rw [he] at ho5
    obtain ⟨A5, c5, rfl⟩ := ho5.form
    have HFR := Lib.hid hfr; clear hfr
    clear HJ2 he
    have HO5 := Lib.hid ho5; clear ho5
    have HB5 : Hid (Below w.heap.size w w5) := HB4.out.trans hb5
    clear hb5
    go_wp2_with fail
    rw [← HFR.out]
    refine bodyPost_ret (v := .tuple #[.slice A5 fr.length c5, .int .i64 0]) (by simp [results, Tryz.results75, go_sem]) rfl ?_
    exact ⟨A5, c5, rfl, HO5.out, HB5.out⟩
  · rw [if_neg h4]
    have t1 : (4096 : Int) < (p.length : Int) := by omega
    clear h4 h
    go_enter Tryz.func75, Tryz.ntmps75
    go_wp2_with fail
    refine bodyPost_ret (v := .tuple #[.slice none 0 0, .int .i64 2]) (by simp [results, Tryz.results75, go_sem]) rfl ?_
    exact ⟨none, 0, rfl, Own.nil, Below.refl _ _⟩
end Go.Proofs.YtfpomllhkbbipaaGreatDoor
namespace Go.Proofs.YtfpomllhkbbipaaGreatDoor
open Go Go.RowKit Go.Maps Go.Lib Mem Pk

theorem cut_lhk {P : Program} {t e : TypeId} (hu : P.underlying t = some (.slice e)) (hs : ∀ w, (sizeOf e).run P w = .ok 1 w) (kl kh : IntKind) (A : Option Addr) (len cap l h : Nat) (h1 : l ≤ h) (h2 : h ≤ cap) (w : World) :
    (Instr.slice t (.slice A len cap) (some (.int kl (l : Int))) (some (.int kh (h : Int))) none).run P w = .ok (.slice (partA A cap l) (h - l) (cap - l)) w := by
  have he : P.elem t = e := by simp [Program.elem, hu]
  have hu' : P.underlying t = some (.slice (P.elem t)) := by rw [he]; exact hu
  rw [run_slice_lh w t A len cap hu' kl kh l h (by omega) (by omega) (by omega), he, hs]
  show Result.ok (sliced A (l : Int).toNat (h : Int).toNat cap 1) w = _
  simp [sliced, partA]
theorem cut_h {P : Program} {t e : TypeId} (hu : P.underlying t = some (.slice e)) (hs : ∀ w, (sizeOf e).run P w = .ok 1 w) (kh : IntKind) (A : Option Addr) (len cap h : Nat) (h2 : h ≤ cap) (w : World) :
    (Instr.slice t (.slice A len cap) none (some (.int kh (h : Int))) none).run P w = .ok (.slice (partA A cap 0) h cap) w := by
  have he : P.elem t = e := by simp [Program.elem, hu]
  have hu' : P.underlying t = some (.slice (P.elem t)) := by rw [he]; exact hu
  rw [run_slice_h w t A len cap hu' kh h (by omega) (by omega), he, hs]
  show Result.ok (sliced A 0 (h : Int).toNat cap 1) w = _
  simp [sliced, partA]
/-- a payload, how many bytes it has, a code -/
def UfPost (res : List UInt8 × Nat × Int) (w : World) (e : Ending) (w' : World) : Prop :=
  ∃ A c, e = .returned (.tuple #[.slice A res.1.length c, .int .i64 (res.2.1 : Int), .int .i64 res.2.2]) ∧ Own fB w.heap.size 5 w' (.slice A res.1.length c) res.1 ∧ Below w.heap.size w w'
theorem UfPost.no {w w' : World} {k : Int} (h : Below w.heap.size w w') : UfPost ([], 0, k) w (.returned (.tuple #[.slice none 0 0, .int .i64 0, .int .i64 k])) w' := ⟨none, 0, rfl, Own.nil, h⟩
def ClPost (xs : List UInt8) (w : World) (e : Ending) (w' : World) : Prop := ∃ A c, e = .returned (.slice A xs.length c) ∧ Own fB w.heap.size 5 w' (.slice A xs.length c) xs ∧ Below w.heap.size w w'
theorem CloneB_any (A : Option Addr) (c : Nat) (xs : List UInt8) (hl : xs.length ≤ 140737488355328) (w : World) (hs : Sl fB w A xs) :
    Calls Tryz.prog 41 #[.slice A xs.length c] w (ClPost xs w) := by
  have hnil := fun (w : World) (a : Option Addr) (n c : Nat) => Lib.run_eql_slice_nil (P := Tryz.prog) w 36 5 a n c 0 0 Tryz.underlying36
  have hl1 : xs.length ≤ maxLen := by unfold maxLen; omega
  have hl2 : xs.length * 1 ≤ 140737488355328 := by omega
  have HL1 := Lib.hid hl1; clear hl1
  have HL2 := Lib.hid hl2; clear hl2
  cases A with
  | none =>
    obtain rfl : xs = [] := by
      cases xs with
      | nil => rfl
      | cons x r => obtain ⟨b, o, e, _⟩ := hs.2 (by simp); cases e
    go_enter Tryz.func41, Tryz.ntmps41
    go_wp2_with fail
    go_ret
    exact ⟨none, 0, rfl, Own.nil, Below.refl _ _⟩
  | some ad =>
    go_enter Tryz.func41, Tryz.ntmps41
    go_wp2_with (at_builtin; refine wpList_appendN (f := fB) rfl (.tmp 5) (.tmp 6) 36 rfl u8T rfl (Own.mk_ (Nat.le_refl _)) rfl (hs.below ((Below.refl _ _).alloc (Nat.le_refl _) _)) fB_oneJ (by rw [List.length_nil, Nat.zero_add]; exact HL1.out) (by rw [List.length_nil, Nat.zero_add]; exact HL2.out) (by simp) ?_; intro v1 w1 hown1 hb1; obtain ⟨A', c', rfl⟩ := hown1.form)
    go_ret
    rw [List.nil_append] at hown1
    exact ⟨A', c', rfl, hown1, ((Below.refl _ _).alloc (Nat.le_refl _) _).trans hb1⟩
theorem Sum_q {w : World} {A : Option Addr} {c n : Nat} {bs : List UInt8} (h : Sl fB w A bs) : Calls Tryz.prog 108 #[.slice A bs.length c] (w.drewN n) fun e w'' => e = .returned (.int .u32 (sumN bs : Int)) ∧ ∃ m, w'' = w.drewN m :=
  quiet_mine (Sum_any (c := c) (h.drewN n))
theorem unword_q {w : World} {A : Option Addr} {c n : Nat} {bs : List UInt8} (h : Sl fB w A bs) (h4 : 4 ≤ bs.length) : Calls Tryz.prog 122 #[.slice A bs.length c] (w.drewN n) fun e w'' => e = .returned (.int .u32 (unwordN bs : Int)) ∧ ∃ m, w'' = w.drewN m :=
  Calls.quiet_of (unword_any (c := c) (h.drewN n) h4)
set_option maxRecDepth 100000 in
set_option maxHeartbeats 1000000 in
theorem Unframe_any {w : World} {A : Option Addr} {c : Nat} {bs : List UInt8} (h : Sl fB w A bs) (hc : bs.length ≤ c) (hm : c ≤ maxLen) :
    Calls Tryz.prog 86 #[.slice A bs.length c] w (UfPost (unframe bs) w) := by
  have hl := h.len
  obtain ⟨u, hu⟩ : ∃ u, u = unwordN bs := ⟨_, rfl⟩
  unfold unframe
  rw [← hu]
  by_cases h8 : bs.length < 8
  · rw [if_pos h8]
    have t1 : (bs.length : Int) < 8 := by omega
    clear h hc hm hu h8
    go_enter Tryz.func86, Tryz.ntmps86
    go_wp2_with fail
    refine bodyPost_ret (v := .tuple #[.slice none 0 0, .int .i64 0, .int .i64 31]) (by simp [results, Tryz.results86, go_sem]) rfl ?_
    exact UfPost.no (Below.refl _ _)
  · rw [if_neg h8]
    have t1 : ¬ (bs.length : Int) < 8 := by omega
    have HUW := Lib.hid (unword_any (c := c) h (by omega))
    rw [← hu] at HUW
    have H := Lib.hid h; clear h
    have HU := Lib.hid hu; clear hu
    have H8 := Lib.hid h8; clear h8
    have HC := Lib.hid hc; clear hc
    have HM := Lib.hid hm; clear hm
    have HU32 : Hid (u < 4294967296) := Lib.hid (by rw [HU.out]; exact unwordN_lt bs)
    by_cases h2 : 4096 < u
    · rw [if_pos h2]
      have t2 : (4096 : Int) < (u : Int) := by omega
      clear h2
      go_enter Tryz.func86, Tryz.ntmps86
      go_wp2_with fail
      (with_reducible refine HUW.out.mono ?_); rintro e w2 ⟨rfl, m, rfl⟩
      go_wp2_with fail
      refine bodyPost_ret (v := .tuple #[.slice none 0 0, .int .i64 0, .int .i64 2]) (by simp [results, Tryz.results86, go_sem]) rfl ?_
      exact UfPost.no (below_drewN (Below.refl _ _) _)
    · rw [if_neg h2]
      have t2 : ¬ (4096 : Int) < (u : Int) := by omega
      obtain ⟨v, hv⟩ : ∃ v, v = 8 + u := ⟨_, rfl⟩
      have e1 : IntKind.i64.wrap (u : Int) = (u : Int) := by rw [IntKind.wrap_i64]; omega
      have e2 : IntKind.i64.wrap (8 + (u : Int)) = (v : Int) := by rw [IntKind.wrap_i64]; omega
      have e2b : 8 + (u : Int) = (v : Int) := by omega
      have e3 : IntKind.u32.wrap (v : Int) = (v : Int) := by rw [IntKind.wrap_u32]; omega
      have e3b : (v : Int) % 4294967296 = (v : Int) := by omega
      have hu4 : u ≤ 4096 := by omega
      by_cases h3 : bs.length < 8 + u
      · rw [if_pos h3]
        have t3 : (bs.length : Int) < (v : Int) := by omega
        clear h2 h3 hv hu4
        go_enter Tryz.func86, Tryz.ntmps86
        go_wp2_with fail
        (with_reducible refine HUW.out.mono ?_); rintro e w2 ⟨rfl, m, rfl⟩
        go_wp2_with fail
        refine bodyPost_ret (v := .tuple #[.slice none 0 0, .int .i64 0, .int .i64 31]) (by simp [results, Tryz.results86, go_sem]) rfl ?_
        exact UfPost.no (below_drewN (Below.refl _ _) _)
      · rw [if_neg h3]
        have t3 : ¬ (bs.length : Int) < (v : Int) := by omega
        have hcl := HC.out
        obtain ⟨p, hp⟩ : ∃ p, p = (bs.drop 8).take u := ⟨_, rfl⟩
        have hpl : p.length = u := by rw [hp, List.length_take, List.length_drop]; omega
        obtain ⟨P8, hP8⟩ : ∃ x, x = partA A c 8 := ⟨_, rfl⟩
        obtain ⟨c8, hc8⟩ : ∃ x, x = c - 8 := ⟨_, rfl⟩
        obtain ⟨P4, hP4⟩ : ∃ x, x = partA A c 4 := ⟨_, rfl⟩
        obtain ⟨c4, hc4⟩ : ∃ x, x = c - 4 := ⟨_, rfl⟩
        obtain ⟨q, hq⟩ : ∃ q, q = bs.drop 4 := ⟨_, rfl⟩
        have hql : q.length = bs.length - 4 := by rw [hq, List.length_drop]
        have k8 : ∀ W : World, (Instr.slice 36 (.slice A bs.length c) (some (.int .i64 8)) (some (.int .u32 (v : Int))) none).run Tryz.prog W = .ok (.slice P8 p.length c8) W := fun W => by
          have h := cut_lhk Tryz.underlying36 sizeU8 .i64 .u32 A bs.length c 8 v (by omega) (by omega) W
          rw [← hP8, ← hc8, show v - 8 = p.length by omega] at h; exact h
        have k4 : ∀ W : World, (Instr.slice 36 (.slice A bs.length c) (some (.int .i64 4)) none none).run Tryz.prog W = .ok (.slice P4 q.length c4) W := fun W => by
          have h := cutB A bs.length c 4 (by omega) W
          rw [← hP4, ← hc4, ← hql] at h; exact h
        have hsp : Sl fB w P8 p := by rw [hp, hP8]; exact H.out.part (by omega) hcl
        have hsq : Sl fB w P4 q := by
          have h := H.out.part (c := c) (k := 4) (m := bs.length - 4) (by omega) hcl
          rw [List.take_of_length_le (by rw [List.length_drop]; omega), ← hq] at h
          rw [hP4]; exact h
        have HSP := Lib.hid hsp
        have HSQ := Lib.hid hsq
        have HQL : Hid (4 ≤ q.length) := Lib.hid (by have := H8.out; omega)
        have HPL := Lib.hid hpl
        rw [← hp, ← hq]
        obtain ⟨s1, hs1⟩ : ∃ s, s = sumN p := ⟨_, rfl⟩
        obtain ⟨s2, hs2⟩ : ∃ s, s = unwordN q := ⟨_, rfl⟩
        rw [← hs1, ← hs2]
        obtain ⟨res, hres⟩ : ∃ r, r = (if s1 = s2 then (p, 8 + u, (0 : Int)) else ([], 0, 32)) := ⟨_, rfl⟩
        rw [← hres]
        have HRES := Lib.hid hres; clear hres
        have HQ1 : Hid (∀ (W : World) (B : Option Addr) (d n : Nat), Sl fB W B p → Calls Tryz.prog 108 #[.slice B p.length d] (W.drewN n) fun e w'' => e = .returned (.int .u32 (s1 : Int)) ∧ ∃ m, w'' = W.drewN m) := Lib.hid fun W B d n h => by rw [hs1]; exact Sum_q h
        have HQ2 : Hid (∀ (W : World) (n : Nat), Sl fB W P4 q → Calls Tryz.prog 122 #[.slice P4 q.length c4] (W.drewN n) fun e w'' => e = .returned (.int .u32 (s2 : Int)) ∧ ∃ m, w'' = W.drewN m) := Lib.hid fun W n h => by rw [hs2]; exact unword_q h HQL.out
        have HV := Lib.hid hv
        clear h2 h3 hv hcl hp hpl hP8 hc8 hP4 hc4 hq hql hsp hsq hs1 hs2
        go_enter Tryz.func86, Tryz.ntmps86
        go_wp2_with fail
        (with_reducible refine HUW.out.mono ?_); rintro e w2 ⟨rfl, m, rfl⟩
        have HCL := Lib.hid (CloneB_any P8 c8 p (by rw [HPL.out]; omega) (w.drewN m) (HSP.out.drewN m))
        go_wp2_with fail
        (with_reducible refine HCL.out.mono ?_); rintro e w3 ⟨A3, c3, rfl, ho3, hb3⟩
        have HB3 : Hid (Below w.heap.size w w3) := Lib.hid ((below_drewN (Below.refl _ _) m).trans hb3)
        have HO3 : Hid (Own fB w.heap.size 5 w3 (.slice A3 p.length c3) p) := Lib.hid ho3
        have hs3 := HO3.out.sl.2
        have hq3 := HSQ.out.below HB3.out
        clear ho3 hb3 HCL
        by_cases h5 : s1 = s2
        · have H5 := Lib.hid h5
          have t5 : ((s1 : Int) == (s2 : Int)) = true := by rw [beq_iff_eq]; omega
          clear h5
          go_wp2_with fail
          go_quiet (first | (go_at_call 108; exact HQ1.out _ _ _ _ hs3) | (go_at_call 122; exact HQ2.out _ _ hq3))
          go_wp2_with fail
          refine bodyPost_ret (v := .tuple #[.slice A3 p.length c3, .int .i64 (v : Int), .int .i64 0]) (by simp [results, Tryz.results86, go_sem]) rfl ?_
          rw [HRES.out, if_pos H5.out]
          exact ⟨A3, c3, by rw [HV.out], HO3.out, below_drewN HB3.out _⟩
        · have H5 := Lib.hid h5
          have t5 : ((s1 : Int) == (s2 : Int)) = false := by rw [beq_eq_false_iff_ne]; omega
          clear h5
          go_wp2_with fail
          go_quiet (first | (go_at_call 108; exact HQ1.out _ _ _ _ hs3) | (go_at_call 122; exact HQ2.out _ _ hq3))
          go_wp2_with fail
          refine bodyPost_ret (v := .tuple #[.slice none 0 0, .int .i64 0, .int .i64 32]) (by simp [results, Tryz.results86, go_sem]) rfl ?_
          rw [HRES.out, if_neg H5.out]
          exact UfPost.no (below_drewN HB3.out _)
end Go.Proofs.YtfpomllhkbbipaaGreatDoor
