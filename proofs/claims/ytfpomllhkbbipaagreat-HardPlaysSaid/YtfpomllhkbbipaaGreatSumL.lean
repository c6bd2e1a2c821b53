/- Layer 3 in plain words: the sum of bytes; words; frames. -/
import Derived.Laws.BitsAllLaws
import Derived.Laws.BitsLemmas
import Derived.WalkKit
namespace Go.Proofs.YtfpomllhkbbipaaGreat.Pk
open Go

/-- one bit on, as the program does it -/
def crcS (s : Nat) : Nat := if s % 2 = 1 then s / 2 ^^^ 2197175160 else s / 2
def crcN : Nat → Nat → Nat
  | 0, s => s
  | k + 1, s => crcS (crcN k s)
/-- one bit on, as the document does it: bit k of the byte c -/
def crcD (c k s : Nat) : Nat := if s % 2 ≠ c / 2 ^ k % 2 then s / 2 ^^^ 2197175160 else s / 2
def crcE (c : Nat) : Nat → Nat → Nat
  | 0, s => s
  | k + 1, s => crcD c k (crcE c k s)
theorem xor_half (d e : Nat) : (d ^^^ e) / 2 = d / 2 ^^^ e / 2 := by
  have h := @Nat.shiftRight_xor_distrib 1 d e
  simpa [Nat.shiftRight_eq_div_pow] using h
theorem crc_step (d e : Nat) : crcS (d ^^^ e) = (if d % 2 ≠ e % 2 then d / 2 ^^^ 2197175160 else d / 2) ^^^ e / 2 := by
  unfold crcS
  have h2 : (d ^^^ e) % 2 = 1 ↔ ¬ (d % 2 = 1 ↔ e % 2 = 1) := Nat.xor_mod_two_eq_one
  rw [xor_half]
  by_cases h3 : (d ^^^ e) % 2 = 1
  · rw [if_pos h3, if_pos (by have h4 := h2.1 h3; intro h5; exact h4 (by rw [h5]))]
    rw [Nat.xor_assoc, Nat.xor_assoc, Nat.xor_comm (e / 2)]
  · have h4 : d % 2 = 1 ↔ e % 2 = 1 := Classical.byContradiction fun h => h3 (h2.2 h)
    rw [if_neg h3, if_neg (by
      intro h5
      rcases Nat.mod_two_eq_zero_or_one d with h6 | h6 <;> rcases Nat.mod_two_eq_zero_or_one e with h7 | h7
      · exact h5 (by rw [h6, h7])
      · have := h4.2 h7; omega
      · have := h4.1 h6; omega
      · exact h5 (by rw [h6, h7]))]
theorem crc_same (c : Nat) : ∀ (k s : Nat), crcN k (s ^^^ c) = crcE c k s ^^^ (c / 2 ^ k)
  | 0, s => by simp [crcN, crcE]
  | k + 1, s => by
    have hd : c / 2 ^ (k + 1) = c / 2 ^ k / 2 := by rw [Nat.pow_succ, Nat.div_div_eq_div_mul]
    show crcS (crcN k (s ^^^ c)) = crcD c k (crcE c k s) ^^^ (c / 2 ^ (k + 1))
    rw [crc_same c k s, hd, crc_step]
    rfl
def crcB (s c : Nat) : Nat := crcN 8 (s ^^^ c)
theorem crcB_doc {s c : Nat} (h : c < 256) : crcB s c = crcE c 8 s := by
  unfold crcB
  rw [crc_same, Nat.div_eq_of_lt (by omega), Nat.xor_zero]
theorem crcS_lt {s : Nat} (h : s < 4294967296) : crcS s < 4294967296 := by
  unfold crcS
  split
  · exact Nat.xor_lt_two_pow (n := 32) (by omega) (by decide)
  · omega
theorem crcN_lt {s : Nat} (h : s < 4294967296) : ∀ k, crcN k s < 4294967296
  | 0 => h
  | k + 1 => crcS_lt (crcN_lt h k)
theorem crcD_lt {c k s : Nat} (h : s < 4294967296) : crcD c k s < 4294967296 := by
  unfold crcD
  split
  · exact Nat.xor_lt_two_pow (n := 32) (by omega) (by decide)
  · omega
theorem crcE_lt {c s : Nat} (h : s < 4294967296) : ∀ k, crcE c k s < 4294967296
  | 0 => h
  | k + 1 => crcD_lt (crcE_lt h k)
theorem crcB_lt {s c : Nat} (h : s < 4294967296) (hc : c < 256) : crcB s c < 4294967296 := crcN_lt (Nat.xor_lt_two_pow (n := 32) (by omega) (by omega)) 8
/-- the sum's state behind bytes -/
def sumS : List UInt8 → Nat → Nat
  | [], s => s
  | b :: bs, s => sumS bs (crcB s b.toNat)
theorem sumS_append : ∀ (xs ys : List UInt8) (s : Nat), sumS (xs ++ ys) s = sumS ys (sumS xs s)
  | [], ys, s => rfl
  | x :: xs, ys, s => sumS_append xs ys _
theorem sumS_lt : ∀ (xs : List UInt8) {s : Nat}, s < 4294967296 → sumS xs s < 4294967296
  | [], s, h => h
  | x :: xs, s, h => sumS_lt xs (crcB_lt h x.toNat_lt)
def sumN (bs : List UInt8) : Nat := 4294967295 - sumS bs 4294967295
theorem sumN_lt (bs : List UInt8) : sumN bs < 4294967296 := by unfold sumN; omega
/-- a number of 32 bits as bytes; back -/
def wordB (u : Nat) : List UInt8 := [UInt8.ofNat (u % 256), UInt8.ofNat (u / 256 % 256), UInt8.ofNat (u / 65536 % 256), UInt8.ofNat (u / 16777216 % 256)]
theorem wordB_len (u : Nat) : (wordB u).length = 4 := rfl
def unwordN (bs : List UInt8) : Nat := (bs.getD 0 0).toNat + (bs.getD 1 0).toNat * 256 + (bs.getD 2 0).toNat * 65536 + (bs.getD 3 0).toNat * 16777216
theorem byte_of {n : Nat} (h : n < 256) : (UInt8.ofNat n).toNat = n := by rw [UInt8.toNat_ofNat']; omega
theorem unword_word {u : Nat} (h : u < 4294967296) (r : List UInt8) : unwordN (wordB u ++ r) = u := by
  unfold unwordN wordB
  simp only [List.cons_append, List.getD_cons_zero, List.getD_cons_succ]
  rw [byte_of (by omega), byte_of (by omega), byte_of (by omega), byte_of (by omega)]
  omega
theorem unwordN_lt (bs : List UInt8) : unwordN bs < 4294967296 := by
  unfold unwordN
  have h0 := (bs.getD 0 0).toNat_lt
  have h1 := (bs.getD 1 0).toNat_lt
  have h2 := (bs.getD 2 0).toNat_lt
  have h3 := (bs.getD 3 0).toNat_lt
  omega
theorem word_unword {a b c d : UInt8} (r : List UInt8) : wordB (unwordN (a :: b :: c :: d :: r)) = [a, b, c, d] := by
  have h0 := a.toNat_lt
  have h1 := b.toNat_lt
  have h2 := c.toNat_lt
  have h3 := d.toNat_lt
  unfold wordB unwordN
  simp only [List.getD_cons_zero, List.getD_cons_succ]
  have e0 : (a.toNat + b.toNat * 256 + c.toNat * 65536 + d.toNat * 16777216) % 256 = a.toNat := by omega
  have e1 : (a.toNat + b.toNat * 256 + c.toNat * 65536 + d.toNat * 16777216) / 256 % 256 = b.toNat := by omega
  have e2 : (a.toNat + b.toNat * 256 + c.toNat * 65536 + d.toNat * 16777216) / 65536 % 256 = c.toNat := by omega
  have e3 : (a.toNat + b.toNat * 256 + c.toNat * 65536 + d.toNat * 16777216) / 16777216 % 256 = d.toNat := by omega
  rw [e0, e1, e2, e3, UInt8.ofNat_toNat, UInt8.ofNat_toNat, UInt8.ofNat_toNat, UInt8.ofNat_toNat]
/-- a payload's frame; the payload of the frame with which bytes begin, how many bytes it has, the error's number -/
def frameB (p : List UInt8) : List UInt8 := wordB p.length ++ wordB (sumN p) ++ p
def unframe (bs : List UInt8) : List UInt8 × Nat × Int :=
  if bs.length < 8 then ([], 0, 31)
  else if 4096 < unwordN bs then ([], 0, 2)
  else if bs.length < 8 + unwordN bs then ([], 0, 31)
  else if sumN ((bs.drop 8).take (unwordN bs)) = unwordN (bs.drop 4) then ((bs.drop 8).take (unwordN bs), 8 + unwordN bs, 0)
  else ([], 0, 32)
theorem frameB_len (p : List UInt8) : (frameB p).length = 8 + p.length := by unfold frameB; rw [List.length_append, List.length_append, wordB_len, wordB_len]
theorem unframe_frame {p : List UInt8} (hp : p.length ≤ 4096) (r : List UInt8) : unframe (frameB p ++ r) = (p, 8 + p.length, 0) := by
  have e1 : unwordN (frameB p ++ r) = p.length := by unfold frameB; rw [List.append_assoc, List.append_assoc]; exact unword_word (by omega) _
  have e2 : (frameB p ++ r).drop 4 = wordB (sumN p) ++ (p ++ r) := by
    unfold frameB
    rw [List.append_assoc, List.append_assoc, List.drop_left' (wordB_len _)]
  have e3 : (frameB p ++ r).drop 8 = p ++ r := by
    rw [show (8 : Nat) = 4 + 4 from rfl, ← List.drop_drop, e2, List.drop_left' (wordB_len _)]
  unfold unframe
  rw [e1, e2, e3, unword_word (sumN_lt p), List.take_left, if_neg (by rw [List.length_append, frameB_len]; omega), if_neg (by omega), if_neg (by rw [List.length_append, frameB_len]; omega), if_pos rfl]
theorem unframe_ok {bs p : List UInt8} {n : Nat} (h : unframe bs = (p, n, 0)) : bs.take n = frameB p ∧ n = 8 + p.length ∧ n ≤ bs.length ∧ p.length ≤ 4096 ∧ p = (bs.drop 8).take p.length := by
  unfold unframe at h
  by_cases h1 : bs.length < 8
  · rw [if_pos h1] at h; cases h
  · rw [if_neg h1] at h
    by_cases h2 : 4096 < unwordN bs
    · rw [if_pos h2] at h; cases h
    · rw [if_neg h2] at h
      by_cases h3 : bs.length < 8 + unwordN bs
      · rw [if_pos h3] at h; cases h
      · rw [if_neg h3] at h
        by_cases h4 : sumN ((bs.drop 8).take (unwordN bs)) = unwordN (bs.drop 4)
        · rw [if_pos h4] at h
          injection h with hp h; injection h with hn _
          have hpl : p.length = unwordN bs := by rw [← hp, List.length_take, List.length_drop]; omega
          refine ⟨?_, by omega, by omega, by omega, by rw [hpl]; exact hp.symm⟩
          have hw : ∀ xs : List UInt8, 4 ≤ xs.length → wordB (unwordN xs) = xs.take 4 := by
            intro xs hx
            match xs, hx with
            | a :: b :: c :: d :: r, _ => rw [word_unword]; rfl
          unfold frameB
          rw [hpl, ← hp, h4, hw bs (by omega), hw (bs.drop 4) (by rw [List.length_drop]; omega), ← hn]
          have e1 : bs.take (8 + unwordN bs) = bs.take 8 ++ (bs.drop 8).take (unwordN bs) := List.take_add
          have e2 : bs.take 8 = bs.take 4 ++ (bs.drop 4).take 4 := List.take_add (i := 4) (j := 4)
          rw [e1, e2]
        · rw [if_neg h4] at h; cases h
end Go.Proofs.YtfpomllhkbbipaaGreat.Pk
