/- Names that bear a number: plain words, no program. -/
import Derived.Lib.ParseIntBCases
import Derived.Lib.ItoaNum
import Derived.Lib.Repeat
import Derived.Test.YtifgajinfcihmaaGreatDoorJAm
namespace Go.Proofs.YtifgajinfcihmaaGreatDoor
open Go Dsk
namespace Nm
def pad : Nat → Nat → List UInt8
 | 0, _ => []
 | k + 1, u => pad k (u / 10) ++ [UInt8.ofNat (48 + u % 10)]
theorem pad_len : ∀ k u, (pad k u).length = k
 | 0, _ => rfl
 | k + 1, u => by unfold pad; rw [List.length_append, pad_len k]; rfl
theorem pad_zero : ∀ k, pad k 0 = List.replicate k 48
 | 0 => rfl
 | k + 1 => by
   unfold pad
   rw [show 0 / 10 = 0 from rfl, pad_zero k, List.replicate_succ']
   rfl
theorem pad_dec : ∀ k u, u < 10 ^ (k + 1) → List.replicate (k + 1 - Lib.nDigits u) 48 ++ Lib.decDigits u = pad (k + 1) u
 | k, u, h => by
   by_cases hs : u < 10
   ·rw [Lib.decDigits_one hs, Lib.nDigits_small hs, pad]
    rw [show u / 10 = 0 by omega, pad_zero, show u % 10 = u by omega]
    rfl
   ·match k, h with
    | 0, h => exact absurd (by simpa using h) hs
    | k + 1, h =>
      rw [pad, ← pad_dec k (u / 10) (by rw [Nat.pow_succ] at h; omega), Lib.decDigits, dif_neg hs, Lib.nDigits_big hs]
      rw [show k + 1 + 1 - (Lib.nDigits (u / 10) + 1) = k + 1 - Lib.nDigits (u / 10) by omega, List.append_assoc]
theorem nDigits_le : ∀ k u, u < 10 ^ (k + 1) → Lib.nDigits u ≤ k + 1
 | k, u, h => by
   by_cases hs : u < 10
   ·rw [Lib.nDigits_small hs]; omega
   ·match k, h with
    | 0, h => exact absurd (by simpa using h) hs
    | k + 1, h =>
      rw [Lib.nDigits_big hs]
      have := nDigits_le k (u / 10) (by rw [Nat.pow_succ] at h; omega)
      omega
def numD : Nat → List UInt8 → Option Nat
 | acc, [] => some acc
 | acc, c :: r => if 48 ≤ c.toNat ∧ c.toNat ≤ 57 then numD (acc * 10 + (c.toNat - 48)) r else none
theorem numD_cons (acc : Nat) (c : UInt8) (r : List UInt8) : numD acc (c :: r) = if 48 ≤ c.toNat ∧ c.toNat ≤ 57 then numD (acc * 10 + (c.toNat - 48)) r else none := by rw [numD]
theorem numD_append : ∀ (l r : List UInt8) (acc : Nat), numD acc (l ++ r) = (numD acc l).bind (fun a => numD a r)
 | [], _, _ => rfl
 | c :: l, r, acc => by
   rw [List.cons_append, numD_cons, numD_cons]
   split
   ·exact numD_append l r _
   ·rfl
theorem numD_ge : ∀ (l : List UInt8) (acc v : Nat), numD acc l = some v → acc ≤ v
 | [], acc, v, h => by injection h with h; omega
 | c :: l, acc, v, h => by
   unfold numD at h
   split at h
   ·have := numD_ge l _ v h; omega
   ·cases h
theorem dig_ok (d : Nat) (h : d < 10) : (UInt8.ofNat (48 + d)).toNat = 48 + d := by
 rw [UInt8.toNat_ofNat']; omega
theorem numD_pad : ∀ k acc u, u < 10 ^ k → numD acc (pad k u) = some (acc * 10 ^ k + u)
 | 0, acc, u, h => by
   have : u = 0 := by simpa using h
   subst this; simp [pad, numD]
 | k + 1, acc, u, h => by
   unfold pad
   rw [numD_append, numD_pad k acc (u / 10) (by rw [Nat.pow_succ] at h; omega)]
   show numD _ [_] = _
   unfold numD
   rw [dig_ok (u % 10) (by omega), if_pos (by omega)]
   unfold numD
   refine congrArg some ?_
   rw [Nat.pow_succ]
   have e : (acc * 10 ^ k + u / 10) * 10 = acc * (10 ^ k * 10) + u / 10 * 10 := by rw [Nat.add_mul, Nat.mul_assoc]
   rw [e]
   omega
theorem digit_of {c : UInt8} (h : 48 ≤ c.toNat ∧ c.toNat ≤ 57) : ∃ d, d < 10 ∧ c = UInt8.ofNat (48 + d) ∧ c.toNat - 48 = d :=
 ⟨c.toNat - 48, by omega, by apply UInt8.toNat_inj.1; rw [dig_ok _ (by omega)]; omega, rfl⟩
theorem numD_inv : ∀ (l : List UInt8) (v : Nat), numD 0 l = some v → v < 10 ^ l.length ∧ l = pad l.length v := by
 intro l
 induction hn : l.length generalizing l with
 | zero =>
   intro v h
   have : l = [] := List.eq_nil_of_length_eq_zero hn
   subst this
   injection h with h
   subst h
   exact ⟨by simp, rfl⟩
 | succ n ih =>
   intro v h
   obtain ⟨l0, c, rfl⟩ : ∃ l0 c, l = l0 ++ [c] := by
    have hne : l ≠ [] := by intro e; subst e; simp at hn
    exact ⟨l.dropLast, l.getLast hne, (List.dropLast_concat_getLast hne).symm⟩
   have hl : l0.length = n := by simpa using hn
   rw [numD_append] at h
   cases h0 : numD 0 l0 with
   | none => rw [h0] at h; cases h
   | some u =>
     rw [h0] at h
     obtain ⟨h1, h2⟩ := ih l0 hl u h0
     change numD u [c] = some v at h
     unfold numD at h
     split at h
     ·rename_i hc
      obtain ⟨d, hd, e1, e2⟩ := digit_of hc
      unfold numD at h
      injection h with h
      rw [e2] at h
      refine ⟨by rw [Nat.pow_succ]; omega, ?_⟩
      unfold pad
      rw [show v / 10 = u by omega, show v % 10 = d by omega, ← h2, e1]
     ·cases h
def nmOf (c : UInt8) (i : Nat) : Name := c :: pad 15 i
def idxN (c : UInt8) (n : Name) : Option Nat :=
 match n with
 | [] => none
 | x :: r => if x = c ∧ r.length = 15 then numD 0 r else none
theorem idxN_iff {c : UInt8} {n : Name} {i : Nat} : idxN c n = some i ↔ i < 1000000000000000 ∧ n = nmOf c i := by
 constructor
 ·intro h
  unfold idxN at h
  split at h
  ·cases h
  ·rename_i x r
   split at h
   ·rename_i hc
    obtain ⟨h1, h2⟩ := numD_inv r i h
    rw [hc.2] at h1 h2
    exact ⟨by simpa using h1, by unfold nmOf; rw [← h2, hc.1]⟩
   ·cases h
 ·rintro ⟨h1, rfl⟩
  show (if c = c ∧ (pad 15 i).length = 15 then numD 0 (pad 15 i) else none) = some i
  rw [if_pos ⟨rfl, pad_len 15 i⟩, numD_pad 15 0 i (by simpa using h1), Nat.zero_mul, Nat.zero_add]
theorem nmOf_len (c : UInt8) (i : Nat) : (nmOf c i).length = 16 := by unfold nmOf; rw [List.length_cons, pad_len]
theorem pad_mod : ∀ k u, pad k (u % 10 ^ k) = pad k u
 | 0, _ => rfl
 | k + 1, u => by
   unfold pad
   have e1 : u % 10 ^ (k + 1) / 10 = u / 10 % 10 ^ k := by
    rw [Nat.pow_succ, Nat.mul_comm, Nat.mod_mul_right_div_self]
   have e2 : u % 10 ^ (k + 1) % 10 = u % 10 := by
    rw [Nat.pow_succ, Nat.mul_comm]; exact Nat.mod_mul_right_mod u 10 (10 ^ k)
   rw [e1, e2, pad_mod k]
theorem nmOf_mod (c : UInt8) (u : Nat) : nmOf c (u % 1000000000000000) = nmOf c u := by
 have := pad_mod 15 u
 unfold nmOf
 rw [← this]
theorem parse_num : ∀ (l : List UInt8) (acc v M : Nat), numD acc l = some v → v < 1000000000000000000 → 1000000000000000000 ≤ M → Lib.parseUintM M acc l = .ok v
 | [], acc, v, M, h, _, _ => by injection h with h; subst h; rfl
 | c :: l, acc, v, M, h, hv, hM => by
   unfold numD at h
   unfold Lib.parseUintM
   split at h
   ·rename_i hc
    have hg := numD_ge l _ v h
    rw [if_pos hc, if_neg (by omega), if_neg (by omega)]
    exact parse_num l _ v M h hv hM
   ·cases h
theorem num_parse : ∀ (l : List UInt8) (acc v M : Nat), Lib.parseUintM M acc l = .ok v → numD acc l = some v
 | [], acc, v, M, h => by injection h with h; subst h; rfl
 | c :: l, acc, v, M, h => by
   unfold Lib.parseUintM at h
   unfold numD
   split at h
   ·rename_i hc
    rw [if_pos hc]
    split at h
    ·cases h
    ·split at h
     ·cases h
     ·exact num_parse l _ v M h
   ·cases h
theorem parse_ok {r : List UInt8} {v : Nat} (hl : r.length = 15) (h : numD 0 r = some v) : Lib.parseIntB 64 r = .ok (v : Int) := by
 have hv := (numD_inv r v h).1
 rw [hl] at hv
 have hv : v < 1000000000000000 := by simpa using hv
 cases r with
 | nil => simp at hl
 | cons c r =>
   have hc : 48 ≤ c.toNat ∧ c.toNat ≤ 57 := by
    unfold numD at h
    split at h
    ·assumption
    ·cases h
   have hp := parse_num (c :: r) 0 v (2 ^ 64 - 1) h (by omega) (by decide)
   unfold Lib.parseIntB Lib.parseUintB
   simp only
   have hs : ¬ (c.toNat = 43 ∨ c.toNat = 45) := by omega
   have hn : ¬ c.toNat = 45 := by omega
   rw [if_neg hs, if_neg (List.cons_ne_nil c r), hp]
   simp only [hn, not_false_eq_true, true_and, false_and, if_false]
   rw [if_neg (by simp; omega)]
theorem parse_back {r : List UInt8} {v : Int} (hl : r.length = 15) (h : Lib.parseIntB 64 r = .ok v) (h0 : 0 ≤ v) : v < 1000000000000000 := by
 cases r with
 | nil => simp at hl
 | cons c r =>
   unfold Lib.parseIntB Lib.parseUintB at h
   simp only at h
   have key : ∀ (l : List UInt8) (u : Nat), l.length ≤ 15 → Lib.parseUintM (2 ^ 64 - 1) 0 l = .ok u → u < 1000000000000000 := by
    intro l u hl hp
    have h1 := (numD_inv l u (num_parse l 0 u _ hp)).1
    have h2 : 10 ^ l.length ≤ 10 ^ 15 := Nat.pow_le_pow_right (by decide) hl
    omega
   by_cases hs : c.toNat = 43 ∨ c.toNat = 45
   ·rw [if_pos hs] at h
    by_cases hr : r = []
    ·rw [if_pos hr] at h; cases h
    ·rw [if_neg hr] at h
     cases hp : Lib.parseUintM (2 ^ 64 - 1) 0 r with
     | range => rw [hp] at h; cases h
     | ok u =>
       rw [hp] at h
       have hu := key r u (by simp at hl; omega) hp
       simp only at h
       split at h
       ·cases h
       ·split at h
        ·cases h
        ·split at h <;> (injection h with h; omega)
     | _ => rw [hp] at h; cases h
   ·rw [if_neg hs, if_neg (by simp)] at h
    cases hp : Lib.parseUintM (2 ^ 64 - 1) 0 (c :: r) with
    | range => rw [hp] at h; cases h
    | ok u =>
      rw [hp] at h
      have hu := key (c :: r) u (by omega) hp
      simp only at h
      split at h
      ·cases h
      ·split at h
       ·cases h
       ·split at h <;> (injection h with h; omega)
    | _ => rw [hp] at h; cases h
theorem written (c : UInt8) {v : Nat} (h : v < 1000000000000000) : c :: (Lib.repeatL [48] (15 - (Lib.decDigits v).length) ++ Lib.decDigits v) = nmOf c v := by
 unfold nmOf
 rw [← pad_dec 14 v (by simpa using h), Lib.decDigits_length]
 have := Lib.repeatL_replicate 48 1 (15 - Lib.nDigits v)
 rw [show List.replicate 1 (48 : UInt8) = [48] from rfl, Nat.mul_one] at this
 rw [this]
end Nm
end Go.Proofs.YtifgajinfcihmaaGreatDoor
