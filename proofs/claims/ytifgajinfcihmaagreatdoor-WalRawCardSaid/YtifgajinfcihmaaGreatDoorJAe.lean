/- What both the bytes' and the disk's texts need: bytes as elements, slices cut. -/
import Derived.Laws.BitsAllLaws
import Derived.Laws.BitsLemmas
import Derived.WalkKit
import Derived.Test.YtifgajinfcihmaaGreatDoorJAb
namespace Go.Proofs.YtifgajinfcihmaaGreatDoor
open Go Go.RowKit Go.Maps Go.Lib Mem
theorem u8T : SliceT Tryz.prog 28 5 (.int .u8 0) 1 := sliceT_mk Tryz.underlying28 rfl (by kernel_rfl)
theorem fB_one (u : UInt8) : (fB u).oneCell' = true := rfl
def partA (A : Option Addr) (c k : Nat) : Option Addr := if c = k then A else A.map (·.add k)
theorem cut_lh {P : Program} {t e : TypeId} (hu : P.underlying t = some (.slice e)) (hs : ∀ w, (sizeOf e).run P w = .ok 1 w) (A : Option Addr) (len cap l h : Nat) (li hi : Int)
 (hl : li = l) (hh : hi = h) (h1 : l ≤ h) (h2 : h ≤ cap) (w : World) : (Instr.slice t (.slice A len cap) (some (.int .i64 li)) (some (.int .i64 hi)) none).run P w = .ok (.slice (partA A cap l) (h - l) (cap - l)) w := by
 subst hl; subst hh
 have he : P.elem t = e := by simp [Program.elem, hu]
 have hu' : P.underlying t = some (.slice (P.elem t)) := by rw [he]; exact hu
 rw [run_slice_lh w t A len cap hu' .i64 .i64 l h (by omega) (by omega) (by omega), he, hs]
 show Result.ok (sliced A (l : Int).toNat (h : Int).toNat cap 1) w = _
 simp [sliced, partA]
theorem cut_l {P : Program} {t e : TypeId} (hu : P.underlying t = some (.slice e)) (hs : ∀ w, (sizeOf e).run P w = .ok 1 w) (A : Option Addr) (len cap l : Nat) (li : Int)
 (hl : li = l) (h1 : l ≤ len) (w : World) : (Instr.slice t (.slice A len cap) (some (.int .i64 li)) none none).run P w = .ok (.slice (partA A cap l) (len - l) (cap - l)) w := by
 subst hl
 have he : P.elem t = e := by simp [Program.elem, hu]
 have hu' : P.underlying t = some (.slice (P.elem t)) := by rw [he]; exact hu
 rw [run_slice_l w t A len cap hu' .i64 l (by omega) (by omega), he, hs]
 show Result.ok (sliced A (l : Int).toNat len cap 1) w = _
 simp [sliced, partA]
theorem Mem.Sl.part {α : Type} {f : α → Value} {w : World} {A : Option Addr} {xs : List α} (h : Sl f w A xs) {c k m : Nat} (hm : k + m ≤ xs.length) (hc : xs.length ≤ c) :
 Sl f w (partA A c k) ((xs.drop k).take m) := by
 have hl : ((xs.drop k).take m).length = m := by simp; omega
 refine ⟨by rw [hl]; exact Nat.le_trans (by omega) h.1, fun hn => ?_⟩
 rw [hl] at hn
 obtain ⟨b, o, rfl, hcell⟩ := h.2 (by omega)
 refine ⟨b, o + k, ?_, fun j hj => ?_⟩
 ·unfold partA
  rw [if_neg (by omega)]
  simp only [Option.map_some, Addr.add]
  by_cases h0 : k = 0
  ·subst h0; rfl
  ·rw [if_neg h0]
 ·rw [Nat.add_assoc, hcell (k + j) (by rw [hl] at hj; omega)]
  simp
end Go.Proofs.YtifgajinfcihmaaGreatDoor
namespace Go.Proofs.YtifgajinfcihmaaGreatDoor.Pk
def zig (n : Int) : Nat := if 0 ≤ n then 2 * n.toNat else 2 * (-(n + 1)).toNat + 1
def unzig (u : Nat) : Int := if u % 2 = 1 then -((u / 2 : Nat) : Int) - 1 else ((u / 2 : Nat) : Int)
theorem unzig_zig (n : Int) : unzig (zig n) = n := by
 unfold unzig zig
 by_cases h : 0 ≤ n
 ·rw [if_pos h, if_neg (by omega)]; omega
 ·rw [if_neg h, if_pos (by omega)]; omega
theorem zig_unzig (u : Nat) : zig (unzig u) = u := by
 unfold unzig zig
 by_cases h : u % 2 = 1
 ·rw [if_pos h, if_neg (by omega)]; omega
 ·rw [if_neg h, if_pos (by omega)]; omega
theorem zig_lt {n : Int} (h1 : -9223372036854775808 ≤ n) (h2 : n ≤ 9223372036854775807) : zig n < 18446744073709551616 := by
 unfold zig; split <;> omega
theorem unzig_le {u : Nat} (h : u < 18446744073709551616) : -9223372036854775808 ≤ unzig u ∧ unzig u ≤ 9223372036854775807 := by
 unfold unzig; split <;> omega
def numF : Nat → Nat → List UInt8
 | 0, u => [UInt8.ofNat u]
 | k + 1, u => if u < 128 then [UInt8.ofNat u] else UInt8.ofNat (u % 128 + 128) :: numF k (u / 128)
def numB (n : Int) : List UInt8 := numF 9 (zig n)
theorem numF_small {k u : Nat} (h : u < 128) : numF k u = [UInt8.ofNat u] := by
 cases k with
 | zero => rfl
 | succ k => unfold numF; rw [if_pos h]
theorem numF_big {k u : Nat} (h : ¬ u < 128) : numF (k + 1) u = UInt8.ofNat (u % 128 + 128) :: numF k (u / 128) := by
 rw [numF, if_neg h]
theorem numF_len : ∀ (k u : Nat), 1 ≤ (numF k u).length ∧ (numF k u).length ≤ k + 1
 | 0, u => by simp [numF]
 | k + 1, u => by
   unfold numF
   have := numF_len k (u / 128)
   split <;> simp <;> omega
theorem numB_len (n : Int) : 1 ≤ (numB n).length ∧ (numB n).length ≤ 10 := numF_len 9 _
theorem pow_step (i : Nat) : 128 ^ (i + 1) = 128 ^ i * 128 := Nat.pow_succ ..
def gnGo : Nat → Nat → List UInt8 → Option (Int × Nat)
 | _, _, [] => none
 | i, u, b :: r => if (i = 9 ∧ 1 < b.toNat) ∨ (0 < i ∧ b.toNat = 0) then none else if b.toNat < 128 then some (unzig (u + b.toNat % 128 * 128 ^ i), i + 1) else gnGo (i + 1) (u + b.toNat % 128 * 128 ^ i) r
def getNum (bs : List UInt8) : Option (Int × Nat) := gnGo 0 0 bs
theorem gnGo_nil (i u : Nat) : gnGo i u [] = none := by unfold gnGo; rfl
theorem gnGo_bad {i u : Nat} {b : UInt8} {r : List UInt8} (h : (i = 9 ∧ 1 < b.toNat) ∨ (0 < i ∧ b.toNat = 0)) : gnGo i u (b :: r) = none := by unfold gnGo; rw [if_pos h]
theorem gnGo_end {i u : Nat} {b : UInt8} {r : List UInt8} (h : ¬ ((i = 9 ∧ 1 < b.toNat) ∨ (0 < i ∧ b.toNat = 0))) (h2 : b.toNat < 128) : gnGo i u (b :: r) = some (unzig (u + b.toNat % 128 * 128 ^ i), i + 1) := by
 unfold gnGo; rw [if_neg h, if_pos h2]
theorem gnGo_on {i u : Nat} {b : UInt8} {r : List UInt8} (h : ¬ ((i = 9 ∧ 1 < b.toNat) ∨ (0 < i ∧ b.toNat = 0))) (h2 : ¬ b.toNat < 128) : gnGo i u (b :: r) = gnGo (i + 1) (u + b.toNat % 128 * 128 ^ i) r := by
 rw [gnGo, if_neg h, if_neg h2]
theorem ofNat_lt {n : Nat} (h : n < 256) : (UInt8.ofNat n).toNat = n := by
 rw [UInt8.toNat_ofNat']; omega
theorem gn_numF : ∀ (k i u v : Nat) (rest : List UInt8), i + k = 9 → v * 128 ^ i < 18446744073709551616 → (0 < i → 0 < v) →
 gnGo i u (numF k v ++ rest) = some (unzig (u + v * 128 ^ i), i + (numF k v).length)
 | 0, i, u, v, rest, hi, hv, h0 => by
   have hi9 : i = 9 := by omega
   subst hi9
   have hv2 : v < 2 := by omega
   rw [numF_small (by omega)]
   have hb : (UInt8.ofNat v).toNat = v := ofNat_lt (by omega)
   have := h0 (by omega)
   show gnGo 9 u (UInt8.ofNat v :: rest) = _
   rw [gnGo_end (by rw [hb]; omega) (by rw [hb]; omega), hb, Nat.mod_eq_of_lt (by omega)]; rfl
 | k + 1, i, u, v, rest, hi, hv, h0 => by
   have hi8 : i ≠ 9 := by omega
   by_cases hs : v < 128
   ·rw [numF_small hs]
    have hb : (UInt8.ofNat v).toNat = v := ofNat_lt (by omega)
    show gnGo i u (UInt8.ofNat v :: rest) = _
    rw [gnGo_end (by rw [hb]; omega) (by rw [hb]; omega), hb, Nat.mod_eq_of_lt (by omega)]; rfl
   ·rw [numF_big hs]
    have hb : (UInt8.ofNat (v % 128 + 128)).toNat = v % 128 + 128 := ofNat_lt (by omega)
    show gnGo i u (UInt8.ofNat (v % 128 + 128) :: (numF k (v / 128) ++ rest)) = _
    rw [gnGo_on (by rw [hb]; omega) (by rw [hb]; omega), hb]
    have hd : v / 128 * 128 ^ (i + 1) ≤ v * 128 ^ i := by
     rw [pow_step, Nat.mul_comm (128 ^ i), ← Nat.mul_assoc]
     exact Nat.mul_le_mul_right _ (by omega)
    rw [gn_numF k (i + 1) _ (v / 128) rest (by omega) (by omega) (fun _ => by omega)]
    have e1 : (v % 128 + 128) % 128 = v % 128 := by omega
    have e2 : v % 128 * 128 ^ i + v / 128 * 128 ^ (i + 1) = v * 128 ^ i := by
     rw [pow_step, Nat.mul_comm (128 ^ i), ← Nat.mul_assoc, ← Nat.add_mul]
     congr 1; omega
    rw [e1, Nat.add_assoc, e2]
    simp only [List.length_cons]
    congr 2; omega
theorem getNum_num {n : Int} (h1 : -9223372036854775808 ≤ n) (h2 : n ≤ 9223372036854775807) (rest : List UInt8) : getNum (numB n ++ rest) = some (n, (numB n).length) := by
 have hz := zig_lt h1 h2
 unfold getNum numB
 rw [gn_numF 9 0 0 (zig n) rest rfl (by omega) (by omega), Nat.pow_zero, Nat.mul_one, Nat.zero_add, Nat.zero_add, unzig_zig]
theorem gn_inv : ∀ (bs : List UInt8) (k i u : Nat) (n : Int) (m : Nat), i + k = 9 → u < 128 ^ i → gnGo i u bs = some (n, m) →
 ∃ v, n = unzig (u + v * 128 ^ i) ∧ bs.take (m - i) = numF k v ∧ i < m ∧ m - i ≤ bs.length ∧ u + v * 128 ^ i < 18446744073709551616 ∧ (0 < i → 0 < v)
 | [], k, i, u, n, m, hi, hu, h => by rw [gnGo_nil] at h; cases h
 | b :: r, k, i, u, n, m, hi, hu, h => by
   by_cases hbad : (i = 9 ∧ 1 < b.toNat) ∨ (0 < i ∧ b.toNat = 0)
   ·rw [gnGo_bad hbad] at h; cases h
   ·by_cases hs : b.toNat < 128
    ·rw [gnGo_end hbad hs] at h
     simp only [Option.some.injEq, Prod.mk.injEq] at h
     obtain ⟨rfl, rfl⟩ := h
     refine ⟨b.toNat, by rw [Nat.mod_eq_of_lt hs], ?_, by omega, by simp, ?_, by omega⟩
     ·rw [numF_small hs, show i + 1 - i = 1 by omega]; simp
     ·have h9 : i ≤ 9 := by omega
      rcases Nat.lt_or_ge i 9 with h | h
      ·have e1 : b.toNat * 128 ^ i ≤ 127 * 128 ^ i := Nat.mul_le_mul_right _ (by omega)
       have e2 : 128 ^ i ≤ 128 ^ 8 := Nat.pow_le_pow_right (by omega) (by omega)
       have e3 : (128 : Nat) ^ 8 = 72057594037927936 := by decide
       omega
      ·have : i = 9 := by omega
       subst this
       have e3 : (128 : Nat) ^ 9 = 9223372036854775808 := by decide
       rw [e3] at hu ⊢
       have : b.toNat ≤ 1 := by omega
       omega
    ·rw [gnGo_on hbad hs] at h
     have hi8 : i ≠ 9 := by
      intro e; subst e
      have := fun hc => hbad (.inl ⟨rfl, hc⟩)
      omega
     have hb256 : b.toNat < 256 := b.toNat_lt
     have hu2 : u + b.toNat % 128 * 128 ^ i < 128 ^ (i + 1) := by
      have e1 : b.toNat % 128 * 128 ^ i ≤ 127 * 128 ^ i := Nat.mul_le_mul_right _ (by omega)
      rw [pow_step]; omega
     obtain ⟨v, hn, ht, hm, hl, hlt, hv0⟩ := gn_inv r (k - 1) (i + 1) _ n m (by omega) hu2 h
     have hvp := hv0 (by omega)
     have e2 : u + b.toNat % 128 * 128 ^ i + v * 128 ^ (i + 1) = u + (b.toNat % 128 + 128 * v) * 128 ^ i := by
      rw [pow_step, Nat.add_mul, Nat.add_assoc, Nat.mul_comm (128 ^ i) 128, ← Nat.mul_assoc, Nat.mul_comm v 128]
     refine ⟨b.toNat % 128 + 128 * v, by rw [hn, e2], ?_, by omega, by simp; omega, by rw [← e2]; exact hlt, by omega⟩
     obtain ⟨k', rfl⟩ : ∃ k', k = k' + 1 := ⟨k - 1, by omega⟩
     rw [numF_big (by omega), show m - i = (m - (i + 1)) + 1 by omega, List.take_succ_cons, ht]
     have e3 : (b.toNat % 128 + 128 * v) / 128 = v := by omega
     have e4 : (b.toNat % 128 + 128 * v) % 128 + 128 = b.toNat := by omega
     rw [e3, e4, UInt8.ofNat_toNat]
     rfl
theorem getNum_inv {bs : List UInt8} {n : Int} {m : Nat} (h : getNum bs = some (n, m)) : bs.take m = numB n ∧ 0 < m ∧ m ≤ bs.length ∧ m ≤ 10 ∧ -9223372036854775808 ≤ n ∧ n ≤ 9223372036854775807 := by
 obtain ⟨v, hn, ht, hm, hl, hlt, _⟩ := gn_inv bs 9 0 0 n m rfl (by decide) h
 rw [Nat.pow_zero, Nat.mul_one, Nat.zero_add] at hn hlt
 rw [Nat.sub_zero] at ht hl
 subst hn
 have h2 : numB (unzig v) = numF 9 v := by unfold numB; rw [zig_unzig]
 refine ⟨by rw [h2]; exact ht, hm, hl, ?_, unzig_le hlt⟩
 have h3 := (numF_len 9 v).2
 rw [← ht, List.length_take] at h3
 omega
end Go.Proofs.YtifgajinfcihmaaGreatDoor.Pk
namespace Go.Proofs.YtifgajinfcihmaaGreatDoor
open Go Go.RowKit Pk
theorem u8_low7 (n : Nat) (h : n < 256) : bits BinOp.and IntKind.u8 (n : Int) 127 = ((n % 128 : Nat) : Int) := by
 have h1 := u8_and_nat n 127 h (by omega)
 have h2 : n &&& 127 = n % 128 := Nat.and_two_pow_sub_one_eq_mod n 7
 rw [h2] at h1; exact h1
theorem u64_wrap_nat (n : Nat) (h : n < 18446744073709551616) : IntKind.u64.wrap (n : Int) = (n : Int) := by rw [IntKind.wrap_u64]; omega
theorem pow7 (i : Nat) : (2 : Nat) ^ (7 * i) = 128 ^ i := by rw [Nat.pow_mul]
theorem pow7z (i : Nat) : (2 : Int) ^ (7 * i) = ((128 ^ i : Nat) : Int) := by
 rw [← pow7]; simp
theorem or_disj {u m i : Nat} (h : u < 128 ^ i) : u ||| m * 128 ^ i = u + m * 128 ^ i := by
 have h1 := Nat.shiftLeft_add_eq_or_of_lt (b := u) (i := 7 * i) (by rw [pow7]; exact h) m
 rw [Nat.shiftLeft_eq, pow7] at h1
 rw [Nat.or_comm, ← h1, Nat.add_comm]
theorem num_or {u n i : Nat} (hu : u < 128 ^ i) (hn : n < 256) (hv : u + n % 128 * 128 ^ i < 18446744073709551616) :
 bits BinOp.or IntKind.u64 (u : Int) (IntKind.u64.wrap (IntKind.u64.wrap (bits BinOp.and IntKind.u8 (n : Int) 127) * 2 ^ (7 * i))) = ((u + n % 128 * 128 ^ i : Nat) : Int) := by
 rw [u8_low7 n hn, u64_wrap_nat _ (by omega), pow7z, ← Int.natCast_mul, u64_wrap_nat _ (by omega), u64_or_nat _ _ (by omega) (by omega), or_disj hu]
theorem i64_xor_zero (a : Nat) (h : a < 9223372036854775808) : bits BinOp.xor IntKind.i64 (a : Int) 0 = (a : Int) := by
 show IntKind.i64.wrap ((BitVec.ofInt 64 (a : Int) ^^^ BitVec.ofInt 64 0).toNat : Int) = _
 have h0 : BitVec.ofInt 64 0 = 0#64 := by decide
 rw [h0, BitVec.xor_zero, ofInt_u64 a (by omega)]
 rw [IntKind.wrap_i64]; omega
theorem i64_xor_ones (a : Nat) (h : a < 9223372036854775808) : bits BinOp.xor IntKind.i64 (a : Int) (-1) = -(a : Int) - 1 := by
 show IntKind.i64.wrap ((BitVec.ofInt 64 (a : Int) ^^^ BitVec.ofInt 64 (-1)).toNat : Int) = _
 have h0 : BitVec.ofInt 64 (-1) = BitVec.allOnes 64 := by decide
 rw [h0, BitVec.xor_allOnes, BitVec.toNat_not, ofInt_u64 a (by omega)]
 rw [IntKind.wrap_i64]; omega
theorem unzig_bits (v : Nat) (h : v < 18446744073709551616) :
 bits BinOp.xor IntKind.i64 (wrap64 ((v : Int) / 2)) (wrap64 (-wrap64 (bits BinOp.and IntKind.u64 (v : Int) 1))) = unzig v := by
 have h1 : bits BinOp.and IntKind.u64 (v : Int) 1 = ((v % 2 : Nat) : Int) := by
  have h2 := u64_and_nat v 1 h (by omega)
  have h3 : v &&& 1 = v % 2 := Nat.and_two_pow_sub_one_eq_mod v 1
  rw [h3] at h2; exact h2
 have h4 : wrap64 ((v : Int) / 2) = ((v / 2 : Nat) : Int) := by unfold wrap64; omega
 rw [h1, h4]
 unfold unzig
 rcases Nat.mod_two_eq_zero_or_one v with h5 | h5
 ·rw [h5, if_neg (by omega)]
  have h6 : wrap64 (-wrap64 ((0 : Nat) : Int)) = 0 := by unfold wrap64; omega
  rw [h6, i64_xor_zero _ (by omega)]
 ·rw [h5, if_pos rfl]
  have h6 : wrap64 (-wrap64 ((1 : Nat) : Int)) = -1 := by unfold wrap64; omega
  rw [h6, i64_xor_ones _ (by omega)]
theorem u64_xor_all (a : Nat) (h : a < 18446744073709551616) : bits BinOp.xor IntKind.u64 (a : Int) 18446744073709551615 = ((18446744073709551615 - a : Nat) : Int) := by
 show IntKind.u64.wrap ((BitVec.ofInt 64 (a : Int) ^^^ BitVec.ofInt 64 18446744073709551615).toNat : Int) = _
 have h0 : BitVec.ofInt 64 18446744073709551615 = BitVec.allOnes 64 := by decide
 rw [h0, BitVec.xor_allOnes, BitVec.toNat_not, ofInt_u64 a h, IntKind.wrap_u64]; omega
theorem zig_bits (n : Int) (h1 : -9223372036854775808 ≤ n) (h2 : n ≤ 9223372036854775807) :
 bits BinOp.xor IntKind.u64 (IntKind.u64.wrap (IntKind.u64.wrap n * 2)) (IntKind.u64.wrap (n / 9223372036854775808)) = ((zig n : Nat) : Int) := by
 unfold zig
 by_cases h : 0 ≤ n
 ·rw [if_pos h]
  have e1 : IntKind.u64.wrap (IntKind.u64.wrap n * 2) = ((2 * n.toNat : Nat) : Int) := by rw [IntKind.wrap_u64, IntKind.wrap_u64]; omega
  have e2 : IntKind.u64.wrap (n / 9223372036854775808) = ((0 : Nat) : Int) := by rw [IntKind.wrap_u64]; omega
  rw [e1, e2, u64_xor_nat _ _ (by omega) (by omega), Nat.xor_zero]
 ·rw [if_neg h]
  have e1 : IntKind.u64.wrap (IntKind.u64.wrap n * 2) = ((18446744073709551615 - (2 * (-(n + 1)).toNat + 1) : Nat) : Int) := by rw [IntKind.wrap_u64, IntKind.wrap_u64]; omega
  have e2 : IntKind.u64.wrap (n / 9223372036854775808) = 18446744073709551615 := by rw [IntKind.wrap_u64]; omega
  rw [e1, e2, u64_xor_all _ (by omega)]; omega
theorem u8_or128 (u : Nat) : bits BinOp.or IntKind.u8 ((u : Int) % 256) 128 = ((UInt8.ofNat (u % 128 + 128)).toNat : Int) := by
 have e1 : (u : Int) % 256 = ((u % 256 : Nat) : Int) := by omega
 rw [e1]
 have h1 := u8_or_nat (u % 256) 128 (by omega) (by omega)
 have h2 : (u % 256) ||| 128 = u % 128 + 128 := by
  have h3 := Nat.shiftLeft_add_eq_or_of_lt (b := u % 128) (i := 7) (by omega) 1
  have h5 : (1 <<< 7 : Nat) = 128 := by decide
  rw [h5] at h3
  have h4 : u % 256 = u % 128 ∨ u % 256 = u % 128 + 128 := by omega
  rcases h4 with h4 | h4
  ·rw [h4, Nat.or_comm, ← h3]; omega
  ·rw [h4, Nat.add_comm (u % 128) 128, h3, Nat.or_comm, ← Nat.or_assoc, Nat.or_self]
 rw [h2] at h1
 rw [ofNat_lt (by omega)]
 exact h1
end Go.Proofs.YtifgajinfcihmaaGreatDoor
