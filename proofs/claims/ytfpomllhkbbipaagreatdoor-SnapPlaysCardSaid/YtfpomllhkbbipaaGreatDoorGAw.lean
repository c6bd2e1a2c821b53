/- Layer 8: files of names of numbers, whatever their bytes: what SnapRaw asks (plain); the document's Name. -/
import Derived.Test.YtfpomllhkbbipaaGreatDoorGAt
import Derived.Test.YtfpomllhkbbipaaGreatDoorGAv
namespace Go.Proofs.YtfpomllhkbbipaaGreatDoor
open Go Go.RowKit Go.Shelf Go.Sort Go.Maps Go.Lib Mem Pk Cf Dsk Go.Proofs.YtfpomllhkbbipaaGreatDoor.Nm
namespace Nm
theorem pad_cons (k : Nat) : ∀ u : Nat, pad (k + 1) u = UInt8.ofNat (48 + u / 10 ^ k % 10) :: pad k u := by
 induction k with
 | zero => intro u; simp [pad]
 | succ k ih =>
   intro u
   show pad (k + 1) (u / 10) ++ [UInt8.ofNat (48 + u % 10)] = _
   rw [ih (u / 10)]
   have : u / 10 / 10 ^ k = u / 10 ^ (k + 1) := by rw [Nat.div_div_eq_div_mul, Nat.pow_succ, Nat.mul_comm]
   rw [this]
   rfl
theorem dg_mod (x : Nat) : ((x : Nat) : Int).tmod 10 = ((x % 10 : Nat) : Int) := by rw [Int.tmod_eq_emod_of_nonneg (Int.natCast_nonneg x)]; rfl
theorem dg_div (x : Nat) : ((x : Nat) : Int).tdiv 10 = ((x / 10 : Nat) : Int) := by rw [Int.tdiv_eq_ediv_of_nonneg (Int.natCast_nonneg x)]; rfl
theorem dg_next (u k x : Nat) (hx : x = u / 10 ^ k) : x / 10 = u / 10 ^ (k + 1) := by rw [hx, Nat.pow_succ, Nat.div_div_eq_div_mul]
theorem dg_wrap (y : Nat) (h : y < 10) : wrap64 (48 + (y : Int)) = 48 + (y : Int) := by
 unfold wrap64; omega
theorem dg_quo (u k x : Nat) (hu : u ≤ 9223372036854775807) (hx : x = u / 10 ^ k) : wrap64 ((x : Int) / 10) = ((x / 10 : Nat) : Int) := by
 have : x ≤ u := by rw [hx]; exact Nat.div_le_self _ _
 unfold wrap64; omega
theorem dg_byte (y : Nat) (h : y < 10) : (48 + (y : Int)) % 256 = 48 + (y : Int) := by omega
theorem dg_cons (u k x y : Nat) (hx : x = u / 10 ^ k) (hy : y = x % 10) : (⟨#[UInt8.ofNat (48 + y)]⟩ : ByteArray) ++ ⟨(pad k u).toArray⟩ = ⟨(pad (k + 1) u).toArray⟩ := by
 rw [pad_cons, ← hx, ← hy]
 apply ByteArray.ext
 simp [ByteArray.data_append]
theorem dg_s (u : Nat) : (⟨#[115]⟩ : ByteArray) ++ (⟨(119 :: pad 15 u).toArray⟩ : ByteArray).extract 1 16 = ⟨(nmOf 115 u).toArray⟩ := by
 have := pad_len 15 u
 apply ByteArray.ext
 simp [ByteArray.data_append, ByteArray.data_extract, nmOf, List.take_of_length_le (Nat.le_of_eq this)]
theorem dg_w (u : Nat) : (⟨#[119]⟩ : ByteArray) ++ ⟨(pad 15 u).toArray⟩ = ⟨(119 :: pad 15 u).toArray⟩ := by
 apply ByteArray.ext
 simp [ByteArray.data_append]
theorem dg_conv {wr : World} {y : Nat} (hy : y < 10) : (convert 36 9 (.slice (some ⟨wr.heap.size, 0, none⟩) 1 1)).run Tryz.prog (wr.alloc (.cells #[.int .u8 (48 + (y : Int))] 5)) = .ok (.string ⟨#[UInt8.ofNat (48 + y)]⟩) (wr.alloc (.cells #[.int .u8 (48 + (y : Int))] 5)) :=
 run_convert_bytes_back (P := Tryz.prog) _ 36 9 5 ⟨wr.heap.size, 0, none⟩ 1 [UInt8.ofNat (48 + y)] Tryz.underlying36 Tryz.underlying5 Tryz.underlying9 (by
  intro j hj
  simp only [List.length_singleton] at hj
  obtain rfl : j = 0 := by omega
  have h9 : (UInt8.ofNat (48 + y)).toNat = 48 + y := by rw [UInt8.toNat_ofNat']; omega
  have hB : Blk (wr.alloc (.cells #[.int .u8 (48 + (y : Int))] 5)) wr.heap.size 5 #[.int .u8 (48 + (y : Int))] := Blk.new_ _ _ _
  have h0 := hB.cell 0
  show _ = some (Value.int .u8 (((UInt8.ofNat (48 + y)).toNat : Nat) : Int))
  rw [h9]
  exact h0)
end Nm
def DgRel (u h0 : Nat) (w : World) (xv ov iv : Value) (W : World) : Prop :=
 ∃ k x : Nat, k ≤ 15 ∧ x = u / 10 ^ k ∧ xv = .int .i64 (x : Int) ∧ ov = .string ⟨(pad k u).toArray⟩ ∧ iv = .int .i64 (k : Int) ∧ Below h0 w W
set_option maxRecDepth 100000 in
set_option maxHeartbeats 4000000 in
theorem RName6_any {w : World} (u : Nat) (hu : u ≤ 9223372036854775807) :
 Calls Tryz.prog 51 #[.int .i64 (u : Int)] w fun e w' => e = .returned (.string ⟨(119 :: pad 15 u).toArray⟩) ∧ Below w.heap.size w w' := by
 go_enter Tryz.func51, Tryz.ntmps51
 go_wp2_with fail
 go_loopw [0, 3, 4] (fun xv ov iv wr => DgRel u w.heap.size w xv ov iv wr) (fun _ _ iv _ => 15 - (intOf iv).toNat)
 case atStart => exact ⟨0, u, by decide, by simp, rfl, rfl, rfl, Below.refl _ _⟩
 case round =>
  obtain ⟨k, x, hk, hx, rfl, rfl, rfl, hbw⟩ := hrel
  have HX := Lib.hid hx
  have hpl := pad_len k u
  clear hx
  by_cases h15 : k < 15
  ·have h1 : (k : Int) < 15 := by omega
   obtain ⟨y, hy⟩ : ∃ y, y = x % 10 := ⟨_, rfl⟩
   have hy10 : y < 10 := by omega
   have hm := dg_mod x
   have hq := dg_div x
   have hq2 := dg_quo u k x hu HX.out
   rw [← hy] at hm
   have hw1 := dg_wrap y hy10
   have hw2 := dg_byte y hy10
   have hcv := dg_conv (wr := wr) hy10
   have HB2 : Hid (Below w.heap.size w (wr.alloc (.cells #[.int .u8 (48 + (y : Int))] 5))) := Lib.hid (hbw.trans (((Below.refl wr.heap.size wr).alloc (Nat.le_refl _) _).mono hbw.size))
   have hco := dg_cons u k x y HX.out hy
   obtain ⟨ch, hch⟩ : ∃ ch, ch = UInt8.ofNat (48 + y) := ⟨_, rfl⟩
   rw [← hch] at hcv hco
   have HCV := Lib.hid hcv
   have HCO := Lib.hid hco
   clear hcv hco hch
   have HNX := Lib.hid (dg_next u k x HX.out)
   have hl9 : ¬ 9223372036854775807 < 1 + (pad k u).length := by rw [hpl]; omega
   have HLT := Lib.hid h15
   clear hbw hy hy10 h15 hk
   go_wp2_with fail
   rw [HCV.out]
   go_wp2_with fail
   go_roundw
   case rel => exact ⟨k + 1, x / 10, HLT.out, HNX.out, by rw [hq2], by rw [HCO.out], by go_num, HB2.out⟩
   case measure => simp [intOf]; have := HLT.out; omega
  ·obtain rfl : k = 15 := by omega
   have h9 : ¬ 9223372036854775807 < 1 + (pad 15 u).length := by rw [hpl]; decide
   have HB := Lib.hid hbw
   clear hbw hk h15
   go_wp2_with fail
   go_ret
   rw [← dg_w]
   exact ⟨rfl, HB.out⟩
theorem RName8_any {w : World} (u : Nat) (hu : u ≤ 9223372036854775807) :
 Calls Tryz.prog 22 #[.int .i64 (u : Int)] w fun e w' => e = .returned (.string ⟨(nmOf 115 u).toArray⟩) ∧ Below w.heap.size w w' := by
 have hpl := pad_len 15 u
 go_enter Tryz.func22, Tryz.ntmps22
 go_wp2_with fail
 (with_reducible refine (RName6_any u hu).mono ?_); rintro e w1 ⟨rfl, hb1⟩
 go_wp2_with fail
 go_ret
 rw [← dg_s]
 exact ⟨rfl, hb1⟩
end Go.Proofs.YtfpomllhkbbipaaGreatDoor
namespace Go.Proofs.YtfpomllhkbbipaaGreatDoor
open Go Go.RowKit Go.Shelf Go.Sort Go.Maps Go.Lib Mem Pk Cf Dsk Go.Proofs.YtfpomllhkbbipaaGreatDoor.Nm
def IxRel (r : List UInt8) (w : World) (nv iv : Value) (W : World) : Prop :=
 ∃ j acc : Nat, 1 ≤ j ∧ j ≤ 16 ∧ nv = .int .i64 (acc : Int) ∧ iv = .int .i64 (j : Int) ∧ acc < 10 ^ (j - 1) ∧ numD 0 r = numD acc (r.drop (j - 1)) ∧ W = w
def IxP (c : UInt8) (n : Name) (w : World) (e : Ending) (w' : World) : Prop := e = .returned (.tuple #[.int .i64 (((idxN c n).getD 0 : Nat) : Int), .bool (idxN c n).isSome]) ∧ w' = w
theorem ix_no16 {c : UInt8} {n : Name} (h : n.length ≠ 16) : idxN c n = none := by
 cases h9 : idxN c n with
 | none => rfl
 | some i => exact absurd ((idxN_iff.1 h9).2 ▸ nmOf_len c i) h
theorem ix_cons {c : UInt8} {r : List UInt8} (hr : r.length = 15) : idxN c (c :: r) = numD 0 r := by unfold idxN; simp [hr]
theorem ix_other {c x : UInt8} {r : List UInt8} (h : x ≠ c) : idxN c (x :: r) = none := by unfold idxN; simp [h]
theorem ix_step {acc j : Nat} {c : UInt8} (hj : 1 ≤ j) (hc : 48 ≤ c.toNat ∧ c.toNat ≤ 57) (h : acc < 10 ^ (j - 1)) : acc * 10 + (c.toNat - 48) < 10 ^ (j + 1 - 1) := by
 obtain ⟨i, rfl⟩ : ∃ i, j = i + 1 := ⟨j - 1, by omega⟩
 have : 10 ^ (i + 1 + 1 - 1) = 10 ^ i * 10 := by rw [show i + 1 + 1 - 1 = i + 1 by omega, Nat.pow_succ]
 rw [this]
 have h' : acc < 10 ^ i := h
 omega
theorem ix_big {acc j : Nat} (hj : j ≤ 15) (h : acc < 10 ^ (j - 1)) : acc ≤ 100000000000000 := by
 have : 10 ^ (j - 1) ≤ 10 ^ 14 := Nat.pow_le_pow_right (by decide) (by omega)
 omega
theorem ix_wrap (acc : Nat) (_c : UInt8) (h : acc ≤ 100000000000000) : wrap64 ((acc : Int) * 10) = ((acc * 10 : Nat) : Int) := by unfold wrap64; omega
theorem ix_sub (c : UInt8) (hc : 48 ≤ c.toNat ∧ c.toNat ≤ 57) : ((c.toNat : Int) - 48) % 256 = ((c.toNat - 48 : Nat) : Int) := by omega
theorem ix_add (acc : Nat) (c : UInt8) (hc : 48 ≤ c.toNat ∧ c.toNat ≤ 57) (h : acc ≤ 100000000000000) : wrap64 ((acc : Int) * 10 + ((c.toNat : Int) - 48)) = ((acc * 10 + (c.toNat - 48) : Nat) : Int) := by unfold wrap64; omega
theorem ba_get {n : Name} {j : Nat} (_h : j < n.length) (h' : j < (⟨n.toArray⟩ : ByteArray).size) : (⟨n.toArray⟩ : ByteArray)[j]'h' = n[j] := by
 show n.toArray[j]'_ = _
 simp
set_option maxRecDepth 100000 in
set_option maxHeartbeats 4000000 in
theorem RIx6_any {w : World} (n : Name) (hn : n.length ≤ maxLen) : Calls Tryz.prog 59 #[.string ⟨n.toArray⟩] w (IxP 119 n w) := by
 unfold IxP
 obtain ⟨b, hb⟩ : ∃ b : ByteArray, b = ⟨n.toArray⟩ := ⟨_, rfl⟩
 have hsz : b.size = n.length := by rw [hb]; show n.toArray.size = _; simp
 have hget : ∀ j (h : j < n.length), b[j]'(by omega) = n[j] := by subst hb; exact fun j h => ba_get h _
 rw [← hb]
 clear hb
 by_cases h16 : n.length = 16
 ·obtain ⟨x, r, rfl⟩ : ∃ x r, n = x :: r := by
   cases n with
   | nil => simp at h16
   | cons x r => exact ⟨x, r, rfl⟩
  have hr : r.length = 15 := by simpa using h16
  have h0 := hget 0 (by simp)
  simp only [List.getElem_cons_zero] at h0
  have hs16 : b.size = 16 := by rw [hsz, h16]
  clear hn
  by_cases hx : x = 119
  ·subst hx
   rw [ix_cons hr]
   have HG : Hid (∀ k (h : k < r.length), b[k + 1]'(by omega) = r[k]) := Lib.hid (fun k h => by have := hget (k + 1) (by simp; omega); simpa using this)
   clear hget h16
   go_enter Tryz.func59, Tryz.ntmps59
   go_wp2_with fail
   go_loopw [4, 5] (fun nv iv wr => IxRel r w nv iv wr) (fun _ iv _ => 16 - (intOf iv).toNat)
   case atStart => exact ⟨1, 0, by decide, by decide, rfl, rfl, by decide, rfl, rfl⟩
   case round =>
    obtain ⟨j, acc, hj1, hj, rfl, rfl, hacc, hnum, rfl⟩ := hrel
    by_cases hlt : j < 16
    ·obtain ⟨c, hc⟩ : ∃ c, c = r[j - 1]'(by omega) := ⟨_, rfl⟩
     have hbj : b[j]'(by omega) = c := by
      have := HG.out (j - 1) (by omega)
      rw [hc, ← this]
      congr 1; omega
     have hdr : r.drop (j - 1) = c :: r.drop (j + 1 - 1) := by
      rw [List.drop_eq_getElem_cons (by omega), ← hc]; congr 2; omega
     rw [hdr, numD_cons] at hnum
     have hj0 : (j : Int) < 16 := by omega
     have hjs : (j : Int) < (b.size : Int) := by omega
     have hjn : (0 : Int) ≤ (j : Int) := by omega
     have HLT := Lib.hid hlt
     have HJ1 := Lib.hid hj1
     have HACC := Lib.hid hacc
     clear hdr hc
     by_cases hd1 : c.toNat < 48
     ·have t1 : (c.toNat : Int) < 48 := by omega
      have HN : Hid (numD 0 r = none) := Lib.hid (by rw [hnum, if_neg (by omega)])
      clear hnum hacc
      go_wp2_with fail
      refine bodyPost_ret (v := .tuple #[.int .i64 0, .bool false]) (by simp [results, Tryz.results59, go_sem]) rfl ?_
      rw [HN.out]
      exact ⟨rfl, rfl⟩
     ·have t1 : ¬ (c.toNat : Int) < 48 := by omega
      by_cases hd2 : 57 < c.toNat
      ·have t2 : (57 : Int) < (c.toNat : Int) := by omega
       have HN : Hid (numD 0 r = none) := Lib.hid (by rw [hnum, if_neg (by omega)])
       clear hnum hacc
       go_wp2_with fail
       refine bodyPost_ret (v := .tuple #[.int .i64 0, .bool false]) (by simp [results, Tryz.results59, go_sem]) rfl ?_
       rw [HN.out]
       exact ⟨rfl, rfl⟩
      ·have t2 : ¬ (57 : Int) < (c.toNat : Int) := by omega
       have hc9 : 48 ≤ c.toNat ∧ c.toNat ≤ 57 := ⟨by omega, by omega⟩
       rw [if_pos hc9] at hnum
       have hab := ix_big (by omega) hacc
       have w1 := ix_wrap acc c hab
       have w2 := ix_sub c hc9
       have w3 := ix_add acc c hc9 hab
       have HN := Lib.hid hnum
       have HST := Lib.hid (ix_step hj1 hc9 hacc)
       clear hnum hacc hab hc9
       go_wp2_with fail
       go_roundw
       case rel => exact ⟨j + 1, acc * 10 + (c.toNat - 48), by omega, HLT.out, by rw [w3], by go_num, HST.out, HN.out, rfl⟩
       case measure => simp [intOf]; have := HLT.out; omega
    ·obtain rfl : j = 16 := by omega
     have hnil : r.drop (16 - 1) = [] := List.drop_eq_nil_of_le (by omega)
     rw [hnil] at hnum
     have HN : Hid (numD 0 r = some acc) := Lib.hid hnum
     clear hnum hacc hnil
     go_wp2_with fail
     refine bodyPost_ret (v := .tuple #[.int .i64 (acc : Int), .bool true]) (by simp [results, Tryz.results59, go_sem]) rfl ?_
     rw [HN.out]
     exact ⟨rfl, rfl⟩
  ·have t1 : ((x.toNat : Int) != 119) = true := by
    have : x.toNat ≠ 119 := fun h => hx (UInt8.toNat_inj.1 h)
    simp; omega
   rw [ix_other hx]
   clear hget
   go_enter Tryz.func59, Tryz.ntmps59
   go_wp2_with fail
   refine bodyPost_ret (v := .tuple #[.int .i64 0, .bool false]) (by simp [results, Tryz.results59, go_sem]) rfl ?_
   exact ⟨rfl, rfl⟩
 ·have h1 : ((n.length : Int) != 16) = true := by simp; omega
  clear hget
  rw [ix_no16 h16]
  go_enter Tryz.func59, Tryz.ntmps59
  go_wp2_with fail
  refine bodyPost_ret (v := .tuple #[.int .i64 0, .bool false]) (by simp [results, Tryz.results59, go_sem]) rfl ?_
  exact ⟨rfl, rfl⟩
theorem dg_w2 (r : List UInt8) (c : UInt8) (hr : r.length = 15) : (⟨#[119]⟩ : ByteArray) ++ (⟨(c :: r).toArray⟩ : ByteArray).extract 1 16 = ⟨(119 :: r).toArray⟩ := by
 apply ByteArray.ext
 simp [ByteArray.data_append, ByteArray.data_extract, List.take_of_length_le (Nat.le_of_eq hr)]
theorem ix_two {r : List UInt8} (hr : r.length = 15) : idxN 119 (119 :: r) = idxN 115 (115 :: r) := by rw [ix_cons hr, ix_cons hr]
set_option maxRecDepth 100000 in
theorem RIx8_any {w : World} (n : Name) (hn : n.length ≤ maxLen) : Calls Tryz.prog 32 #[.string ⟨n.toArray⟩] w (IxP 115 n w) := by
 unfold IxP
 obtain ⟨b, hb⟩ : ∃ b : ByteArray, b = ⟨n.toArray⟩ := ⟨_, rfl⟩
 have hsz : b.size = n.length := by rw [hb]; show n.toArray.size = _; simp
 by_cases h16 : n.length = 16
 ·obtain ⟨x, r, rfl⟩ : ∃ x r, n = x :: r := by
   cases n with
   | nil => simp at h16
   | cons x r => exact ⟨x, r, rfl⟩
  have hr : r.length = 15 := by simpa using h16
  have hs16 : b.size = 16 := by rw [hsz, h16]
  have h0 : b[0]'(by omega) = x := by subst hb; exact ba_get (n := x :: r) (j := 0) (by simp) _
  have hcat := dg_w2 r x hr
  rw [← hb] at hcat ⊢
  clear hn hb
  by_cases hx : x = 115
  ·subst hx
   have HIX := Lib.hid (RIx6_any (w := w) (119 :: r) (by simp [hr]; unfold maxLen; decide))
   have H2 := Lib.hid (ix_two hr)
   have HC := Lib.hid hcat
   clear hcat
   go_enter Tryz.func32, Tryz.ntmps32
   go_wp2_with fail
   rw [HC.out]
   (with_reducible refine HIX.out.mono ?_); rintro e w1 ⟨rfl, rfl⟩
   go_wp2_with fail
   refine bodyPost_ret (v := .tuple #[.int .i64 (((idxN 119 (119 :: r)).getD 0 : Nat) : Int), .bool (idxN 119 (119 :: r)).isSome]) (by simp [results, Tryz.results32, go_sem]) rfl ?_
   rw [H2.out]
   exact ⟨rfl, rfl⟩
  ·have t1 : ((x.toNat : Int) != 115) = true := by
    have : x.toNat ≠ 115 := fun h => hx (UInt8.toNat_inj.1 h)
    simp; omega
   rw [ix_other hx]
   clear hcat
   go_enter Tryz.func32, Tryz.ntmps32
   go_wp2_with fail
   refine bodyPost_ret (v := .tuple #[.int .i64 0, .bool false]) (by simp [results, Tryz.results32, go_sem]) rfl ?_
   exact ⟨rfl, rfl⟩
 ·have h1 : ((n.length : Int) != 16) = true := by simp; omega
  rw [ix_no16 h16, ← hb]
  clear hb
  go_enter Tryz.func32, Tryz.ntmps32
  go_wp2_with fail
  refine bodyPost_ret (v := .tuple #[.int .i64 0, .bool false]) (by simp [results, Tryz.results32, go_sem]) rfl ?_
  exact ⟨rfl, rfl⟩
end Go.Proofs.YtfpomllhkbbipaaGreatDoor
