/- Layer 3: a number put behind bytes. -/
import Derived.Deep.DeepCutAuto
import Derived.Test.YtfpomllhkbbipaaGreatDoorGAh
import Derived.Test.YtfpomllhkbbipaaGreatDoorGAe
import Derived.Test.YtfpomllhkbbipaaGreatDoorGAg
namespace Go.Proofs.YtfpomllhkbbipaaGreatDoor
open Go.RowKit Go.Maps Mem Pk
def AppPost (base : Nat) (ys : List UInt8) (w : World) (e : Ending) (w' : World) : Prop := ∃ v', e = .returned v' ∧ Mem.Own fB base 5 w' v' ys ∧ Below base w w'
def AnRel (base : Nat) (zs : List UInt8) (m : Nat) (w : World) (bv uv : Value) (wr : World) : Prop :=
 ∃ (f u : Nat) (ys : List UInt8), f ≤ 9 ∧ uv = .int .u64 u ∧ u < 18446744073709551616 ∧ u < 128 ^ (f + 1) ∧ ys ++ numF f u = zs ∧ ys.length + f ≤ m + 9 ∧ Mem.Own fB base 5 wr bv ys ∧ Below base w wr
set_option maxRecDepth 100000 in
set_option maxHeartbeats 2000000 in
theorem appendNum_any {base : Nat} {w : World} {v : Value} {xs : List UInt8} (h : Mem.Own fB base 5 w v xs) (hb : base ≤ w.heap.size) (n : Int) (h1 : -9223372036854775808 ≤ n) (h2 : n ≤ 9223372036854775807) (hl : xs.length ≤ 100000000000) :
 Calls Tryz.prog 105 #[v, .int .i64 n] w (AppPost base (xs ++ numB n) w) := by
 have H := Lib.hid h; clear h
 have hz := zig_bits n h1 h2
 have HZ := Lib.hid (zig_lt h1 h2)
 obtain ⟨u0, hu0⟩ : ∃ u, u = zig n := ⟨_, rfl⟩
 have HU0 := Lib.hid hu0
 rw [← hu0] at hz HZ
 clear hu0 h1 h2
 go_enter Tryz.func105, Tryz.ntmps105
 go_wp2_with fail
 clear hz
 go_loopw [0, 5] (fun bv uv wr => AnRel base (xs ++ numB n) xs.length w bv uv wr) (fun _ uv _ => (intOf uv).toNat)
 case atStart => exact ⟨9, u0, xs, Nat.le_refl _, rfl, HZ.out, Nat.lt_of_lt_of_le HZ.out (by decide), by unfold numB; rw [HU0.out], Nat.le_refl _, H.out, Below.refl _ _⟩
 case round =>
  obtain ⟨f, u, ys, hf, rfl, hu, hup, hys, hyl, hown, hbw⟩ := hrel
  have HOWN := Lib.hid hown; clear hown
  have HBW := Lib.hid hbw; clear hbw
  have HYS := Lib.hid hys; clear hys
  have h63 : ys.length + 1 ≤ maxLen := by unfold maxLen; omega
  have H63 := Lib.hid h63; clear h63
  have hby : (ys.length + 1) * 1 ≤ 140737488355328 := by omega
  have HBY := Lib.hid hby; clear hby
  have HUP := Lib.hid hup; clear hup
  have HU := Lib.hid hu; clear hu
  have hbz := Nat.le_trans hb HBW.out.size
  by_cases hs : u < 128
  ·obtain ⟨b, rfl⟩ : ∃ b : UInt8, u = b.toNat := ⟨UInt8.ofNat u, (ofNat_lt (by omega)).symm⟩
   have HNF : Hid (ys ++ [b] = xs ++ numB n) := by show _ = _; rw [← HYS.out, numF_small hs, UInt8.ofNat_toNat]
   go_wp2_with (at_builtin; refine wpList_append1t (f := fB) rfl (.tmp 23) (.tmp 26) 36 rfl u8T b (fB_one _) rfl HOWN.out rfl rfl H63.out HBY.out hbz ?_; intro v7 w7 hown7 hg7)
   go_ret
   exact ⟨v7, rfl, by rw [← HNF.out]; exact hown7, (HBW.out.alloc hbz _).trans ((HOWN.out.alloc _).below_ (by rw [World.size_alloc]; omega) hg7)⟩
  ·obtain ⟨b, hbb⟩ : ∃ b, b = UInt8.ofNat (u % 128 + 128) := ⟨_, rfl⟩
   have hor := u8_or128 u
   rw [← hbb] at hor
   have hf0 : f ≠ 0 := by intro e; subst e; have := HUP.out; omega
   obtain ⟨f', rfl⟩ : ∃ f', f = f' + 1 := ⟨f - 1, by omega⟩
   have HNF : Hid ((ys ++ [b]) ++ numF f' (u / 128) = xs ++ numB n) := by show _ = _; rw [← HYS.out, numF_big hs, hbb, List.append_assoc]; rfl
   have hup2 : u / 128 < 128 ^ (f' + 1) := by have := HUP.out; rw [pow_step (f' + 1)] at this; exact Nat.div_lt_of_lt_mul (by rw [Nat.mul_comm]; exact this)
   have HUP2 := Lib.hid hup2; clear hup2
   clear hbb
   go_wp2_with (at_builtin; refine wpList_append1t (f := fB) rfl (.tmp 17) (.tmp 21) 36 rfl u8T b (fB_one _) rfl HOWN.out rfl rfl H63.out HBY.out hbz ?_; intro v7 w7 hown7 hg7)
   go_roundw
   case rel => exact ⟨f', u / 128, ys ++ [b], by omega, by go_num, by have := HU.out; omega, HUP2.out, HNF.out, by rw [List.length_append, List.length_singleton]; omega, hown7, (HBW.out.alloc hbz _).trans ((HOWN.out.alloc _).below_ (by rw [World.size_alloc]; omega) hg7)⟩
   case measure => simp [intOf]; omega
end Go.Proofs.YtfpomllhkbbipaaGreatDoor
namespace Go.Proofs.YtfpomllhkbbipaaGreatDoor
open Go.RowKit Go.Maps Mem Pk
theorem fB_oneJ (u : UInt8) : (fB u).oneCell' = true := rfl
def JnRel (base base' : Nat) (xs ys : List UInt8) (vb : Value) (w : World) (av iv : Value) (wr : World) : Prop :=
 ∃ k : Nat, k ≤ ys.length ∧ iv = .int .i64 k ∧ Mem.Own fB base 5 wr av (xs ++ ys.take k) ∧ Mem.Own fB base' 5 wr vb ys ∧ Apart av vb ∧ Below base w wr
set_option maxRecDepth 100000 in
set_option maxHeartbeats 2000000 in
theorem Join_any {base base' : Nat} {w : World} {va vb : Value} {xs ys : List UInt8} (h : Mem.Own fB base 5 w va xs) (h' : Mem.Own fB base' 5 w vb ys) (hap : Apart va vb) (hb : base ≤ w.heap.size) (hl : xs.length + ys.length ≤ 100000000000) :
 Calls Tryz.prog 62 #[va, vb] w (AppPost base (xs ++ ys) w) := by
 obtain ⟨B, c, rfl⟩ := h'.form
 have H := Lib.hid h; clear h
 have H' := Lib.hid h'; clear h'
 have HAP := Lib.hid hap; clear hap
 go_enter Tryz.func62, Tryz.ntmps62
 go_wp2_with fail
 go_loopw [0, 5] (fun av iv wr => JnRel base base' xs ys (.slice B ys.length c) w av iv wr) (fun _ iv _ => ys.length - (intOf iv).toNat)
 case atStart => exact ⟨0, Nat.zero_le _, rfl, by rw [List.take_zero, List.append_nil]; exact H.out, H'.out, HAP.out, Below.refl _ _⟩
 case round =>
  obtain ⟨k, hk, rfl, hown, hown', hap, hbw⟩ := hrel
  have HOWN := Lib.hid hown; clear hown
  have HOWN' := Lib.hid hown'; clear hown'
  have HAP2 := Lib.hid hap; clear hap
  have HBW := Lib.hid hbw; clear hbw
  have hbz := Nat.le_trans hb HBW.out.size
  by_cases hlt : k < ys.length
  ·obtain ⟨b, o, rfl, _, hc⟩ := HOWN'.out.sl.2.at hlt
   have c1 := hc k hlt
   obtain ⟨y, hy⟩ : ∃ y, y = ys[k] := ⟨_, rfl⟩
   rw [← hy] at c1; unfold fB at c1
   have HTK : Hid (ys.take (k + 1) = ys.take k ++ [y]) := by show _ = _; rw [hy]; exact List.take_succ_eq_append_getElem hlt
   clear hy hc
   have hxl : (xs ++ ys.take k).length ≤ xs.length + ys.length := by rw [List.length_append, List.length_take]; omega
   have H63 : Hid ((xs ++ ys.take k).length + 1 ≤ maxLen) := by show _ ≤ _; unfold maxLen; omega
   have HBY : Hid (((xs ++ ys.take k).length + 1) * 1 ≤ 140737488355328) := by show _ ≤ _; omega
   clear hxl
   have hk0 : (0 : Int) ≤ (k : Int) := by omega
   have hk1 : (k : Int) < (ys.length : Int) := by omega
   go_wp2_with (at_builtin; refine wpList_append1at (f := fB) rfl (.tmp 12) (.tmp 17) 36 rfl u8T y (fB_oneJ _) rfl HOWN.out rfl rfl H63.out HBY.out hbz ?_; intro v7 w7 ho7 hg7 hat7)
   go_roundw
   case rel => exact ⟨k + 1, by omega, by go_num, by rw [HTK.out, ← List.append_assoc]; exact ho7, (HOWN'.out.alloc _).other HAP2.out.symm hg7, HAP2.out.grown HOWN'.out hat7, (HBW.out.alloc hbz _).trans ((HOWN.out.alloc _).below_ (by rw [World.size_alloc]; omega) hg7)⟩
   case measure => simp [intOf]; omega
  ·have hk9 : k = ys.length := by omega
   subst hk9
   rw [List.take_length] at HOWN
   go_wp2_with fail
   go_ret
   exact ⟨_, rfl, HOWN.out, HBW.out⟩
end Go.Proofs.YtfpomllhkbbipaaGreatDoor
namespace Go.Proofs.YtfpomllhkbbipaaGreatDoor
open Go.RowKit Go.Maps Mem Pk
def NmRelJ (zs : List UInt8) (w : World) (uv ov : Value) (wr : World) : Prop :=
 ∃ (f u : Nat) (ys : List UInt8), f ≤ 9 ∧ uv = .int .u64 u ∧ u < 18446744073709551616 ∧ u < 128 ^ (f + 1) ∧ ys ++ numF f u = zs ∧ ys.length + f ≤ 9 ∧ Mem.Own fB w.heap.size 5 wr ov ys ∧ Below w.heap.size w wr
set_option maxRecDepth 100000 in
set_option maxHeartbeats 2000000 in
theorem RNum_pos {w : World} (n : Int) (h1 : 0 ≤ n) (h2 : n ≤ 9223372036854775807) :
 Calls Tryz.prog 73 #[.int .i64 n] w (AppPost w.heap.size (numB n) w) := by
 have HZ := Lib.hid (zig_lt (n := n) (by omega) h2)
 obtain ⟨u0, hu0⟩ : ∃ u, u = zig n := ⟨_, rfl⟩
 have HU0 := Lib.hid hu0
 rw [← hu0] at HZ
 have e1 : IntKind.u64.wrap n = n := by rw [IntKind.wrap_u64]; omega
 have e2 : IntKind.u64.wrap (n * 2) = (u0 : Int) := by rw [IntKind.wrap_u64, hu0]; unfold zig; rw [if_pos h1]; omega
 have t1 : ¬ n < 0 := by omega
 clear hu0 h1 h2
 go_enter Tryz.func73, Tryz.ntmps73
 go_wp2_with fail
 clear e1 e2 t1
 go_loopw [3, 4] (fun uv ov wr => NmRelJ (numB n) w uv ov wr) (fun uv _ _ => (intOf uv).toNat)
 case atStart => exact ⟨9, u0, [], Nat.le_refl _, rfl, HZ.out, Nat.lt_of_lt_of_le HZ.out (by decide), by unfold numB; rw [HU0.out]; rfl, Nat.le_refl _, Own.mk_ (Nat.le_refl _), (Below.refl _ _).alloc (Nat.le_refl _) _⟩
 case round =>
  obtain ⟨f, u, ys, hf, rfl, hu, hup, hys, hyl, hown, hbw⟩ := hrel
  have HOWN := Lib.hid hown; clear hown
  have HBW := Lib.hid hbw; clear hbw
  have HYS := Lib.hid hys; clear hys
  have H63 : Hid (ys.length + 1 ≤ maxLen) := by show _ ≤ _; unfold maxLen; omega
  have HBY : Hid ((ys.length + 1) * 1 ≤ 140737488355328) := by show _ ≤ _; omega
  have HUP := Lib.hid hup; clear hup
  have HU := Lib.hid hu; clear hu
  have hbz := HBW.out.size
  by_cases hs : u < 128
  ·obtain ⟨b, rfl⟩ : ∃ b : UInt8, u = b.toNat := ⟨UInt8.ofNat u, (ofNat_lt (by omega)).symm⟩
   have HNF : Hid (ys ++ [b] = numB n) := by show _ = _; rw [← HYS.out, numF_small hs, UInt8.ofNat_toNat]
   have e3 : IntKind.u8.wrap (b.toNat : Int) = (b.toNat : Int) := by rw [IntKind.wrap_u8]; omega
   have t3 : ¬ (127 : Int) < (b.toNat : Int) := by omega
   go_wp2_with (at_builtin; refine wpList_append1 (f := fB) rfl (.tmp 28) (.tmp 31) 36 rfl u8T b (fB_oneJ _) rfl HOWN.out rfl rfl H63.out HBY.out hbz ?_; intro v7 w7 hown7 hb7)
   go_ret
   exact ⟨v7, rfl, by rw [← HNF.out]; exact hown7, HBW.out.trans hb7⟩
  ·obtain ⟨b, hbb⟩ : ∃ b, b = UInt8.ofNat (u % 128 + 128) := ⟨_, rfl⟩
   have hbn : b.toNat = u % 128 + 128 := by rw [hbb]; exact ofNat_lt (by omega)
   have e6 : (u : Int) % 128 + 128 = (b.toNat : Int) := by rw [hbn]; omega
   have t3 : (127 : Int) < (u : Int) := by omega
   have e7 : IntKind.u64.wrap ((u : Int) / 128) = ((u / 128 : Nat) : Int) := by have := HU.out; rw [IntKind.wrap_u64]; omega
   have hf0 : f ≠ 0 := by intro e; subst e; have := HUP.out; omega
   obtain ⟨f', rfl⟩ : ∃ f', f = f' + 1 := ⟨f - 1, by omega⟩
   have HNF : Hid ((ys ++ [b]) ++ numF f' (u / 128) = numB n) := by show _ = _; rw [← HYS.out, numF_big hs, hbb, List.append_assoc]; rfl
   have HUP2 : Hid (u / 128 < 128 ^ (f' + 1)) := by show _ < _; have := HUP.out; rw [pow_step (f' + 1)] at this; exact Nat.div_lt_of_lt_mul (by rw [Nat.mul_comm]; exact this)
   clear hbb hbn
   go_wp2_with (at_builtin; refine wpList_append1 (f := fB) rfl (.tmp 19) (.tmp 24) 36 rfl u8T b (fB_oneJ _) rfl HOWN.out rfl rfl H63.out HBY.out hbz ?_; intro v7 w7 hown7 hb7)
   go_roundw
   case rel => exact ⟨f', u / 128, ys ++ [b], by omega, by go_num, by have := HU.out; omega, HUP2.out, HNF.out, by rw [List.length_append, List.length_singleton]; omega, hown7, HBW.out.trans hb7⟩
   case measure => simp [intOf]; omega
end Go.Proofs.YtfpomllhkbbipaaGreatDoor
namespace Go.Proofs.YtfpomllhkbbipaaGreatDoor
open Go.RowKit Go.Maps Mem Pk
def JsRel (base : Nat) (xs ys : List UInt8) (w : World) (av iv : Value) (wr : World) : Prop :=
 ∃ k : Nat, k ≤ ys.length ∧ iv = .int .i64 k ∧ Mem.Own fB base 5 wr av (xs ++ ys.take k) ∧ Below base w wr
set_option maxRecDepth 100000 in
set_option maxHeartbeats 2000000 in
theorem Join_sl {base : Nat} {w0 w : World} {va : Value} {B : Option Addr} {c : Nat} {xs ys : List UInt8} (h : Mem.Own fB base 5 w va xs) (h' : Sl fB w0 B ys) (hb0 : Below w0.heap.size w0 w) (hw : w0.heap.size ≤ base) (hb : base ≤ w.heap.size) (hl : xs.length + ys.length ≤ 140737488355328) :
 Calls Tryz.prog 62 #[va, .slice B ys.length c] w (AppPost base (xs ++ ys) w) := by
 have hyl := h'.len
 have H := Lib.hid h; clear h
 have H' := Lib.hid h'; clear h'
 have HB0 := Lib.hid hb0; clear hb0
 go_enter Tryz.func62, Tryz.ntmps62
 go_wp2_with fail
 go_loopw [0, 5] (fun av iv wr => JsRel base xs ys w av iv wr) (fun _ iv _ => ys.length - (intOf iv).toNat)
 case atStart => exact ⟨0, Nat.zero_le _, rfl, by rw [List.take_zero, List.append_nil]; exact H.out, Below.refl _ _⟩
 case round =>
  obtain ⟨k, hk, rfl, hown, hbw⟩ := hrel
  have HOWN := Lib.hid hown; clear hown
  have HBW := Lib.hid hbw; clear hbw
  have hbz := Nat.le_trans hb HBW.out.size
  by_cases hlt : k < ys.length
  ·obtain ⟨b, o, rfl, _, hc⟩ := (H'.out.below (HB0.out.trans (HBW.out.mono hw))).at hlt
   have c1 := hc k hlt
   obtain ⟨y, hy⟩ : ∃ y, y = ys[k] := ⟨_, rfl⟩
   rw [← hy] at c1; unfold fB at c1
   have HTK : Hid (ys.take (k + 1) = ys.take k ++ [y]) := by show _ = _; rw [hy]; exact List.take_succ_eq_append_getElem hlt
   clear hy hc
   have hxl : (xs ++ ys.take k).length + 1 ≤ xs.length + ys.length := by rw [List.length_append, List.length_take]; omega
   have H63 : Hid ((xs ++ ys.take k).length + 1 ≤ maxLen) := by show _ ≤ _; unfold maxLen; omega
   have HBY : Hid (((xs ++ ys.take k).length + 1) * 1 ≤ 140737488355328) := by show _ ≤ _; omega
   clear hxl
   have hk0 : (0 : Int) ≤ (k : Int) := by omega
   have hk1 : (k : Int) < (ys.length : Int) := by omega
   go_wp2_with (at_builtin; refine wpList_append1at (f := fB) rfl (.tmp 12) (.tmp 17) 36 rfl u8T y (fB_oneJ _) rfl HOWN.out rfl rfl H63.out HBY.out hbz ?_; intro v7 w7 ho7 hg7 hat7)
   go_roundw
   case rel => exact ⟨k + 1, by omega, by go_num, by rw [HTK.out, ← List.append_assoc]; exact ho7, (HBW.out.alloc hbz _).trans ((HOWN.out.alloc _).below_ (by rw [World.size_alloc]; omega) hg7)⟩
   case measure => simp [intOf]; omega
  ·have hk9 : k = ys.length := by omega
   subst hk9
   rw [List.take_length] at HOWN
   go_wp2_with fail
   go_ret
   exact ⟨_, rfl, HOWN.out, HBW.out⟩
end Go.Proofs.YtfpomllhkbbipaaGreatDoor
