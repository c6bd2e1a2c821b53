/- Layer 3: a number put behind bytes. -/
import Derived.Test.YtfpomllhkbbipaaGreatDoorPkX
import Derived.Test.YtfpomllhkbbipaaGreatDoorByt
import Derived.Test.YtfpomllhkbbipaaGreatDoorSrtG
import Derived.Deep.DeepCutAuto
namespace Go.Proofs.YtfpomllhkbbipaaGreatDoor
open Go.RowKit Go.Maps Mem Pk

/-- what a function that puts bytes behind the call's own leaves -/
def AppPost (base : Nat) (ys : List UInt8) (w : World) (e : Ending) (w' : World) : Prop := ∃ v', e = .returned v' ∧ Own fB base 5 w' v' ys ∧ Below base w w'
def AnRel (base : Nat) (zs : List UInt8) (m : Nat) (w : World) (bv uv : Value) (wr : World) : Prop :=
  ∃ (f u : Nat) (ys : List UInt8), f ≤ 9 ∧ uv = .int .u64 u ∧ u < 18446744073709551616 ∧ u < 128 ^ (f + 1) ∧ ys ++ numF f u = zs ∧ ys.length + f ≤ m + 9 ∧ Own fB base 5 wr bv ys ∧ Below base w wr
set_option maxRecDepth 100000 in
set_option maxHeartbeats 2000000 in
theorem appendNum_any {base : Nat} {w : World} {v : Value} {xs : List UInt8} (h : Own fB base 5 w v xs) (hb : base ≤ w.heap.size) (n : Int) (h1 : -9223372036854775808 ≤ n) (h2 : n ≤ 9223372036854775807) (hl : xs.length ≤ 100000000000) :
    Calls Tryz.prog 105 #[v, .int .i64 n] w (AppPost base (xs ++ numB n) w) := by
  have H := Lib.hid h; clear h
  have hz := zig_bits n h1 h2
  have HZ := Lib.hid (zig_lt h1 h2)
  obtain ⟨u0, hu0⟩ : ∃ u, u = zig n := ⟨_, rfl⟩
  have HU0 := Lib.hid hu0
  rw [← hu0] at hz HZ
  clear hu0 h1 h2
  go_enter Tryz.func105, Tryz.ntmps105
  go_wp2_with fail
  clear hz
  go_loopw [0, 5] (fun bv uv wr => AnRel base (xs ++ numB n) xs.length w bv uv wr) (fun _ uv _ => (intOf uv).toNat)
  case atStart => exact ⟨9, u0, xs, Nat.le_refl _, rfl, HZ.out, Nat.lt_of_lt_of_le HZ.out (by decide), by unfold numB; rw [HU0.out], Nat.le_refl _, H.out, Below.refl _ _⟩
  case round =>
    obtain ⟨f, u, ys, hf, rfl, hu, hup, hys, hyl, hown, hbw⟩ := hrel
    have HOWN := Lib.hid hown; clear hown
    have HBW := Lib.hid hbw; clear hbw
    have HYS := Lib.hid hys; clear hys
    have h63 : ys.length + 1 ≤ maxLen := by unfold maxLen; omega
    have H63 := Lib.hid h63; clear h63
    have hby : (ys.length + 1) * 1 ≤ 140737488355328 := by omega
    have HBY := Lib.hid hby; clear hby
    have HUP := Lib.hid hup; clear hup
    have HU := Lib.hid hu; clear hu
    have hbz := Nat.le_trans hb HBW.out.size
    by_cases hs : u < 128
    · obtain ⟨b, rfl⟩ : ∃ b : UInt8, u = b.toNat := ⟨UInt8.ofNat u, (ofNat_lt (by omega)).symm⟩
      have HNF : Hid (ys ++ [b] = xs ++ numB n) := by show _ = _; rw [← HYS.out, numF_small hs, UInt8.ofNat_toNat]
      go_wp2_with (at_builtin; refine wpList_append1t (f := fB) rfl (.tmp 23) (.tmp 26) 36 rfl u8T b (fB_one _) rfl HOWN.out rfl rfl H63.out HBY.out hbz ?_; intro v7 w7 hown7 hg7)
      go_ret
      exact ⟨v7, rfl, by rw [← HNF.out]; exact hown7, (HBW.out.alloc hbz _).trans ((HOWN.out.alloc _).below_ (by rw [World.size_alloc]; omega) hg7)⟩
    · obtain ⟨b, hbb⟩ : ∃ b, b = UInt8.ofNat (u % 128 + 128) := ⟨_, rfl⟩
      have hor := u8_or128 u
      rw [← hbb] at hor
      have hf0 : f ≠ 0 := by intro e; subst e; have := HUP.out; omega
      obtain ⟨f', rfl⟩ : ∃ f', f = f' + 1 := ⟨f - 1, by omega⟩
      have HNF : Hid ((ys ++ [b]) ++ numF f' (u / 128) = xs ++ numB n) := by show _ = _; rw [← HYS.out, numF_big hs, hbb, List.append_assoc]; rfl
      have hup2 : u / 128 < 128 ^ (f' + 1) := by have := HUP.out; rw [pow_step (f' + 1)] at this; exact Nat.div_lt_of_lt_mul (by rw [Nat.mul_comm]; exact this)
      have HUP2 := Lib.hid hup2; clear hup2
      clear hbb
      go_wp2_with (at_builtin; refine wpList_append1t (f := fB) rfl (.tmp 17) (.tmp 21) 36 rfl u8T b (fB_one _) rfl HOWN.out rfl rfl H63.out HBY.out hbz ?_; intro v7 w7 hown7 hg7)
      go_roundw
      case rel => exact ⟨f', u / 128, ys ++ [b], by omega, by go_num, by have := HU.out; omega, HUP2.out, HNF.out, by rw [List.length_append, List.length_singleton]; omega, hown7, (HBW.out.alloc hbz _).trans ((HOWN.out.alloc _).below_ (by rw [World.size_alloc]; omega) hg7)⟩
      case measure => simp [intOf]; omega
end Go.Proofs.YtfpomllhkbbipaaGreatDoor
