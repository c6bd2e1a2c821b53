/- Layer 3: the document's Join of a row that came in. -/
import Derived.Test.YtfnmofoecehcfaaRj
namespace Go.Proofs.Ytfnmofoecehcfaa
open Go.RowKit Go.Maps Mem Pk

def JsRel (base : Nat) (xs ys : List UInt8) (w : World) (av iv : Value) (wr : World) : Prop :=
  ∃ k : Nat, k ≤ ys.length ∧ iv = .int .i64 k ∧ Own fB base 5 wr av (xs ++ ys.take k) ∧ Below base w wr
set_option maxRecDepth 100000 in
set_option maxHeartbeats 2000000 in
theorem Join_sl {base : Nat} {w0 w : World} {va : Value} {B : Option Addr} {c : Nat} {xs ys : List UInt8} (h : Own fB base 5 w va xs) (h' : Sl fB w0 B ys) (hb0 : Below w0.heap.size w0 w) (hw : w0.heap.size ≤ base) (hb : base ≤ w.heap.size) (hl : xs.length + ys.length ≤ 140737488355328) :
    Calls Try.prog 24 #[va, .slice B ys.length c] w (AppPost base (xs ++ ys) w) := by
  have hyl := h'.len
  have H := Lib.hid h; clear h
  have H' := Lib.hid h'; clear h'
  have HB0 := Lib.hid hb0; clear hb0
  go_enter Try.func24, Try.ntmps24
  go_wp2_with fail
  go_loopw [0, 5] (fun av iv wr => JsRel base xs ys w av iv wr) (fun _ iv _ => ys.length - (intOf iv).toNat)
  case atStart => exact ⟨0, Nat.zero_le _, rfl, by rw [List.take_zero, List.append_nil]; exact H.out, Below.refl _ _⟩
  case round =>
    obtain ⟨k, hk, rfl, hown, hbw⟩ := hrel
    have HOWN := Lib.hid hown; clear hown
    have HBW := Lib.hid hbw; clear hbw
    have hbz := Nat.le_trans hb HBW.out.size
    by_cases hlt : k < ys.length
    · obtain ⟨b, o, rfl, _, hc⟩ := (H'.out.below (HB0.out.trans (HBW.out.mono hw))).at hlt
      have c1 := hc k hlt
      obtain ⟨y, hy⟩ : ∃ y, y = ys[k] := ⟨_, rfl⟩
      rw [← hy] at c1; unfold fB at c1
      have HTK : Hid (ys.take (k + 1) = ys.take k ++ [y]) := by show _ = _; rw [hy]; exact List.take_succ_eq_append_getElem hlt
      clear hy hc
      have hxl : (xs ++ ys.take k).length + 1 ≤ xs.length + ys.length := by rw [List.length_append, List.length_take]; omega
      have H63 : Hid ((xs ++ ys.take k).length + 1 ≤ maxLen) := by show _ ≤ _; unfold maxLen; omega
      have HBY : Hid (((xs ++ ys.take k).length + 1) * 1 ≤ 140737488355328) := by show _ ≤ _; omega
      clear hxl
      have hk0 : (0 : Int) ≤ (k : Int) := by omega
      have hk1 : (k : Int) < (ys.length : Int) := by omega
      go_wp2_with (at_builtin; refine wpList_append1at (f := fB) rfl (.tmp 12) (.tmp 17) 25 rfl u8T y (fB_oneJ _) rfl HOWN.out rfl rfl H63.out HBY.out hbz ?_; intro v7 w7 ho7 hg7 hat7)
      go_roundw
      case rel => exact ⟨k + 1, by omega, by go_num, by rw [HTK.out, ← List.append_assoc]; exact ho7, (HBW.out.alloc hbz _).trans ((HOWN.out.alloc _).below_ (by rw [World.size_alloc]; omega) hg7)⟩
      case measure => simp [intOf]; omega
    · have hk9 : k = ys.length := by omega
      subst hk9
      rw [List.take_length] at HOWN
      go_wp2_with fail
      go_ret
      exact ⟨_, rfl, HOWN.out, HBW.out⟩
end Go.Proofs.Ytfnmofoecehcfaa
