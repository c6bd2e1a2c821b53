/- Byte slices: two of them compared, by the library and by the document. -/
import Derived.Test.YtifgajinfcihmaaGreatDoorProg
import Derived.WalkKit
import Derived.WalkSpells
import Derived.WalkLawsBesides
import Derived.Lib.Hide
import Derived.Deep.QuietTactic
import Derived.BigQuiet
import Derived.Test.YtifgajinfcihmaaGreatDoorJAa
namespace Go.Proofs.YtifgajinfcihmaaGreatDoor
open Go.RowKit Mem
def fB (b : UInt8) : Value := .int .u8 (b.toNat : Int)
def Quiet (v : Value) (w : World) (e : Ending) (w' : World) : Prop := e = .returned v ∧ ∃ m, w' = w.drewN m
theorem Mem.Sl.drewN {α : Type} {f : α → Value} {w : World} {A : Option Addr} {xs : List α} (h : Sl f w A xs) (n : Nat) : Sl f (w.drewN n) A xs := h
theorem take_snoc_eq {xs ys : List UInt8} {k : Nat} (hx : k < xs.length) (hy : k < ys.length) (h : xs.take k = ys.take k) (h1 : xs[k] = ys[k]) : xs.take (k + 1) = ys.take (k + 1) := by
 rw [List.take_succ_eq_append_getElem hx, List.take_succ_eq_append_getElem hy, h, h1]
theorem neq_of_at {xs ys : List UInt8} {k : Nat} (hx : k < xs.length) (hy : k < ys.length) (h1 : xs[k] ≠ ys[k]) : xs ≠ ys := by
 intro e; subst e; exact h1 rfl
theorem fB_ne {a b : UInt8} (h : a ≠ b) : ((a.toNat : Int) == (b.toNat : Int)) = false := by
 rw [beq_eq_false_iff_ne]; intro e; exact h (UInt8.toNat_inj.1 (by omega))
theorem fB_bne {a b : UInt8} (h : a ≠ b) : ((a.toNat : Int) != (b.toNat : Int)) = true := by
 rw [bne_iff_ne]; intro e; exact h (UInt8.toNat_inj.1 (by omega))
theorem ret_bool {a b : Bool} (h : a = b) : Ending.returned (.bool a) = .returned (.bool b) := by rw [h]
theorem ret_i64 {a b : Int} (h : a = b) : Ending.returned (.int .i64 a) = .returned (.int .i64 b) := by rw [h]
def EqRel (xs ys : List UInt8) (w : World) (i : Value) (wr : World) : Prop := ∃ k m : Nat, k ≤ xs.length ∧ i = .int .i64 k ∧ xs.take k = ys.take k ∧ wr = w.drewN m
set_option maxHeartbeats 1000000 in
theorem Equal_any (A B : Option Addr) (c d : Nat) (xs ys : List UInt8) (w : World) (hs : Sl fB w A xs) (ht : Sl fB w B ys) :
 Calls Tryz.prog 71 #[.slice A xs.length c, .slice B ys.length d] w (Quiet (.bool (decide (xs = ys))) w) := by
 have hl := hs.len
 have hl2 := ht.len
 by_cases hlen : xs.length = ys.length
 ·have HLEN := Lib.hid hlen
  have t1 : ((xs.length : Int) != (ys.length : Int)) = false := by rw [hlen]; simp
  clear hlen
  go_enter Tryz.func71, Tryz.ntmps71
  go_wp2_with fail
  go_loopw [13] (fun i wr => EqRel xs ys w i wr) (fun i _ => xs.length - (intOf i).toNat)
  case atStart => exact ⟨0, 0, Nat.zero_le _, rfl, rfl, rfl⟩
  case round =>
   obtain ⟨k, m, hk, rfl, heq, rfl⟩ := hrel
   have HEQ := Lib.hid heq; clear heq
   by_cases hlt : k < xs.length
   ·have hlt2 : k < ys.length := by have := HLEN.out; omega
    obtain ⟨b, o, rfl, _, hc⟩ := hs.at hlt
    obtain ⟨b2, o2, rfl, _, hc2⟩ := ht.at hlt2
    have hck := hc k hlt
    have hck2 := hc2 k hlt2
    unfold fB at hck hck2
    clear hc hc2 t1
    have hk0 : (0 : Int) ≤ (k : Int) := by omega
    have hk1 : (k : Int) < (xs.length : Int) := by omega
    have hk2 : (k : Int) < (ys.length : Int) := by omega
    by_cases hv : xs[k] = ys[k]
    ·have hsn := take_snoc_eq hlt hlt2 HEQ.out hv
     have HSN := Lib.hid hsn; clear hsn
     rw [← hv] at hck2
     clear hv
     go_wp2_with fail
     go_quiet (fail)
     go_wp2_with fail
     go_roundw
     case rel => exact ⟨k + 1, _, by omega, by go_num, HSN.out, rfl⟩
     case measure => simp [intOf]; omega
    ·have t2 := fB_ne hv
     have t3 := fB_bne hv
     have hne := neq_of_at hlt hlt2 hv
     have HNE := Lib.hid hne; clear hne hv
     go_wp2_with fail
     go_quiet (fail)
     go_wp2_with fail
     go_ret
     exact ⟨ret_bool (by rw [decide_eq_false HNE.out]), _, World.drewN_drewN ..⟩
   ·go_wp2_with fail
    go_ret
    have h1 := HEQ.out
    rw [List.take_of_length_le (by omega), List.take_of_length_le (by have := HLEN.out; omega)] at h1
    exact ⟨ret_bool (by rw [decide_eq_true h1]), _, rfl⟩
 ·have t1 : ((xs.length : Int) != (ys.length : Int)) = true := by rw [bne_iff_ne]; omega
  have hne : xs ≠ ys := fun e => hlen (by rw [e])
  have HNE := Lib.hid hne; clear hne
  go_enter Tryz.func71, Tryz.ntmps71
  go_wp2_with fail
  go_ret
  exact ⟨ret_bool (by rw [decide_eq_false HNE.out]), 0, rfl⟩
set_option maxHeartbeats 1000000 in
theorem SameBytes_any (A B : Option Addr) (c d : Nat) (xs ys : List UInt8) (w : World) (hs : Sl fB w A xs) (ht : Sl fB w B ys) :
 Calls Tryz.prog 47 #[.slice A xs.length c, .slice B ys.length d] w (Quiet (.bool (decide (xs = ys))) w) := by
 have hl := hs.len
 have hl2 := ht.len
 by_cases hlen : xs.length = ys.length
 ·have HLEN := Lib.hid hlen
  have t1 : ((xs.length : Int) != (ys.length : Int)) = false := by rw [hlen]; simp
  clear hlen
  go_enter Tryz.func47, Tryz.ntmps47
  go_wp2_with fail
  go_loopw [5] (fun i wr => EqRel xs ys w i wr) (fun i _ => xs.length - (intOf i).toNat)
  case atStart => exact ⟨0, 0, Nat.zero_le _, rfl, rfl, rfl⟩
  case round =>
   obtain ⟨k, m, hk, rfl, heq, rfl⟩ := hrel
   have HEQ := Lib.hid heq; clear heq
   by_cases hlt : k < xs.length
   ·have hlt2 : k < ys.length := by have := HLEN.out; omega
    obtain ⟨b, o, rfl, _, hc⟩ := hs.at hlt
    obtain ⟨b2, o2, rfl, _, hc2⟩ := ht.at hlt2
    have hck := hc k hlt
    have hck2 := hc2 k hlt2
    unfold fB at hck hck2
    clear hc hc2 t1
    have hk0 : (0 : Int) ≤ (k : Int) := by omega
    have hk1 : (k : Int) < (xs.length : Int) := by omega
    have hk2 : (k : Int) < (ys.length : Int) := by omega
    by_cases hv : xs[k] = ys[k]
    ·have hsn := take_snoc_eq hlt hlt2 HEQ.out hv
     have HSN := Lib.hid hsn; clear hsn
     rw [← hv] at hck2
     clear hv
     go_wp2_with fail
     go_quiet (fail)
     go_wp2_with fail
     go_roundw
     case rel => exact ⟨k + 1, _, by omega, by go_num, HSN.out, rfl⟩
     case measure => simp [intOf]; omega
    ·have t2 := fB_ne hv
     have t3 := fB_bne hv
     have hne := neq_of_at hlt hlt2 hv
     have HNE := Lib.hid hne; clear hne hv
     go_wp2_with fail
     go_quiet (fail)
     go_wp2_with fail
     go_ret
     exact ⟨ret_bool (by rw [decide_eq_false HNE.out]), _, World.drewN_drewN ..⟩
   ·go_wp2_with fail
    go_ret
    have h1 := HEQ.out
    rw [List.take_of_length_le (by omega), List.take_of_length_le (by have := HLEN.out; omega)] at h1
    exact ⟨ret_bool (by rw [decide_eq_true h1]), _, rfl⟩
 ·have t1 : ((xs.length : Int) != (ys.length : Int)) = true := by rw [bne_iff_ne]; omega
  have hne : xs ≠ ys := fun e => hlen (by rw [e])
  have HNE := Lib.hid hne; clear hne
  go_enter Tryz.func47, Tryz.ntmps47
  go_wp2_with fail
  go_ret
  exact ⟨ret_bool (by rw [decide_eq_false HNE.out]), 0, rfl⟩
end Go.Proofs.YtifgajinfcihmaaGreatDoor
