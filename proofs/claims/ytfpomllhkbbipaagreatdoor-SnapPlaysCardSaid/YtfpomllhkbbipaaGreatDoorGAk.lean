/- Layer 8: members, both sides. -/
import Derived.BigQuiet
import Derived.Deep.DeepCutAuto
import Derived.Test.YtfpomllhkbbipaaGreatDoorGAe
import Derived.Test.YtfpomllhkbbipaaGreatDoorGAg
namespace Go.Proofs.YtfpomllhkbbipaaGreatDoor.Cf
def okAt (xs : List Int) (j : Nat) : Bool := decide (1 ≤ xs.getD j 0) && (decide (xs.getD j 0 ≤ 7) && (decide (j = 0) || decide (xs.getD (j - 1) 0 < xs.getD j 0)))
def riseB (xs : List Int) : Bool := (List.range xs.length).all (okAt xs)
def hasB (xs : List Int) (n : Int) : Bool := decide (n ∈ xs)
def apartB (vs ls : List Int) : Bool := vs.all fun v => !hasB ls v
def rconfB (vs ls : List Int) : Bool := riseB vs && (riseB ls && apartB vs ls)
theorem getD_get {xs : List Int} {k : Nat} (h : k < xs.length) : xs.getD k 0 = xs[k] := by rw [List.getD_eq_getElem?_getD, List.getElem?_eq_getElem h, Option.getD_some]
theorem rise_no {xs : List Int} {k : Nat} (h : k < xs.length) (hb : okAt xs k = false) : riseB xs = false := by
 unfold riseB
 rw [List.all_eq_false]
 exact ⟨k, List.mem_range.2 h, by simp [hb]⟩
theorem rise_yes {xs : List Int} (h : ∀ j, j < xs.length → okAt xs j = true) : riseB xs = true := by
 unfold riseB
 rw [List.all_eq_true]
 exact fun j hj => h j (List.mem_range.1 hj)
theorem rise_iff {xs : List Int} : riseB xs = true ↔ ∀ j, j < xs.length → okAt xs j = true := by
 unfold riseB
 rw [List.all_eq_true]
 exact ⟨fun h j hj => h j (List.mem_range.2 hj), fun h j hj => h j (List.mem_range.1 hj)⟩
theorem apart_no {vs ls : List Int} {k : Nat} (h : k < vs.length) (hb : hasB ls vs[k] = true) : apartB vs ls = false := by
 unfold apartB
 rw [List.all_eq_false]
 exact ⟨vs[k], List.getElem_mem h, by simp [hb]⟩
theorem apart_yes {vs ls : List Int} (h : ∀ j (hj : j < vs.length), hasB ls vs[j] = false) : apartB vs ls = true := by
 unfold apartB
 rw [List.all_eq_true]
 intro v hv
 obtain ⟨j, hj, rfl⟩ := List.mem_iff_getElem.1 hv
 rw [h j hj]; rfl
end Go.Proofs.YtfpomllhkbbipaaGreatDoor.Cf
namespace Go.Proofs.YtfpomllhkbbipaaGreatDoor
open Go Go.RowKit Go.Maps Go.Lib Mem Cf
def fI : Int → Value := Value.int .i64
theorem intTI : SliceT Tryz.prog 33 3 (.int .i64 0) 8 := sliceT_mk Tryz.underlying33 rfl (by kernel_rfl)
theorem fI_oneI (u : Int) : (fI u).oneCell' = true := rfl
def EqRelI (xs ys : List Int) (w : World) (i : Value) (wr : World) : Prop := ∃ k m : Nat, k ≤ xs.length ∧ i = .int .i64 k ∧ xs.take k = ys.take k ∧ wr = w.drewN m
set_option maxHeartbeats 1000000 in
theorem SameInts_any (A B : Option Addr) (c d : Nat) (xs ys : List Int) (w : World) (hs : Sl fI w A xs) (ht : Sl fI w B ys) :
 Calls Tryz.prog 49 #[.slice A xs.length c, .slice B ys.length d] w (Quiet (.bool (decide (xs = ys))) w) := by
 have hl := hs.len
 have hl2 := ht.len
 by_cases hlen : xs.length = ys.length
 ·have HLEN := Lib.hid hlen
  have t1 : ((xs.length : Int) != (ys.length : Int)) = false := by rw [hlen]; simp
  clear hlen
  go_enter Tryz.func49, Tryz.ntmps49
  go_wp2_with fail
  go_loopw [5] (fun i wr => EqRelI xs ys w i wr) (fun i _ => xs.length - (intOf i).toNat)
  case atStart => exact ⟨0, 0, Nat.zero_le _, rfl, rfl, rfl⟩
  case round =>
   obtain ⟨k, m, hk, rfl, heq, rfl⟩ := hrel
   have HEQ := Lib.hid heq; clear heq
   by_cases hlt : k < xs.length
   ·have hlt2 : k < ys.length := by have := HLEN.out; omega
    obtain ⟨b, o, rfl, _, hc⟩ := hs.at hlt
    obtain ⟨b2, o2, rfl, _, hc2⟩ := ht.at hlt2
    have hck := hc k hlt
    have hck2 := hc2 k hlt2
    unfold fI at hck hck2
    clear hc hc2 t1
    obtain ⟨x, hx⟩ : ∃ x, x = xs[k] := ⟨_, rfl⟩
    obtain ⟨y, hy⟩ : ∃ y, y = ys[k] := ⟨_, rfl⟩
    rw [← hx] at hck; rw [← hy] at hck2
    have hk0 : (0 : Int) ≤ (k : Int) := by omega
    have hk1 : (k : Int) < (xs.length : Int) := by omega
    have hk2 : (k : Int) < (ys.length : Int) := by omega
    by_cases hv : x = y
    ·have HSN : Hid (xs.take (k + 1) = ys.take (k + 1)) := by
      show _ = _; rw [List.take_succ_eq_append_getElem hlt, List.take_succ_eq_append_getElem hlt2, HEQ.out, ← hx, ← hy, hv]
     subst hv
     clear hx hy
     go_wp2_with fail
     go_quiet (fail)
     go_wp2_with fail
     go_roundw
     case rel => exact ⟨k + 1, _, by omega, by go_num, HSN.out, rfl⟩
     case measure => simp [intOf]; omega
    ·have t2 : (x == y) = false := by rw [beq_eq_false_iff_ne]; exact hv
     have t3 : (x != y) = true := by rw [bne_iff_ne]; exact hv
     have hne : xs ≠ ys := by intro e; subst e; exact hv (by rw [hx, hy])
     have HNE := Lib.hid hne; clear hne hv hx hy
     go_wp2_with fail
     go_quiet (fail)
     go_wp2_with fail
     go_ret
     exact ⟨ret_bool (by rw [decide_eq_false HNE.out]), _, World.drewN_drewN ..⟩
   ·go_wp2_with fail
    go_ret
    have h1 := HEQ.out
    rw [List.take_of_length_le (by omega), List.take_of_length_le (by have := HLEN.out; omega)] at h1
    exact ⟨ret_bool (by rw [decide_eq_true h1]), _, rfl⟩
 ·have t1 : ((xs.length : Int) != (ys.length : Int)) = true := by rw [bne_iff_ne]; omega
  have hne : xs ≠ ys := fun e => hlen (by rw [e])
  have HNE := Lib.hid hne; clear hne
  go_enter Tryz.func49, Tryz.ntmps49
  go_wp2_with fail
  go_ret
  exact ⟨ret_bool (by rw [decide_eq_false HNE.out]), 0, rfl⟩
theorem mem_take_no {xs : List Int} {n : Int} {k : Nat} (h : k < xs.length) (h1 : n ∉ xs.take k) (h2 : xs[k] ≠ n) : n ∉ xs.take (k + 1) := by
 rw [List.take_succ_eq_append_getElem h, List.mem_append]
 rintro (h3 | h3)
 ·exact h1 h3
 ·simp at h3; exact h2 h3.symm
def HasRel (xs : List Int) (n : Int) (w : World) (i : Value) (wr : World) : Prop := ∃ k : Nat, k ≤ xs.length ∧ i = .int .i64 k ∧ Hid (n ∉ xs.take k) ∧ wr = w
theorem Has_any (A : Option Addr) (c : Nat) (xs : List Int) (n : Int) (w : World) (hs : Sl fI w A xs) :
 Calls Tryz.prog 85 #[.slice A xs.length c, .int .i64 n] w fun e w' => e = .returned (.bool (hasB xs n)) ∧ w = w' := by
 have hl := hs.len
 go_enter Tryz.func85, Tryz.ntmps85
 go_wp2_with fail
 go_loopw [5] (fun i wr => HasRel xs n w i wr) (fun i _ => xs.length - (intOf i).toNat)
 case atStart => exact ⟨0, Nat.zero_le _, rfl, Lib.hid (by simp), rfl⟩
 case round =>
  obtain ⟨k, hk, rfl, HNO, rfl⟩ := hrel
  by_cases hlt : k < xs.length
  ·obtain ⟨b, o, rfl, _, hc⟩ := hs.at hlt
   have hck := hc k hlt
   obtain ⟨x, hx⟩ : ∃ x, x = xs[k] := ⟨_, rfl⟩
   unfold fI at hck
   rw [← hx] at hck
   clear hc
   by_cases hv : x = n
   ·have hh : hasB xs n = true := by unfold hasB; rw [← hv, hx]; exact decide_eq_true (List.getElem_mem hlt)
    have HH := Lib.hid hh; clear hh hx
    have t2 : (x == n) = true := by rw [beq_iff_eq]; exact hv
    clear hv
    go_wp2_with fail
    go_ret
    exact ⟨ret_bool (by rw [HH.out]), rfl⟩
   ·have HN2 := Lib.hid (mem_take_no hlt HNO.out (by rw [← hx]; exact hv))
    have t2 : (x == n) = false := by rw [beq_eq_false_iff_ne]; exact hv
    clear hv hx
    go_wp2_with fail
    go_roundw
    case rel => exact ⟨k + 1, hlt, by go_num, HN2, rfl⟩
    case measure => simp [intOf]; omega
  ·have hh : hasB xs n = false := by
    have h1 := HNO.out
    rw [List.take_of_length_le (by omega)] at h1
    unfold hasB; exact decide_eq_false h1
   have HH := Lib.hid hh; clear hh
   go_wp2_with fail
   go_ret
   exact ⟨ret_bool (by rw [HH.out]), rfl⟩
def RiRel (xs : List Int) (w : World) (i : Value) (wr : World) : Prop := ∃ k m : Nat, k ≤ xs.length ∧ i = .int .i64 k ∧ (∀ j, j < k → okAt xs j = true) ∧ wr = w.drewN m
def RiRel0 (xs : List Int) (w : World) (i : Value) (wr : World) : Prop := ∃ k : Nat, k ≤ xs.length ∧ i = .int .i64 k ∧ (∀ j, j < k → okAt xs j = true) ∧ wr = w
theorem ok_step {xs : List Int} {k : Nat} (h : ∀ j, j < k → okAt xs j = true) (hk : okAt xs k = true) : ∀ j, j < k + 1 → okAt xs j = true := fun j hj => by
 rcases Nat.lt_or_ge j k with h1 | h1
 ·exact h j h1
 ·have : j = k := by omega
  subst this; exact hk
set_option maxRecDepth 100000 in
set_option maxHeartbeats 2000000 in
theorem Rising_any (A : Option Addr) (c : Nat) (xs : List Int) (w : World) (hs : Sl fI w A xs) :
 Calls Tryz.prog 84 #[.slice A xs.length c] w (Quiet (.bool (riseB xs)) w) := by
 have hl := hs.len
 go_enter Tryz.func84, Tryz.ntmps84
 go_wp2_with fail
 go_loopw [3] (fun i wr => RiRel xs w i wr) (fun i _ => xs.length - (intOf i).toNat)
 case atStart => exact ⟨0, 0, Nat.zero_le _, rfl, fun j hj => absurd hj (Nat.not_lt_zero j), rfl⟩
 case round =>
  obtain ⟨k, m, hk, rfl, hall, rfl⟩ := hrel
  have HALL := Lib.hid hall; clear hall
  by_cases hlt : k < xs.length
  ·obtain ⟨b, o, rfl, _, hc⟩ := hs.at hlt
   have hck := hc k hlt
   obtain ⟨x, hx⟩ : ∃ x, x = xs[k] := ⟨_, rfl⟩
   rw [← hx] at hck; unfold fI at hck
   have hgx : xs.getD k 0 = x := by rw [getD_get hlt, hx]
   obtain ⟨wo, hwo⟩ : ∃ x, x = w.drewN m := ⟨_, rfl⟩
   have hck : wo.cell? ⟨b, o + k, none⟩ = some (.int .i64 x) := by rw [hwo]; exact hck
   have hk0 : (0 : Int) ≤ (k : Int) := by omega
   have hk1 : (k : Int) < (xs.length : Int) := by omega
   rw [← hwo]
   have HWO := Lib.hid hwo; clear hwo
   by_cases h1 : x < 1
   ·clear hx hc
    have hno : okAt xs k = false := by unfold okAt; rw [hgx]; simp; omega
    have HR := Lib.hid (rise_no hlt hno); clear hno
    clear hgx
    go_wp2_with fail
    go_quiet (fail)
    go_wp2_with fail
    go_ret
    exact ⟨ret_bool (by rw [HR.out]), m + nq, by rw [HWO.out, World.drewN_drewN]⟩
   ·by_cases h7 : 7 < x
    ·clear hx hc
     have hno : okAt xs k = false := by unfold okAt; rw [hgx]; simp; omega
     have HR := Lib.hid (rise_no hlt hno); clear hno
     have d1 : decide (x < 1) = false := decide_eq_false h1
     have d7 : decide (7 < x) = true := decide_eq_true h7
     clear hgx h1 h7
     go_wp2_with fail
     go_quiet (fail)
     go_wp2_with fail
     go_ret
     exact ⟨ret_bool (by rw [HR.out]), m + nq, by rw [HWO.out, World.drewN_drewN]⟩
    ·by_cases h0 : k = 0
     ·have t0 : ¬ (0 : Int) < (k : Int) := by omega
      clear hx hc
      have hyes : okAt xs k = true := by unfold okAt; rw [hgx]; simp; omega
      clear h0
      have HA := Lib.hid (ok_step HALL.out hyes); clear hyes
      have d1 : decide (x < 1) = false := decide_eq_false h1
      have d7 : decide (7 < x) = false := decide_eq_false h7
      have d0 : decide ((0 : Int) < (k : Int)) = false := decide_eq_false t0
      have d0n : decide (0 < k) = false := decide_eq_false (by omega)
      clear hgx h1 h7 t0
      go_wp2_with fail
      go_quiet (fail)
      go_wp2_with fail
      go_roundw
      case rel => exact ⟨k + 1, m + nq, hlt, by go_num, HA.out, by rw [HWO.out, World.drewN_drewN]⟩
      case measure => simp [intOf]; omega
     ·have hkm : k - 1 < xs.length := by omega
      have hcm := hc (k - 1) hkm
      obtain ⟨y, hy⟩ : ∃ y, y = xs[k - 1] := ⟨_, rfl⟩
      rw [← hy] at hcm; unfold fI at hcm
      have hgy : xs.getD (k - 1) 0 = y := by rw [getD_get hkm, hy]
      have hcm : wo.cell? ⟨b, o + (k - 1), none⟩ = some (.int .i64 y) := by rw [HWO.out]; exact hcm
      have t0 : (0 : Int) < (k : Int) := by omega
      have hw1 : IntKind.i64.wrap ((k : Int) - 1) = ((k - 1 : Nat) : Int) := by rw [IntWalk.i64_in _ (by omega)]; omega
      have hk3 : (0 : Int) ≤ ((k - 1 : Nat) : Int) := by omega
      have hk4 : ((k - 1 : Nat) : Int) < (xs.length : Int) := by omega
      clear hx hc hy
      by_cases hxy : y < x
      ·have t5 : ¬ x ≤ y := by omega
       have hyes : okAt xs k = true := by unfold okAt; rw [hgx, hgy]; simp; omega
       have HA := Lib.hid (ok_step HALL.out hyes); clear hyes
       have d1 : decide (x < 1) = false := decide_eq_false h1
       have d7 : decide (7 < x) = false := decide_eq_false h7
       have d0 : decide ((0 : Int) < (k : Int)) = true := decide_eq_true t0
       have d0n : decide (0 < k) = true := decide_eq_true (by omega)
       have d5 : decide (x ≤ y) = false := decide_eq_false t5
       clear hgx h1 h7 t0 t5
       go_wp2_with fail
       go_quiet (fail)
       go_wp2_with fail
       go_roundw
       case rel => exact ⟨k + 1, m + nq, hlt, by go_num, HA.out, by rw [HWO.out, World.drewN_drewN]⟩
       case measure => simp [intOf]; omega
      ·have t5 : x ≤ y := by omega
       have hno : okAt xs k = false := by unfold okAt; rw [hgx, hgy]; simp; omega
       have HR := Lib.hid (rise_no hlt hno); clear hno
       have d1 : decide (x < 1) = false := decide_eq_false h1
       have d7 : decide (7 < x) = false := decide_eq_false h7
       have d0 : decide ((0 : Int) < (k : Int)) = true := decide_eq_true t0
       have d0n : decide (0 < k) = true := decide_eq_true (by omega)
       have d5 : decide (x ≤ y) = true := decide_eq_true t5
       clear hgx h1 h7 t0 t5
       go_wp2_with fail
       go_quiet (fail)
       go_wp2_with fail
       go_ret
       exact ⟨ret_bool (by rw [HR.out]), m + nq, by rw [HWO.out, World.drewN_drewN]⟩
  ·have HR := Lib.hid (rise_yes (xs := xs) (fun j hj => HALL.out j (by omega)))
   go_wp2_with fail
   go_ret
   exact ⟨ret_bool (by rw [HR.out]), m, rfl⟩
set_option maxRecDepth 100000 in
set_option maxHeartbeats 2000000 in
theorem members_any (A : Option Addr) (c : Nat) (xs : List Int) (w : World) (hs : Sl fI w A xs) :
 Calls Tryz.prog 101 #[.slice A xs.length c] w fun e w' => e = .returned (.bool (riseB xs)) ∧ w = w' := by
 have hl := hs.len
 go_enter Tryz.func101, Tryz.ntmps101
 go_wp2_with fail
 go_loopw [7] (fun i wr => RiRel0 xs w i wr) (fun i _ => xs.length - (intOf i).toNat)
 case atStart => exact ⟨0, Nat.zero_le _, rfl, fun j hj => absurd hj (Nat.not_lt_zero j), rfl⟩
 case round =>
  obtain ⟨k, hk, rfl, hall, rfl⟩ := hrel
  have HALL := Lib.hid hall; clear hall
  by_cases hlt : k < xs.length
  ·obtain ⟨b, o, rfl, _, hc⟩ := hs.at hlt
   have hck := hc k hlt
   obtain ⟨x, hx⟩ : ∃ x, x = xs[k] := ⟨_, rfl⟩
   rw [← hx] at hck; unfold fI at hck
   have hgx : xs.getD k 0 = x := by rw [getD_get hlt, hx]
   have hk0 : (0 : Int) ≤ (k : Int) := by omega
   have hk1 : (k : Int) < (xs.length : Int) := by omega
   by_cases h1 : x < 1
   ·clear hx hc
    have hno : okAt xs k = false := by unfold okAt; rw [hgx]; simp; omega
    have HR := Lib.hid (rise_no hlt hno); clear hno
    clear hgx
    go_wp2_with fail
    go_ret
    exact ⟨ret_bool (by rw [HR.out]), rfl⟩
   ·by_cases h7 : 7 < x
    ·clear hx hc
     have hno : okAt xs k = false := by unfold okAt; rw [hgx]; simp; omega
     have HR := Lib.hid (rise_no hlt hno); clear hno
     clear hgx
     go_wp2_with fail
     go_ret
     exact ⟨ret_bool (by rw [HR.out]), rfl⟩
    ·by_cases h0 : k = 0
     ·have t0 : ¬ (0 : Int) < (k : Int) := by omega
      clear hx hc
      have hyes : okAt xs k = true := by unfold okAt; rw [hgx]; simp; omega
      clear h0
      have HA := Lib.hid (ok_step HALL.out hyes); clear hyes
      clear hgx
      go_wp2_with fail
      go_roundw
      case rel => exact ⟨k + 1, hlt, by go_num, HA.out, rfl⟩
      case measure => simp [intOf]; omega
     ·have hkm : k - 1 < xs.length := by omega
      have hcm := hc (k - 1) hkm
      obtain ⟨y, hy⟩ : ∃ y, y = xs[k - 1] := ⟨_, rfl⟩
      rw [← hy] at hcm; unfold fI at hcm
      have hgy : xs.getD (k - 1) 0 = y := by rw [getD_get hkm, hy]
      have t0 : (0 : Int) < (k : Int) := by omega
      have hw1 : IntKind.i64.wrap ((k : Int) - 1) = ((k - 1 : Nat) : Int) := by rw [IntWalk.i64_in _ (by omega)]; omega
      have hk3 : (0 : Int) ≤ ((k - 1 : Nat) : Int) := by omega
      have hk4 : ((k - 1 : Nat) : Int) < (xs.length : Int) := by omega
      clear hx hc hy
      by_cases hxy : y < x
      ·have t5 : ¬ x ≤ y := by omega
       have hyes : okAt xs k = true := by unfold okAt; rw [hgx, hgy]; simp; omega
       have HA := Lib.hid (ok_step HALL.out hyes); clear hyes
       clear hgx
       go_wp2_with fail
       go_roundw
       case rel => exact ⟨k + 1, hlt, by go_num, HA.out, rfl⟩
       case measure => simp [intOf]; omega
      ·have t5 : x ≤ y := by omega
       have hno : okAt xs k = false := by unfold okAt; rw [hgx, hgy]; simp; omega
       have HR := Lib.hid (rise_no hlt hno); clear hno
       clear hgx
       go_wp2_with fail
       go_ret
       exact ⟨ret_bool (by rw [HR.out]), rfl⟩
  ·have HR := Lib.hid (rise_yes (xs := xs) (fun j hj => HALL.out j (by omega)))
   go_wp2_with fail
   go_ret
   exact ⟨ret_bool (by rw [HR.out]), rfl⟩
theorem Quiet.below {v : Value} {w w' : World} {e : Ending} (h : Quiet v w e w') : e = .returned v ∧ Below w.heap.size w w' := by
 obtain ⟨h1, m, rfl⟩ := h; exact ⟨h1, below_drewN (Below.refl _ _) m⟩
def IdxI (b : Bool) (w : World) (e : Ending) (w' : World) : Prop := ∃ i : Int, e = .returned (.int .i64 i) ∧ decide (0 ≤ i) = b ∧ w = w'
theorem Index_any (A : Option Addr) (c : Nat) (xs : List Int) (n : Int) (w : World) (hs : Sl fI w A xs) :
 Calls Tryz.prog 133 #[.slice A xs.length c, .int .i64 n] w (IdxI (hasB xs n) w) := by
 have hl := hs.len
 go_enter Tryz.func133, Tryz.ntmps133
 go_wp2_with fail
 go_loopw [8] (fun i wr => HasRel xs n w i wr) (fun i _ => xs.length - (intOf i).toNat)
 case atStart => exact ⟨0, Nat.zero_le _, rfl, Lib.hid (by simp), rfl⟩
 case round =>
  obtain ⟨k, hk, rfl, HNO, rfl⟩ := hrel
  by_cases hlt : k < xs.length
  ·obtain ⟨b, o, rfl, _, hc⟩ := hs.at hlt
   have hck := hc k hlt
   obtain ⟨x, hx⟩ : ∃ x, x = xs[k] := ⟨_, rfl⟩
   unfold fI at hck
   rw [← hx] at hck
   clear hc
   by_cases hv : n = x
   ·have hh : hasB xs n = true := by unfold hasB; rw [hv, hx]; exact decide_eq_true (List.getElem_mem hlt)
    have HH := Lib.hid hh; clear hh hx
    have t2 : (n == x) = true := by rw [beq_iff_eq]; exact hv
    clear hv
    go_wp2_with fail
    go_ret
    exact ⟨(k : Int), rfl, by rw [HH.out]; exact decide_eq_true (by omega), rfl⟩
   ·have HN2 := Lib.hid (mem_take_no hlt HNO.out (by rw [← hx]; exact fun e => hv e.symm))
    have t2 : (n == x) = false := by rw [beq_eq_false_iff_ne]; exact hv
    clear hv hx
    go_wp2_with fail
    go_roundw
    case rel => exact ⟨k + 1, hlt, by go_num, HN2, rfl⟩
    case measure => simp [intOf]; omega
  ·have hh : hasB xs n = false := by
    have h1 := HNO.out
    rw [List.take_of_length_le (by omega)] at h1
    unfold hasB; exact decide_eq_false h1
   have HH := Lib.hid hh; clear hh
   go_wp2_with fail
   go_ret
   exact ⟨-1, rfl, by rw [HH.out]; decide, rfl⟩
theorem Contains_any (A : Option Addr) (c : Nat) (xs : List Int) (n : Int) (w : World) (hs : Sl fI w A xs) :
 Calls Tryz.prog 104 #[.slice A xs.length c, .int .i64 n] w fun e w' => e = .returned (.bool (hasB xs n)) ∧ w = w' := by
 have HI := Lib.hid (Index_any A c xs n w hs)
 clear hs
 go_enter Tryz.func104, Tryz.ntmps104
 go_wp2_with fail
 (with_reducible refine HI.out.mono ?_); rintro e w' ⟨i, rfl, hi, rfl⟩
 have HB := Lib.hid hi; clear hi
 go_wp2_with fail
 go_ret
 exact ⟨ret_bool HB.out, rfl⟩
structure CI (w : World) (A : Option Addr) (vs : List Int) (B : Option Addr) (ls : List Int) : Prop where
 v : Sl fI w A vs
 l : Sl fI w B ls
theorem CI.below {w w' : World} {A B : Option Addr} {vs ls : List Int} (h : CI w A vs B ls) (hb : Below w.heap.size w w') : CI w' A vs B ls := ⟨h.v.below hb, h.l.below hb⟩
def BoolB (b : Bool) (w : World) (e : Ending) (w' : World) : Prop := e = .returned (.bool b) ∧ Below w.heap.size w w'
end Go.Proofs.YtfpomllhkbbipaaGreatDoor
namespace Go.Proofs.YtfpomllhkbbipaaGreatDoor
open Go Go.RowKit Go.Maps Go.Lib Mem Cf
theorem rconf_a {vs ls : List Int} (h : riseB vs = false) : rconfB vs ls = false := by unfold rconfB; rw [h]; rfl
theorem rconf_b {vs ls : List Int} (h : riseB ls = false) : rconfB vs ls = false := by unfold rconfB; rw [h]; simp
theorem rconf_c {vs ls : List Int} (h : apartB vs ls = false) : rconfB vs ls = false := by unfold rconfB; rw [h]; simp
theorem rconf_y {vs ls : List Int} (h : riseB vs = true) (h2 : riseB ls = true) (h3 : apartB vs ls = true) : rconfB vs ls = true := by unfold rconfB; rw [h, h2, h3]; rfl
def RcRel (vs ls : List Int) (w1 : World) (iv : Value) (wr : World) : Prop :=
 ∃ k : Nat, k ≤ vs.length ∧ iv = .int .i64 k ∧ Hid (∀ j (hj : j < vs.length), j < k → hasB ls vs[j] = false) ∧ Below w1.heap.size w1 wr
set_option maxHeartbeats 1000000 in
theorem RRightConf_any {w : World} {A B : Option Addr} {c d : Nat} {vs ls : List Int} (h : CI w A vs B ls) :
 Calls Tryz.prog 53 #[.agg #[.slice A vs.length c, .slice B ls.length d]] w (BoolB (rconfB vs ls) w) := by
 obtain ⟨p, hp⟩ : ∃ p, p = riseB vs := ⟨_, rfl⟩
 obtain ⟨q, hq⟩ : ∃ q, q = riseB ls := ⟨_, rfl⟩
 have HP := Lib.hid hp
 have HQ := Lib.hid hq
 clear hp hq
 have hl := h.v.len
 have H := Lib.hid h; clear h
 go_enter Tryz.func53, Tryz.ntmps53
 go_upto_region 1 with fail
 obtain ⟨w1, hw1⟩ : ∃ x, x = w.alloc (.cells #[.slice A vs.length c, .slice B ls.length d] 35) := ⟨_, rfl⟩
 rw [← hw1]
 have hb1 : Below w.heap.size w w1 := by rw [hw1]; exact (Below.refl _ _).alloc (Nat.le_refl _) _
 have hx1 : Blk w1 w.heap.size 35 #[.slice A vs.length c, .slice B ls.length d] := by rw [hw1]; exact Blk.new_ w _ _
 have H1 := Lib.hid (H.out.below hb1)
 have HB1 := Lib.hid hb1
 have HX1 := Lib.hid hx1
 have d0 : w1.cell? ⟨w.heap.size, 0, none⟩ = some (.slice A vs.length c) := hx1.cell 0
 have d1 : w1.cell? ⟨w.heap.size, 1, none⟩ = some (.slice B ls.length d) := hx1.cell 1
 clear hw1 hb1 hx1
 have hr1 := (Rising_any A c vs w1 H1.out.v).mono fun _ _ h => h.below
 rw [← HP.out] at hr1
 have HR1 := Lib.hid hr1; clear hr1
 go_wp2_with fail
 (with_reducible refine HR1.out.mono ?_); rintro e w2 ⟨rfl, hb2⟩
 have H2 := Lib.hid (H1.out.below hb2)
 have HX2 := Lib.hid (HX1.out.below hb2 HX1.out.lt)
 have HB2 : Hid (Below w.heap.size w w2) := HB1.out.trans (hb2.mono HB1.out.size)
 clear hb2 d0 d1 HR1
 cases p with
 | false =>
   go_wp2_with fail
   go_ret
   exact ⟨ret_bool (by rw [rconf_a HP.out.symm]), HB2.out⟩
 | true =>
   have d1 : w2.cell? ⟨w.heap.size, 1, none⟩ = some (.slice B ls.length d) := HX2.out.cell 1
   have hr2 := (Rising_any B d ls w2 H2.out.l).mono fun _ _ h => h.below
   rw [← HQ.out] at hr2
   have HR2 := Lib.hid hr2; clear hr2
   go_wp2_with fail
   (with_reducible refine HR2.out.mono ?_); rintro e w3 ⟨rfl, hb3⟩
   have H3 := Lib.hid (H2.out.below hb3)
   have HX3 := Lib.hid (HX2.out.below hb3 HX2.out.lt)
   have HB3 : Hid (Below w.heap.size w w3) := HB2.out.trans (hb3.mono HB2.out.size)
   clear hb3 d1 HR2
   cases q with
   | false =>
     go_wp2_with fail
     go_ret
     exact ⟨ret_bool (by rw [rconf_b HQ.out.symm]), HB3.out⟩
   | true =>
     go_wp2_with fail
     go_loopw [3] (fun iv wr => RcRel vs ls w3 iv wr) (fun iv _ => vs.length - (intOf iv).toNat)
     case atStart => exact ⟨0, Nat.zero_le _, rfl, Lib.hid (fun j _ hj => absurd hj (Nat.not_lt_zero j)), Below.refl _ _⟩
     case round =>
      obtain ⟨k, hk, rfl, HNO, hbw⟩ := hrel
      have HBW := Lib.hid hbw; clear hbw
      have HXr := Lib.hid (HX3.out.below HBW.out HX3.out.lt)
      have d0 : wr.cell? ⟨w.heap.size, 0, none⟩ = some (.slice A vs.length c) := HXr.out.cell 0
      have d1 : wr.cell? ⟨w.heap.size, 1, none⟩ = some (.slice B ls.length d) := HXr.out.cell 1
      have HBr : Hid (Below w.heap.size w wr) := HB3.out.trans (HBW.out.mono HB3.out.size)
      by_cases hlt : k < vs.length
      ·have hcr := H3.out.below HBW.out
       obtain ⟨b, o, rfl, _, hc⟩ := hcr.v.at hlt
       have hck := hc k hlt
       have HL := Lib.hid hcr.l
       obtain ⟨x, hx⟩ : ∃ x, x = vs[k] := ⟨_, rfl⟩
       rw [← hx] at hck; unfold fI at hck
       obtain ⟨z, hz⟩ : ∃ z, z = hasB ls x := ⟨_, rfl⟩
       have hhas : ∀ W, Sl fI W B ls → Calls Tryz.prog 85 #[.slice B ls.length d, .int .i64 x] W fun e w' => e = .returned (.bool z) ∧ W = w' := fun W hW => by rw [hz]; exact Has_any B d ls x W hW
       have HHAS := Lib.hid hhas; clear hhas hc hcr
       have hk0 : (0 : Int) ≤ (k : Int) := by omega
       have hk1 : (k : Int) < (vs.length : Int) := by omega
       rw [hx] at hz
       have HZ := Lib.hid hz; clear hz hx
       cases z with
       | true =>
         go_wp2_with fail
         go_quiet (first | (go_at_call 85; exact quiet_mine (HHAS.out _ (HL.out.drewN _))))
         go_wp2_with fail
         go_ret
         exact ⟨ret_bool (by rw [rconf_c (apart_no hlt HZ.out.symm)]), below_drewN HBr.out _⟩
       | false =>
         go_wp2_with fail
         go_quiet (first | (go_at_call 85; exact quiet_mine (HHAS.out _ (HL.out.drewN _))))
         go_wp2_with fail
         go_roundw
         case rel => exact ⟨k + 1, hlt, by go_num, Lib.hid (fun j hj h2 => by
          rcases Nat.lt_or_ge j k with h3 | h3
          ·exact HNO.out j hj h3
          ·have : j = k := by omega
           subst this; exact HZ.out.symm), below_drewN HBW.out _⟩
         case measure => simp [intOf]; omega
      ·have hy : rconfB vs ls = true := rconf_y HP.out.symm HQ.out.symm (apart_yes fun j hj => HNO.out j hj (by omega))
       have HY := Lib.hid hy; clear hy
       go_wp2_with fail
       go_ret
       exact ⟨ret_bool (by rw [HY.out]), HBr.out⟩
def anyB (vs ls : List Int) : Bool := vs.any fun v => hasB ls v
theorem apart_any (vs ls : List Int) : apartB vs ls = !anyB vs ls := by unfold apartB anyB; rw [List.not_any_eq_all_not]
theorem inBoth_any {W : World} (n : Int) (g : Nat) (B : Option Addr) (d : Nat) (ls : List Int) (hc : W.cell? ⟨g, 3, none⟩ = some (.slice B ls.length d)) (hs : Sl fI W B ls) :
 Calls Tryz.prog 103 #[.int .i64 n, .pointer (some ⟨g, 0, none⟩)] W fun e w' => e = .returned (.bool (hasB ls n)) ∧ W = w' := by
 have HC := Lib.hid (Contains_any B d ls n W hs)
 clear hs
 go_enter Tryz.func103, Tryz.ntmps103
 go_wp2_with fail
 (with_reducible refine HC.out.mono ?_); rintro e w' ⟨rfl, rfl⟩
 go_wp2_with fail
 go_ret
 exact ⟨rfl, rfl⟩
def IfRel (vs ls : List Int) (w : World) (iv : Value) (wr : World) : Prop := ∃ k : Nat, k ≤ vs.length ∧ iv = .int .i64 k ∧ Hid (∀ j (hj : j < vs.length), j < k → hasB ls vs[j] = false) ∧ wr = w
theorem IndexFunc_both (A : Option Addr) (c : Nat) (vs : List Int) (w : World) (hs : Sl fI w A vs) (g : Nat) (B : Option Addr) (d : Nat) (ls : List Int) (hcl : w.cell? ⟨g, 3, none⟩ = some (.slice B ls.length d)) (hls : Sl fI w B ls) :
 Calls Tryz.prog 132 #[.slice A vs.length c, .func (.func 103) #[] #[.pointer (some ⟨g, 0, none⟩)]] w (IdxI (anyB vs ls) w) := by
 have hl := hs.len
 have HCB : Hid (∀ n, Calls Tryz.prog 103 #[.int .i64 n, .pointer (some ⟨g, 0, none⟩)] w fun e w' => e = .returned (.bool (hasB ls n)) ∧ w = w') := Lib.hid (fun n => inBoth_any n g B d ls hcl hls)
 clear hcl hls
 go_enter Tryz.func132, Tryz.ntmps132
 go_wp2_with fail
 go_loopw [8] (fun i wr => IfRel vs ls w i wr) (fun i _ => vs.length - (intOf i).toNat)
 case atStart => exact ⟨0, Nat.zero_le _, rfl, Lib.hid (fun j _ hj => absurd hj (Nat.not_lt_zero j)), rfl⟩
 case round =>
  obtain ⟨k, hk, rfl, HNO, rfl⟩ := hrel
  by_cases hlt : k < vs.length
  ·obtain ⟨b, o, rfl, _, hc⟩ := hs.at hlt
   have hck := hc k hlt
   obtain ⟨x, hx⟩ : ∃ x, x = vs[k] := ⟨_, rfl⟩
   rw [← hx] at hck; unfold fI at hck
   obtain ⟨z, hz⟩ : ∃ z, z = hasB ls x := ⟨_, rfl⟩
   have hcall := HCB.out x
   rw [← hz] at hcall
   have HCALL := Lib.hid hcall; clear hcall hc
   rw [hx] at hz
   have HZ := Lib.hid hz; clear hz hx
   cases z with
   | true =>
     go_wp2_with fail
     (with_reducible refine HCALL.out.mono ?_); rintro e w' ⟨rfl, rfl⟩
     go_wp2_with fail
     go_ret
     refine ⟨(k : Int), rfl, ?_, rfl⟩
     have : anyB vs ls = true := by unfold anyB; rw [List.any_eq_true]; exact ⟨vs[k], List.getElem_mem hlt, HZ.out.symm⟩
     rw [this]; exact decide_eq_true (by omega)
   | false =>
     go_wp2_with fail
     (with_reducible refine HCALL.out.mono ?_); rintro e w' ⟨rfl, rfl⟩
     go_wp2_with fail
     go_roundw
     case rel => exact ⟨k + 1, hlt, by go_num, Lib.hid (fun j hj h2 => by
      rcases Nat.lt_or_ge j k with h3 | h3
      ·exact HNO.out j hj h3
      ·have : j = k := by omega
       subst this; exact HZ.out.symm), rfl⟩
     case measure => simp [intOf]; omega
  ·have hy : anyB vs ls = false := by
    unfold anyB; rw [List.any_eq_false]
    intro v hv
    obtain ⟨j, hj, rfl⟩ := List.mem_iff_getElem.1 hv
    rw [HNO.out j hj (by omega)]; decide
   have HY := Lib.hid hy; clear hy
   go_wp2_with fail
   go_ret
   exact ⟨-1, rfl, by rw [HY.out]; decide, rfl⟩
theorem ContainsFunc_both (A : Option Addr) (c : Nat) (vs : List Int) (w : World) (hs : Sl fI w A vs) (g : Nat) (B : Option Addr) (d : Nat) (ls : List Int) (hcl : w.cell? ⟨g, 3, none⟩ = some (.slice B ls.length d)) (hls : Sl fI w B ls) :
 Calls Tryz.prog 102 #[.slice A vs.length c, .func (.func 103) #[] #[.pointer (some ⟨g, 0, none⟩)]] w fun e w' => e = .returned (.bool (anyB vs ls)) ∧ w = w' := by
 have HI := Lib.hid (IndexFunc_both A c vs w hs g B d ls hcl hls)
 clear hs hcl hls
 go_enter Tryz.func102, Tryz.ntmps102
 go_wp2_with fail
 (with_reducible refine HI.out.mono ?_); rintro e w' ⟨i, rfl, hi, rfl⟩
 have HB := Lib.hid hi; clear hi
 go_wp2_with fail
 go_ret
 exact ⟨ret_bool HB.out, rfl⟩
end Go.Proofs.YtfpomllhkbbipaaGreatDoor
namespace Go.Proofs.YtfpomllhkbbipaaGreatDoor
open Go Go.RowKit Go.Maps Go.Lib Mem Cf
def okNum (x : Int) : Bool := decide (x ≤ 1099511627776)
def snapB (x t : Int) (vs ls : List Int) (ds : List UInt8) : Bool := decide (1 ≤ x) && (okNum x && (decide (0 ≤ t) && (okNum t && (rconfB vs ls && decide (ds.length ≤ 32768)))))
structure SnIn (w : World) (A : Option Addr) (vs : List Int) (B : Option Addr) (ls : List Int) (D : Option Addr) (ds : List UInt8) : Prop where
 v : Sl fI w A vs
 l : Sl fI w B ls
 d : Sl fB w D ds
theorem SnIn.below {w w' : World} {A B D : Option Addr} {vs ls : List Int} {ds : List UInt8} (h : SnIn w A vs B ls D ds) (hb : Below w.heap.size w w') : SnIn w' A vs B ls D ds := ⟨h.v.below hb, h.l.below hb, h.d.below hb⟩
set_option maxRecDepth 100000 in
set_option maxHeartbeats 2000000 in
theorem snright_any {w : World} {x t : Int} {A B D : Option Addr} {a b d : Nat} {vs ls : List Int} {ds : List UInt8} (h : SnIn w A vs B ls D ds) :
 Calls Tryz.prog 64 #[.agg #[.int .i64 x, .int .i64 t, .slice A vs.length a, .slice B ls.length b, .slice D ds.length d]] w (BoolB (snapB x t vs ls ds) w) := by
 have hmf : ∀ (fn : Fn) (first cap : Array Value) (w : World), (Instr.makeFunc fn first cap).run Tryz.prog w = .ok (.func fn first cap) w := fun _ _ _ _ => rfl
 have hlv := h.v.len
 have hll := h.l.len
 have hld := h.d.len
 have H := Lib.hid h; clear h
 obtain ⟨p1, hp1⟩ : ∃ p, p = decide (1 ≤ x) := ⟨_, rfl⟩
 obtain ⟨p2, hp2⟩ : ∃ p, p = decide (x ≤ 1099511627776) := ⟨_, rfl⟩
 obtain ⟨p3, hp3⟩ : ∃ p, p = decide (0 ≤ t) := ⟨_, rfl⟩
 obtain ⟨p4, hp4⟩ : ∃ p, p = decide (t ≤ 1099511627776) := ⟨_, rfl⟩
 obtain ⟨p8, hp8⟩ : ∃ p, p = decide (ds.length ≤ 32768) := ⟨_, rfl⟩
 obtain ⟨p5, hp5⟩ : ∃ p, p = riseB vs := ⟨_, rfl⟩
 obtain ⟨p6, hp6⟩ : ∃ p, p = riseB ls := ⟨_, rfl⟩
 obtain ⟨p7, hp7⟩ : ∃ p, p = anyB vs ls := ⟨_, rfl⟩
 have hres : snapB x t vs ls ds = (p1 && (p2 && (p3 && (p4 && (p5 && (p6 && (!p7 && p8))))))) := by
  unfold snapB okNum; rw [hp1, hp2, hp3, hp4, hp8, hp5, hp6, hp7]; unfold rconfB; rw [apart_any]; simp [Bool.and_assoc]
 rw [hres]
 clear hres
 have t1 : decide (1 ≤ x) = p1 := hp1.symm
 have t2 : decide (x ≤ 1099511627776) = p2 := hp2.symm
 have t3 : decide (0 ≤ t) = p3 := hp3.symm
 have t4 : decide (t ≤ 1099511627776) = p4 := hp4.symm
 have t8 : decide (ds.length ≤ 32768) = p8 := hp8.symm
 have t8' : decide ((ds.length : Int) ≤ 32768) = p8 := by rw [hp8]; congr 1; rw [eq_iff_iff]; omega
 clear hp1 hp2 hp3 hp4 hp8
 have HP5 := Lib.hid hp5; clear hp5
 have HP6 := Lib.hid hp6; clear hp6
 have HP7 := Lib.hid hp7; clear hp7
 go_enter Tryz.func64, Tryz.ntmps64
 go_upto_region 1 with fail
 obtain ⟨w1, hw1⟩ : ∃ x', x' = w.alloc (.cells #[.int .i64 x, .int .i64 t, .slice A vs.length a, .slice B ls.length b, .slice D ds.length d] 43) := ⟨_, rfl⟩
 rw [← hw1]
 have hb1 : Below w.heap.size w w1 := by rw [hw1]; exact (Below.refl _ _).alloc (Nat.le_refl _) _
 have hx1 : Blk w1 w.heap.size 43 #[.int .i64 x, .int .i64 t, .slice A vs.length a, .slice B ls.length b, .slice D ds.length d] := by rw [hw1]; exact Blk.new_ w _ _
 have H1 := Lib.hid (H.out.below hb1)
 have HB1 := Lib.hid hb1
 have HX1 := Lib.hid hx1
 have c0 : w1.cell? ⟨w.heap.size, 0, none⟩ = some (.int .i64 x) := hx1.cell 0
 have c1 : w1.cell? ⟨w.heap.size, 1, none⟩ = some (.int .i64 t) := hx1.cell 1
 have c2 : w1.cell? ⟨w.heap.size, 2, none⟩ = some (.slice A vs.length a) := hx1.cell 2
 have c3 : w1.cell? ⟨w.heap.size, 3, none⟩ = some (.slice B ls.length b) := hx1.cell 3
 have c4 : w1.cell? ⟨w.heap.size, 4, none⟩ = some (.slice D ds.length d) := hx1.cell 4
 clear hw1 hb1 hx1
 have hr1 := members_any A a vs w1 H1.out.v
 rw [← HP5.out] at hr1
 have HR1 := Lib.hid hr1; clear hr1
 have hr2 := members_any B b ls w1 H1.out.l
 rw [← HP6.out] at hr2
 have HR2 := Lib.hid hr2; clear hr2
 have hr3 := ContainsFunc_both A a vs w1 H1.out.v w.heap.size B b ls (HX1.out.cell 3) H1.out.l
 rw [← HP7.out] at hr3
 have HR3 := Lib.hid hr3; clear hr3
 cases p1 with
 | false =>
   go_wp2_with (first | (go_at_call 101; (with_reducible refine HR1.out.mono ?_); rintro e w2 ⟨rfl, rfl⟩) | (go_at_call 101; (with_reducible refine HR2.out.mono ?_); rintro e w2 ⟨rfl, rfl⟩) | (go_at_call 102; (with_reducible refine HR3.out.mono ?_); rintro e w2 ⟨rfl, rfl⟩))
   go_ret
   exact ⟨ret_bool (by simp), HB1.out⟩
 | true =>
   cases p2 with
   | false =>
     go_wp2_with (first | (go_at_call 101; (with_reducible refine HR1.out.mono ?_); rintro e w2 ⟨rfl, rfl⟩) | (go_at_call 101; (with_reducible refine HR2.out.mono ?_); rintro e w2 ⟨rfl, rfl⟩) | (go_at_call 102; (with_reducible refine HR3.out.mono ?_); rintro e w2 ⟨rfl, rfl⟩))
     go_ret
     exact ⟨ret_bool (by simp), HB1.out⟩
   | true =>
     cases p3 with
     | false =>
       go_wp2_with (first | (go_at_call 101; (with_reducible refine HR1.out.mono ?_); rintro e w2 ⟨rfl, rfl⟩) | (go_at_call 101; (with_reducible refine HR2.out.mono ?_); rintro e w2 ⟨rfl, rfl⟩) | (go_at_call 102; (with_reducible refine HR3.out.mono ?_); rintro e w2 ⟨rfl, rfl⟩))
       go_ret
       exact ⟨ret_bool (by simp), HB1.out⟩
     | true =>
       cases p4 with
       | false =>
         go_wp2_with (first | (go_at_call 101; (with_reducible refine HR1.out.mono ?_); rintro e w2 ⟨rfl, rfl⟩) | (go_at_call 101; (with_reducible refine HR2.out.mono ?_); rintro e w2 ⟨rfl, rfl⟩) | (go_at_call 102; (with_reducible refine HR3.out.mono ?_); rintro e w2 ⟨rfl, rfl⟩))
         go_ret
         exact ⟨ret_bool (by simp), HB1.out⟩
       | true =>
         cases p5 with
         | false =>
           go_wp2_with (first | (go_at_call 101; (with_reducible refine HR1.out.mono ?_); rintro e w2 ⟨rfl, rfl⟩) | (go_at_call 101; (with_reducible refine HR2.out.mono ?_); rintro e w2 ⟨rfl, rfl⟩) | (go_at_call 102; (with_reducible refine HR3.out.mono ?_); rintro e w2 ⟨rfl, rfl⟩))
           go_ret
           exact ⟨ret_bool (by simp), HB1.out⟩
         | true =>
           cases p6 with
           | false =>
             go_wp2_with (first | (go_at_call 101; (with_reducible refine HR1.out.mono ?_); rintro e w2 ⟨rfl, rfl⟩) | (go_at_call 101; (with_reducible refine HR2.out.mono ?_); rintro e w2 ⟨rfl, rfl⟩) | (go_at_call 102; (with_reducible refine HR3.out.mono ?_); rintro e w2 ⟨rfl, rfl⟩))
             go_ret
             exact ⟨ret_bool (by simp), HB1.out⟩
           | true =>
             cases p7 with
             | true =>
               go_wp2_with (first | (go_at_call 101; (with_reducible refine HR1.out.mono ?_); rintro e w2 ⟨rfl, rfl⟩) | (go_at_call 101; (with_reducible refine HR2.out.mono ?_); rintro e w2 ⟨rfl, rfl⟩) | (go_at_call 102; (with_reducible refine HR3.out.mono ?_); rintro e w2 ⟨rfl, rfl⟩))
               go_ret
               exact ⟨ret_bool (by simp), HB1.out⟩
             | false =>
               go_wp2_with (first | (go_at_call 101; (with_reducible refine HR1.out.mono ?_); rintro e w2 ⟨rfl, rfl⟩) | (go_at_call 101; (with_reducible refine HR2.out.mono ?_); rintro e w2 ⟨rfl, rfl⟩) | (go_at_call 102; (with_reducible refine HR3.out.mono ?_); rintro e w2 ⟨rfl, rfl⟩))
               go_ret
               exact ⟨ret_bool (by simp), HB1.out⟩
set_option maxRecDepth 100000 in
set_option maxHeartbeats 2000000 in
theorem RSnRight_any {w : World} {x t : Int} {A B D : Option Addr} {a b d : Nat} {vs ls : List Int} {ds : List UInt8} (h : SnIn w A vs B ls D ds) :
 Calls Tryz.prog 25 #[.agg #[.int .i64 x, .int .i64 t, .slice A vs.length a, .slice B ls.length b, .slice D ds.length d]] w (BoolB (snapB x t vs ls ds) w) := by
 have hmf : ∀ (fn : Fn) (first cap : Array Value) (w : World), (Instr.makeFunc fn first cap).run Tryz.prog w = .ok (.func fn first cap) w := fun _ _ _ _ => rfl
 have hlv := h.v.len
 have hll := h.l.len
 have hld := h.d.len
 have H := Lib.hid h; clear h
 obtain ⟨p1, hp1⟩ : ∃ p, p = decide (1 ≤ x) := ⟨_, rfl⟩
 obtain ⟨p2, hp2⟩ : ∃ p, p = decide (x ≤ 1099511627776) := ⟨_, rfl⟩
 obtain ⟨p3, hp3⟩ : ∃ p, p = decide (0 ≤ t) := ⟨_, rfl⟩
 obtain ⟨p4, hp4⟩ : ∃ p, p = decide (t ≤ 1099511627776) := ⟨_, rfl⟩
 obtain ⟨p8, hp8⟩ : ∃ p, p = decide (ds.length ≤ 32768) := ⟨_, rfl⟩
 obtain ⟨p5, hp5⟩ : ∃ p, p = rconfB vs ls := ⟨_, rfl⟩
 have hres : snapB x t vs ls ds = (p1 && (p2 && (p3 && (p4 && (p5 && p8))))) := by
  unfold snapB okNum; rw [hp1, hp2, hp3, hp4, hp8, hp5]
 rw [hres]
 clear hres
 have t1 : decide (1 ≤ x) = p1 := hp1.symm
 have t2 : decide (x ≤ 1099511627776) = p2 := hp2.symm
 have t3 : decide (0 ≤ t) = p3 := hp3.symm
 have t4 : decide (t ≤ 1099511627776) = p4 := hp4.symm
 have t8 : decide (ds.length ≤ 32768) = p8 := hp8.symm
 have t8' : decide ((ds.length : Int) ≤ 32768) = p8 := by rw [hp8]; congr 1; rw [eq_iff_iff]; omega
 clear hp1 hp2 hp3 hp4 hp8
 have HP5 := Lib.hid hp5; clear hp5
 go_enter Tryz.func25, Tryz.ntmps25
 go_upto_region 1 with fail
 obtain ⟨w1, hw1⟩ : ∃ x', x' = w.alloc (.cells #[.int .i64 x, .int .i64 t, .slice A vs.length a, .slice B ls.length b, .slice D ds.length d] 38) := ⟨_, rfl⟩
 rw [← hw1]
 have hb1 : Below w.heap.size w w1 := by rw [hw1]; exact (Below.refl _ _).alloc (Nat.le_refl _) _
 have hx1 : Blk w1 w.heap.size 38 #[.int .i64 x, .int .i64 t, .slice A vs.length a, .slice B ls.length b, .slice D ds.length d] := by rw [hw1]; exact Blk.new_ w _ _
 have H1 := Lib.hid (H.out.below hb1)
 have HB1 := Lib.hid hb1
 have HX1 := Lib.hid hx1
 have c0 : w1.cell? ⟨w.heap.size, 0, none⟩ = some (.int .i64 x) := hx1.cell 0
 have c1 : w1.cell? ⟨w.heap.size, 1, none⟩ = some (.int .i64 t) := hx1.cell 1
 have c2 : w1.cell? ⟨w.heap.size, 2, none⟩ = some (.slice A vs.length a) := hx1.cell 2
 have c3 : w1.cell? ⟨w.heap.size, 3, none⟩ = some (.slice B ls.length b) := hx1.cell 3
 have c4 : w1.cell? ⟨w.heap.size, 4, none⟩ = some (.slice D ds.length d) := hx1.cell 4
 clear hw1 hb1 hx1
 have hr1 := RRightConf_any (c := a) (d := b) (CI.mk H1.out.v H1.out.l)
 rw [← HP5.out] at hr1
 have HR1 := Lib.hid hr1; clear hr1
 cases p1 with
 | false =>
   go_wp2_with fail
   go_ret
   exact ⟨ret_bool (by simp), HB1.out⟩
 | true =>
   cases p2 with
   | false =>
     go_wp2_with fail
     go_ret
     exact ⟨ret_bool (by simp), HB1.out⟩
   | true =>
     cases p3 with
     | false =>
       go_wp2_with fail
       go_ret
       exact ⟨ret_bool (by simp), HB1.out⟩
     | true =>
       cases p4 with
       | false =>
         go_wp2_with fail
         go_ret
         exact ⟨ret_bool (by simp), HB1.out⟩
       | true =>
         go_wp2_with fail
         (with_reducible refine HR1.out.mono ?_); rintro e w2 ⟨rfl, hb2⟩
         have hx2 := HX1.out.below hb2 HX1.out.lt
         have e4 : w2.cell? ⟨w.heap.size, 4, none⟩ = some (.slice D ds.length d) := hx2.cell 4
         have HB2 : Hid (Below w.heap.size w w2) := HB1.out.trans (hb2.mono HB1.out.size)
         clear hb2 hx2 c0 c1 c2 c3 c4
         cases p5 with
         | false =>
           go_wp2_with fail
           go_ret
           exact ⟨ret_bool (by simp), HB2.out⟩
         | true =>
           go_wp2_with fail
           go_ret
           exact ⟨ret_bool (by simp), HB2.out⟩
end Go.Proofs.YtfpomllhkbbipaaGreatDoor
