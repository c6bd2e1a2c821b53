/- Layer 8: members, both sides. -/
import Derived.Test.YtfnmofoecehcfaaByt
import Derived.Test.YtfnmofoecehcfaaSrtG
import Derived.BigQuiet
import Derived.Deep.DeepCutAuto
namespace Go.Proofs.Ytfnmofoecehcfaa.Cf

def okAt (xs : List Int) (j : Nat) : Bool := decide (1 ≤ xs.getD j 0) && (decide (xs.getD j 0 ≤ 7) && (decide (j = 0) || decide (xs.getD (j - 1) 0 < xs.getD j 0)))
def riseB (xs : List Int) : Bool := (List.range xs.length).all (okAt xs)
def hasB (xs : List Int) (n : Int) : Bool := decide (n ∈ xs)
/-- no number is in both -/
def apartB (vs ls : List Int) : Bool := vs.all fun v => !hasB ls v
def rconfB (vs ls : List Int) : Bool := riseB vs && (riseB ls && apartB vs ls)
def rightB (vs ls : List Int) : Bool := decide (0 < vs.length) && rconfB vs ls
theorem getD_get {xs : List Int} {k : Nat} (h : k < xs.length) : xs.getD k 0 = xs[k] := by rw [List.getD_eq_getElem?_getD, List.getElem?_eq_getElem h, Option.getD_some]
theorem rise_no {xs : List Int} {k : Nat} (h : k < xs.length) (hb : okAt xs k = false) : riseB xs = false := by
  unfold riseB
  rw [List.all_eq_false]
  exact ⟨k, List.mem_range.2 h, by simp [hb]⟩
theorem rise_yes {xs : List Int} (h : ∀ j, j < xs.length → okAt xs j = true) : riseB xs = true := by
  unfold riseB
  rw [List.all_eq_true]
  exact fun j hj => h j (List.mem_range.1 hj)
theorem rise_iff {xs : List Int} : riseB xs = true ↔ ∀ j, j < xs.length → okAt xs j = true := by
  unfold riseB
  rw [List.all_eq_true]
  exact ⟨fun h j hj => h j (List.mem_range.2 hj), fun h j hj => h j (List.mem_range.1 hj)⟩
theorem apart_no {vs ls : List Int} {k : Nat} (h : k < vs.length) (hb : hasB ls vs[k] = true) : apartB vs ls = false := by
  unfold apartB
  rw [List.all_eq_false]
  exact ⟨vs[k], List.getElem_mem h, by simp [hb]⟩
theorem apart_yes {vs ls : List Int} (h : ∀ j (hj : j < vs.length), hasB ls vs[j] = false) : apartB vs ls = true := by
  unfold apartB
  rw [List.all_eq_true]
  intro v hv
  obtain ⟨j, hj, rfl⟩ := List.mem_iff_getElem.1 hv
  rw [h j hj]; rfl
end Go.Proofs.Ytfnmofoecehcfaa.Cf
namespace Go.Proofs.Ytfnmofoecehcfaa
open Go Go.RowKit Go.Maps Go.Lib Mem Cf

def fI : Int → Value := Value.int .i64
theorem intTI : SliceT Try.prog 22 3 (.int .i64 0) 8 := sliceT_mk Try.underlying22 rfl (by kernel_rfl)
theorem fI_oneI (u : Int) : (fI u).oneCell' = true := rfl
def EqRelI (xs ys : List Int) (w : World) (i : Value) (wr : World) : Prop := ∃ k m : Nat, k ≤ xs.length ∧ i = .int .i64 k ∧ xs.take k = ys.take k ∧ wr = w.drewN m
set_option maxHeartbeats 1000000 in
theorem SameInts_any (A B : Option Addr) (c d : Nat) (xs ys : List Int) (w : World) (hs : Sl fI w A xs) (ht : Sl fI w B ys) :
    Calls Try.prog 28 #[.slice A xs.length c, .slice B ys.length d] w (Quiet (.bool (decide (xs = ys))) w) := by
  have hl := hs.len
  have hl2 := ht.len
  by_cases hlen : xs.length = ys.length
  · have HLEN := Lib.hid hlen
    have t1 : ((xs.length : Int) != (ys.length : Int)) = false := by rw [hlen]; simp
    clear hlen
    go_enter Try.func28, Try.ntmps28
    go_wp2_with fail
    go_loopw [5] (fun i wr => EqRelI xs ys w i wr) (fun i _ => xs.length - (intOf i).toNat)
    case atStart => exact ⟨0, 0, Nat.zero_le _, rfl, rfl, rfl⟩
    case round =>
      obtain ⟨k, m, hk, rfl, heq, rfl⟩ := hrel
      have HEQ := Lib.hid heq; clear heq
      by_cases hlt : k < xs.length
      · have hlt2 : k < ys.length := by have := HLEN.out; omega
        obtain ⟨b, o, rfl, _, hc⟩ := hs.at hlt
        obtain ⟨b2, o2, rfl, _, hc2⟩ := ht.at hlt2
        have hck := hc k hlt
        have hck2 := hc2 k hlt2
        unfold fI at hck hck2
        clear hc hc2 t1
        obtain ⟨x, hx⟩ : ∃ x, x = xs[k] := ⟨_, rfl⟩
        obtain ⟨y, hy⟩ : ∃ y, y = ys[k] := ⟨_, rfl⟩
        rw [← hx] at hck; rw [← hy] at hck2
        have hk0 : (0 : Int) ≤ (k : Int) := by omega
        have hk1 : (k : Int) < (xs.length : Int) := by omega
        have hk2 : (k : Int) < (ys.length : Int) := by omega
        by_cases hv : x = y
        · have HSN : Hid (xs.take (k + 1) = ys.take (k + 1)) := by
            show _ = _; rw [List.take_succ_eq_append_getElem hlt, List.take_succ_eq_append_getElem hlt2, HEQ.out, ← hx, ← hy, hv]
          subst hv
          clear hx hy
          go_wp2_with fail
          go_quiet (fail)
          go_wp2_with fail
          go_roundw
          case rel => exact ⟨k + 1, _, by omega, by go_num, HSN.out, rfl⟩
          case measure => simp [intOf]; omega
        · have t2 : (x == y) = false := by rw [beq_eq_false_iff_ne]; exact hv
          have t3 : (x != y) = true := by rw [bne_iff_ne]; exact hv
          have hne : xs ≠ ys := by intro e; subst e; exact hv (by rw [hx, hy])
          have HNE := Lib.hid hne; clear hne hv hx hy
          go_wp2_with fail
          go_quiet (fail)
          go_wp2_with fail
          go_ret
          exact ⟨ret_bool (by rw [decide_eq_false HNE.out]), _, World.drewN_drewN ..⟩
      · go_wp2_with fail
        go_ret
        have h1 := HEQ.out
        rw [List.take_of_length_le (by omega), List.take_of_length_le (by have := HLEN.out; omega)] at h1
        exact ⟨ret_bool (by rw [decide_eq_true h1]), _, rfl⟩
  · have t1 : ((xs.length : Int) != (ys.length : Int)) = true := by rw [bne_iff_ne]; omega
    have hne : xs ≠ ys := fun e => hlen (by rw [e])
    have HNE := Lib.hid hne; clear hne
    go_enter Try.func28, Try.ntmps28
    go_wp2_with fail
    go_ret
    exact ⟨ret_bool (by rw [decide_eq_false HNE.out]), 0, rfl⟩
/-! is a number among some? -/
theorem mem_take_no {xs : List Int} {n : Int} {k : Nat} (h : k < xs.length) (h1 : n ∉ xs.take k) (h2 : xs[k] ≠ n) : n ∉ xs.take (k + 1) := by
  rw [List.take_succ_eq_append_getElem h, List.mem_append]
  rintro (h3 | h3)
  · exact h1 h3
  · simp at h3; exact h2 h3.symm
def HasRel (xs : List Int) (n : Int) (w : World) (i : Value) (wr : World) : Prop := ∃ k : Nat, k ≤ xs.length ∧ i = .int .i64 k ∧ Hid (n ∉ xs.take k) ∧ wr = w
theorem Has_any (A : Option Addr) (c : Nat) (xs : List Int) (n : Int) (w : World) (hs : Sl fI w A xs) :
    Calls Try.prog 41 #[.slice A xs.length c, .int .i64 n] w fun e w' => e = .returned (.bool (hasB xs n)) ∧ w = w' := by
  have hl := hs.len
  go_enter Try.func41, Try.ntmps41
  go_wp2_with fail
  go_loopw [5] (fun i wr => HasRel xs n w i wr) (fun i _ => xs.length - (intOf i).toNat)
  case atStart => exact ⟨0, Nat.zero_le _, rfl, Lib.hid (by simp), rfl⟩
  case round =>
    obtain ⟨k, hk, rfl, HNO, rfl⟩ := hrel
    by_cases hlt : k < xs.length
    · obtain ⟨b, o, rfl, _, hc⟩ := hs.at hlt
      have hck := hc k hlt
      obtain ⟨x, hx⟩ : ∃ x, x = xs[k] := ⟨_, rfl⟩
      unfold fI at hck
      rw [← hx] at hck
      clear hc
      by_cases hv : x = n
      · have hh : hasB xs n = true := by unfold hasB; rw [← hv, hx]; exact decide_eq_true (List.getElem_mem hlt)
        have HH := Lib.hid hh; clear hh hx
        have t2 : (x == n) = true := by rw [beq_iff_eq]; exact hv
        clear hv
        go_wp2_with fail
        go_ret
        exact ⟨ret_bool (by rw [HH.out]), rfl⟩
      · have HN2 := Lib.hid (mem_take_no hlt HNO.out (by rw [← hx]; exact hv))
        have t2 : (x == n) = false := by rw [beq_eq_false_iff_ne]; exact hv
        clear hv hx
        go_wp2_with fail
        go_roundw
        case rel => exact ⟨k + 1, hlt, by go_num, HN2, rfl⟩
        case measure => simp [intOf]; omega
    · have hh : hasB xs n = false := by
        have h1 := HNO.out
        rw [List.take_of_length_le (by omega)] at h1
        unfold hasB; exact decide_eq_false h1
      have HH := Lib.hid hh; clear hh
      go_wp2_with fail
      go_ret
      exact ⟨ret_bool (by rw [HH.out]), rfl⟩
/-! does a list rise within its range? The document's test. -/
def RiRel (xs : List Int) (w : World) (i : Value) (wr : World) : Prop := ∃ k m : Nat, k ≤ xs.length ∧ i = .int .i64 k ∧ (∀ j, j < k → okAt xs j = true) ∧ wr = w.drewN m
def RiRel0 (xs : List Int) (w : World) (i : Value) (wr : World) : Prop := ∃ k : Nat, k ≤ xs.length ∧ i = .int .i64 k ∧ (∀ j, j < k → okAt xs j = true) ∧ wr = w
theorem ok_step {xs : List Int} {k : Nat} (h : ∀ j, j < k → okAt xs j = true) (hk : okAt xs k = true) : ∀ j, j < k + 1 → okAt xs j = true := fun j hj => by
  rcases Nat.lt_or_ge j k with h1 | h1
  · exact h j h1
  · have : j = k := by omega
    subst this; exact hk
set_option maxRecDepth 100000 in
set_option maxHeartbeats 2000000 in
theorem Rising_any (A : Option Addr) (c : Nat) (xs : List Int) (w : World) (hs : Sl fI w A xs) :
    Calls Try.prog 40 #[.slice A xs.length c] w (Quiet (.bool (riseB xs)) w) := by
  have hl := hs.len
  go_enter Try.func40, Try.ntmps40
  go_wp2_with fail
  go_loopw [3] (fun i wr => RiRel xs w i wr) (fun i _ => xs.length - (intOf i).toNat)
  case atStart => exact ⟨0, 0, Nat.zero_le _, rfl, fun j hj => absurd hj (Nat.not_lt_zero j), rfl⟩
  case round =>
    obtain ⟨k, m, hk, rfl, hall, rfl⟩ := hrel
    have HALL := Lib.hid hall; clear hall
    by_cases hlt : k < xs.length
    · obtain ⟨b, o, rfl, _, hc⟩ := hs.at hlt
      have hck := hc k hlt
      obtain ⟨x, hx⟩ : ∃ x, x = xs[k] := ⟨_, rfl⟩
      rw [← hx] at hck; unfold fI at hck
      have hgx : xs.getD k 0 = x := by rw [getD_get hlt, hx]
      obtain ⟨wo, hwo⟩ : ∃ x, x = w.drewN m := ⟨_, rfl⟩
      have hck : wo.cell? ⟨b, o + k, none⟩ = some (.int .i64 x) := by rw [hwo]; exact hck
      have hk0 : (0 : Int) ≤ (k : Int) := by omega
      have hk1 : (k : Int) < (xs.length : Int) := by omega
      rw [← hwo]
      have HWO := Lib.hid hwo; clear hwo
      by_cases h1 : x < 1
      · clear hx hc
        have hno : okAt xs k = false := by unfold okAt; rw [hgx]; simp; omega
        have HR := Lib.hid (rise_no hlt hno); clear hno
        clear hgx
        go_wp2_with fail
        go_quiet (fail)
        go_wp2_with fail
        go_ret
        exact ⟨ret_bool (by rw [HR.out]), m + nq, by rw [HWO.out, World.drewN_drewN]⟩
      · by_cases h7 : 7 < x
        · clear hx hc
          have hno : okAt xs k = false := by unfold okAt; rw [hgx]; simp; omega
          have HR := Lib.hid (rise_no hlt hno); clear hno
          have d1 : decide (x < 1) = false := decide_eq_false h1
          have d7 : decide (7 < x) = true := decide_eq_true h7
          clear hgx h1 h7
          go_wp2_with fail
          go_quiet (fail)
          go_wp2_with fail
          go_ret
          exact ⟨ret_bool (by rw [HR.out]), m + nq, by rw [HWO.out, World.drewN_drewN]⟩
        · by_cases h0 : k = 0
          · have t0 : ¬ (0 : Int) < (k : Int) := by omega
            clear hx hc
            have hyes : okAt xs k = true := by unfold okAt; rw [hgx]; simp; omega
            clear h0
            have HA := Lib.hid (ok_step HALL.out hyes); clear hyes
            have d1 : decide (x < 1) = false := decide_eq_false h1
            have d7 : decide (7 < x) = false := decide_eq_false h7
            have d0 : decide ((0 : Int) < (k : Int)) = false := decide_eq_false t0
            have d0n : decide (0 < k) = false := decide_eq_false (by omega)
            clear hgx h1 h7 t0
            go_wp2_with fail
            go_quiet (fail)
            go_wp2_with fail
            go_roundw
            case rel => exact ⟨k + 1, m + nq, hlt, by go_num, HA.out, by rw [HWO.out, World.drewN_drewN]⟩
            case measure => simp [intOf]; omega
          · have hkm : k - 1 < xs.length := by omega
            have hcm := hc (k - 1) hkm
            obtain ⟨y, hy⟩ : ∃ y, y = xs[k - 1] := ⟨_, rfl⟩
            rw [← hy] at hcm; unfold fI at hcm
            have hgy : xs.getD (k - 1) 0 = y := by rw [getD_get hkm, hy]
            have hcm : wo.cell? ⟨b, o + (k - 1), none⟩ = some (.int .i64 y) := by rw [HWO.out]; exact hcm
            have t0 : (0 : Int) < (k : Int) := by omega
            have hw1 : IntKind.i64.wrap ((k : Int) - 1) = ((k - 1 : Nat) : Int) := by rw [IntWalk.i64_in _ (by omega)]; omega
            have hk3 : (0 : Int) ≤ ((k - 1 : Nat) : Int) := by omega
            have hk4 : ((k - 1 : Nat) : Int) < (xs.length : Int) := by omega
            clear hx hc hy
            by_cases hxy : y < x
            · have t5 : ¬ x ≤ y := by omega
              have hyes : okAt xs k = true := by unfold okAt; rw [hgx, hgy]; simp; omega
              have HA := Lib.hid (ok_step HALL.out hyes); clear hyes
              have d1 : decide (x < 1) = false := decide_eq_false h1
              have d7 : decide (7 < x) = false := decide_eq_false h7
              have d0 : decide ((0 : Int) < (k : Int)) = true := decide_eq_true t0
              have d0n : decide (0 < k) = true := decide_eq_true (by omega)
              have d5 : decide (x ≤ y) = false := decide_eq_false t5
              clear hgx h1 h7 t0 t5
              go_wp2_with fail
              go_quiet (fail)
              go_wp2_with fail
              go_roundw
              case rel => exact ⟨k + 1, m + nq, hlt, by go_num, HA.out, by rw [HWO.out, World.drewN_drewN]⟩
              case measure => simp [intOf]; omega
            · have t5 : x ≤ y := by omega
              have hno : okAt xs k = false := by unfold okAt; rw [hgx, hgy]; simp; omega
              have HR := Lib.hid (rise_no hlt hno); clear hno
              have d1 : decide (x < 1) = false := decide_eq_false h1
              have d7 : decide (7 < x) = false := decide_eq_false h7
              have d0 : decide ((0 : Int) < (k : Int)) = true := decide_eq_true t0
              have d0n : decide (0 < k) = true := decide_eq_true (by omega)
              have d5 : decide (x ≤ y) = true := decide_eq_true t5
              clear hgx h1 h7 t0 t5
              go_wp2_with fail
              go_quiet (fail)
              go_wp2_with fail
              go_ret
              exact ⟨ret_bool (by rw [HR.out]), m + nq, by rw [HWO.out, World.drewN_drewN]⟩
    · have HR := Lib.hid (rise_yes (xs := xs) (fun j hj => HALL.out j (by omega)))
      go_wp2_with fail
      go_ret
      exact ⟨ret_bool (by rw [HR.out]), m, rfl⟩
set_option maxRecDepth 100000 in
set_option maxHeartbeats 2000000 in
theorem members_any (A : Option Addr) (c : Nat) (xs : List Int) (w : World) (hs : Sl fI w A xs) :
    Calls Try.prog 31 #[.slice A xs.length c] w fun e w' => e = .returned (.bool (riseB xs)) ∧ w = w' := by
  have hl := hs.len
  go_enter Try.func31, Try.ntmps31
  go_wp2_with fail
  go_loopw [7] (fun i wr => RiRel0 xs w i wr) (fun i _ => xs.length - (intOf i).toNat)
  case atStart => exact ⟨0, Nat.zero_le _, rfl, fun j hj => absurd hj (Nat.not_lt_zero j), rfl⟩
  case round =>
    obtain ⟨k, hk, rfl, hall, rfl⟩ := hrel
    have HALL := Lib.hid hall; clear hall
    by_cases hlt : k < xs.length
    · obtain ⟨b, o, rfl, _, hc⟩ := hs.at hlt
      have hck := hc k hlt
      obtain ⟨x, hx⟩ : ∃ x, x = xs[k] := ⟨_, rfl⟩
      rw [← hx] at hck; unfold fI at hck
      have hgx : xs.getD k 0 = x := by rw [getD_get hlt, hx]
      have hk0 : (0 : Int) ≤ (k : Int) := by omega
      have hk1 : (k : Int) < (xs.length : Int) := by omega
      by_cases h1 : x < 1
      · clear hx hc
        have hno : okAt xs k = false := by unfold okAt; rw [hgx]; simp; omega
        have HR := Lib.hid (rise_no hlt hno); clear hno
        clear hgx
        go_wp2_with fail
        go_ret
        exact ⟨ret_bool (by rw [HR.out]), rfl⟩
      · by_cases h7 : 7 < x
        · clear hx hc
          have hno : okAt xs k = false := by unfold okAt; rw [hgx]; simp; omega
          have HR := Lib.hid (rise_no hlt hno); clear hno
          clear hgx
          go_wp2_with fail
          go_ret
          exact ⟨ret_bool (by rw [HR.out]), rfl⟩
        · by_cases h0 : k = 0
          · have t0 : ¬ (0 : Int) < (k : Int) := by omega
            clear hx hc
            have hyes : okAt xs k = true := by unfold okAt; rw [hgx]; simp; omega
            clear h0
            have HA := Lib.hid (ok_step HALL.out hyes); clear hyes
            clear hgx
            go_wp2_with fail
            go_roundw
            case rel => exact ⟨k + 1, hlt, by go_num, HA.out, rfl⟩
            case measure => simp [intOf]; omega
          · have hkm : k - 1 < xs.length := by omega
            have hcm := hc (k - 1) hkm
            obtain ⟨y, hy⟩ : ∃ y, y = xs[k - 1] := ⟨_, rfl⟩
            rw [← hy] at hcm; unfold fI at hcm
            have hgy : xs.getD (k - 1) 0 = y := by rw [getD_get hkm, hy]
            have t0 : (0 : Int) < (k : Int) := by omega
            have hw1 : IntKind.i64.wrap ((k : Int) - 1) = ((k - 1 : Nat) : Int) := by rw [IntWalk.i64_in _ (by omega)]; omega
            have hk3 : (0 : Int) ≤ ((k - 1 : Nat) : Int) := by omega
            have hk4 : ((k - 1 : Nat) : Int) < (xs.length : Int) := by omega
            clear hx hc hy
            by_cases hxy : y < x
            · have t5 : ¬ x ≤ y := by omega
              have hyes : okAt xs k = true := by unfold okAt; rw [hgx, hgy]; simp; omega
              have HA := Lib.hid (ok_step HALL.out hyes); clear hyes
              clear hgx
              go_wp2_with fail
              go_roundw
              case rel => exact ⟨k + 1, hlt, by go_num, HA.out, rfl⟩
              case measure => simp [intOf]; omega
            · have t5 : x ≤ y := by omega
              have hno : okAt xs k = false := by unfold okAt; rw [hgx, hgy]; simp; omega
              have HR := Lib.hid (rise_no hlt hno); clear hno
              clear hgx
              go_wp2_with fail
              go_ret
              exact ⟨ret_bool (by rw [HR.out]), rfl⟩
    · have HR := Lib.hid (rise_yes (xs := xs) (fun j hj => HALL.out j (by omega)))
      go_wp2_with fail
      go_ret
      exact ⟨ret_bool (by rw [HR.out]), rfl⟩
theorem Quiet.below {v : Value} {w w' : World} {e : Ending} (h : Quiet v w e w') : e = .returned v ∧ Below w.heap.size w w' := by
  obtain ⟨h1, m, rfl⟩ := h; exact ⟨h1, below_drewN (Below.refl _ _) m⟩
/-- an index of a library's search -/
def IdxI (b : Bool) (w : World) (e : Ending) (w' : World) : Prop := ∃ i : Int, e = .returned (.int .i64 i) ∧ decide (0 ≤ i) = b ∧ w = w'
theorem Index_any (A : Option Addr) (c : Nat) (xs : List Int) (n : Int) (w : World) (hs : Sl fI w A xs) :
    Calls Try.prog 51 #[.slice A xs.length c, .int .i64 n] w (IdxI (hasB xs n) w) := by
  have hl := hs.len
  go_enter Try.func51, Try.ntmps51
  go_wp2_with fail
  go_loopw [8] (fun i wr => HasRel xs n w i wr) (fun i _ => xs.length - (intOf i).toNat)
  case atStart => exact ⟨0, Nat.zero_le _, rfl, Lib.hid (by simp), rfl⟩
  case round =>
    obtain ⟨k, hk, rfl, HNO, rfl⟩ := hrel
    by_cases hlt : k < xs.length
    · obtain ⟨b, o, rfl, _, hc⟩ := hs.at hlt
      have hck := hc k hlt
      obtain ⟨x, hx⟩ : ∃ x, x = xs[k] := ⟨_, rfl⟩
      unfold fI at hck
      rw [← hx] at hck
      clear hc
      by_cases hv : n = x
      · have hh : hasB xs n = true := by unfold hasB; rw [hv, hx]; exact decide_eq_true (List.getElem_mem hlt)
        have HH := Lib.hid hh; clear hh hx
        have t2 : (n == x) = true := by rw [beq_iff_eq]; exact hv
        clear hv
        go_wp2_with fail
        go_ret
        exact ⟨(k : Int), rfl, by rw [HH.out]; exact decide_eq_true (by omega), rfl⟩
      · have HN2 := Lib.hid (mem_take_no hlt HNO.out (by rw [← hx]; exact fun e => hv e.symm))
        have t2 : (n == x) = false := by rw [beq_eq_false_iff_ne]; exact hv
        clear hv hx
        go_wp2_with fail
        go_roundw
        case rel => exact ⟨k + 1, hlt, by go_num, HN2, rfl⟩
        case measure => simp [intOf]; omega
    · have hh : hasB xs n = false := by
        have h1 := HNO.out
        rw [List.take_of_length_le (by omega)] at h1
        unfold hasB; exact decide_eq_false h1
      have HH := Lib.hid hh; clear hh
      go_wp2_with fail
      go_ret
      exact ⟨-1, rfl, by rw [HH.out]; decide, rfl⟩
theorem Contains_any (A : Option Addr) (c : Nat) (xs : List Int) (n : Int) (w : World) (hs : Sl fI w A xs) :
    Calls Try.prog 34 #[.slice A xs.length c, .int .i64 n] w fun e w' => e = .returned (.bool (hasB xs n)) ∧ w = w' := by
  have HI := Lib.hid (Index_any A c xs n w hs)
  clear hs
  go_enter Try.func34, Try.ntmps34
  go_wp2_with fail
  (with_reducible refine HI.out.mono ?_); rintro e w' ⟨i, rfl, hi, rfl⟩
  have HB := Lib.hid hi; clear hi
  go_wp2_with fail
  go_ret
  exact ⟨ret_bool HB.out, rfl⟩
/-- a configuration as a value -/
structure CI (w : World) (A : Option Addr) (vs : List Int) (B : Option Addr) (ls : List Int) : Prop where
  v : Sl fI w A vs
  l : Sl fI w B ls
theorem CI.below {w w' : World} {A B : Option Addr} {vs ls : List Int} (h : CI w A vs B ls) (hb : Below w.heap.size w w') : CI w' A vs B ls := ⟨h.v.below hb, h.l.below hb⟩
def BoolB (b : Bool) (w : World) (e : Ending) (w' : World) : Prop := e = .returned (.bool b) ∧ Below w.heap.size w w'
end Go.Proofs.Ytfnmofoecehcfaa
