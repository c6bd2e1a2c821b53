/- slices.Compact at a list that rises: it stays. -/
import Derived.Test.YtilefofpfbgikaaRo
namespace Go.Proofs.Ytilefofpfbgikaa
open Go.RowKit Go.Maps Go.Lib Mem Cf

def CpRel (xs : List Int) (w : World) (kv : Value) (wr : World) : Prop := ∃ k m : Nat, 1 ≤ k ∧ k ≤ xs.length ∧ kv = .int .i64 k ∧ wr = w.drewN m
set_option maxRecDepth 100000 in
set_option maxHeartbeats 4000000 in
theorem Compact_rise (A : Option Addr) (c : Nat) (xs : List Int) (w : World) (hs : Sl fI w A xs) (hp : xs.Pairwise (· < ·)) (hsz : xs.length ≤ 1000000000) :
    Calls Try.prog 72 #[.slice A xs.length c] w fun e w' => e = .returned (.slice A xs.length c) ∧ Below w.heap.size w w' := by
  have hl := hs.len
  by_cases h2 : xs.length < 2
  · clear hp
    go_enter Try.func72, Try.ntmps72
    go_wp2_with fail
    go_ret
    exact ⟨rfl, Below.refl _ _⟩
  · have HP := Lib.hid hp; clear hp
    have HS := Lib.hid hs; clear hs
    go_enter Try.func72, Try.ntmps72
    go_wp2_with fail
    go_loopw [3] (fun kv wr => CpRel xs w kv wr) (fun kv _ => xs.length - (intOf kv).toNat)
    case atStart => exact ⟨1, 0, Nat.le_refl _, by omega, rfl, rfl⟩
    case round =>
      obtain ⟨k, m, hk1, hk, rfl, rfl⟩ := hrel
      by_cases hlt : k < xs.length
      · have hlt2 := List.pairwise_iff_getElem.1 HP.out (k - 1) k (by omega) hlt (by omega)
        obtain ⟨wo, hwo⟩ : ∃ x, x = w.drewN m := ⟨_, rfl⟩
        have hso : Sl fI wo A xs := HS.out.below (by rw [hwo]; exact below_drewN (Below.refl _ _) _)
        rw [← hwo]
        have HWO := Lib.hid hwo; clear hwo
        obtain ⟨b, o, rfl, _, hc⟩ := hso.at hlt
        have c1 := hc k hlt
        have c0 := hc (k - 1) (by omega)
        obtain ⟨x, hx⟩ : ∃ x, x = xs[k] := ⟨_, rfl⟩
        have hkm : k - 1 < xs.length := by omega
        obtain ⟨y, hy⟩ : ∃ y, y = xs[k - 1] := ⟨_, rfl⟩
        rw [← hx] at c1 hlt2; rw [← hy] at c0 hlt2
        unfold fI at c0 c1
        clear hx hy hc hso
        have hne : (x == y) = false := by rw [beq_eq_false_iff_ne]; omega
        have hne' : ¬ x = y := by omega
        clear hlt2
        have hk0 : (0 : Int) ≤ (k : Int) := by omega
        have hk2 : (k : Int) < (xs.length : Int) := by omega
        have hw1 : IntKind.i64.wrap ((k : Int) - 1) = ((k - 1 : Nat) : Int) := by rw [IntWalk.i64_in _ (by omega)]; omega
        have hk3 : (0 : Int) ≤ ((k - 1 : Nat) : Int) := by omega
        have hk4 : ((k - 1 : Nat) : Int) < (xs.length : Int) := by omega
        go_wp2_with fail
        go_quiet (fail)
        clear hw1
        go_wp2_with fail
        go_roundw
        case rel => exact ⟨k + 1, m + nq, by omega, by omega, by go_num, by rw [HWO.out, World.drewN_drewN]⟩
        case measure => simp [intOf]; omega
      · have hk9 : k = xs.length := by omega
        subst hk9
        go_wp2_with fail
        go_ret
        exact ⟨rfl, below_drewN (Below.refl _ _) _⟩
end Go.Proofs.Ytilefofpfbgikaa
