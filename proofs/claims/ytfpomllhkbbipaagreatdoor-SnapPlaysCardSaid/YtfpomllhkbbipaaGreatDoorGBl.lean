/- x & c of a constant c: within 0 .. c. -/
import Derived.Laws.BitsAllLaws
import Derived.Laws.BitsLemmas
import Derived.Deep.DeepCutAuto
import Derived.Test.YtfpomllhkbbipaaGreatDoorGAd
namespace Go.Proofs.YtfpomllhkbbipaaGreatDoor
open Go Go.RowKit
theorem and_lit (x : Int) (c : Nat) (hc : c < 9223372036854775808) : ∃ m : Nat, m ≤ c ∧ bits .and .i64 x (c : Int) = (m : Int) := by
 refine ⟨(BitVec.ofInt 64 x &&& BitVec.ofInt 64 (c : Int)).toNat, ?_, ?_⟩
 ·rw [BitVec.toNat_and, BitVec.ofInt_natCast, BitVec.toNat_ofNat, Nat.mod_eq_of_lt (by omega)]
  exact Nat.and_le_right
 ·show IntKind.i64.wrap ((BitVec.ofInt 64 x &&& BitVec.ofInt 64 (c : Int)).toNat : Int) = _
  have : (BitVec.ofInt 64 x &&& BitVec.ofInt 64 (c : Int)).toNat ≤ c := by
   rw [BitVec.toNat_and, BitVec.ofInt_natCast, BitVec.toNat_ofNat, Nat.mod_eq_of_lt (by omega)]
   exact Nat.and_le_right
  rw [IntKind.wrap_i64]
  omega
end Go.Proofs.YtfpomllhkbbipaaGreatDoor
