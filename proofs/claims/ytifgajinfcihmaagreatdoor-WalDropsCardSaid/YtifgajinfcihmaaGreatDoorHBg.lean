/- Layer 5: the document's example. -/
import Derived.Laws.BitsAllLaws
import Derived.Laws.BitsLemmas
import Derived.Deep.DeepCutAuto
import Derived.Test.YtifgajinfcihmaaGreatDoorHBa
import Derived.Test.YtifgajinfcihmaaGreatDoorHAm
namespace Go.Proofs.YtifgajinfcihmaaGreatDoor
open Go.RowKit Go.Maps Mem Dsk
def aS1 : S := ⟨[⟨[97], [], []⟩], false, 0⟩
def aS2 : S := ⟨[⟨[97], List.replicate 40 0, []⟩], false, 0⟩
def aS3 : S := ⟨[⟨[97], List.replicate 40 0, List.replicate 40 0⟩], false, 0⟩
def aS4 : S := ⟨[⟨[97], List.replicate 40 0 ++ List.replicate 40 7, List.replicate 40 0⟩], false, 0⟩
theorem a1 : Dsk.create s0 (sname ⟨#[97]⟩) = (aS1, 0) := rfl
theorem a2 : Dsk.write aS1 (sname ⟨#[97]⟩) 0 (List.replicate 40 0) = (aS2, 0) := rfl
theorem a3 : Dsk.sync aS2 (sname ⟨#[97]⟩) = (aS3, 0) := rfl
theorem a4 : Dsk.write aS3 (sname ⟨#[97]⟩) 40 (List.replicate 40 7) = (aS4, 0) := rfl
end Go.Proofs.YtifgajinfcihmaaGreatDoor
namespace Go.Proofs.YtifgajinfcihmaaGreatDoor
open Go.RowKit Go.Maps Mem Dsk
theorem and_small (x : Int) (c : Nat) (hc : c < 9223372036854775808) : ∃ m : Nat, m ≤ c ∧ bits .and .i64 x (c : Int) = (m : Int) := by
 refine ⟨(BitVec.ofInt 64 x &&& BitVec.ofInt 64 (c : Int)).toNat, ?_, ?_⟩
 ·rw [BitVec.toNat_and, BitVec.ofInt_natCast, BitVec.toNat_ofNat, Nat.mod_eq_of_lt (by omega)]
  exact Nat.and_le_right
 ·show IntKind.i64.wrap ((BitVec.ofInt 64 x &&& BitVec.ofInt 64 (c : Int)).toNat : Int) = _
  have : (BitVec.ofInt 64 x &&& BitVec.ofInt 64 (c : Int)).toNat ≤ c := by
   rw [BitVec.toNat_and, BitVec.ofInt_natCast, BitVec.toNat_ofNat, Nat.mod_eq_of_lt (by omega)]
   exact Nat.and_le_right
  rw [IntKind.wrap_i64]
  omega
end Go.Proofs.YtifgajinfcihmaaGreatDoor
