/- Layer 5: the document's example. -/
import Derived.Laws.BitsAllLaws
import Derived.Laws.BitsLemmas
import Derived.Deep.DeepCutAuto
import Derived.Test.YtifgajinfcihmaaGreatDoorJBa
import Derived.Test.YtifgajinfcihmaaGreatDoorJAm
namespace Go.Proofs.YtifgajinfcihmaaGreatDoor
open Go.RowKit Go.Maps Mem Dsk
theorem Mem.SlB.under {α : Type} {f : α → Value} {w w' : World} {A : Option Addr} {xs : List α} {B : Nat} {e : TypeId} (h : SlB f e (fun g => g < B) w A xs) (hb : Below B w w') : SlB f e (fun g => g < B) w' A xs := h.keep fun g _ _ hg _ => hb.block g hg
def aS1 : S := ⟨[⟨[97], [], []⟩], false, 0⟩
def aS2 : S := ⟨[⟨[97], List.replicate 40 0, []⟩], false, 0⟩
def aS3 : S := ⟨[⟨[97], List.replicate 40 0, List.replicate 40 0⟩], false, 0⟩
def aS4 : S := ⟨[⟨[97], List.replicate 40 0 ++ List.replicate 40 7, List.replicate 40 0⟩], false, 0⟩
theorem a1 : Dsk.create s0 (sname ⟨#[97]⟩) = (aS1, 0) := rfl
theorem a2 : Dsk.write aS1 (sname ⟨#[97]⟩) 0 (List.replicate 40 0) = (aS2, 0) := rfl
theorem a3 : Dsk.sync aS2 (sname ⟨#[97]⟩) = (aS3, 0) := rfl
theorem a4 : Dsk.write aS3 (sname ⟨#[97]⟩) 40 (List.replicate 40 7) = (aS4, 0) := rfl
end Go.Proofs.YtifgajinfcihmaaGreatDoor
