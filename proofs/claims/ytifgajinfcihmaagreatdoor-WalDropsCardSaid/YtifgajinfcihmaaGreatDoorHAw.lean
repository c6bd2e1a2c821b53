/- Layer 8: members, both sides. -/
import Derived.BigQuiet
import Derived.Deep.DeepCutAuto
import Derived.Test.YtifgajinfcihmaaGreatDoorHAb
import Derived.Test.YtifgajinfcihmaaGreatDoorHAd
namespace Go.Proofs.YtifgajinfcihmaaGreatDoor
open Go Go.RowKit Go.Maps Go.Lib Mem
def BoolB (b : Bool) (w : World) (e : Ending) (w' : World) : Prop := e = .returned (.bool b) ∧ Below w.heap.size w w'
end Go.Proofs.YtifgajinfcihmaaGreatDoor
