/- Layer 8: members, both sides. -/
import Derived.BigQuiet
import Derived.Deep.DeepCutAuto
import Derived.Test.YtifgajinfcihmaaGreatDoorJAb
import Derived.Test.YtifgajinfcihmaaGreatDoorJAd
namespace Go.Proofs.YtifgajinfcihmaaGreatDoor
open Go Go.RowKit Go.Maps Go.Lib Mem
def fI : Int → Value := Value.int .i64
def BoolB (b : Bool) (w : World) (e : Ending) (w' : World) : Prop := e = .returned (.bool b) ∧ Below w.heap.size w w'
end Go.Proofs.YtifgajinfcihmaaGreatDoor
