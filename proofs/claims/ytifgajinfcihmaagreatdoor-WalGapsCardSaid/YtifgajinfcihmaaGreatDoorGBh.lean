/- Arguments opened: slices of bytes, bools, ints, strings. -/
import Derived.Test.YtifgajinfcihmaaGreatDoorProg
import Derived.ChangeArms
import Derived.Deep.Slices
import Derived.Deep.Fields
import Derived.ChangeSame
import Derived.Test.YtifgajinfcihmaaGreatDoorGAa

