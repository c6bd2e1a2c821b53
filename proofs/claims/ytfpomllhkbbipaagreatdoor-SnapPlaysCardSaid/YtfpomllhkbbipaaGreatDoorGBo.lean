/- A snapshot as an argument. -/
import Derived.Lib.SmallJoins
import Derived.Test.YtfpomllhkbbipaaGreatDoorGBa
import Derived.Test.YtfpomllhkbbipaaGreatDoorGAk

