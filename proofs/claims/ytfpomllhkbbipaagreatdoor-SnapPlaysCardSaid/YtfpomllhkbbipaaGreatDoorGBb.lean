/- Layer 5: scripts of calls; one step of a script. -/
import Derived.Deep.Fields
import Derived.Deep.Slices
import Derived.ChangeSame
import Derived.Test.YtfpomllhkbbipaaGreatDoorGAy
import Derived.Test.YtfpomllhkbbipaaGreatDoorGBa
import Derived.Test.YtfpomllhkbbipaaGreatDoorGAx
import Derived.Test.YtfpomllhkbbipaaGreatDoorGAb
namespace Go.Proofs.YtfpomllhkbbipaaGreatDoor
open Go.RowKit Go.Maps Mem Dsk
structure OpR where
 kind : Int
 a : ByteArray
 z : ByteArray
 n : Int
 A : Option Addr
 c : Nat
 bs : List UInt8
 K : Option Addr
 d : Nat
 keep : List Bool
def OpR.cell (o : OpR) : Nat → Value
 | 0 => .int .i64 o.kind
 | 1 => .string o.a
 | 2 => .string o.z
 | 3 => .int .i64 o.n
 | 4 => .slice o.A o.bs.length o.c
 | _ => .slice o.K o.keep.length o.d
def doStep (s : S) (kind : Int) (a z : Name) (n : Int) (b : List UInt8) : S × Nat :=
 if kind = 1 then Dsk.create s a else if kind = 2 then Dsk.remove s a else if kind = 3 then Dsk.rename s a z else if kind = 4 then Dsk.write s a n b else if kind = 5 then Dsk.cut s a n else Dsk.sync s a
end Go.Proofs.YtfpomllhkbbipaaGreatDoor
namespace Go.Proofs.YtfpomllhkbbipaaGreatDoor
open Go.RowKit Go.Maps Mem Dsk
theorem Mem.frm_of_kept {F : Nat → Prop} {B : Nat} {w w' : World} (hb : Below B w w') (hk : Kept F w w') : Frm (fun g => ¬ F g) w w' :=
 ⟨hb.os, hb.tape, hb.output, hb.size, fun g _ hn => hk g (Classical.not_not.1 hn)⟩
section
variable {F : Nat → Prop} {B p q : Nat} {s t : S} {w w' : World}
def beside (F : Nat → Prop) (w : World) : Nat → Prop := fun g => ¬ F g ∧ g < w.heap.size
end
end Go.Proofs.YtfpomllhkbbipaaGreatDoor
