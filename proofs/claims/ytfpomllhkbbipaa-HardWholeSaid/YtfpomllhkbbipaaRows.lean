/-
  No cell of these rows narrows 'for every input' (looked for: loops, veiled, ifaces, maps, wideKeys, modest, calm, conditions, laid).
  DERIVED. THE GIVEN ROWS OF THIS SEAT. 3 by the template 'for every input the law returns true; each argument reads behind the call as it read before'; 0 by the template 'total and deterministic' (their statements: YtfpomllhkbbipaaTotals.lean).
  GIVEN WITH THE SEED: the statements are not yours to turn. If you find one false, say at which input.
  Laid BY PROGRAM, IN A SANDBOX (cutbox-rows.mjs): the forced cells as the released guide's own fill.sh prints them over the translation 23d7c80e0e4b9182… (all of the seat's roots in one cut). By AI agents, Wed Nov 11 2026. No macro, syntax, notation, axiom, sorry.
-/
import Derived.Test.YtfpomllhkbbipaaChecked
import GoSem.Claim
import GoSem.ClaimJoined
import GoSem.ClaimMapViews
import Derived.JoinedTies
import Derived.KernelRfl
namespace Go.Proofs.Ytfpomllhkbbipaa
/- THE CELL 'sum', in the pinned program and in every row, IS THE sha256 OF THE DUMP (.gsa) THAT YtfpomllhkbbipaaProg.lean LOADS. Nothing in Lean hashes anything: it is a label: what it is worth is what the hold of that sum in a sandbox is worth. -/
noncomputable def Try.pinned : Pinned := { name := "ytfpomllhkbbipaa", sum := "23d7c80e0e4b9182fca45d529a4b743d1244b61da1c95c7c1f5a036f5d26a232", checked := Try.checked }
namespace Rows
def none {H : Type} : Left H := { results := [], args := [] }

/-- 'quilletlaw07.HardWhole': WHATEVER THE INPUT: true; the input reads as it did. -/
def hardWholeSpec : ChangeSpec := { name := "hardWhole", fn := fun _ => fun
  | [d1, d2, d3, d4] => { results := [.lit (.bool true)], args := [d1, d2, d3, d4] }
  | _ => none }
def hardWholeRow : OpenClaim := { program := "ytfpomllhkbbipaa", sum := "23d7c80e0e4b9182fca45d529a4b743d1244b61da1c95c7c1f5a036f5d26a232", func := "quillet/quilletlaw07.HardWhole", spec := "hardWhole", inPlace := ["math.Float64frombits", "math.Float64bits"], unfollowed := true, recurses := true, apart := false }
def HardWholeSaid : Prop := hardWholeRow.holds Try.pinned (OpenSpec.ofChange hardWholeSpec)

/-- ITS FALSE NEIGHBOUR: 'it returns false'. Refute it at one input. -/
def hardWholeWrong : ChangeSpec := { name := "hardWhole", fn := fun _ => fun
  | [d1, d2, d3, d4] => { results := [.lit (.bool false)], args := [d1, d2, d3, d4] }
  | _ => none }
def HardWholeWrongFalsely : Prop := hardWholeRow.holds Try.pinned (OpenSpec.ofChange hardWholeWrong)

/-- 'quilletlaw07.HardRaw': WHATEVER THE INPUT: true; the input reads as it did. -/
def hardRawSpec : ChangeSpec := { name := "hardRaw", fn := fun _ => fun
  | [d1, d2, d3] => { results := [.lit (.bool true)], args := [d1, d2, d3] }
  | _ => none }
def hardRawRow : OpenClaim := { program := "ytfpomllhkbbipaa", sum := "23d7c80e0e4b9182fca45d529a4b743d1244b61da1c95c7c1f5a036f5d26a232", func := "quillet/quilletlaw07.HardRaw", spec := "hardRaw", inPlace := ["math.Float64frombits", "math.Float64bits"], unfollowed := true, recurses := true, apart := false }
def HardRawSaid : Prop := hardRawRow.holds Try.pinned (OpenSpec.ofChange hardRawSpec)

/-- ITS FALSE NEIGHBOUR: 'it returns false'. Refute it at one input. -/
def hardRawWrong : ChangeSpec := { name := "hardRaw", fn := fun _ => fun
  | [d1, d2, d3] => { results := [.lit (.bool false)], args := [d1, d2, d3] }
  | _ => none }
def HardRawWrongFalsely : Prop := hardRawRow.holds Try.pinned (OpenSpec.ofChange hardRawWrong)

/-- 'quilletlaw07.HardSteps': WHATEVER THE INPUT: true; the input reads as it did. -/
def hardStepsSpec : ChangeSpec := { name := "hardSteps", fn := fun _ => fun
  | [d1, d2, d3] => { results := [.lit (.bool true)], args := [d1, d2, d3] }
  | _ => none }
def hardStepsRow : OpenClaim := { program := "ytfpomllhkbbipaa", sum := "23d7c80e0e4b9182fca45d529a4b743d1244b61da1c95c7c1f5a036f5d26a232", func := "quillet/quilletlaw07.HardSteps", spec := "hardSteps", inPlace := ["math.Float64frombits", "math.Float64bits"], unfollowed := true, recurses := true, apart := false }
def HardStepsSaid : Prop := hardStepsRow.holds Try.pinned (OpenSpec.ofChange hardStepsSpec)

/-- ITS FALSE NEIGHBOUR: 'it returns false'. Refute it at one input. -/
def hardStepsWrong : ChangeSpec := { name := "hardSteps", fn := fun _ => fun
  | [d1, d2, d3] => { results := [.lit (.bool false)], args := [d1, d2, d3] }
  | _ => none }
def HardStepsWrongFalsely : Prop := hardStepsRow.holds Try.pinned (OpenSpec.ofChange hardStepsWrong)

/- THE SECOND FORM. 'bulk': how many values and letters a reading holds, each counted each time it is reached (what is shared counts as often as it is met; a slice's spare places count too). A statement '..UptoSaid' is the law's where the arguments, and the package variables that the reading takes, are together of bulk at most 1048576: NARROWER than '..Said'. Prove '..Said' where nothing that the law and all that it calls make is longer than what came in: it says more and counts as full. Else prove '..UptoSaid'. A law counts once. -/
mutual
def uptoBulk {H : Type} : DataW H → Nat
  | .lit (.string bytes) => bytes.length + 1
  | .lit _ => 1
  | .nil => 1
  | .ptr d => uptoBulk d + 1
  | .slice elems spare => uptoBulkAll elems + uptoBulkAll spare + 1
  | .agg parts => uptoBulkAll parts + 1
  | .iface _ d => uptoBulk d + 1
  | .map entries => uptoBulkEntries entries + 1
  | .held _ => 1
def uptoBulkAll {H : Type} : List (DataW H) → Nat
  | [] => 0
  | d :: r => uptoBulk d + uptoBulkAll r
def uptoBulkEntries {H : Type} : List (Lit × DataW H) → Nat
  | [] => 0
  | x :: r => uptoBulkEntry x + uptoBulkEntries r
def uptoBulkEntry {H : Type} : Lit × DataW H → Nat
  | (.string bytes, d) => bytes.length + uptoBulk d + 1
  | (_, d) => uptoBulk d + 1
 end
def uptoSmall : (H : Type) → List (DataW H) → Bool := fun _ ds => decide (uptoBulkAll ds ≤ 1048576)
def OpenSpec.upto (s : _root_.Go.ChangeSpec) : _root_.Go.OpenSpec := { _root_.Go.OpenSpec.ofChange s with cond := some uptoSmall }

/-- 'quilletlaw07.HardWhole', WHERE WHAT IT READS IS OF BULK AT MOST 1048576: true; the input reads as it did. -/
def hardWholeUptoRow : OpenClaim := { program := "ytfpomllhkbbipaa", sum := "23d7c80e0e4b9182fca45d529a4b743d1244b61da1c95c7c1f5a036f5d26a232", func := "quillet/quilletlaw07.HardWhole", spec := "hardWhole", inPlace := ["math.Float64frombits", "math.Float64bits"], unfollowed := true, recurses := true, apart := false, narrowed := true }
def HardWholeUptoSaid : Prop := hardWholeUptoRow.holds Try.pinned (OpenSpec.upto hardWholeSpec)

/-- 'quilletlaw07.HardRaw', WHERE WHAT IT READS IS OF BULK AT MOST 1048576: true; the input reads as it did. -/
def hardRawUptoRow : OpenClaim := { program := "ytfpomllhkbbipaa", sum := "23d7c80e0e4b9182fca45d529a4b743d1244b61da1c95c7c1f5a036f5d26a232", func := "quillet/quilletlaw07.HardRaw", spec := "hardRaw", inPlace := ["math.Float64frombits", "math.Float64bits"], unfollowed := true, recurses := true, apart := false, narrowed := true }
def HardRawUptoSaid : Prop := hardRawUptoRow.holds Try.pinned (OpenSpec.upto hardRawSpec)

/-- 'quilletlaw07.HardSteps', WHERE WHAT IT READS IS OF BULK AT MOST 1048576: true; the input reads as it did. -/
def hardStepsUptoRow : OpenClaim := { program := "ytfpomllhkbbipaa", sum := "23d7c80e0e4b9182fca45d529a4b743d1244b61da1c95c7c1f5a036f5d26a232", func := "quillet/quilletlaw07.HardSteps", spec := "hardSteps", inPlace := ["math.Float64frombits", "math.Float64bits"], unfollowed := true, recurses := true, apart := false, narrowed := true }
def HardStepsUptoSaid : Prop := hardStepsUptoRow.holds Try.pinned (OpenSpec.upto hardStepsSpec)

end Rows
end Go.Proofs.Ytfpomllhkbbipaa
